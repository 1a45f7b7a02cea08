/-
  A value-level evaluator for Go functions; the functions of this cut by it; plain laws. Part 5 of 6.
-/
import Derived.Test.YtalgjkpkkdljaaaGreatDoorG4
import Derived.KernelRfl
import Derived.Test.YtalgjkpkkdljaaaGreatDoorG3

namespace Go.Proofs.YtalgjkpkkdljaaaGreatDoor
open Go.Vs
theorem fitsL_step {w : List UInt8} {ks : List Nd} {k : Nat} (h1 : k < ks.length) (h2 : k < w.length) : fitsL (ks.drop k) (w.drop k) = ((kl (ks[k]).op == w[k]) && fitsL (ks.drop (k + 1)) (w.drop (k + 1))) := by
  rw [List.drop_eq_getElem_cons h1, List.drop_eq_getElem_cons h2]
  rfl
theorem fits_loop {w : List UInt8} {a : Nd} (hl : a.ks.length = w.length) (hb : a.ks.length ≤ 1000000000) : ∀ (n k : Nat), a.ks.length - k ≤ n → k ≤ a.ks.length →
    (fitsL (a.ks.drop k) (w.drop k) = true → ∃ env, loopK (call pg) pg.G [7, 31, 32, 33] fc79_b0 (ftS w a k) = some (.exit 0, ⟨env, ⟨[tabS], []⟩⟩)) ∧
    (fitsL (a.ks.drop k) (w.drop k) = false → loopK (call pg) pg.G [7, 31, 32, 33] fc79_b0 (ftS w a k) = some (.ret, ⟨[(6, .p (.bool false))], ⟨[tabS], []⟩⟩)) := by
  intro n
  have hend : (fitsL (a.ks.drop a.ks.length) (w.drop a.ks.length) = true → ∃ env, loopK (call pg) pg.G [7, 31, 32, 33] fc79_b0 (ftS w a a.ks.length) = some (.exit 0, ⟨env, ⟨[tabS], []⟩⟩)) ∧
      (fitsL (a.ks.drop a.ks.length) (w.drop a.ks.length) = false → loopK (call pg) pg.G [7, 31, 32, 33] fc79_b0 (ftS w a a.ks.length) = some (.ret, ⟨[(6, .p (.bool false))], ⟨[tabS], []⟩⟩)) := by
    obtain ⟨env, he⟩ := fits_end w a
    refine ⟨fun _ => ⟨env, loopK_out (o := .exit 0) he (by simp)⟩, fun h => ?_⟩
    rw [List.drop_eq_nil_of_le (Nat.le_refl _)] at h
    simp [fitsL] at h
  induction n with
  | zero =>
    intro k hn hk
    have he : k = a.ks.length := by omega
    subst he
    exact hend
  | succ n ih =>
    intro k hn hk
    by_cases he : k = a.ks.length
    · subst he; exact hend
    · have hlt : k < a.ks.length := by omega
      have hst := fits_step hl hb hlt
      have hc := fitsL_step hlt (w := w) (by omega)
      obtain ⟨i1, i2⟩ := ih (k + 1) (by omega) (by omega)
      cases hb : (kl (a.ks[k]).op == w[k]'(hl ▸ hlt)) with
      | true =>
        rw [hb, if_pos rfl] at hst
        rw [hb, Bool.true_and] at hc
        have hl : loopK (call pg) pg.G [7, 31, 32, 33] fc79_b0 (ftS w a k) = loopK (call pg) pg.G [7, 31, 32, 33] fc79_b0 (ftS w a (k + 1)) := loopK_norm hst
        rw [hc, hl]
        exact ⟨i1, i2⟩
      | false =>
        rw [hb, if_neg (by simp)] at hst
        rw [hb, Bool.false_and] at hc
        rw [hc]
        exact ⟨fun h => (by cases h), fun _ => loopK_out (o := .ret) hst (by simp)⟩
theorem fits0 (op : Int) (a : Nd) (hb : a.ks.length ≤ 1000000000) : ∃ ex tk, call pg 79 [.mapr 0, .p (.int .i64 op), .p a.kidsP] ⟨[tabS], []⟩ = some (.val (.p (.bool (fitsB op a.ks))), ⟨tabS :: ex, tk⟩) := by
  have hg := get_shp (H := ⟨[tabS], []⟩) (i := 0) rfl op
  have hk0 := len_kids a
  have hrep := repeat_eq a.ks.length (by omega)
  refine ⟨[], [], call_body (fc := fc79) rfl rfl rfl rfl ?_⟩
  by_cases h47 : op = 47
  · subst h47
    have hw : wantS 47 a.ks.length = some (List.replicate a.ks.length 101) := by simp [wantS]
    have hz : getS 47 = .tup [.p (.str []), .p (.bool false)] := by rfl
    rw [hz] at hg
    have hlen : a.ks.length = (List.replicate a.ks.length (101 : UInt8)).length := by simp
    obtain ⟨l1, l2⟩ := fits_loop (w := List.replicate a.ks.length 101) (a := a) hlen hb a.ks.length 0 (by omega) (by omega)
    rw [List.drop_zero, List.drop_zero] at l1 l2
    simp only [ftS, Int.natCast_zero] at l1 l2
    cases hf : fitsL a.ks (List.replicate a.ks.length 101) with
    | true =>
      obtain ⟨env, l1⟩ := l1 hf
      have hr : fitsB 47 a.ks = true := by simp [fitsB, hw, hf]
      rw [hr]
      simp [fc79, evKC, evK, evGuard, put, Env.get, Env.keep, entry, Opd.ev, binD, unD, finish, evRes, evRes1, lenD_str, hg, hk0, hrep, l1]
    | false =>
      have l2 := l2 hf
      have hr : fitsB 47 a.ks = false := by simp [fitsB, hw, hf]
      rw [hr]
      simp [fc79, evKC, evK, evGuard, put, Env.get, Env.keep, entry, Opd.ev, binD, unD, finish, evRes, evRes1, lenD_str, hg, hk0, hrep, l2]
  · have h47' : (op == 47) = false := by simpa using h47
    cases hl : lookS shpT op with
    | none =>
      have hr : fitsB op a.ks = false := by simp [fitsB, wantS, h47, hl]
      simp only [getS, hl] at hg
      rw [hr]
      simp [fc79, evKC, evK, evGuard, put, Env.get, Env.keep, entry, Opd.ev, binD, unD, finish, evRes, evRes1, hg, h47']
    | some w =>
      simp only [getS, hl] at hg
      by_cases hlen : a.ks.length = w.length
      · have hlen' : ((a.ks.length : Int) != (w.length : Int)) = false := by rw [bne_nat]; simp [hlen]
        obtain ⟨l1, l2⟩ := fits_loop (w := w) (a := a) hlen hb a.ks.length 0 (by omega) (by omega)
        rw [List.drop_zero, List.drop_zero] at l1 l2
        simp only [ftS, Int.natCast_zero] at l1 l2
        cases hf : fitsL a.ks w with
        | true =>
          obtain ⟨env, l1⟩ := l1 hf
          have hr : fitsB op a.ks = true := by simp [fitsB, wantS, h47, hl, hf, hlen]
          rw [hr]
          simp [fc79, evKC, evK, evGuard, put, Env.get, Env.keep, entry, Opd.ev, binD, unD, finish, evRes, evRes1, lenD_str, hg, hk0, h47', hlen', l1]
        | false =>
          have l2 := l2 hf
          have hr : fitsB op a.ks = false := by simp [fitsB, wantS, h47, hl, hf]
          rw [hr]
          simp [fc79, evKC, evK, evGuard, put, Env.get, Env.keep, entry, Opd.ev, binD, unD, finish, evRes, evRes1, lenD_str, hg, hk0, h47', hlen', l2]
      · have hlen' : ((a.ks.length : Int) != (w.length : Int)) = true := by rw [bne_nat]; simp [hlen]
        have hr : fitsB op a.ks = false := by simp [fitsB, wantS, h47, hl, hlen]
        rw [hr]
        simp [fc79, evKC, evK, evGuard, put, Env.get, Env.keep, entry, Opd.ev, binD, unD, finish, evRes, evRes1, lenD_str, hg, hk0, h47', hlen']
theorem fits_eq {op : Int} {a : Nd} (hb : a.ks.length ≤ 1000000000) {H : Hp} {i : Nat} (hi : H.bx[i]? = some tabS) : callD (call pg) 79 [.mapr i, .p (.int .i64 op), .p a.kidsP] H = some (.val (.p (.bool (fitsB op a.ks))), H) :=
  callD_shp (args := [.int .i64 op, a.kidsP]) hi (fun _ _ => rfl) (fits0 op a hb)

mutual
def meas : Nd → Int → Int → Option Int
  | .mk op nm n _ ks _, d, l => if 24 < d ∨ l < 1 ∨ 400 < ks.length ∨ ownB op nm n = false ∨ fitsB op ks = false then none else measL ks d l 1
def measL : List Nd → Int → Int → Int → Option Int
  | [], _, _, cnt => some cnt
  | k :: ks, d, l, cnt => match meas k (d + 1) (l - cnt) with
    | some c => measL ks d l (cnt + c)
    | none => none
end
theorem meas_eq (a : Nd) (d l : Int) : meas a d l = if 24 < d ∨ l < 1 ∨ 400 < a.ks.length ∨ ownN a = false ∨ fitsB a.op a.ks = false then none else measL a.ks d l 1 := by
  cases a; rfl
def measD (o : Option Int) : D := match o with
  | some c => .tup [.p (.int .i64 c), .p (.bool true)]
  | none => .tup [.p (.int .i64 0), .p (.bool false)]

mutual
theorem meas_pos : ∀ (a : Nd) (d l c : Int), meas a d l = some c → 1 ≤ c ∧ c ≤ a.size
  | .mk op nm n _ ks _, d, l, c, h => by
    simp only [meas] at h
    split at h
    · cases h
    · have := measL_pos ks d l 1 c h
      simp only [Nd.size]
      omega
theorem measL_pos : ∀ (ks : List Nd) (d l cnt c : Int), measL ks d l cnt = some c → cnt ≤ c ∧ c ≤ cnt + Nd.sizeL ks
  | [], d, l, cnt, c, h => by
    simp only [measL, Option.some.injEq] at h
    simp only [Nd.sizeL]
    omega
  | k :: ks, d, l, cnt, c, h => by
    simp only [measL] at h
    split at h
    · rename_i c1 h1
      have h2 := meas_pos k (d + 1) (l - cnt) c1 h1
      have h3 := measL_pos ks d l (cnt + c1) c h
      simp only [Nd.sizeL]
      omega
    · cases h
end
def msS (a : Nd) (d l cnt : Int) (k : Nat) : St := ⟨[(0, .mapr 0), (2, .p (.int .i64 d)), (3, .p (.int .i64 l)), (10, .p (.int .i64 cnt)), (42, .p a.kidsP), (43, .p (.int .i64 a.ks.length)), (44, .p (.int .i64 k))], ⟨[tabS, a.cells.map .p], []⟩⟩
theorem ren_cells (f g : Nat → Option Nat) (a : Nd) : D.renL f g (a.cells.map .p) = some (a.cells.map .p) := renL_p f g a.cells
theorem meas_end (a : Nd) (d l cnt : Int) : ∃ env, evS (call pg) pg.G iterX fc45_b0 (msS a d l cnt a.ks.length) = some (.exit 0, ⟨env, ⟨[tabS, a.cells.map .p], []⟩⟩) ∧ env.get 10 = .p (.int .i64 cnt) := by
  have r1 : ∀ f g, D.renL f g tabS = some tabS := fun f g => rfl
  have r2 := fun f g => ren_cells f g a
  refine ⟨[(0, .mapr 0), (2, .p (.int .i64 d)), (3, .p (.int .i64 l)), (10, .p (.int .i64 cnt)), (42, .p a.kidsP), (43, .p (.int .i64 a.ks.length)), (44, .p (.int .i64 a.ks.length)), (45, .p (.bool false))], ?_, rfl⟩
  simp [msS, fc45_b0, evKC, evK, put, Env.get, Env.keep, Opd.ev, binD, mapO, D.ren, locD, below, Out.ren, List.map, r1, r2]
def MeasOk (a : Nd) : Prop := ∀ (d l : Int), 0 ≤ d → d ≤ 25 → -1000000 ≤ l → l ≤ 1000000 → ∀ (H : Hp) (i : Nat), H.bx[i]? = some tabS →
  callD (call pg) 45 [.mapr i, .p a.pd, .p (.int .i64 d), .p (.int .i64 l)] H = some (.val (measD (meas a d l)), H)
theorem meas_step {a : Nd} {d l cnt : Int} {k : Nat} (hd0 : 0 ≤ d) (hd1 : d ≤ 24) (hl0 : 1 ≤ l) (hl1 : l ≤ 1000000) (hc0 : 0 ≤ cnt) (hc1 : cnt ≤ 1000000) (hb : a.ks.length ≤ 1000000000) (hlt : k < a.ks.length) (ih : MeasOk a.ks[k])
    (hsz : (a.ks[k]).size ≤ 1000000) :
    evS (call pg) pg.G iterX fc45_b0 (msS a d l cnt k) = some (match meas a.ks[k] (d + 1) (l - cnt) with
      | some c => (.norm, msS a d l (cnt + c) (k + 1))
      | none => (.ret, ⟨[(8, .p (.int .i64 0)), (9, .p (.bool false))], ⟨[tabS, a.cells.map .p], []⟩⟩)) := by
  have r1 : ∀ f g, D.renL f g tabS = some tabS := fun f g => rfl
  have r2 := fun f g => ren_cells f g a
  have hlt' : (k : Int) < (a.ks.length : Int) := by omega
  have hia := ia_kids hlt
  have hk1 := inc64 (k := k) (by omega)
  have hl2 := fun (G : Nat → Option (List PD)) (H : Hp) => load_nd (G := G) (H := H) a.ks[k]
  have hpos := meas_pos a.ks[k] (d + 1) (l - cnt)
  generalize a.ks[k] = x at *
  have hst : ∀ tk, storeD ⟨[tabS, a.cells.map .p, [.p (.int .i64 0), .p (.str []), .p (.int .i64 0), .p .nils, .p (.int .i64 0)]], tk⟩ 5 (.box 2 0) (.p x.pd) = some ⟨[tabS, a.cells.map .p, x.cells.map .p], tk⟩ := fun tk => by
    rw [pd_cells]
    exact store_box (H := ⟨[tabS, a.cells.map .p, [.p (.int .i64 0), .p (.str []), .p (.int .i64 0), .p .nils, .p (.int .i64 0)]], tk⟩) (i := 2) (zs := [.int .i64 0, .str [], .int .i64 0, .nils, .int .i64 0]) rfl rfl rfl (by decide) (pd_one x)
  have lnd : ∀ G tk, loadD G ⟨[tabS, a.cells.map .p, x.cells.map .p], tk⟩ (some 5) (.box 2 0) = some (.p x.pd) := fun G tk => load_ndb (i := 2) rfl
  have w1 : IntKind.i64.wrap (d + 1) = d + 1 := wrap64 (by omega) (by omega)
  have w2 : IntKind.i64.wrap (l - cnt) = l - cnt := wrap64 (by omega) (by omega)
  have hcall := fun tk => ih (d + 1) (l - cnt) (by omega) (by omega) (by omega) (by omega) ⟨[tabS, a.cells.map .p, x.cells.map .p], tk⟩ 0 rfl
  cases hm : meas x (d + 1) (l - cnt) with
  | none =>
    rw [hm] at hcall
    simp only [measD] at hcall
    simp [msS, fc45_b0, evKC, evK, put, Env.get, Env.keep, Opd.ev, D.asInt?, binD, unD, mapO, D.ren, locD, Out.ren, List.map, r1, r2, hlt', hia, hl2, hst, lnd, w1, w2, hcall]
  | some c =>
    rw [hm] at hcall
    have hc := hpos c hm
    have w3 : IntKind.i64.wrap (cnt + c) = cnt + c := wrap64 (by omega) (by omega)
    simp only [measD] at hcall
    simp [msS, fc45_b0, evKC, evK, put, Env.get, Env.keep, Opd.ev, D.asInt?, binD, unD, mapO, D.ren, locD, below, Out.ren, List.map, r1, r2, hlt', hia, hk1, hl2, hst, lnd, w1, w2, w3, hcall]

end Go.Proofs.YtalgjkpkkdljaaaGreatDoor

namespace Go.Proofs.YtalgjkpkkdljaaaGreatDoor
open Go.Vs
theorem measL_drop {ks : List Nd} {k : Nat} (h : k < ks.length) (d l cnt : Int) : measL (ks.drop k) d l cnt = match meas ks[k] (d + 1) (l - cnt) with
    | some c => measL (ks.drop (k + 1)) d l (cnt + c)
    | none => none := by
  rw [List.drop_eq_getElem_cons h]
  rfl
theorem sizeL_drop {ks : List Nd} {k : Nat} (h : k < ks.length) : Nd.sizeL (ks.drop k) = (ks[k]).size + Nd.sizeL (ks.drop (k + 1)) := by
  rw [List.drop_eq_getElem_cons h]
  rfl
theorem meas_loop {a : Nd} {d l : Int} (hd0 : 0 ≤ d) (hd1 : d ≤ 24) (hl0 : 1 ≤ l) (hl1 : l ≤ 1000000) (hb : a.ks.length ≤ 1000000000) (ih : ∀ x ∈ a.ks, MeasOk x) (hsz : a.size ≤ 1000000) :
    ∀ (n k : Nat) (cnt : Int), a.ks.length - k ≤ n → k ≤ a.ks.length → 0 ≤ cnt → cnt + Nd.sizeL (a.ks.drop k) ≤ 1000000 →
    (∀ c, measL (a.ks.drop k) d l cnt = some c → ∃ env, loopK (call pg) pg.G [0, 2, 3, 10, 42, 43, 44] fc45_b0 (msS a d l cnt k) = some (.exit 0, ⟨env, ⟨[tabS, a.cells.map .p], []⟩⟩) ∧ env.get 10 = .p (.int .i64 c)) ∧
    (measL (a.ks.drop k) d l cnt = none → loopK (call pg) pg.G [0, 2, 3, 10, 42, 43, 44] fc45_b0 (msS a d l cnt k) = some (.ret, ⟨[(8, .p (.int .i64 0)), (9, .p (.bool false))], ⟨[tabS, a.cells.map .p], []⟩⟩)) := by
  intro n
  have hend : ∀ cnt, (∀ c, measL (a.ks.drop a.ks.length) d l cnt = some c → ∃ env, loopK (call pg) pg.G [0, 2, 3, 10, 42, 43, 44] fc45_b0 (msS a d l cnt a.ks.length) = some (.exit 0, ⟨env, ⟨[tabS, a.cells.map .p], []⟩⟩) ∧ env.get 10 = .p (.int .i64 c)) ∧
      (measL (a.ks.drop a.ks.length) d l cnt = none → loopK (call pg) pg.G [0, 2, 3, 10, 42, 43, 44] fc45_b0 (msS a d l cnt a.ks.length) = some (.ret, ⟨[(8, .p (.int .i64 0)), (9, .p (.bool false))], ⟨[tabS, a.cells.map .p], []⟩⟩)) := by
    intro cnt
    obtain ⟨env, he, hg⟩ := meas_end a d l cnt
    rw [List.drop_eq_nil_of_le (Nat.le_refl _)]
    refine ⟨fun c hc => ⟨env, loopK_out (o := .exit 0) he (by simp), ?_⟩, fun h => by simp [measL] at h⟩
    simp only [measL, Option.some.injEq] at hc
    rw [hg, hc]
  induction n with
  | zero =>
    intro k cnt hn hk _ _
    have he : k = a.ks.length := by omega
    subst he
    exact hend cnt
  | succ n IH =>
    intro k cnt hn hk hc0 hc1
    by_cases he : k = a.ks.length
    · subst he; exact hend cnt
    · have hlt : k < a.ks.length := by omega
      have hs := sizeL_drop hlt
      have hsk := size_kid (List.getElem_mem hlt)
      have hst := meas_step (a := a) (k := k) hd0 hd1 hl0 hl1 hc0 (by omega) hb hlt (ih _ (List.getElem_mem hlt)) (by omega)
      have hm := measL_drop hlt d l cnt
      cases hx : meas a.ks[k] (d + 1) (l - cnt) with
      | none =>
        rw [hx] at hst hm
        rw [hm]
        exact ⟨fun c h => (by cases h), fun _ => loopK_out (o := .ret) hst (by simp)⟩
      | some c =>
        rw [hx] at hst hm
        have hp := meas_pos _ _ _ _ hx
        have hl : loopK (call pg) pg.G [0, 2, 3, 10, 42, 43, 44] fc45_b0 (msS a d l cnt k) = loopK (call pg) pg.G [0, 2, 3, 10, 42, 43, 44] fc45_b0 (msS a d l (cnt + c) (k + 1)) := loopK_norm hst
        rw [hm, hl]
        exact IH (k + 1) (cnt + c) (by omega) (by omega) (by omega) (by omega)
theorem meas0 : ∀ (s : Nat) (a : Nd), a.size ≤ s → s ≤ 1000000 → ∀ (d l : Int), 0 ≤ d → d ≤ 25 → -1000000 ≤ l → l ≤ 1000000 →
    ∃ ex tk, call pg 45 [.mapr 0, .p a.pd, .p (.int .i64 d), .p (.int .i64 l)] ⟨[tabS], []⟩ = some (.val (measD (meas a d l)), ⟨tabS :: ex, tk⟩) := by
  intro s
  induction s with
  | zero => intro a h; have := size_eq a; omega
  | succ s IH =>
    intro a hs hB d l hd0 hd1 hl0 hl1
    have hsz := size_eq a
    have hlen := len_sizeL a.ks
    have o1 := one_all a
    have lks : ∀ G tk, loadD G ⟨[tabS, a.cells.map .p], tk⟩ none (.box 1 3) = some (.p a.kidsP) := fun _ _ => rfl
    have lop : ∀ G tk, loadD G ⟨[tabS, a.cells.map .p], tk⟩ none (.box 1 0) = some (.p (.int .i64 a.op)) := fun _ _ => rfl
    have lnd : ∀ G tk, loadD G ⟨[tabS, a.cells.map .p], tk⟩ (some 5) (.box 1 0) = some (.p a.pd) := fun G tk => load_ndb (i := 1) rfl
    have hk0 := len_kids a
    have hown := own_eq a
    have hfit := fun tk => fits_eq (op := a.op) (a := a) (by omega) (H := ⟨[tabS, a.cells.map .p], tk⟩) (i := 0) rfl
    have hme := meas_eq a d l
    rw [pd_cells] at lnd hown ⊢
    refine ⟨[a.cells.map .p], [], call_body (fc := fc45) rfl rfl rfl rfl ?_⟩
    by_cases h1 : 24 < d
    · rw [if_pos (.inl h1)] at hme
      rw [hme]
      simp [fc45, evKC, evK, evGuard, put, Env.get, Env.keep, entry, Opd.ev, binD, finish, evRes, evRes1, mapO, D.cells, o1, h1, measD]
    by_cases h2 : l < 1
    · rw [if_pos (.inr (.inl h2))] at hme
      rw [hme]
      simp [fc45, evKC, evK, evGuard, put, Env.get, Env.keep, entry, Opd.ev, binD, finish, evRes, evRes1, mapO, D.cells, o1, h1, h2, measD]
    by_cases h3 : 400 < a.ks.length
    · rw [if_pos (.inr (.inr (.inl h3)))] at hme
      have h3' : 400 < (a.ks.length : Int) := by omega
      rw [hme]
      simp [fc45, evKC, evK, evGuard, put, Env.get, Env.keep, entry, Opd.ev, binD, finish, evRes, evRes1, mapO, D.cells, o1, h1, h2, lks, hk0, h3', measD]
    have h3' : ¬ 400 < (a.ks.length : Int) := by omega
    cases h4 : ownN a with
    | false =>
      rw [if_pos (.inr (.inr (.inr (.inl h4))))] at hme
      rw [h4] at hown
      rw [hme]
      simp [fc45, evKC, evK, evGuard, put, Env.get, Env.keep, entry, Opd.ev, binD, unD, finish, evRes, evRes1, mapO, D.cells, o1, h1, h2, lks, hk0, h3', lnd, hown, measD]
    | true =>
      rw [h4] at hown
      cases h5 : fitsB a.op a.ks with
      | false =>
        rw [if_pos (.inr (.inr (.inr (.inr h5))))] at hme
        rw [h5] at hfit
        rw [hme]
        simp [fc45, evKC, evK, evGuard, put, Env.get, Env.keep, entry, Opd.ev, binD, unD, finish, evRes, evRes1, mapO, D.cells, o1, h1, h2, lks, lop, hk0, h3', lnd, hown, hfit, measD]
      | true =>
        rw [if_neg (by simp [h1, h2, h3, h4, h5])] at hme
        rw [h5] at hfit
        have ihk : ∀ x ∈ a.ks, MeasOk x := fun x hx d' l' q1 q2 q3 q4 H i hi => by
          have hsx := size_kid hx
          exact callD_shp (args := [x.pd, .int .i64 d', .int .i64 l']) hi (fun _ _ => by cases meas x d' l' <;> rfl) (IH x (by omega) (by omega) d' l' q1 q2 q3 q4)
        obtain ⟨l1, l2⟩ := meas_loop (a := a) (d := d) (l := l) hd0 (by omega) (by omega) hl1 (by omega) ihk (by omega) a.ks.length 0 1 (by omega) (by omega) (by omega) (by rw [List.drop_zero]; omega)
        rw [List.drop_zero] at l1 l2
        simp only [msS, Int.natCast_zero] at l1 l2
        rw [hme]
        cases hL : measL a.ks d l 1 with
        | none =>
          have l2 := l2 hL
          simp [fc45, evKC, evK, evGuard, put, Env.get, Env.keep, entry, Opd.ev, binD, unD, finish, evRes, evRes1, mapO, D.cells, o1, h1, h2, lks, lop, hk0, h3', lnd, hown, hfit, l2, measD]
        | some c =>
          obtain ⟨env, l1, g1⟩ := l1 c hL
          simp [fc45, evKC, evK, evGuard, put, Env.get, Env.keep, entry, Opd.ev, binD, unD, finish, evRes, evRes1, mapO, D.cells, o1, h1, h2, lks, lop, hk0, h3', lnd, hown, hfit, l1, g1, measD]
theorem meas_call {a : Nd} (hs : a.size ≤ 1000000) {d l : Int} (q1 : 0 ≤ d) (q2 : d ≤ 25) (q3 : -1000000 ≤ l) (q4 : l ≤ 1000000) {H : Hp} {i : Nat} (hi : H.bx[i]? = some tabS) :
    callD (call pg) 45 [.mapr i, .p a.pd, .p (.int .i64 d), .p (.int .i64 l)] H = some (.val (measD (meas a d l)), H) :=
  callD_shp (args := [a.pd, .int .i64 d, .int .i64 l]) hi (fun _ _ => by cases meas a d l <;> rfl) (meas0 a.size a (Nat.le_refl _) hs d l q1 q2 q3 q4)
def validN (a : Nd) : Bool := (meas a 1 400).isSome
theorem shapes_call (cs : List D) (hc : isMapC cs = false) (hr : D.refsL cs = []) : callD (call pg) 46 [] ⟨[cs], []⟩ = some (.val (.mapr 1), ⟨[cs, tabS], []⟩) := by
  have h := shapes0
  have e6 : D.renL (fun i => if i < 0 then ([] : List Nat)[i]? else some ([cs].length + (i - 0))) (fun t => ([] : List Nat)[t]?) tabS = some tabS := by rfl
  simp only [callD, D.refsL, D.toksL, ins, reach, boxRefs, boxToks, List.append_nil, Vs.nodupB, Bool.and_self, if_true, D.renL, mapO, List.length_cons, List.length_nil]
  rw [h]
  simp [back, firstN, Res.ren, D.ren, mapO, putAll]
  rfl
theorem valid0 (a : Nd) (hs : a.size ≤ 1000000) : ∃ H', call pg 15 [.p a.pd] ⟨[], []⟩ = some (.val (.p (.bool (validN a))), H') := by
  have o1 := one_all a
  have hsh := shapes_call (a.cells.map .p) (isMapC_p _) (refsL_p _)
  have lnd : ∀ G tk, loadD G ⟨[a.cells.map .p, tabS], tk⟩ (some 5) (.box 0 0) = some (.p a.pd) := fun G tk => load_ndb (i := 0) rfl
  have hm := fun tk => meas_call hs (d := 1) (l := 400) (by omega) (by omega) (by omega) (by omega) (H := ⟨[a.cells.map .p, tabS], tk⟩) (i := 1) rfl
  rw [pd_cells] at lnd hm ⊢
  refine ⟨_, call_body (fc := fc15) rfl rfl rfl rfl (r := (_, ⟨[a.cells.map .p, tabS], []⟩)) ?_⟩
  unfold validN
  cases h : meas a 1 400 with
  | none =>
    rw [h] at hm
    simp only [measD] at hm
    simp [fc15, evKC, evK, put, Env.get, Env.keep, entry, Opd.ev, clsP, cls, clsR, isCl, isW, apartRW, offB, apartWW, clash, insOk, finish, evRes, evRes1, D.cells, D.refsL, D.refs, D.toksL, D.toks, o1, hsh, lnd, hm]
  | some c =>
    rw [h] at hm
    simp only [measD] at hm
    simp [fc15, evKC, evK, put, Env.get, Env.keep, entry, Opd.ev, clsP, cls, clsR, isCl, isW, apartRW, offB, apartWW, clash, insOk, finish, evRes, evRes1, D.cells, D.refsL, D.refs, D.toksL, D.toks, o1, hsh, lnd, hm]
theorem valid_eq {a : Nd} (hs : a.size ≤ 1000000) (H : Hp) : callD (call pg) 15 [.p a.pd] H = some (.val (.p (.bool (validN a))), H) := callD_any (valid0 a hs) rfl rfl rfl rfl H

end Go.Proofs.YtalgjkpkkdljaaaGreatDoor

namespace Go.Proofs.YtalgjkpkkdljaaaGreatDoor
open Go.Vs
theorem cnt_loop {a : Nd} (ih : ∀ (k : Nd) (left : Nat), k ∈ a.ks → left ≤ 1000000000 → ∀ H, callD (call pg) 50 [.p k.pd, .p (.int .i64 left)] H = some (.val (.p (.int .i64 (cntN k.size left))), H)) {left : Nat} (hl : left ≤ 1000000000) :
    ∀ (n k sum : Nat), a.ks.length - k ≤ n → k ≤ a.ks.length → k < sum → sum ≤ left + 1 →
    ∃ env, loopK (call pg) pg.G [1, 2, 5, 6] fc50_b0 ⟨[(1, .p (.int .i64 left)), (2, .box 0 0), (5, .p (.int .i64 sum)), (6, .p (.int .i64 k))], ⟨[a.cells.map .p], []⟩⟩ =
      some (.exit 0, ⟨env, ⟨[a.cells.map .p], []⟩⟩) ∧ env.get 5 = .p (.int .i64 (min (sum + Nd.sizeL (a.ks.drop k)) (left + 1) : Nat)) := by
  intro n
  have hk0 := len_kids a
  have hld := fun (G : Nat → Option (List PD)) tk => ld_kids (G := G) a tk
  induction n with
  | zero =>
    intro k sum hn hk h1 h2
    have he : k = a.ks.length := by omega
    refine ⟨[(1, .p (.int .i64 left)), (2, .box 0 0), (5, .p (.int .i64 sum)), (6, .p (.int .i64 k)), (16, .p (.bool false))], ?_, ?_⟩
    · refine loopK_out (o := .exit 0) ?_ (by simp)
      simp [fc50_b0, evKC, evK, evGuard, put, Env.get, Env.keep, Opd.ev, binD, mapO, D.ren, locD, below, Out.ren, List.map, hk0, hld, he]
    · rw [List.drop_eq_nil_of_le (by omega)]
      simp only [Nd.sizeL, Nat.add_zero, Nat.min_eq_left h2]
      rfl
  | succ n IH =>
    intro k sum hn hk h1 h2
    by_cases he : k = a.ks.length
    · refine ⟨[(1, .p (.int .i64 left)), (2, .box 0 0), (5, .p (.int .i64 sum)), (6, .p (.int .i64 k)), (16, .p (.bool false))], ?_, ?_⟩
      · refine loopK_out (o := .exit 0) ?_ (by simp)
        simp [fc50_b0, evKC, evK, evGuard, put, Env.get, Env.keep, Opd.ev, binD, mapO, D.ren, locD, below, Out.ren, List.map, hk0, hld, he]
      · rw [List.drop_eq_nil_of_le (by omega)]
        simp only [Nd.sizeL, Nat.add_zero, Nat.min_eq_left h2]
        rfl
    · have hlt : k < a.ks.length := by omega
      have hlt' : (k : Int) < (a.ks.length : Int) := by omega
      by_cases hs : sum ≤ left
      · have hs' : (sum : Int) ≤ (left : Int) := by omega
        have hc := ih a.ks[k] (left - sum) (List.getElem_mem hlt) (by omega)
        have hia := ia_kids hlt
        have hld2 := fun (G : Nat → Option (List PD)) (H : Hp) => load_nd (G := G) (H := H) a.ks[k]
        have hcpos : 1 ≤ cntN a.ks[k].size (left - sum) := by have := size_eq a.ks[k]; simp only [cntN]; omega
        have hcle : cntN a.ks[k].size (left - sum) ≤ left - sum + 1 := by simp only [cntN]; omega
        obtain ⟨env, e1, e2⟩ := IH (k + 1) (sum + cntN a.ks[k].size (left - sum)) (by omega) (by omega) (by omega) (by omega)
        refine ⟨env, ?_, ?_⟩
        · have hk1 := inc64 (k := k) (by omega)
          have w1 : IntKind.i64.wrap ((left : Int) - (sum : Int)) = ((left - sum : Nat) : Int) := by rw [wrap64 (by omega) (by omega)]; omega
          have w2 : IntKind.i64.wrap ((sum : Int) + (cntN a.ks[k].size (left - sum) : Int)) = ((sum + cntN a.ks[k].size (left - sum) : Nat) : Int) := by rw [wrap64 (by omega) (by omega)]; omega
          rw [← e1]
          refine loopK_norm ?_
          generalize cntN a.ks[k].size (left - sum) = z at *
          generalize a.ks[k] = x at *
          simp [fc50_b0, evKC, evK, evGuard, put, Env.get, Env.keep, Opd.ev, D.asInt?, binD, mapO, D.ren, locD, below, Out.ren, List.map, hk0, hld, hlt', hs', hia, hld2, hc, w1, w2, hk1]
        · rw [e2, cntN_step _ _ _ _ hs, List.drop_eq_getElem_cons hlt]
          rfl
      · have hs' : ¬ (sum : Int) ≤ (left : Int) := by omega
        refine ⟨[(1, .p (.int .i64 left)), (2, .box 0 0), (5, .p (.int .i64 sum)), (6, .p (.int .i64 k)), (16, .p (.bool false))], ?_, ?_⟩
        · refine loopK_out (o := .exit 0) ?_ (by simp)
          simp [fc50_b0, evKC, evK, evGuard, put, Env.get, Env.keep, Opd.ev, binD, mapO, D.ren, locD, below, Out.ren, List.map, hk0, hld, hlt', hs']
        · have : min (sum + Nd.sizeL (a.ks.drop k)) (left + 1) = sum := by omega
          rw [this]; rfl
theorem cnt0 : ∀ (s : Nat) (a : Nd) (left : Nat), a.size ≤ s → left ≤ 1000000000 → ∃ H', call pg 50 [.p a.pd, .p (.int .i64 left)] ⟨[], []⟩ = some (.val (.p (.int .i64 (cntN a.size left))), H') := by
  intro s
  induction s with
  | zero => intro a left h; have := size_eq a; omega
  | succ s ih =>
    intro a left hs hl
    obtain ⟨env, e1, e2⟩ := cnt_loop (a := a) (left := left) (fun k l hk hl H => callD_any (ih k l (by have := size_kid hk; omega) hl) rfl rfl rfl rfl H) hl a.ks.length 0 1 (by omega) (by omega) (by omega) (by omega)
    rw [List.drop_zero, ← size_eq] at e2
    simp only [Int.natCast_zero, Int.natCast_one] at e1
    rw [pd_cells]
    refine ⟨_, call_body (fc := fc50) rfl rfl rfl rfl (r := (_, ⟨[a.cells.map .p], []⟩)) ?_⟩
    simp only [cntN]
    simp [fc50, evKC, evK, put, Env.get, Env.keep, entry, Opd.ev, finish, evRes, evRes1, D.cells, List.map, e1, e2, one_all a]
theorem cnt_eq (a : Nd) {left : Nat} (hl : left ≤ 1000000000) (H : Hp) : callD (call pg) 50 [.p a.pd, .p (.int .i64 left)] H = some (.val (.p (.int .i64 (cntN a.size left))), H) :=
  callD_any (cnt0 _ a left (Nat.le_refl _) hl) rfl rfl rfl rfl H
theorem few0 (a : Nd) : ∃ H', call pg 18 [.p a.pd] ⟨[], []⟩ = some (.val (.p (.bool (decide (a.size ≤ 400)))), H') := by
  have hc : ∀ H, callD (call pg) 50 [.p a.pd, .p (.int .i64 400)] H = some (.val (.p (.int .i64 (cntN a.size 400))), H) := cnt_eq a (left := 400) (by omega)
  have hl := fun (G : Nat → Option (List PD)) => load_ndb (G := G) (H := ⟨[a.cells.map .p], []⟩) (i := 0) (x := a) rfl
  have he : decide ((cntN a.size 400 : Int) ≤ 400) = decide (a.size ≤ 400) := by
    rw [decide_eq_decide]; simp only [cntN]; omega
  rw [pd_cells]
  refine ⟨_, call_body (fc := fc18) rfl rfl rfl rfl (r := (_, ⟨[a.cells.map .p], []⟩)) ?_⟩
  simp [fc18, evKC, evK, put, Env.get, Env.keep, entry, Opd.ev, binD, finish, evRes, evRes1, D.cells, List.map, hl, hc, one_all a, he]
theorem few_eq (a : Nd) (H : Hp) : callD (call pg) 18 [.p a.pd] H = some (.val (.p (.bool (decide (a.size ≤ 400)))), H) :=
  callD_any (few0 a) rfl rfl rfl rfl H
def aN : Nd := .mk 1 [97] 0 0 [] 0
def noA : Nd := .mk 35 [] 0 2 [aN] 0
def isPd (x : Option (Res × Hp)) (d : PD) : Bool := match x with
  | some (.val (.p e), _) => PD.eqb e d
  | _ => false
theorem isPd_eq {x : Option (Res × Hp)} {d : PD} (h : isPd x d = true) : ∃ H, x = some (.val (.p d), H) := by
  unfold isPd at h
  split at h
  · rename_i e H
    exact ⟨H, by rw [PD.eqb_eq _ _ h]⟩
  · cases h
theorem aN_run : isPd (evF pg 20 22 [.p (.str [97])] ⟨[], []⟩) aN.pd = true := by kernel_rfl
theorem noA_run : isPd (evF pg 20 21 [.p (.int .i64 35), .p aN.pd] ⟨[], []⟩) noA.pd = true := by kernel_rfl
theorem aN_call (H : Hp) : callD (call pg) 22 [.p (.str [97])] H = some (.val (.p aN.pd), H) := by
  obtain ⟨Hl, h⟩ := isPd_eq aN_run
  exact callD_pure (call_of_evF 20 h) rfl rfl rfl rfl
theorem noA_call (H : Hp) : callD (call pg) 21 [.p (.int .i64 35), .p aN.pd] H = some (.val (.p noA.pd), H) := by
  obtain ⟨Hl, h⟩ := isPd_eq noA_run
  exact callD_pure (call_of_evF 20 h) rfl rfl rfl rfl

end Go.Proofs.YtalgjkpkkdljaaaGreatDoor

namespace Go.Proofs.YtalgjkpkkdljaaaGreatDoor
open Go.Vs

mutual
theorem meas_mono : ∀ (a : Nd) (d l d' l' c : Int), d' ≤ d → l ≤ l' → meas a d l = some c → meas a d' l' = some c
  | .mk op nm n _ ks _, d, l, d', l', c, hd, hl, h => by
    simp only [meas] at h ⊢
    split at h
    · cases h
    · rename_i hc
      rw [if_neg (fun q => hc (by
        rcases q with q | q | q | q | q
        · exact .inl (by omega)
        · exact .inr (.inl (by omega))
        · exact .inr (.inr (.inl q))
        · exact .inr (.inr (.inr (.inl q)))
        · exact .inr (.inr (.inr (.inr q)))))]
      exact measL_mono ks d l d' l' 1 c hd hl h
theorem measL_mono : ∀ (ks : List Nd) (d l d' l' cnt c : Int), d' ≤ d → l ≤ l' → measL ks d l cnt = some c → measL ks d' l' cnt = some c
  | [], d, l, d', l', cnt, c, hd, hl, h => h
  | k :: ks, d, l, d', l', cnt, c, hd, hl, h => by
    simp only [measL] at h ⊢
    split at h
    · rename_i c1 h1
      rw [meas_mono k (d + 1) (l - cnt) (d' + 1) (l' - cnt) c1 (by omega) (by omega) h1]
      exact measL_mono ks d l d' l' (cnt + c1) c hd hl h
    · cases h
end
theorem measL_mem : ∀ (ks : List Nd) (d l cnt c : Int), 0 ≤ cnt → measL ks d l cnt = some c → ∀ x ∈ ks, ∃ c', meas x (d + 1) l = some c'
  | [], d, l, cnt, c, hc, h => fun x hx => by simp at hx
  | k :: ks, d, l, cnt, c, hc, h => fun x hx => by
    simp only [measL] at h
    split at h
    · rename_i c1 h1
      rcases List.mem_cons.1 hx with rfl | hx
      · exact ⟨c1, meas_mono _ _ _ _ _ _ (Int.le_refl _) (by omega) h1⟩
      · exact measL_mem ks d l (cnt + c1) c (by have := meas_pos _ _ _ _ h1; omega) h x hx
    · cases h
theorem valid_parts {a : Nd} (h : validN a = true) : a.ks.length ≤ 400 ∧ ownN a = true ∧ fitsB a.op a.ks = true ∧ ∃ c, measL a.ks 1 400 1 = some c := by
  unfold validN at h
  rw [meas_eq] at h
  split at h
  · cases h
  · rename_i hc
    obtain ⟨c, hm⟩ := Option.isSome_iff_exists.1 h
    refine ⟨?_, ?_, ?_, c, hm⟩
    · exact Classical.byContradiction fun q => hc (.inr (.inr (.inl (by omega))))
    · exact Classical.byContradiction fun q => hc (.inr (.inr (.inr (.inl (by simpa using q)))))
    · exact Classical.byContradiction fun q => hc (.inr (.inr (.inr (.inr (by simpa using q)))))
theorem valid_kid {a x : Nd} (h : validN a = true) (hx : x ∈ a.ks) : validN x = true := by
  obtain ⟨_, _, _, c, hm⟩ := valid_parts h
  obtain ⟨c', hc'⟩ := measL_mem a.ks 1 400 1 c (by omega) hm x hx
  unfold validN
  rw [meas_mono x _ _ 1 400 c' (by omega) (Int.le_refl _) hc']
  rfl
theorem not_valid_own {a : Nd} (h : ownN a = false) : validN a = false := by
  unfold validN
  rw [meas_eq, if_pos (.inr (.inr (.inr (.inl h))))]
  rfl
theorem not_valid_fits {a : Nd} (h : fitsB a.op a.ks = false) : validN a = false := by
  unfold validN
  rw [meas_eq, if_pos (.inr (.inr (.inr (.inr h))))]
  rfl
theorem fitsL_app : ∀ (ks : List Nd) (w : List UInt8) (x : Nd) (c : UInt8), ks.length = w.length → fitsL (ks ++ [x]) (w ++ [c]) = (fitsL ks w && (kl x.op == c))
  | [], [], x, c, _ => by simp [fitsL]
  | k :: ks, d :: w, x, c, h => by
    simp only [List.cons_append, fitsL]
    rw [fitsL_app ks w x c (by simpa using h), Bool.and_assoc]
  | [], _ :: _, x, c, h => by simp at h
  | _ :: _, [], x, c, h => by simp at h
theorem more_not {op : Int} {ks : List Nd} (h : fitsB op ks = true) : fitsB op (ks ++ [noA]) = false := by
  unfold fitsB at h ⊢
  unfold wantS at h ⊢
  by_cases h47 : op = 47
  · simp only [h47, if_true] at h ⊢
    rw [List.length_append, List.length_singleton, List.replicate_succ', fitsL_app _ _ _ _ (by simp)]
    have : (kl noA.op == 101) = false := by decide
    rw [this]
    simp
  · rw [if_neg h47] at h ⊢
    cases hw : lookS shpT op with
    | none => simp [hw] at h
    | some w =>
      rw [hw] at h
      simp only [Bool.and_eq_true] at h
      have := of_decide_eq_true h.1
      have h2 : ¬ (ks ++ [noA]).length = w.length := by simp; omega
      simp only [h2, decide_false, Bool.false_and]
theorem lookS_none : ∀ {t : List (Int × List UInt8)} {k : Int}, (∀ e ∈ t, e.1 ≠ k) → lookS t k = none
  | [], _, _ => rfl
  | e :: t, k, h => by
    simp only [lookS]
    rw [if_neg (h e (by simp)), lookS_none fun e' he' => h e' (by simp [he'])]
theorem other_not {op : Int} (h : 52 ≤ op) (ks : List Nd) : fitsB op ks = false := by
  unfold fitsB wantS
  rw [if_neg (by omega), lookS_none]
  have hall : ∀ e ∈ shpT, e.1 ≤ 51 := by decide
  intro e he
  have := hall e he
  omega
theorem chs_bang : ∀ (s : List UInt8) (i : Nat), chs i (s ++ [33]) = false
  | [], 0 => by decide
  | [], i + 1 => by
    simp only [List.nil_append, chs]
    have : tailC 33 = false := by decide
    rw [this]; rfl
  | c :: s, 0 => by simp only [List.cons_append, chs, chs_bang s 1, Bool.and_false]
  | c :: s, i + 1 => by simp only [List.cons_append, chs, chs_bang s (i + 2), Bool.and_false]
theorem named_not (op n : Int) (nm : List UInt8) : ownB op (nm ++ [33]) n = false := by
  have h1 : isNm (nm ++ [33]) = false := by simp [isNm, chs_bang]
  have h2 : (nm ++ [33] == []) = false := by simp
  unfold ownB
  rw [h1, h2]
  simp
theorem odd_not (op : Int) (nm : List UInt8) : ownB op nm 1000 = false := by
  unfold ownB
  repeat' split
  all_goals simp
theorem src_kids (H : Hp) (a : Nd) : srcH H 5 (.p a.kidsP) = some (a.ks.map Nd.pd) := by
  have : ∀ (o : Sl PD), srcH H 5 (.p (slP 5 o)) = some (els o) := by
    intro o
    cases o with
    | nil => rfl
    | amb => rfl
    | of l => cases l <;> rfl
  rw [Nd.kidsP, this, els_map, els_ndSl]
def moreN (a : Nd) : Nd := .mk a.op a.nm a.n 2 (a.ks ++ [noA]) a.pos
def otherN (a : Nd) (op : Int) : Nd := .mk op a.nm a.n a.c a.ks a.pos
def namedN (a : Nd) : Nd := .mk a.op (a.nm ++ [33]) a.n a.c a.ks a.pos
def oddN (a : Nd) : Nd := .mk a.op a.nm 1000 a.c a.ks a.pos
theorem more_kids (a : Nd) : (moreN a).kidsP = .slice 5 (a.ks.map Nd.pd ++ [noA.pd]) := by
  have h : ∀ l : List PD, slP 5 (.of (l ++ [noA.pd])) = .slice 5 (l ++ [noA.pd]) := fun l => by cases l <;> rfl
  have : (moreN a).kidsP = slP 5 (.of (a.ks.map Nd.pd ++ [noA.pd])) := by
    show slP 5 ((ndSl 2 (a.ks ++ [noA])).map Nd.pd) = _
    have : ndSl 2 (a.ks ++ [noA]) = .of (a.ks ++ [noA]) := by
      unfold ndSl
      split <;> first | rfl | omega
    rw [this]
    simp [Sl.map]
  rw [this, h]
theorem size_more (a : Nd) : (moreN a).size = a.size + 2 := by
  have : ∀ l : List Nd, Nd.sizeL (l ++ [noA]) = Nd.sizeL l + 2 := fun l => by
    induction l with
    | nil => rfl
    | cons x l ih => simp only [List.cons_append, Nd.sizeL, ih]; omega
  rw [size_eq, size_eq a]
  show 1 + Nd.sizeL (a.ks ++ [noA]) = _
  rw [this]; omega

end Go.Proofs.YtalgjkpkkdljaaaGreatDoor

namespace Go.Proofs.YtalgjkpkkdljaaaGreatDoor
open Go.Vs
def isEq (x : Option (Res × Hp)) (d : D) : Bool := match x with
  | some (.val e, _) => match e.ren (fun _ => none) (fun _ => none) with
    | some e' => D.eqb e' d
    | none => false
  | _ => false
theorem isEq_eq {x : Option (Res × Hp)} {d : D} (h : isEq x d = true) : ∃ e H, x = some (.val e, H) ∧ e.ren (fun _ => none) (fun _ => none) = some d := by
  unfold isEq at h
  split at h
  · rename_i e H
    split at h
    · rename_i e' he
      exact ⟨e, H, rfl, by rw [he, D.eqb_eq _ _ h]⟩
    · cases h
  · cases h
def tS0 : List UInt8 := [110, 111, 32, 97, 32, 38, 32, 98, 46, 99]
def tD0 : D := .tup [.p (.agg [.int .i64 35, .str [], .int .i64 0, .slice 5 [.agg [.int .i64 7, .str [], .int .i64 0, .slice 5 [.agg [.int .i64 1, .str [97], .int .i64 0, .nils, .int .i64 3], .agg [.int .i64 9, .str [], .int .i64 0, .slice 5 [.agg [.int .i64 1, .str [98], .int .i64 0, .nils, .int .i64 7], .agg [.int .i64 1, .str [99], .int .i64 0, .nils, .int .i64 9]], .int .i64 8]], .int .i64 5]], .int .i64 0]), .p (.nils)]
def tS1 : List UInt8 := [35, 97, 46, 98, 32, 43, 32, 49, 32, 60, 32, 51]
def tD1 : D := .tup [.p (.agg [.int .i64 39, .str [], .int .i64 0, .slice 5 [.agg [.int .i64 22, .str [], .int .i64 0, .slice 5 [.agg [.int .i64 21, .str [], .int .i64 0, .slice 5 [.agg [.int .i64 9, .str [], .int .i64 0, .slice 5 [.agg [.int .i64 1, .str [97], .int .i64 0, .nils, .int .i64 1], .agg [.int .i64 1, .str [98], .int .i64 0, .nils, .int .i64 3]], .int .i64 2]], .int .i64 0], .agg [.int .i64 20, .str [], .int .i64 1, .nils, .int .i64 7]], .int .i64 5], .agg [.int .i64 20, .str [], .int .i64 3, .nils, .int .i64 11]], .int .i64 9]), .p (.nils)]
def tS2 : List UInt8 := [97, 108, 108, 32, 120, 58, 32, 97, 32, 124, 32, 120, 32, 105, 110, 32, 98, 32, 61, 62, 32, 110, 111, 32, 120, 46, 98]
def tD2 : D := .tup [.p (.agg [.int .i64 45, .str [120], .int .i64 0, .slice 5 [.agg [.int .i64 1, .str [97], .int .i64 0, .nils, .int .i64 7], .agg [.int .i64 43, .str [], .int .i64 0, .slice 5 [.agg [.int .i64 32, .str [], .int .i64 0, .slice 5 [.agg [.int .i64 1, .str [120], .int .i64 0, .nils, .int .i64 11], .agg [.int .i64 1, .str [98], .int .i64 0, .nils, .int .i64 16]], .int .i64 13], .agg [.int .i64 35, .str [], .int .i64 0, .slice 5 [.agg [.int .i64 9, .str [], .int .i64 0, .slice 5 [.agg [.int .i64 1, .str [120], .int .i64 0, .nils, .int .i64 24], .agg [.int .i64 1, .str [98], .int .i64 0, .nils, .int .i64 26]], .int .i64 25]], .int .i64 21]], .int .i64 18]], .int .i64 0]), .p (.nils)]
def tS3 : List UInt8 := [97, 32, 61, 32, 35, 98]
def tD3 : D := .tup [.p (.agg [.int .i64 0, .str [], .int .i64 0, .nils, .int .i64 0]), .p (.slice 2 [.agg [.int .i64 43, .int .i64 2]])]
def tS4 : List UInt8 := [97, 32, 61, 32, 98, 32, 61, 32, 99]
def tD4 : D := .tup [.p (.agg [.int .i64 0, .str [], .int .i64 0, .nils, .int .i64 0]), .p (.slice 2 [.agg [.int .i64 20, .int .i64 6]])]
def tS5 : List UInt8 := [110, 111]
def tD5 : D := .tup [.p (.agg [.int .i64 0, .str [], .int .i64 0, .nils, .int .i64 0]), .p (.slice 2 [.agg [.int .i64 21, .int .i64 2]])]
def tS6 : List UInt8 := [97]
def tD6 : D := .tup [.p (.agg [.int .i64 0, .str [], .int .i64 0, .nils, .int .i64 0]), .p (.slice 2 [.agg [.int .i64 43, .int .i64 0]])]
def tS7 : List UInt8 := [49, 32, 60, 32, 54, 53]
def tD7 : D := .tup [.p (.agg [.int .i64 0, .str [], .int .i64 0, .nils, .int .i64 0]), .p (.slice 2 [.agg [.int .i64 2, .int .i64 4]])]
def tS8 : List UInt8 := [115, 111, 114, 116, 32, 65, 32, 111, 114, 100, 101, 114, 101, 100, 59, 32, 118, 97, 114, 32, 102, 105, 101, 108, 100, 32, 102, 58, 32, 65, 32, 45, 62, 32, 65, 59, 32, 112, 114, 101, 100, 32, 112, 91, 120, 58, 32, 65, 93, 32, 123, 32, 115, 111, 109, 101, 32, 120, 46, 102, 32, 125, 32, 102, 97, 99, 116, 32, 113, 32, 123, 32, 112, 91, 65, 93, 32, 124, 124, 32, 116, 114, 117, 101, 32, 125]
def tD8 : D := .tup [.agg [.p (.slice 2 [.agg [.str [65], .bool true]]), .p (.slice 3 [.agg [.str [102], .slice 1 [.int .i64 0, .int .i64 0], .bool true]]), .p (.slice 7 [.agg [.str [112], .slice 2 [.agg [.str [120], .int .i64 0]], .int .i64 34, .str [], .int .i64 0, .slice 5 [.agg [.int .i64 9, .str [], .int .i64 0, .slice 5 [.agg [.int .i64 1, .str [120], .int .i64 0, .nils, .int .i64 57], .agg [.int .i64 1, .str [102], .int .i64 0, .nils, .int .i64 59]], .int .i64 58]], .int .i64 52]]), .p (.slice 6 [.agg [.str [113], .int .i64 42, .str [], .int .i64 0, .slice 5 [.agg [.int .i64 47, .str [112], .int .i64 0, .slice 5 [.agg [.int .i64 1, .str [65], .int .i64 0, .nils, .int .i64 74]], .int .i64 72], .agg [.int .i64 30, .str [], .int .i64 0, .nils, .int .i64 80]], .int .i64 77]])], .p (.nils)]
def tS9 : List UInt8 := [115, 111, 114, 116, 32, 65, 59, 32, 102, 105, 101, 108, 100, 32, 102, 58, 32, 66, 59, 32, 115, 111, 114, 116, 32, 59]
def tD9 : D := .tup [.p (.agg [.nils, .nils, .nils, .nils]), .p (.slice 2 [.agg [.int .i64 40, .int .i64 17], .agg [.int .i64 20, .int .i64 25]])]

end Go.Proofs.YtalgjkpkkdljaaaGreatDoor

namespace Go.Proofs.YtalgjkpkkdljaaaGreatDoor
open Go.Vs
theorem tab0 : isEq (evF pg 100 17 [.p (.str tS0)] ⟨[], []⟩) tD0 = true := by kernel_rfl
theorem tab1 : isEq (evF pg 100 17 [.p (.str tS1)] ⟨[], []⟩) tD1 = true := by kernel_rfl

end Go.Proofs.YtalgjkpkkdljaaaGreatDoor

namespace Go.Proofs.YtalgjkpkkdljaaaGreatDoor
open Go.Vs
theorem tab2 : isEq (evF pg 100 17 [.p (.str tS2)] ⟨[], []⟩) tD2 = true := by kernel_rfl
theorem tab3 : isEq (evF pg 100 17 [.p (.str tS3)] ⟨[], []⟩) tD3 = true := by kernel_rfl
theorem tab4 : isEq (evF pg 100 17 [.p (.str tS4)] ⟨[], []⟩) tD4 = true := by kernel_rfl

end Go.Proofs.YtalgjkpkkdljaaaGreatDoor

namespace Go.Proofs.YtalgjkpkkdljaaaGreatDoor
open Go.Vs
theorem tab5 : isEq (evF pg 100 17 [.p (.str tS5)] ⟨[], []⟩) tD5 = true := by kernel_rfl
theorem tab6 : isEq (evF pg 100 17 [.p (.str tS6)] ⟨[], []⟩) tD6 = true := by kernel_rfl
theorem tab7 : isEq (evF pg 100 17 [.p (.str tS7)] ⟨[], []⟩) tD7 = true := by kernel_rfl
theorem tab9 : isEq (evF pg 100 14 [.p (.str tS9)] ⟨[], []⟩) tD9 = true := by kernel_rfl

end Go.Proofs.YtalgjkpkkdljaaaGreatDoor

namespace Go.Proofs.YtalgjkpkkdljaaaGreatDoor
open Go.Vs
theorem tab8 : isEq (evF pg 100 14 [.p (.str tS8)] ⟨[], []⟩) tD8 = true := by kernel_rfl

end Go.Proofs.YtalgjkpkkdljaaaGreatDoor

namespace Go.Proofs.YtalgjkpkkdljaaaGreatDoor
open Go.Vs
def isTrue : Option (Res × Hp) → Bool
  | some (.val (.p (.bool true)), _) => true
  | _ => false
theorem isTrue_eq {x : Option (Res × Hp)} (h : isTrue x = true) : ∃ H, x = some (.val (.p (.bool true)), H) := by
  unfold isTrue at h
  split at h
  · exact ⟨_, rfl⟩
  · cases h
def tabs : List (Nat × List UInt8 × D) := [(17, tS0, tD0), (17, tS1, tD1), (17, tS2, tD2), (17, tS3, tD3), (17, tS4, tD4), (17, tS5, tD5), (17, tS6, tD6), (17, tS7, tD7), (14, tS8, tD8), (14, tS9, tD9)]
def tabOf (f : Nat) (s : List UInt8) : Option D := (tabs.find? fun x => x.1 == f && x.2.1 == s).map (·.2.2)
def pgT : Pg := { pg with lib := tabLib pgL tabOf }
theorem tabs_ok : ∀ x ∈ tabs, isEq (evF pg 100 x.1 [.p (.str x.2.1)] ⟨[], []⟩) x.2.2 = true := by
  intro x hx
  simp only [tabs, List.mem_cons, List.not_mem_nil, or_false] at hx
  rcases hx with rfl | rfl | rfl | rfl | rfl | rfl | rfl | rfl | rfl | rfl
  · exact tab0
  · exact tab1
  · exact tab2
  · exact tab3
  · exact tab4
  · exact tab5
  · exact tab6
  · exact tab7
  · exact tab8
  · exact tab9
theorem tab_call {f : Nat} {s : List UInt8} {d : D} (h : tabOf f s = some d) (H : Hp) : callD (call pg) f [.p (.str s)] H = some (.val d, H) := by
  unfold tabOf at h
  obtain ⟨x, hx, rfl⟩ := Option.map_eq_some_iff.1 h
  have hm := List.mem_of_find?_eq_some hx
  have hp := List.find?_some hx
  rw [Bool.and_eq_true] at hp
  have h1 : x.1 = f := eq_of_beq hp.1
  have h2 : x.2.1 = s := eq_of_beq hp.2
  obtain ⟨e, He, h3, h4⟩ := isEq_eq (tabs_ok x hm)
  rw [← h1, ← h2]
  exact callD_pure (call_of_evF 100 h3) rfl rfl rfl h4
theorem tabs_ren : ∀ x ∈ tabs, ∀ bi ti, x.2.2.ren bi ti = some x.2.2 := by
  intro x hx bi ti
  simp only [tabs, List.mem_cons, List.not_mem_nil, or_false] at hx
  rcases hx with rfl | rfl | rfl | rfl | rfl | rfl | rfl | rfl | rfl | rfl <;> rfl
theorem tab_run {f : Nat} (n : Nat) {H : Hp} {r : Res × Hp} (h : evF pgT n f [] H = some r) : call pg f [] H = some r := by
  rcases tab_ext (p := pg) (tab := tabOf) (fun f s d H h => tab_call h H) (fun f s d h => by
    unfold tabOf at h
    obtain ⟨x, hx, rfl⟩ := Option.map_eq_some_iff.1 h
    exact tabs_ren x (List.mem_of_find?_eq_some hx)) n f [] H r h with q | ⟨s, d, q, _⟩
  · exact q
  · cases q

end Go.Proofs.YtalgjkpkkdljaaaGreatDoor

namespace Go.Proofs.YtalgjkpkkdljaaaGreatDoor
open Go.Vs
theorem head13 : isTrue (evF pgT 60 13 [] ⟨[], []⟩) = true := by kernel_rfl
theorem head_call : ∃ H, call pg 13 [] ⟨[], []⟩ = some (.val (.p (.bool true)), H) := by
  obtain ⟨H, h⟩ := isTrue_eq head13
  exact ⟨H, tab_run 60 h⟩

end Go.Proofs.YtalgjkpkkdljaaaGreatDoor

namespace Go.Proofs.YtalgjkpkkdljaaaGreatDoor
open Go.Vs
theorem head13_call (H : Hp) : callD (call pg) 13 [] H = some (.val (.p (.bool true)), H) := by
  obtain ⟨Hl, h⟩ := head_call
  exact callD_pure h rfl rfl rfl rfl
def vsS (a : Nd) (op : Int) (k : Nat) : St := ⟨[(1, .p (.int .u8 op)), (2, .box 0 0), (5, .p (.bool true)), (6, .p (.int .i64 k))], ⟨[a.cells.map .p], []⟩⟩
theorem vs_loop {a : Nd} (hv : ∀ x ∈ a.ks, validN x = true) (hsz : a.size ≤ 1000000) (op : Int) : ∀ (n k : Nat), a.ks.length - k ≤ n → k ≤ a.ks.length →
    ∃ env, loopK (call pg) pg.G [1, 2, 5, 6] fc9_b0 (vsS a op k) = some (.exit 0, ⟨env, ⟨[a.cells.map .p], []⟩⟩) ∧ env.get 1 = .p (.int .u8 op) ∧ env.get 2 = .box 0 0 ∧ env.get 5 = .p (.bool true) := by
  intro n
  have hk0 := len_kids a
  have hls := len_sizeL a.ks
  have hse := size_eq a
  have hld := fun (G : Nat → Option (List PD)) tk => ld_kids (G := G) a tk
  have hend : ∃ env, loopK (call pg) pg.G [1, 2, 5, 6] fc9_b0 (vsS a op a.ks.length) = some (.exit 0, ⟨env, ⟨[a.cells.map .p], []⟩⟩) ∧ env.get 1 = .p (.int .u8 op) ∧ env.get 2 = .box 0 0 ∧ env.get 5 = .p (.bool true) := by
    refine ⟨[(1, .p (.int .u8 op)), (2, .box 0 0), (5, .p (.bool true)), (6, .p (.int .i64 a.ks.length)), (25, .p (.bool false))], loopK_out (o := .exit 0) ?_ (by simp), rfl, rfl, rfl⟩
    simp [fc9_b0, evKC, evK, put, Env.get, Env.keep, Opd.ev, binD, mapO, D.ren, locD, below, Out.ren, List.map, hk0, hld]
  induction n with
  | zero =>
    intro k hn hk
    have he : k = a.ks.length := by omega
    subst he
    exact hend
  | succ n IH =>
    intro k hn hk
    by_cases he : k = a.ks.length
    · subst he; exact hend
    · have hlt : k < a.ks.length := by omega
      have hlt' : (k : Int) < (a.ks.length : Int) := by omega
      obtain ⟨env, e1, e2⟩ := IH (k + 1) (by omega) (by omega)
      refine ⟨env, ?_, e2⟩
      rw [← e1]
      have hsk := size_kid (List.getElem_mem hlt)
      have hval := valid_eq (a := a.ks[k]) (by omega)
      rw [hv _ (List.getElem_mem hlt)] at hval
      have hia := ia_kids hlt
      have hld2 := fun (G : Nat → Option (List PD)) (H : Hp) => load_nd (G := G) (H := H) a.ks[k]
      have hk1 := inc64 (k := k) (by omega)
      refine loopK_norm ?_
      generalize a.ks[k] = x at *
      simp [vsS, fc9_b0, evKC, evK, put, Env.get, Env.keep, Opd.ev, D.asInt?, binD, unD, mapO, D.ren, locD, below, Out.ren, List.map, hk0, hld, hlt', hia, hld2, hval, hk1]
theorem pd_mk (op : Int) (nm : List UInt8) (n : Int) (c : Nat) (ks : List Nd) (pos : Int) : (Nd.mk op nm n c ks pos).pd = .agg [.int .i64 op, .str nm, .int .i64 n, (Nd.mk op nm n c ks pos).kidsP, .int .i64 pos] := by
  rw [pd_cells]; rfl
theorem kids_same (op op' : Int) (nm nm' : List UInt8) (n n' : Int) (c : Nat) (ks : List Nd) (pos pos' : Int) : (Nd.mk op nm n c ks pos).kidsP = (Nd.mk op' nm' n' c ks pos').kidsP := rfl
theorem own_len {a : Nd} (h : ownN a = true) : a.nm.length ≤ 16 := by
  unfold ownN ownB at h
  split at h
  · rw [Bool.and_eq_true] at h
    have := h.1
    simp only [isNm, Bool.and_eq_true] at this
    exact of_decide_eq_true this.2.1
  · split at h
    · rw [Bool.and_eq_true] at h
      rw [eq_of_beq h.1]; simp
    · split at h
      · rw [Bool.and_eq_true] at h
        rw [eq_of_beq h.1]; simp
      · rw [Bool.and_eq_true] at h
        rw [eq_of_beq h.1]; simp
theorem kids_cells (a : Nd) : a.kidsP.cells = [a.kidsP] := by
  have h := pone_kids a
  generalize a.kidsP = K at *
  cases K <;> first | rfl | cases h
theorem law9 (a : Nd) (op : Nat) (hop : op < 256) : ∃ H', call pg 9 [.p a.pd, .p (.int .u8 op)] ⟨[], []⟩ = some (.val (.p (.bool true)), H') := by
  have o1 := one_all a
  have hfew := few_eq a
  have hhead := head13_call
  have lnd : ∀ G tk, loadD G ⟨[a.cells.map .p], tk⟩ (some 5) (.box 0 0) = some (.p a.pd) := fun G tk => load_ndb (i := 0) rfl
  by_cases hs : a.size ≤ 400
  · have hval := valid_eq (a := a) (by omega)
    cases hv : validN a with
    | false =>
      rw [hv] at hval
      rw [pd_cells] at lnd hfew hval ⊢
      refine ⟨_, call_body (fc := fc9) rfl rfl rfl rfl (r := (_, ⟨[a.cells.map .p], []⟩)) ?_⟩
      simp [fc9, evKC, evK, evGuard, put, Env.get, Env.keep, entry, Opd.ev, unD, finish, evRes, evRes1, D.cells, o1, lnd, hhead, hfew, hval, hs]
    | true =>
      rw [hv] at hval
      obtain ⟨hlen, hown, hfit, _⟩ := valid_parts hv
      have hnl := own_len hown
      obtain ⟨env, l1, l2, l3, l4⟩ := vs_loop (a := a) (fun x hx => valid_kid hv hx) (by omega) (op : Int) a.ks.length 0 (by omega) (by omega)
      have v1 := valid_eq (a := moreN a) (by rw [size_more]; omega)
      have v2 := valid_eq (a := otherN a (52 + (op : Int))) (by have : (otherN a (52 + (op : Int))).size = a.size := by rw [size_eq, size_eq a]; rfl
                                                                omega)
      have v3 := valid_eq (a := namedN a) (by have : (namedN a).size = a.size := by rw [size_eq, size_eq a]; rfl
                                              omega)
      have v4 := valid_eq (a := oddN a) (by have : (oddN a).size = a.size := by rw [size_eq, size_eq a]; rfl
                                            omega)
      rw [not_valid_fits (a := moreN a) (more_not hfit)] at v1
      rw [not_valid_fits (a := otherN a (52 + (op : Int))) (other_not (show (52 : Int) ≤ 52 + (op : Int) by omega) a.ks)] at v2
      rw [not_valid_own (a := namedN a) (named_not a.op a.n a.nm)] at v3
      rw [not_valid_own (a := oddN a) (odd_not a.op a.nm)] at v4
      rw [pd_cells] at v1 v2 v3 v4 hval hfew lnd ⊢
      have k1 : (moreN a).cells = [.int .i64 a.op, .str a.nm, .int .i64 a.n, .slice 5 (a.ks.map Nd.pd ++ [noA.pd]), .int .i64 a.pos] := by rw [Nd.cells, more_kids]; rfl
      have k2 : (otherN a (52 + (op : Int))).cells = [.int .i64 (52 + (op : Int)), .str a.nm, .int .i64 a.n, a.kidsP, .int .i64 a.pos] := rfl
      have k3 : (namedN a).cells = [.int .i64 a.op, .str (a.nm ++ [33]), .int .i64 a.n, a.kidsP, .int .i64 a.pos] := rfl
      have k4 : (oddN a).cells = [.int .i64 a.op, .str a.nm, .int .i64 1000, a.kidsP, .int .i64 a.pos] := rfl
      have hno : noA.pd = .agg [.int .i64 35, .str [], .int .i64 0, .slice 5 [aN.pd], .int .i64 0] := rfl
      have hc1 := aN_call
      have hc2 := noA_call
      rw [k1, hno] at v1
      rw [k2] at v2
      rw [k3] at v3
      rw [k4] at v4
      rw [hno] at hc2
      have hsrc := fun H => src_kids H a
      have hsf : ∀ (H : Hp) (e : Nat) (l : List PD), srcH H 5 (.fsl e 5 l) = some l := fun _ _ _ => rfl
      have hone := one_kids a
      have hpone := pone_kids a
      have hkc := kids_cells a
      have hr1 : roomy a.ks.length 64 = true := by simp [roomy]; omega
      have hr2 : roomy (a.ks.length + 1) 64 = true := by simp [roomy]; omega
      have w1 : IntKind.i64.wrap (op : Int) = op := wrap64 (by omega) (by omega)
      have w2 : IntKind.i64.wrap (52 + (op : Int)) = 52 + op := wrap64 (by omega) (by omega)
      have hnl' : a.nm.length + 1 ≤ 140737488355328 := by omega
      simp only [vsS, Int.natCast_zero, Nd.cells, List.map_cons, List.map_nil] at l1
      simp only [Nd.cells] at hval hfew lnd o1 ⊢
      simp only [List.map_cons, List.map_nil] at lnd
      generalize a.kidsP = K at *
      refine ⟨_, call_body (fc := fc9) rfl rfl rfl rfl (r := (_, ⟨[[.p (.int .i64 a.op), .p (.str a.nm), .p (.int .i64 a.n), .p K, .p (.int .i64 a.pos)], [.p (.int .i64 a.op), .p (.str a.nm), .p (.int .i64 a.n), .p (.slice 5 (a.ks.map Nd.pd ++ [.agg [.int .i64 35, .str [], .int .i64 0, .slice 5 [aN.pd], .int .i64 0]])), .p (.int .i64 a.pos)],
        [.p (.int .i64 (52 + (op : Int))), .p (.str a.nm), .p (.int .i64 a.n), .p K, .p (.int .i64 a.pos)], [.p (.int .i64 a.op), .p (.str (a.nm ++ [33])), .p (.int .i64 a.n), .p K, .p (.int .i64 a.pos)], [.p (.int .i64 a.op), .p (.str a.nm), .p (.int .i64 1000), .p K, .p (.int .i64 a.pos)]], []⟩)) ?_⟩
      simp [fc9, evKC, evK, evGuard, put, Env.get, Env.keep, entry, Opd.ev, loadD, storeD, splice, cutAt, D.asInt?, binD, strBin, unD, sub, finish, evRes, evRes1, mapO, D.cells, PD.cells, mkAgg, pures, fillE, appendD, D.asPD, isMapC, D.renL, D.ren, locD, below, Out.ren, List.map, hone, hhead, hfew, hval, hs, l1, l2, l3, l4, hsrc, hsf, hr1, hr2, hc1, hc2, w1, w2, hnl', v1, v2, v3, v4]
  · rw [pd_cells] at lnd hfew ⊢
    refine ⟨_, call_body (fc := fc9) rfl rfl rfl rfl (r := (_, ⟨[a.cells.map .p], []⟩)) ?_⟩
    simp [fc9, evKC, evK, evGuard, put, Env.get, Env.keep, entry, Opd.ev, unD, finish, evRes, evRes1, D.cells, o1, lnd, hhead, hfew, hs]

end Go.Proofs.YtalgjkpkkdljaaaGreatDoor

namespace Go.Proofs.YtalgjkpkkdljaaaGreatDoor
open Go.Vs Go.ChangeShapes Go.WideShapes Go.RowKit
theorem list_of {α : Type} {f : α → PD} : ∀ {es : List PD}, (∀ x ∈ es, ∃ a, x = f a) → ∃ l : List α, es = l.map f
  | [], _ => ⟨[], rfl⟩
  | x :: es, h => by
    obtain ⟨a, rfl⟩ := h x (by simp)
    obtain ⟨l, rfl⟩ := list_of (es := es) fun y hy => h y (by simp [hy])
    exact ⟨a :: l, rfl⟩
theorem arg_sl {t e sz : Nat} {α : Type} {f : α → PD} {xs : List PD} (ht : Tryz.prog.underlying t = some (.slice e)) (hc : Tryz.prog.cellsOf e = sz) (h : TyP Tryz.prog t xs)
    (he : ∀ es x, xs = [.slice sz es] → x ∈ es → TyP Tryz.prog e x.cells → x = mkE Tryz.prog e x.cells → ∃ a, x = f a) : ∃ o : Sl α, xs = [slP sz (o.map f)] := by
  subst hc
  rcases typ_slice ht h with rfl | rfl | ⟨es, hne, hl, rfl, h1, h2⟩
  · exact ⟨.nil, rfl⟩
  · exact ⟨.of [], rfl⟩
  · obtain ⟨l, rfl⟩ := list_of fun x hx => he es x rfl hx (h1 x hx) (h2 x hx)
    refine ⟨.of l, ?_⟩
    cases l with
    | nil => exact absurd rfl hne
    | cons z zs => rfl
theorem sl_nd (o : Sl Nd) : ∃ c ks, o = ndSl c ks := by
  match o with
  | .nil => exact ⟨0, [], rfl⟩
  | .amb => exact ⟨1, [], rfl⟩
  | .of [] => exact ⟨2, [], rfl⟩
  | .of (x :: l) => exact ⟨2, x :: l, rfl⟩
theorem arg_node : ∀ (n : Nat) (xs : List PD), SizeOf.sizeOf xs ≤ n → TyP Tryz.prog 39 xs → ∃ a : Nd, xs = a.cells := by
  intro n
  induction n with
  | zero => intro xs h; cases xs <;> simp at h
  | succ n ih =>
    intro xs hs h
    obtain ⟨parts, rfl, hl, hf⟩ := typ_struct Tryz.underlying39 h
    match parts, hl with
    | [a, b, c, d, e], _ =>
      obtain ⟨op, rfl, _⟩ := typ_int Tryz.underlying3 (hf 0 _ a rfl rfl)
      obtain ⟨nm, rfl, _⟩ := typ_str Tryz.underlying9 (hf 1 _ b rfl rfl)
      obtain ⟨k, rfl, _⟩ := typ_int Tryz.underlying3 (hf 2 _ c rfl rfl)
      obtain ⟨pos, rfl, _⟩ := typ_int Tryz.underlying3 (hf 4 _ e rfl rfl)
      have hd := hf 3 _ d rfl rfl
      obtain ⟨o, rfl⟩ := arg_sl (f := Nd.pd) (sz := 5) Tryz.underlying37 (by kernel_rfl) hd fun es x hes hx h1 h2 => by
        rw [mkE_struct Tryz.underlying39] at h2
        have hlt : SizeOf.sizeOf x < SizeOf.sizeOf es := List.sizeOf_lt_of_mem hx
        have hx2 : SizeOf.sizeOf x = 1 + SizeOf.sizeOf x.cells := by
          have : SizeOf.sizeOf (PD.agg x.cells) = 1 + SizeOf.sizeOf x.cells := by simp
          rw [← h2] at this; exact this
        subst hes
        simp at hs
        obtain ⟨y, hy⟩ := ih x.cells (by omega) h1
        exact ⟨y, by rw [h2, hy, pd_cells]⟩
      obtain ⟨c, ks, rfl⟩ := sl_nd o
      exact ⟨.mk op nm k c ks pos, by simp [Nd.cells, Nd.op, Nd.nm, Nd.n, Nd.pos, Nd.kidsP, Nd.c, Nd.ks]⟩
theorem node_of {xs : List PD} (h : TyP Tryz.prog 39 xs) : ∃ a : Nd, xs = a.cells := arg_node _ _ (Nat.le_refl _) h
abbrev argTs : List TypeId := [39, 37, 3, 9, 4]
theorem argTs_ok : argTs.all (tyOk Tryz.prog argTs) = true := by kernel_rfl

set_option maxRecDepth 20000 in
theorem rep_node {H : Type} {enc : TypeId × Value → H} {W : World} {r : Reach} {b0 : Nat} {v : Value} {d : DataW H} {ps : List MemPlace}
    (hval : Value.okWide Tryz.prog W r b0 39 v) (hd : DataW.Trod enc Tryz.prog W 0 (fun _ => true) true 39 v d ps) :
    ∃ a : Nd, RepD (gh0 W) v (.p a.pd) := by
  obtain ⟨x, h1, h2, h3, _⟩ := rep_any argTs_ok (by simp) hval hd
  obtain ⟨a, e⟩ := node_of h2
  have hx := h3 ⟨_, Tryz.underlying39⟩
  exact ⟨a, by rw [pd_cells, ← e, ← hx]; exact h1⟩

end Go.Proofs.YtalgjkpkkdljaaaGreatDoor

namespace Go.Proofs.YtalgjkpkkdljaaaGreatDoor
open Go.Vs
structure Tok where
  k : Int
  t : List UInt8
  p : Nat
deriving DecidableEq
def Tok.pd (x : Tok) : PD := .agg [.int .i64 x.k, .str x.t, .int .i64 x.p]
structure Bin where
  lv : Nat
  r : Bool
  rel : Int
  alt : Int
def Bin.pd (b : Bin) : PD := .agg [.int .i64 b.lv, .bool b.r, .int .i64 b.rel, .int .i64 b.alt]
def binT : List (List UInt8 × Bin) := [([38], ⟨10, false, 7, 0⟩), ([43], ⟨8, false, 6, 22⟩), ([45], ⟨8, false, 8, 23⟩), ([46], ⟨12, false, 9, 0⟩), ([60], ⟨7, false, 0, 39⟩), ([61], ⟨7, false, 33, 38⟩), ([33, 61], ⟨7, false, 33, 38⟩), ([38, 38], ⟨4, false, 0, 41⟩), ([43, 43], ⟨9, false, 14, 0⟩), ([45, 62], ⟨11, false, 10, 0⟩), ([60, 61], ⟨7, false, 0, 39⟩), ([61, 62], ⟨2, true, 0, 43⟩), ([105, 110], ⟨7, false, 32, 0⟩), ([124, 124], ⟨3, false, 0, 42⟩), ([60, 61, 62], ⟨1, false, 0, 44⟩), ([117, 110, 116, 105, 108], ⟨5, true, 0, 51⟩)]
structure Pre where
  lv : Nat
  op : Int
def Pre.pd (b : Pre) : PD := .agg [.int .i64 b.lv, .int .i64 b.op]
def preT : List (List UInt8 × Pre) := [([35], ⟨12, 21⟩), ([42], ⟨13, 13⟩), ([94], ⟨13, 12⟩), ([126], ⟨13, 11⟩), ([110, 111], ⟨8, 35⟩), ([110, 111, 116], ⟨6, 40⟩), ([111, 110, 101], ⟨8, 36⟩), ([108, 111, 110, 101], ⟨8, 37⟩), ([115, 111, 109, 101], ⟨8, 34⟩), ([97, 102, 116, 101, 114], ⟨6, 50⟩), ([97, 108, 119, 97, 121, 115], ⟨6, 48⟩), ([101, 118, 101, 110, 116, 117, 97, 108, 108, 121], ⟨6, 49⟩)]
def lookT {α : Type} : List (List UInt8 × α) → List UInt8 → Option α
  | [], _ => none
  | e :: t, k => if e.1 = k then some e.2 else lookT t k
def mapT {α : Type} (f : α → PD) (t : List (List UInt8 × α)) : List D := [.mapc 2 (t.map fun e => .str e.1) (t.map fun e => .p (f e.2))]
abbrev tabB : List D := mapT Bin.pd binT
abbrev tabU : List D := mapT Pre.pd preT
def getT {α : Type} (f : α → PD) (z : PD) (t : List (List UInt8 × α)) (k : List UInt8) : D := match lookT t k with
  | some w => .tup [.p (f w), .p (.bool true)]
  | none => .tup [.p z, .p (.bool false)]
theorem findK_lookT {α : Type} (f : α → PD) (z : PD) (k : List UInt8) : ∀ (t : List (List UInt8 × α)), (match findK (.str k) (t.map fun e => PD.str e.1) with
    | some j => ((t.map fun e => D.p (f e.2))[j]?).map fun v => D.tup [v, .p (.bool true)]
    | none => some (.tup [.p z, .p (.bool false)])) = some (getT f z t k) := by
  intro t
  induction t with
  | nil => rfl
  | cons e t ih =>
    simp only [List.map_cons, findK, getT, lookT] at ih ⊢
    by_cases h : e.1 = k
    · subst h
      simp [keyEq]
    · have h1 : keyEq (.str k) (.str e.1) = false := by simp [keyEq]; exact fun q => h q.symm
      simp only [h1, if_neg h, Bool.false_eq_true, if_false]
      rw [← ih]
      cases findK (.str k) (t.map fun e => PD.str e.1) <;> simp
theorem get_mapT {α : Type} {f : α → PD} {z : PD} {t : List (List UInt8 × α)} {H : Hp} {i : Nat} (h : H.bx[i]? = some (mapT f t)) (k : List UInt8) : mapgetD 2 z true (.mapr i) (.p (.str k)) H = some (getT f z t k) := by
  have := findK_lookT f z k t
  simp only [mapgetD, h, mapT]
  have hk : keyKind (.str k) = 2 := rfl
  simp only [hk, true_and, ne_eq]
  exact this
def isTab (t : List D) : Option (Res × Hp) → Bool
  | some (.val (.mapr 0), ⟨[b], []⟩) => D.eqbL b t
  | _ => false
theorem isTab_eq {t : List D} {x : Option (Res × Hp)} (h : isTab t x = true) : x = some (.val (.mapr 0), ⟨[t], []⟩) := by
  unfold isTab at h
  split at h
  · rename_i b
    rw [D.eqbL_eq _ _ h]
  · cases h
theorem ops_run : isTab tabB (evF pg 10 70 [] ⟨[], []⟩) = true := by kernel_rfl
theorem pre_run : isTab tabU (evF pg 10 71 [] ⟨[], []⟩) = true := by kernel_rfl
theorem ops0 : call pg 70 [] ⟨[], []⟩ = some (.val (.mapr 0), ⟨[tabB], []⟩) := call_of_evF 10 (isTab_eq ops_run)
theorem pre0 : call pg 71 [] ⟨[], []⟩ = some (.val (.mapr 0), ⟨[tabU], []⟩) := call_of_evF 10 (isTab_eq pre_run)
structure Rd where
  l : Sl Tok
  e : Nat
  X : List D
  tk : List Nat
def Rd.ts (c : Rd) : List Tok := els c.l
structure Rd.Ok (c : Rd) : Prop where
  len : c.X.length = 5
  refs : D.refsL c.X = []
  toks : ins [] (D.toksL c.X) = List.range c.tk.length
  id : ∀ bi ti, (∀ t, t < c.tk.length → ti t = some t) → D.renL bi ti c.X = some c.X
  fz : ∀ H, c.X.map (D.frz 4 H 8) = c.X
theorem idx_range : ∀ (k n t : Nat), t < n → idx (List.range' k n) (k + t) = some t := by
  intro k n
  induction n generalizing k with
  | zero => intro t h; omega
  | succ n ih =>
    intro t h
    simp only [List.range'_succ, idx]
    match t with
    | 0 => simp
    | t + 1 =>
      have := ih (k + 1) t (by omega)
      have e : k + (t + 1) = k + 1 + t := by omega
      rw [if_neg (by omega), e, this]
      rfl
theorem Rd.Ok.ren {c : Rd} (h : c.Ok) (bi : Nat → Option Nat) : D.renL bi (idx (List.range c.tk.length)) c.X = some c.X := h.id _ _ fun t ht => by
  have := idx_range 0 c.tk.length t ht
  rw [List.range_eq_range']
  simpa using this
theorem Rd.Ok.back {c : Rd} (h : c.Ok) (bi : Nat → Option Nat) : D.renL bi (fun t => (List.range c.tk.length)[t]?) c.X = some c.X := h.id _ _ fun t ht => by simp [ht]
theorem Rd.Ok.sb {c : Rd} (h : c.Ok) (bi : Nat → Option Nat) : D.renL bi some c.X = some c.X := h.id _ _ fun _ _ => rfl
theorem Rd.Ok.lb {c : Rd} (h : c.Ok) (bi : Nat → Option Nat) : D.renL bi (below c.tk.length) c.X = some c.X := h.id _ _ fun t ht => by simp [below, ht]
theorem Rd.Ok.lb' {c : Rd} (h : c.Ok) (bi : Nat → Option Nat) (n : Nat) (hn : c.tk.length ≤ n) : D.renL bi (below n) c.X = some c.X := h.id _ _ fun t ht => by simp [below]; omega
def rC (c : Rd) (a o : Nat) : List D := .p (slP 3 (c.l.map Tok.pd)) :: .p (.int .i64 a) :: .p (.int .i64 c.e) :: .p (.int .i64 o) :: .mapr 1 :: .mapr 2 :: .mapr 3 :: c.X
def rH (c : Rd) (a o : Nat) (bx : List (List D)) (t : List Nat) : Hp := ⟨rC c a o :: tabB :: tabU :: tabS :: bx, c.tk ++ t⟩
theorem refs_p (l : List PD) : D.refsL (l.map .p) = [] := by
  induction l with
  | nil => rfl
  | cons a l ih => simp [D.refsL, D.refs, ih]
theorem refs_rC {c : Rd} (h : c.Ok) (a o : Nat) : D.refsL (rC c a o) = [1, 2, 3] := by
  simp [rC, D.refsL, D.refs, h.refs]
theorem toks_rC (c : Rd) (a o : Nat) : D.toksL (rC c a o) = D.toksL c.X := by
  simp [rC, D.toksL, D.toks]
theorem ren_rC {c : Rd} {bi ti : Nat → Option Nat} (h1 : bi 1 = some 1) (h2 : bi 2 = some 2) (h3 : bi 3 = some 3) (h : D.renL bi ti c.X = some c.X) (a o : Nat) : D.renL bi ti (rC c a o) = some (rC c a o) := by
  simp [rC, D.renL, D.ren, h1, h2, h3, h]
theorem reach_rH {c : Rd} (h : c.Ok) (a o : Nat) (bx : List (List D)) (t : List Nat) : reach (rH c a o bx t) (rH c a o bx t).bx.length [0] = [0, 1, 2, 3] := by
  have r0 : boxRefs (rH c a o bx t) [0] = [1, 2, 3] := by
    simp only [boxRefs, rH, List.getElem?_cons_zero, refs_rC h, List.append_nil]
  have r1 : boxRefs (rH c a o bx t) [0, 1, 2, 3] = [1, 2, 3] := by
    simp only [boxRefs, rH, List.getElem?_cons_zero, List.getElem?_cons_succ, refs_rC h, List.append_nil]
    rfl
  have e : (rH c a o bx t).bx.length = bx.length + 2 + 1 + 1 := rfl
  rw [e]
  have s1 : reach (rH c a o bx t) (bx.length + 2 + 1 + 1) [0] = reach (rH c a o bx t) (bx.length + 2 + 1) [0, 1, 2, 3] := by
    simp only [reach, r0]; rfl
  rw [s1]
  have s2 : reach (rH c a o bx t) (bx.length + 2 + 1) [0, 1, 2, 3] = [0, 1, 2, 3] := by
    have q : ins [0, 1, 2, 3] [1, 2, 3] = [0, 1, 2, 3] := rfl
    have : ∀ n, reach (rH c a o bx t) n [0, 1, 2, 3] = [0, 1, 2, 3] := fun n => by
      induction n with
      | zero => rfl
      | succ n ih => simp only [reach, r1, q, ih]
    exact this _
  exact s2
theorem mapO_range {l r : List Nat} : mapO (fun t => (l ++ r)[t]?) (List.range l.length) = some l := by
  have : ∀ (k : Nat) (m : List Nat), m = l.drop k → k ≤ l.length → mapO (fun t => (l ++ r)[t]?) (List.range' k m.length) = some m := by
    intro k m
    induction m generalizing k with
    | nil => intro _ _; rfl
    | cons x m ih =>
      intro e hk
      have hk' : k < l.length := by
        have := congrArg List.length e
        simp at this; omega
      have hx : l[k]? = some x := by
        have := congrArg (·[0]?) e
        simpa using this.symm
      have hm : m = l.drop (k + 1) := by
        have := congrArg List.tail e
        simpa using this
      simp only [List.length_cons, List.range'_succ, mapO]
      rw [List.getElem?_append_left hk', hx]
      have := ih (k + 1) hm (by omega)
      rw [this]
      rfl
  have h := this 0 l (by simp) (by omega)
  rw [List.range_eq_range']
  exact h
theorem nodup_range (n : Nat) : Vs.nodupB (List.range n) = true := by
  have : ∀ (m k : Nat), Vs.nodupB (List.range' k m) = true := by
    intro m
    induction m with
    | zero => intro k; rfl
    | succ m ih =>
      intro k
      simp only [List.range'_succ, Vs.nodupB, ih, Bool.and_true, Bool.not_eq_true', List.contains_eq_mem, decide_eq_false_iff_not]
      simp [List.mem_range']
      omega
  rw [List.range_eq_range']
  exact this n 0
theorem mapO_range' {l r : List Nat} : mapO (fun t => (l ++ r)[t]?) (List.range l.length) = some l := mapO_range
theorem putAll_range {α : Type} (m : List α) : ∀ (r l : List α), l.length = m.length → putAll (l ++ r) (List.range l.length) m = m ++ r := by
  have : ∀ (n : Nat) (pre l r m : List α), l.length = n → m.length = n → putAll (pre ++ l ++ r) (List.range' pre.length n) m = pre ++ m ++ r := by
    intro n
    induction n with
    | zero =>
      intro pre l r m h1 h2
      rw [List.length_eq_zero_iff] at h1 h2
      subst h1 h2
      rfl
    | succ n ih =>
      intro pre l r m h1 h2
      match l, m, h1, h2 with
      | x :: l, y :: m, h1, h2 =>
        simp only [List.range'_succ, putAll]
        have e : (pre ++ x :: l ++ r).set pre.length y = (pre ++ [y]) ++ l ++ r := by simp
        rw [e]
        have := ih (pre ++ [y]) l r m (by simpa using h1) (by simpa using h2)
        simp only [List.length_append, List.length_cons, List.length_nil] at this
        rw [this]
        simp
  intro r l h
  have h2 := this l.length [] l r m rfl h.symm
  simp only [List.nil_append, List.length_nil] at h2
  rw [List.range_eq_range', h2]
theorem callD_rdG {g : Nat} {args : List D} {c c' : Rd} (hc : c.Ok) (hc' : c'.Ok) (ht : c'.tk.length = c.tk.length) {a o a' o' : Nat} {bx : List (List D)} {t : List Nat} {r : Res} {ex : List (List D)} {et : List Nat}
    (i1 : ins [] (D.refsL args) = [0]) (e2 : D.toksL args = []) (e4 : ∀ f, D.renL (idx [0, 1, 2, 3]) f args = some args)
    (hd : ∀ bi ti, r.ren bi ti = some r) (h : call pg g args (rH c a o [] []) = some (r, rH c' a' o' ex et)) :
    callD (call pg) g args (rH c a o bx t) = some (r, rH c' a' o' bx t) := by
  have e3 : boxToks (rH c a o bx t) [0, 1, 2, 3] = D.toksL c.X := by
    simp only [boxToks, rH, List.getElem?_cons_zero, List.getElem?_cons_succ, toks_rC, List.append_nil]
    exact List.append_nil _
  have e5 : mapO (fun i => match (rH c a o bx t).bx[i]? with | some cs => D.renL (idx [0, 1, 2, 3]) (idx (List.range c.tk.length)) cs | none => none) [0, 1, 2, 3] = some [rC c a o, tabB, tabU, tabS] := by
    simp only [mapO, rH, List.getElem?_cons_zero, List.getElem?_cons_succ, ren_rC (c := c) (bi := idx [0, 1, 2, 3]) rfl rfl rfl (hc.ren _)]
    rfl
  have e6 : mapO (fun j => (rH c a o bx t).tk[j]?) (List.range c.tk.length) = some c.tk := mapO_range
  have e7 := reach_rH hc a o bx t
  have n1 : (Vs.nodupB [0, 1, 2, 3] && Vs.nodupB (List.range c.tk.length)) = true := by rw [nodup_range]; rfl
  have h' : call pg g args ⟨[rC c a o, tabB, tabU, tabS], c.tk⟩ = some (r, rH c' a' o' ex et) := by
    have : rH c a o [] [] = ⟨[rC c a o, tabB, tabU, tabS], c.tk⟩ := by simp [rH]
    rw [← this]; exact h
  have e8 : back [0, 1, 2, 3] (List.range c.tk.length) (rH c a o bx t) r (rH c' a' o' ex et) = some (r, rH c' a' o' bx t) := by
    have k1 : firstN (rH c' a' o' ex et).bx 4 = some [rC c' a' o', tabB, tabU, tabS] := by simp [firstN, rH]
    have k2 : firstN (rH c' a' o' ex et).tk (List.range c.tk.length).length = some c'.tk := by
      simp only [firstN, rH, List.length_range, List.length_append, ht, Nat.le_add_right, if_true]
      rw [← ht, List.take_left]
    have hb := hc'.back (fun i => [0, 1, 2, 3][i]?)
    rw [ht] at hb
    have k3 : mapO (D.renL (fun i => [0, 1, 2, 3][i]?) (fun t => (List.range c.tk.length)[t]?)) [rC c' a' o', tabB, tabU, tabS] = some [rC c' a' o', tabB, tabU, tabS] := by
      simp only [mapO, ren_rC (c := c') (bi := fun i => [0, 1, 2, 3][i]?) rfl rfl rfl hb]
      rfl
    simp only [back, List.length_cons, List.length_nil, k1, k2, k3, hd]
    have p1 : putAll (rH c a o bx t).bx [0, 1, 2, 3] [rC c' a' o', tabB, tabU, tabS] = rC c' a' o' :: tabB :: tabU :: tabS :: bx := rfl
    have p2 : putAll (rH c a o bx t).tk (List.range c.tk.length) c'.tk = c'.tk ++ t := putAll_range c'.tk t c.tk ht.symm
    rw [p1, p2]; rfl
  have i2 : ins [] (D.toksL c.X) = List.range c.tk.length := hc.toks
  simp only [callD, i1, e7, e2, List.nil_append, e3, i2, n1, if_true, e4, e6]
  erw [e5]
  simp only [h', e8]
theorem callD_rd {g : Nat} {args : List PD} {c c' : Rd} (hc : c.Ok) (hc' : c'.Ok) (ht : c'.tk.length = c.tk.length) {a o a' o' : Nat} {bx : List (List D)} {t : List Nat} {r : Res} {ex : List (List D)} {et : List Nat}
    (hd : ∀ bi ti, r.ren bi ti = some r) (h : call pg g (.box 0 0 :: args.map .p) (rH c a o [] []) = some (r, rH c' a' o' ex et)) :
    callD (call pg) g (.box 0 0 :: args.map .p) (rH c a o bx t) = some (r, rH c' a' o' bx t) :=
  callD_rdG hc hc' ht (by simp [D.refsL, D.refs, ins]) (by
    have : ∀ l : List PD, D.toksL (l.map .p) = [] := fun l => by induction l with | nil => rfl | cons x l ih => simp [D.toksL, D.toks, ih]
    simp [D.toksL, D.toks, this]) (fun f => by
    have : ∀ l : List PD, D.renL (idx [0, 1, 2, 3]) f (l.map .p) = some (l.map .p) := fun l => by induction l with | nil => rfl | cons x l ih => simp [D.renL, D.ren, ih]
    simp [D.renL, D.ren, idx]) hd h

end Go.Proofs.YtalgjkpkkdljaaaGreatDoor

namespace Go.Proofs.YtalgjkpkkdljaaaGreatDoor.Lx
open Go.Vs
def ch (s : List UInt8) (i : Nat) : UInt8 := s.getD i 0
def leB (c : UInt8) : Bool := 65 ≤ c && c ≤ 90 || 97 ≤ c && c ≤ 122
def diB (c : UInt8) : Bool := 48 ≤ c && c ≤ 57
def wrB (c : UInt8) : Bool := leB c || diB c || c == 95
def blB (c : UInt8) : Bool := c == 32 || c == 9 || c == 10 || c == 13
theorem ch_get {s : List UInt8} {i : Nat} (h : i < s.length) : s[i]? = some (ch s i) := by simp [ch, List.getD_eq_getElem?_getD, h]
theorem all_bytes {p : UInt8 → Prop} [DecidablePred p] (h : ∀ n : Fin 256, p (UInt8.ofNat n.val)) (c : UInt8) : p c := by
  have := h ⟨c.toNat, c.toNat_lt⟩
  simpa using this
def low (c : UInt8) : Nat := (c ||| 32).toNat
theorem or32 (c : UInt8) : intBin .or .u8 c.toNat 32 = some (.int .u8 (low c)) := by
  have : ∀ n : Fin 256, (IntKind.u8.wrap ((BitVec.ofInt 8 ((UInt8.ofNat n.val).toNat : Int) ||| BitVec.ofInt 8 32).toNat) = (low (UInt8.ofNat n.val) : Int)) := by decide +kernel
  have h := all_bytes (p := fun c => IntKind.u8.wrap ((BitVec.ofInt 8 (c.toNat : Int) ||| BitVec.ofInt 8 32).toNat) = (low c : Int)) this c
  exact congrArg (fun z => some (PD.int .u8 z)) h
theorem leB_iff (c : UInt8) : leB c = (decide (97 ≤ low c) && decide (low c ≤ 122)) :=
  all_bytes (p := fun c => leB c = (decide (97 ≤ low c) && decide (low c ≤ 122))) (by decide +kernel) c
theorem isD_iff (c : UInt8) : diB c = (decide (48 ≤ c.toNat) && decide (c.toNat ≤ 57)) :=
  all_bytes (p := fun c => diB c = (decide (48 ≤ c.toNat) && decide (c.toNat ≤ 57))) (by decide +kernel) c
theorem letter_eq {s : List UInt8} {i : Nat} (h : i < s.length) : call pg 88 [.box 0 0] ⟨[[.p (.str s), .p (.int .i64 i)]], []⟩ = some (.val (.p (.bool (leB (ch s i)))), ⟨[[.p (.str s), .p (.int .i64 i)]], []⟩) := by
  have hs := ch_get h
  refine call_body (fc := fc88) rfl rfl rfl rfl ?_
  have h32 := or32 (ch s i)
  rw [leB_iff]
  simp [fc88, evKC, evK, evGuard, put, Env.get, Env.keep, entry, Opd.ev, loadD, cutAt, indexD, D.asInt?, u8, binD, clsP, cls, clsR, isCl, isW, apartRW, offB, apartWW, clash, insOk, finish, evRes, evRes1, Int.toNat_natCast, isMapC, hs, h32]
  by_cases h1 : (97 : Int) ≤ (low (ch s i) : Int)
  · have h2 : 97 ≤ low (ch s i) := by omega
    simp [evKC, evK, evGuard, put, Env.get, Env.keep, Opd.ev, binD, h1, h2]
    omega
  · have h2 : ¬ 97 ≤ low (ch s i) := by omega
    simp [evKC, evK, evGuard, put, Env.get, Env.keep, Opd.ev, h1, h2]
theorem digit_eq {s : List UInt8} {i : Nat} (h : i < s.length) : call pg 90 [.box 0 0] ⟨[[.p (.str s), .p (.int .i64 i)]], []⟩ = some (.val (.p (.bool (diB (ch s i)))), ⟨[[.p (.str s), .p (.int .i64 i)]], []⟩) := by
  have hs := ch_get h
  refine call_body (fc := fc90) rfl rfl rfl rfl ?_
  rw [isD_iff]
  simp [fc90, evKC, evK, evGuard, put, Env.get, Env.keep, entry, Opd.ev, loadD, cutAt, indexD, D.asInt?, u8, binD, clsP, cls, clsR, isCl, finish, evRes, evRes1, Int.toNat_natCast, isMapC, hs]
  by_cases h1 : (48 : Int) ≤ ((ch s i).toNat : Int)
  · have h2 : 48 ≤ (ch s i).toNat := by omega
    simp [evKC, evK, evGuard, put, Env.get, Env.keep, Opd.ev, loadD, cutAt, indexD, D.asInt?, u8, binD, clsP, cls, clsR, isCl, isW, apartRW, offB, apartWW, clash, insOk, Int.toNat_natCast, isMapC, hs, h1, h2]
    omega
  · have h2 : ¬ 48 ≤ (ch s i).toNat := by omega
    simp [evKC, evK, evGuard, put, Env.get, Env.keep, Opd.ev, clsP, cls, isW, apartRW, offB, apartWW, clash, insOk, h1, h2]
theorem inLine_eq {s : List UInt8} {i : Nat} (h : i < s.length) : call pg 87 [.box 0 0] ⟨[[.p (.str s), .p (.int .i64 i)]], []⟩ = some (.val (.p (.bool (ch s i != 10))), ⟨[[.p (.str s), .p (.int .i64 i)]], []⟩) := by
  have hs := ch_get h
  refine call_body (fc := fc87) rfl rfl rfl rfl ?_
  have : (((ch s i).toNat : Int) != 10) = (ch s i != 10) := all_bytes (p := fun c => ((c.toNat : Int) != 10) = (c != 10)) (by decide +kernel) _
  simp [fc87, evKC, evK, put, Env.get, Env.keep, entry, Opd.ev, loadD, cutAt, indexD, D.asInt?, u8, binD, clsP, cls, clsR, isCl, isW, apartRW, offB, apartWW, clash, insOk, finish, evRes, evRes1, Int.toNat_natCast, isMapC, hs, this]
theorem word_eq {s : List UInt8} {i : Nat} (h : i < s.length) : call pg 89 [.box 0 0] ⟨[[.p (.str s), .p (.int .i64 i)]], []⟩ = some (.val (.p (.bool (wrB (ch s i)))), ⟨[[.p (.str s), .p (.int .i64 i)]], []⟩) := by
  have hs := ch_get h
  refine call_body (fc := fc89) rfl rfl rfl rfl ?_
  have h95 : (((ch s i).toNat : Int) == 95) = (ch s i == 95) := all_bytes (p := fun c => ((c.toNat : Int) == 95) = (c == 95)) (by decide +kernel) _
  simp [fc89, evKC, evK, evGuard, put, Env.get, Env.keep, entry, Opd.ev, clsP, cls, isCl, finish, evRes, evRes1, mapO, D.refsL, D.refs, D.toksL, D.toks, callD, reach, boxRefs, boxToks, ins, Vs.nodupB, idx, D.renL, D.ren, back, firstN, putAll, Res.ren, List.map, letter_eq h]
  cases hl : leB (ch s i)
  · simp [evKC, evK, evGuard, put, Env.get, Opd.ev, clsP, cls, isCl, mapO, D.refsL, D.refs, D.toksL, D.toks, callD, reach, boxRefs, boxToks, ins, Vs.nodupB, idx, D.renL, D.ren, back, firstN, putAll, Res.ren, List.map, digit_eq h]
    cases hd : diB (ch s i)
    · simp [evKC, evK, evGuard, put, Env.get, Env.keep, Opd.ev, loadD, cutAt, indexD, D.asInt?, u8, binD, clsP, cls, clsR, isCl, isW, apartRW, offB, apartWW, clash, insOk, Int.toNat_natCast, isMapC, List.map, hs, h95, wrB, hl, hd]
    · simp [evKC, evK, evGuard, put, Env.get, Env.keep, Opd.ev, clsP, cls, isW, apartRW, offB, apartWW, clash, insOk, List.map, wrB, hl, hd]
  · simp [evKC, evK, evGuard, put, Env.get, Env.keep, Opd.ev, clsP, cls, isW, apartRW, offB, apartWW, clash, insOk, List.map, wrB, hl]

end Go.Proofs.YtalgjkpkkdljaaaGreatDoor.Lx

namespace Go.Proofs.YtalgjkpkkdljaaaGreatDoor.Lx
open Go.Vs
theorem lib40 (s : List UInt8) (c : UInt8) : call pg 144 [.p (.str s), .p (.int .u8 c.toNat)] ⟨[], []⟩ = some (.val (.p (.int .i64 (Lib.indexByte s c))), ⟨[], []⟩) := by
  refine call_lib ?_
  show some (Res.val (.p (.int .i64 (Lib.indexByte s (UInt8.ofNat ((c.toNat : Int)).toNat)))), (⟨[], []⟩ : Hp)) = _
  simp
theorem indexByte_eq (s : List UInt8) (c : UInt8) : call pg 129 [.p (.str s), .p (.int .u8 c.toNat)] ⟨[], []⟩ = some (.val (.p (.int .i64 (Lib.indexByte s c))), ⟨[], []⟩) := by
  refine call_body (fc := fc129) rfl rfl rfl rfl ?_
  simp [fc129, evKC, evK, put, Env.get, Env.keep, entry, Opd.ev, finish, evRes, evRes1, mapO, D.refsL, D.refs, D.toksL, D.toks, callD, reach, boxToks, ins, Vs.nodupB, idx, D.renL, D.ren, back, firstN, putAll, Res.ren, List.map, lib40]
theorem isB_idx (c : UInt8) : decide (0 ≤ Lib.indexByte [32, 9, 10, 13] c) = blB c := all_bytes (p := fun c => decide (0 ≤ Lib.indexByte [32, 9, 10, 13] c) = blB c) (by decide +kernel) c
theorem blank_eq {s : List UInt8} {i : Nat} (h : i < s.length) : call pg 85 [.box 0 0] ⟨[[.p (.str s), .p (.int .i64 i)]], []⟩ = some (.val (.p (.bool (blB (ch s i)))), ⟨[[.p (.str s), .p (.int .i64 i)]], []⟩) := by
  have hs := ch_get h
  refine call_body (fc := fc85) rfl rfl rfl rfl ?_
  simp [fc85, evKC, evK, put, Env.get, Env.keep, entry, Opd.ev, loadD, cutAt, indexD, D.asInt?, u8, binD, clsP, cls, clsR, isCl, isW, apartRW, offB, apartWW, clash, insOk, finish, evRes, evRes1, mapO, D.refsL, D.refs, D.toksL, D.toks, Int.toNat_natCast, isMapC, callD, reach, boxRefs, boxToks, ins, Vs.nodupB, idx, D.renL, D.ren, back, firstN, putAll, Res.ren, List.map, hs, indexByte_eq, ← isB_idx]
theorem hasPrefix38 (s p : List UInt8) : call pg 130 [.p (.str s), .p (.str p)] ⟨[], []⟩ = some (.val (.p (.bool (p.isPrefixOf s))), ⟨[], []⟩) := by
  refine call_body (fc := fc130) rfl rfl rfl rfl ?_
  simp [fc130, evKC, evK, evGuard, put, Env.get, Env.keep, entry, Opd.ev, binD, lenD, finish, evRes, evRes1]
  by_cases h : p.length ≤ s.length
  · have h2 : (s.take p.length == p) = p.isPrefixOf s := by
      rw [Bool.eq_iff_iff]
      simp only [beq_iff_eq, List.isPrefixOf_iff_prefix]
      constructor
      · intro e; rw [← e]; exact List.take_prefix _ _
      · intro e; exact (List.prefix_iff_eq_take.1 e).symm
    simp [evKC, evK, evGuard, put, Env.get, Env.keep, Opd.ev, D.asNat?, binD, strBin, lenD, boundsD, sliceD, sub, Int.toNat_natCast, h, h2]
  · have h2 : p.isPrefixOf s = false := by
      rw [Bool.eq_false_iff]
      intro e
      exact h (List.isPrefixOf_iff_prefix.1 e).length_le
    simp [evKC, evK, evGuard, put, Env.get, Env.keep, Opd.ev, h, h2]
theorem hasPrefix_eq (s p : List UInt8) : call pg 86 [.p (.str s), .p (.str p)] ⟨[], []⟩ = some (.val (.p (.bool (p.isPrefixOf s))), ⟨[], []⟩) := by
  refine call_body (fc := fc86) rfl rfl rfl rfl ?_
  simp [fc86, evKC, evK, put, Env.get, Env.keep, entry, Opd.ev, finish, evRes, evRes1, mapO, D.refsL, D.refs, D.toksL, D.toks, callD, reach, boxToks, ins, Vs.nodupB, idx, D.renL, D.ren, back, firstN, putAll, Res.ren, List.map, hasPrefix38]
def adv (w : UInt8 → Bool) (s : List UInt8) (i : Nat) : Nat := i + ((s.drop i).takeWhile w).length
theorem adv_le {w : UInt8 → Bool} {s : List UInt8} {i : Nat} (h : i ≤ s.length) : adv w s i ≤ s.length := by
  have := (List.takeWhile_prefix w (l := s.drop i)).length_le
  simp only [List.length_drop] at this
  unfold adv
  omega
theorem adv_step {w : UInt8 → Bool} {s : List UInt8} {i : Nat} (h : i < s.length) (hw : w (ch s i) = true) : adv w s i = adv w s (i + 1) := by
  unfold adv
  rw [List.drop_eq_getElem_cons h]
  have : s[i] = ch s i := by simp [ch, List.getD_eq_getElem?_getD, h]
  rw [this, List.takeWhile_cons, if_pos hw]
  simp; omega
theorem adv_stop {w : UInt8 → Bool} {s : List UInt8} {i : Nat} (h : i < s.length) (hw : w (ch s i) = false) : adv w s i = i := by
  unfold adv
  rw [List.drop_eq_getElem_cons h]
  have : s[i] = ch s i := by simp [ch, List.getD_eq_getElem?_getD, h]
  rw [this, List.takeWhile_cons, if_neg (by simp [hw])]
  simp
theorem adv_end {w : UInt8 → Bool} {s : List UInt8} {i : Nat} (h : s.length ≤ i) : adv w s i = i := by
  unfold adv
  rw [List.drop_eq_nil_of_le h]
  simp
def Want (g : Nat) (s : List UInt8) (w : UInt8 → Bool) : Prop :=
  ∀ i, i < s.length → call pg g [.box 0 0] ⟨[[.p (.str s), .p (.int .i64 i)]], []⟩ = some (.val (.p (.bool (w (ch s i)))), ⟨[[.p (.str s), .p (.int .i64 i)]], []⟩)
theorem while_loop {g : Nat} {s : List UInt8} {w : UInt8 → Bool} (hw : Want g s w) (hb : s.length ≤ 4611686018427387904) (d : D) (hd : d.ren (below 1) (below 0) = some d) : ∀ (n i : Nat), i ≤ s.length → n = s.length - i →
    loopK (call pg) pg.G [0, 1, 5] fc84_b0 ⟨[(0, .box 0 0), (1, .fn g [.box 0 0] []), (5, d)], ⟨[[.p (.str s), .p (.int .i64 i)]], []⟩⟩ =
      some (.exit 0, ⟨[(0, .box 0 0), (1, .fn g [.box 0 0] []), (5, d), (23, .p (.bool false))], ⟨[[.p (.str s), .p (.int .i64 (adv w s i))]], []⟩⟩) := by
  intro n
  induction n with
  | zero =>
    intro i hi hn
    have hi' : s.length ≤ i := by omega
    rw [adv_end hi']
    refine loopK_out ?_ (by simp)
    have h1 : ¬ (i < s.length) := by omega
    simp [fc84_b0, evKC, evK, evGuard, put, Env.get, Env.keep, Opd.ev, loadD, cutAt, binD, lenD, clsP, cls, clsR, isCl, isW, apartRW, offB, apartWW, clash, insOk, mapO, isMapC, D.renL, D.ren, locD, below, Out.ren, List.map, h1, hd]
  | succ n ih =>
    intro i hi hn
    have h1 : i < s.length := by omega
    have hwi := hw i h1
    cases hb2 : w (ch s i) with
    | false =>
      rw [hb2] at hwi
      rw [adv_stop h1 hb2]
      refine loopK_out ?_ (by simp)
      simp [fc84_b0, evKC, evK, evGuard, put, Env.get, Env.keep, Opd.ev, loadD, cutAt, binD, lenD, clsP, cls, clsR, isCl, isW, apartRW, offB, apartWW, clash, insOk, mapO, D.refsL, D.refs, D.toksL, D.toks, isMapC, callD, reach, boxRefs, boxToks, ins, Vs.nodupB, idx, D.renL, D.ren, back, firstN, putAll, Res.ren, locD, below, Out.ren, List.map, h1, hd, hwi]
    | true =>
      rw [hb2] at hwi
      rw [adv_step h1 hb2]
      have hwr : IntKind.i64.wrap ((i : Int) + 1) = ((i + 1 : Nat) : Int) := by rw [wrap64 (by omega) (by omega)]; rfl
      rw [← ih (i + 1) (by omega) (by omega)]
      refine loopK_norm ?_
      simp [fc84_b0, evKC, evK, evGuard, put, Env.get, Env.keep, Opd.ev, loadD, storeD, splice, cutAt, binD, lenD, clsP, cls, clsR, isCl, isW, apartRW, offB, apartWW, clash, insOk, mapO, D.cells, D.one, PD.one, D.refsL, D.refs, D.toksL, D.toks, isMapC, callD, reach, boxRefs, boxToks, ins, Vs.nodupB, idx, D.renL, D.ren, back, firstN, putAll, Res.ren, locD, below, Out.ren, List.map, h1, hd, hwi, hwr]
theorem while_eq {g : Nat} {s : List UInt8} {w : UInt8 → Bool} (hw : Want g s w) (hb : s.length ≤ 4611686018427387904) {i : Nat} (hi : i ≤ s.length) :
    call pg 84 [.box 0 0, .fn g [.box 0 0] []] ⟨[[.p (.str s), .p (.int .i64 i)]], []⟩ = some (.val (.p (.str (sub s i (adv w s i)))), ⟨[[.p (.str s), .p (.int .i64 (adv w s i))]], []⟩) := by
  refine call_body (fc := fc84) rfl rfl rfl rfl ?_
  have hl := while_loop hw hb (.p (.int .i64 i)) rfl (s.length - i) i hi rfl
  have h1 := adv_le (w := w) hi
  have h2 : i ≤ adv w s i := by unfold adv; omega
  simp [fc84, evKC, evK, put, Env.get, Env.keep, entry, Opd.ev, loadD, cutAt, D.asNat?, boundsD, sliceD, sub, clsP, cls, clsR, isCl, isW, apartRW, offB, apartWW, clash, insOk, finish, evRes, evRes1, Int.toNat_natCast, isMapC, hl, h1, h2]

end Go.Proofs.YtalgjkpkkdljaaaGreatDoor.Lx

namespace Go.Proofs.YtalgjkpkkdljaaaGreatDoor.Lx
open Go.Vs
def notNl (c : UInt8) : Bool := c != 10
theorem adv_ge (w : UInt8 → Bool) (s : List UInt8) (i : Nat) : i ≤ adv w s i := by unfold adv; omega
def skipLoop (s : List UInt8) : Nat → Nat → Nat
  | 0, i => i
  | n + 1, i => if [47, 47].isPrefixOf (s.drop i) then skipLoop s n (adv blB s (adv notNl s i)) else i
def skipTo (s : List UInt8) (i : Nat) : Nat := skipLoop s (s.length + 1) (adv blB s i)
theorem slash_lt {s : List UInt8} {i : Nat} (h : [47, 47].isPrefixOf (s.drop i) = true) : i < s.length ∧ ch s i = 47 ∧ i < adv notNl s i := by
  have h1 := List.isPrefixOf_iff_prefix.1 h
  have hl := h1.length_le
  simp only [List.length_cons, List.length_nil, List.length_drop] at hl
  have hi : i < s.length := by omega
  obtain ⟨t, ht⟩ := h1
  have hc : ch s i = 47 := by
    have : (s.drop i)[0]? = some 47 := by rw [← ht]; rfl
    rw [List.getElem?_drop] at this
    simp only [ch, List.getD_eq_getElem?_getD]
    simp at this
    simp [this]
  refine ⟨hi, hc, ?_⟩
  rw [adv_step hi (by rw [hc]; rfl)]
  have := adv_ge notNl s (i + 1)
  omega
theorem skip_loop {s : List UInt8} (hb : s.length ≤ 4611686018427387904) : ∀ (n i : Nat), i ≤ s.length → s.length - i < n →
    ∃ env, loopK (call pg) pg.G [0] fc55_b0 ⟨[(0, .box 0 0)], ⟨[[.p (.str s), .p (.int .i64 i)]], []⟩⟩ = some (.exit 0, ⟨env, ⟨[[.p (.str s), .p (.int .i64 (skipLoop s n i))]], []⟩⟩) := by
  intro n
  induction n with
  | zero => intro i hi hn; omega
  | succ n ih =>
    intro i hi hn
    have hpre := hasPrefix_eq (s.drop i) [47, 47]
    cases hp : [47, 47].isPrefixOf (s.drop i) with
    | false =>
      rw [hp] at hpre
      refine ⟨[(0, .box 0 0), (15, .p (.bool false))], loopK_out (o := .exit 0) ?_ (by simp)⟩
      simp [fc55_b0, evKC, evK, put, Env.get, Env.keep, Opd.ev, loadD, cutAt, D.asNat?, boundsD, sliceD, sub, clsP, cls, clsR, isCl, isW, apartRW, offB, apartWW, clash, insOk, mapO, D.refsL, D.refs, D.toksL, D.toks, Int.toNat_natCast, isMapC, callD, reach, boxRefs, boxToks, ins, Vs.nodupB, idx, D.renL, D.ren, back, firstN, putAll, Res.ren, locD, below, Out.ren, List.map, hi, hpre]
      simp [skipLoop, hp]
    | true =>
      rw [hp] at hpre
      obtain ⟨h1, h2, h3⟩ := slash_lt hp
      have ha := adv_le (w := notNl) hi
      have hb2 := adv_le (w := blB) ha
      have hw1 := while_eq (g := 87) (w := notNl) (fun i hi => inLine_eq hi) hb hi
      have hw2 := while_eq (g := 85) (w := blB) (fun i hi => blank_eq hi) hb ha
      have hge := adv_ge blB s (adv notNl s i)
      obtain ⟨env, he⟩ := ih (adv blB s (adv notNl s i)) hb2 (by omega)
      refine ⟨env, ?_⟩
      simp only [skipLoop, hp, if_true]
      rw [← he]
      refine loopK_norm ?_
      simp [fc55_b0, evKC, evK, put, Env.get, Env.keep, Opd.ev, loadD, cutAt, D.asNat?, boundsD, sliceD, sub, clsP, cls, clsR, isCl, isW, apartRW, offB, apartWW, clash, insOk, mapO, D.refsL, D.refs, D.toksL, D.toks, Int.toNat_natCast, isMapC, callD, reach, boxRefs, boxToks, ins, Vs.nodupB, idx, D.renL, D.ren, back, firstN, putAll, Res.ren, locD, below, Out.ren, List.map, hi, hpre, hw1, hw2]
theorem skip_eq {s : List UInt8} (hb : s.length ≤ 4611686018427387904) {i : Nat} (hi : i ≤ s.length) :
    call pg 55 [.box 0 0] ⟨[[.p (.str s), .p (.int .i64 i)]], []⟩ = some (.val .undef, ⟨[[.p (.str s), .p (.int .i64 (skipTo s i))]], []⟩) := by
  refine call_body (fc := fc55) rfl rfl rfl rfl ?_
  have hw := while_eq (g := 85) (w := blB) (fun i hi => blank_eq hi) hb hi
  have ha := adv_le (w := blB) hi
  obtain ⟨env, he⟩ := skip_loop hb (s.length + 1) (adv blB s i) ha (by omega)
  simp [fc55, evKC, evK, put, Env.get, Env.keep, entry, Opd.ev, sub, finish, evRes, mapO, D.refsL, D.refs, D.toksL, D.toks, callD, reach, boxRefs, boxToks, ins, Vs.nodupB, idx, D.renL, D.ren, back, firstN, putAll, Res.ren, List.map, hw, he, skipTo]
def numOk (s : List UInt8) (i : Nat) : Bool :=
  decide ((sub s i (adv diB s i)).length ≤ 9) && (ch s i != 48 || sub s i (adv diB s i) == [48]) && (decide (adv diB s i = s.length) || !wrB (ch s (adv diB s i)))
theorem sub_len {α : Type} (l : List α) {a b : Nat} (h : b ≤ l.length) : (sub l a b).length = b - a := by
  simp only [sub, List.length_drop, List.length_take]; omega
theorem sub_get0 {s : List UInt8} {a b : Nat} (h : b ≤ s.length) (hab : a < b) : (sub s a b)[0]? = some (ch s a) := by
  simp only [sub, List.getElem?_drop, Nat.add_zero]
  rw [List.getElem?_take_of_lt hab]
  exact ch_get (by omega)
theorem sub_one {s : List UInt8} {a b : Nat} (h : b ≤ s.length) (hab : a < b) (c : UInt8) : (sub s a b == [c]) = (ch s a == c && decide (b - a = 1)) := by
  have hl := sub_len s (a := a) h
  have h0 := sub_get0 h hab
  rw [Bool.eq_iff_iff]
  simp only [beq_iff_eq, Bool.and_eq_true, decide_eq_true_eq]
  constructor
  · intro e
    rw [e] at hl h0
    simp at hl h0
    exact ⟨h0.symm, by omega⟩
  · rintro ⟨e1, e2⟩
    obtain ⟨x, hx⟩ := List.length_eq_one_iff.1 (hl.trans e2)
    rw [hx] at h0 ⊢
    simp at h0
    rw [h0, e1]
theorem number_eq {s : List UInt8} (hb : s.length ≤ 4611686018427387904) {i : Nat} (hi : i < s.length) (hd : diB (ch s i) = true) :
    call pg 91 [.box 0 0] ⟨[[.p (.str s), .p (.int .i64 i)]], []⟩ = some (.val (.tup [.p (.str (sub s i (adv diB s i))), .p (.bool (numOk s i))]), ⟨[[.p (.str s), .p (.int .i64 (adv diB s i))]], []⟩) := by
  refine call_body (fc := fc91) rfl rfl rfl rfl ?_
  have hw := while_eq (g := 90) (w := diB) (fun i hi => digit_eq hi) hb (Nat.le_of_lt hi)
  have ha := adv_le (w := diB) (Nat.le_of_lt hi)
  have hlt : i < adv diB s i := by
    rw [adv_step hi hd]
    have := adv_ge diB s (i + 1)
    omega
  have hn : numOk s i = (decide ((sub s i (adv diB s i)).length ≤ 9) && (ch s i != 48 || sub s i (adv diB s i) == [48]) && (decide (adv diB s i = s.length) || !wrB (ch s (adv diB s i)))) := rfl
  rw [hn]
  clear hn
  generalize adv diB s i = j at *
  have h0 := sub_get0 ha hlt
  have h48 : (((ch s i).toNat : Int) != 48) = (ch s i != 48) := all_bytes (p := fun c => ((c.toNat : Int) != 48) = (c != 48)) (by decide +kernel) _
  generalize sub s i j = T at *
  have hjl : (((j : Nat) : Int) == (s.length : Int)) = decide (j = s.length) := by rw [Bool.eq_iff_iff]; simp; omega
  by_cases c1 : (T.length : Int) ≤ 9
  · have c1' : T.length ≤ 9 := by omega
    simp [fc91, evKC, evK, evGuard, put, Env.get, Env.keep, entry, Opd.ev, indexD, D.asInt?, u8, binD, lenD, finish, evRes, evRes1, mapO, D.refsL, D.refs, D.toksL, D.toks, callD, reach, boxRefs, boxToks, ins, Vs.nodupB, idx, D.renL, D.ren, back, firstN, putAll, Res.ren, List.map, hw, c1, c1', h0, h48]
    cases c2 : (ch s i != 48)
    · simp [evKC, evK, evGuard, put, Env.get, Env.keep, Opd.ev, binD, strBin, clsP, cls, List.map]
      cases c3 : (T == [48])
      · simp [evKC, evK, evGuard, put, Env.get, Env.keep, Opd.ev, clsP, cls, isW, apartRW, offB, apartWW, clash, insOk, List.map]
      · by_cases c4 : j = s.length
        · simp [evKC, evK, evGuard, put, Env.get, Env.keep, Opd.ev, loadD, cutAt, binD, lenD, clsP, cls, clsR, isCl, isW, apartRW, offB, apartWW, clash, insOk, isMapC, List.map, c4]
        · simp [evKC, evK, evGuard, put, Env.get, Env.keep, Opd.ev, loadD, cutAt, binD, unD, lenD, clsP, cls, clsR, isCl, isW, apartRW, offB, apartWW, clash, insOk, mapO, D.refsL, D.refs, D.toksL, D.toks, isMapC, callD, reach, boxRefs, boxToks, ins, Vs.nodupB, idx, D.renL, D.ren, back, firstN, putAll, Res.ren, List.map, hjl, c4, word_eq (show j < s.length by omega)]
    · simp [evKC, evK, evGuard, put, Env.get, Env.keep, Opd.ev, loadD, cutAt, binD, lenD, clsP, cls, clsR, isCl, isMapC, List.map, hjl]
      by_cases c4 : j = s.length
      · simp [evKC, evK, evGuard, put, Env.get, Env.keep, Opd.ev, clsP, cls, isW, apartRW, offB, apartWW, clash, insOk, List.map, c4]
      · simp [evKC, evK, evGuard, put, Env.get, Env.keep, Opd.ev, unD, clsP, cls, isCl, isW, apartRW, offB, apartWW, clash, insOk, mapO, D.refsL, D.refs, D.toksL, D.toks, callD, reach, boxRefs, boxToks, ins, Vs.nodupB, idx, D.renL, D.ren, back, firstN, putAll, Res.ren, List.map, c4, word_eq (show j < s.length by omega)]
  · have c1' : ¬ T.length ≤ 9 := by omega
    simp [fc91, evKC, evK, evGuard, put, Env.get, Env.keep, entry, Opd.ev, binD, lenD, clsP, cls, isW, apartRW, offB, apartWW, clash, insOk, finish, evRes, evRes1, mapO, D.refsL, D.refs, D.toksL, D.toks, callD, reach, boxRefs, boxToks, ins, Vs.nodupB, idx, D.renL, D.ren, back, firstN, putAll, Res.ren, List.map, hw, c1, c1']

end Go.Proofs.YtalgjkpkkdljaaaGreatDoor.Lx

namespace Go.Proofs.YtalgjkpkkdljaaaGreatDoor.Lx
open Go.Vs
def firstOf (r : List UInt8) : List (List UInt8) → List UInt8
  | [] => []
  | x :: l => if x.isPrefixOf r then x else firstOf r l
def symAt (s : List UInt8) (i : Nat) : List UInt8 := firstOf (s.drop i) syms
theorem syms_len : syms.length = 29 := rfl
theorem symbol_loop {s : List UInt8} {i : Nat} (hi : i ≤ s.length) : ∀ (n k : Nat), n + k = 29 →
    ∃ env, loopK (call pg) pg.G [0, 4, 7, 8] fc92_b0 ⟨[(0, .box 0 0), (4, .p (.str [])), (7, .p (.agg (syms.map .str))), (8, .p (.int .i64 k))], ⟨[[.p (.str s), .p (.int .i64 i)]], []⟩⟩ =
        some (.exit 0, ⟨env, ⟨[[.p (.str s), .p (.int .i64 i)]], []⟩⟩) ∧ Env.get env 0 = .box 0 0 ∧ Env.get env 4 = .p (.str (firstOf (s.drop i) (syms.drop k))) := by
  intro n
  induction n with
  | zero =>
    intro k hk
    have hk' : k = 29 := by omega
    subst hk'
    refine ⟨[(0, .box 0 0), (4, .p (.str [])), (7, .p (.agg (syms.map .str))), (8, .p (.int .i64 29)), (9, .p (.bool false))], loopK_out (o := .exit 0) ?_ (by simp), rfl, ?_⟩
    · simp [fc92_b0, evKC, evK, put, Env.get, Env.keep, Opd.ev, binD, mapO, D.renL, D.ren, locD, below, Out.ren, List.map]
    · rfl
  | succ n ih =>
    intro k hk
    have hk' : k < syms.length := by rw [syms_len]; omega
    have hklt : (k : Int) < 29 := by omega
    have hget : (syms.map PD.str)[k]? = some (.str syms[k]) := by simp [hk']
    have hdrop := List.drop_eq_getElem_cons hk'
    have hpre := hasPrefix_eq (s.drop i) syms[k]
    generalize hx : syms[k] = x at *
    generalize hS : syms.map PD.str = S at *
    have hlen : k + 1 ≤ S.length := by rw [← hS]; simp; omega
    cases hp : x.isPrefixOf (s.drop i) with
    | true =>
      rw [hp] at hpre
      refine ⟨[(0, .box 0 0), (4, .p (.str x))], loopK_out (o := .exit 0) ?_ (by simp), rfl, ?_⟩
      · simp [fc92_b0, evKC, evK, put, Env.get, Env.keep, Opd.ev, loadD, cutAt, indexD, D.asInt?, D.asNat?, binD, boundsD, sliceD, sub, clsP, cls, clsR, isCl, isW, apartRW, offB, apartWW, clash, insOk, mapO, D.refsL, D.refs, D.toksL, D.toks, Int.toNat_natCast, isMapC, callD, reach, boxRefs, boxToks, ins, Vs.nodupB, idx, D.renL, D.ren, back, firstN, putAll, Res.ren, locD, below, Out.ren, List.map, hklt, hget, hi, hpre]
      · rw [hdrop]; simp [Env.get, firstOf, hp]
    | false =>
      rw [hp] at hpre
      obtain ⟨env, h1, h2, h3⟩ := ih (k + 1) (by omega)
      refine ⟨env, ?_, h2, ?_⟩
      · rw [← h1]
        have hwr : IntKind.i64.wrap ((k : Int) + 1) = ((k + 1 : Nat) : Int) := by rw [wrap64 (by omega) (by omega)]; rfl
        refine loopK_norm ?_
        simp [fc92_b0, evKC, evK, put, Env.get, Env.keep, Opd.ev, loadD, cutAt, indexD, D.asInt?, D.asNat?, binD, boundsD, sliceD, sub, clsP, cls, clsR, isCl, isW, apartRW, offB, apartWW, clash, insOk, mapO, D.refsL, D.refs, D.toksL, D.toks, Int.toNat_natCast, isMapC, callD, reach, boxRefs, boxToks, ins, Vs.nodupB, idx, D.renL, D.ren, back, firstN, putAll, Res.ren, locD, below, Out.ren, List.map, hklt, hget, hi, hpre, hwr]
      · rw [h3, hdrop]
        simp [firstOf, hp]
theorem firstOf_len (r : List UInt8) : ∀ l : List (List UInt8), (firstOf r l).length ≤ r.length
  | [] => by simp [firstOf]
  | x :: l => by
    simp only [firstOf]
    split
    · rename_i h; exact (List.isPrefixOf_iff_prefix.1 h).length_le
    · exact firstOf_len r l
theorem symAt_len {s : List UInt8} {i : Nat} (hi : i ≤ s.length) : i + (symAt s i).length ≤ s.length := by
  have := firstOf_len (s.drop i) syms
  simp only [List.length_drop] at this
  unfold symAt
  omega
theorem symbol_eq {s : List UInt8} (hb : s.length ≤ 4611686018427387904) {i : Nat} (hi : i ≤ s.length) :
    call pg 92 [.box 0 0] ⟨[[.p (.str s), .p (.int .i64 i)]], []⟩ = some (.val (.tup [.p (.str (symAt s i)), .p (.bool (symAt s i != []))]), ⟨[[.p (.str s), .p (.int .i64 ((i + (symAt s i).length : Nat) : Int))]], []⟩) := by
  refine call_body (fc := fc92) rfl rfl rfl rfl ?_
  obtain ⟨env, h1, h2, h3⟩ := symbol_loop hi 29 0 rfl
  have hl := symAt_len hi
  have hT : firstOf (s.drop i) (syms.drop 0) = symAt s i := rfl
  rw [hT] at h3
  generalize symAt s i = T at *
  have hG : pg.G 0 = some (syms.map .str) := rfl
  have hlen : (syms.map PD.str).length = 29 := by simp [syms_len]
  generalize syms.map PD.str = S at *
  have htake : (S.take 29).drop 0 = S := by rw [List.drop_zero, List.take_of_length_le (by omega)]
  have hwr : IntKind.i64.wrap ((i : Int) + (T.length : Int)) = ((i + T.length : Nat) : Int) := by rw [wrap64 (by omega) (by omega)]; rfl
  have h0 : (((0 : Nat) : Int)) = 0 := rfl
  rw [h0] at h1
  simp [fc92, evKC, evK, put, Env.get, Env.keep, entry, Opd.ev, loadD, storeD, splice, cutAt, binD, strBin, lenD, sub, finish, evRes, evRes1, mapO, D.cells, D.one, PD.one, isMapC, List.map, hG, hlen, htake, h1, h2, h3, hwr]
  cases T <;> rfl
def tokAt (s : List UInt8) (i : Nat) : Tok × Bool :=
  if leB (ch s i) then (⟨1, sub s i (adv wrB s i), i⟩, decide ((sub s i (adv wrB s i)).length ≤ 16))
  else if diB (ch s i) then (⟨2, sub s i (adv diB s i), i⟩, numOk s i)
  else (⟨3, symAt s i, i⟩, symAt s i != [])
theorem adv_sub {w : UInt8 → Bool} {s : List UInt8} {i : Nat} (hi : i ≤ s.length) : i + (sub s i (adv w s i)).length = adv w s i := by
  rw [sub_len s (adv_le hi)]
  have := adv_ge w s i
  omega
theorem tok_end {s : List UInt8} {i : Nat} (hi : i ≤ s.length) : i + (tokAt s i).1.t.length ≤ s.length := by
  unfold tokAt
  split
  · rw [adv_sub hi]; exact adv_le hi
  · split
    · rw [adv_sub hi]; exact adv_le hi
    · exact symAt_len hi
theorem next_eq {s : List UInt8} (hb : s.length ≤ 4611686018427387904) {i : Nat} (hi : i < s.length) :
    ∃ g, call pg 56 [.box 0 0] ⟨[[.p (.str s), .p (.int .i64 i)]], []⟩ = some (.val (.tup [.p (tokAt s i).1.pd, .p (.bool (tokAt s i).2)]), ⟨[.p (.str s), .p (.int .i64 ((i + (tokAt s i).1.t.length : Nat) : Int))] :: g, []⟩) := by
  have hi' := Nat.le_of_lt hi
  have hw := while_eq (g := 89) (w := wrB) (fun i hi => word_eq hi) hb hi'
  have hle := letter_eq hi
  have hdi := digit_eq hi
  have hsy := symbol_eq hb hi'
  have ea := adv_sub (w := wrB) hi'
  have ed := adv_sub (w := diB) hi'
  unfold tokAt Tok.pd
  cases hl : leB (ch s i) with
  | true =>
    rw [hl] at hle
    simp only [if_true]
    rw [ea]
    have hd : (decide (((sub s i (adv wrB s i)).length : Int) ≤ 16)) = decide ((sub s i (adv wrB s i)).length ≤ 16) := by rw [Bool.eq_iff_iff]; simp; omega
    generalize sub s i (adv wrB s i) = T at *
    generalize adv wrB s i = j at *
    refine ⟨[[.p (.int .i64 1), .p (.str T), .p (.int .i64 i)], [.p (.int .i64 1), .p (.str T), .p (.int .i64 i)]], ?_⟩
    refine call_body (fc := fc56) rfl rfl rfl rfl ?_
    simp [fc56, evKC, evK, put, Env.get, Env.keep, entry, Opd.ev, loadD, storeD, splice, cutAt, binD, lenD, sub, finish, evRes, evRes1, mapO, D.cells, D.one, PD.one, D.refsL, D.refs, D.toksL, D.toks, mkAgg, pures, fillD, isMapC, callD, reach, boxRefs, boxToks, ins, Vs.nodupB, idx, D.renL, D.ren, back, firstN, putAll, Res.ren, List.map, hle, hw, hd]
  | false =>
    rw [hl] at hle
    simp only [Bool.false_eq_true, if_false]
    cases hd : diB (ch s i) with
    | true =>
      rw [hd] at hdi
      simp only [if_true]
      rw [ed]
      have hnu := number_eq hb hi hd
      generalize sub s i (adv diB s i) = T at *
      generalize adv diB s i = j at *
      refine ⟨[[.p (.int .i64 2), .p (.str T), .p (.int .i64 i)], [.p (.int .i64 2), .p (.str T), .p (.int .i64 i)]], ?_⟩
      refine call_body (fc := fc56) rfl rfl rfl rfl ?_
      simp [fc56, evKC, evK, put, Env.get, Env.keep, entry, Opd.ev, loadD, storeD, splice, cutAt, sub, finish, evRes, evRes1, mapO, D.cells, D.one, PD.one, D.refsL, D.refs, D.toksL, D.toks, mkAgg, pures, fillD, isMapC, callD, reach, boxRefs, boxToks, ins, Vs.nodupB, idx, D.renL, D.ren, back, firstN, putAll, Res.ren, List.map, hle, hdi, hnu]
    | false =>
      rw [hd] at hdi
      simp only [Bool.false_eq_true, if_false]
      generalize symAt s i = T at *
      refine ⟨[[.p (.int .i64 3), .p (.str T), .p (.int .i64 i)], [.p (.int .i64 3), .p (.str T), .p (.int .i64 i)]], ?_⟩
      refine call_body (fc := fc56) rfl rfl rfl rfl ?_
      simp [fc56, evKC, evK, put, Env.get, Env.keep, entry, Opd.ev, loadD, storeD, splice, cutAt, sub, finish, evRes, evRes1, mapO, D.cells, D.one, PD.one, D.refsL, D.refs, D.toksL, D.toks, mkAgg, pures, fillD, isMapC, callD, reach, boxRefs, boxToks, ins, Vs.nodupB, idx, D.renL, D.ren, back, firstN, putAll, Res.ren, List.map, hle, hdi, hsy]

end Go.Proofs.YtalgjkpkkdljaaaGreatDoor.Lx

namespace Go.Proofs.YtalgjkpkkdljaaaGreatDoor.Lx
open Go.Vs
abbrev Lexed := List Tok × Nat × Nat
def lexLoop (s : List UInt8) : Nat → Nat → List Tok → Lexed
  | 0, _, acc => (acc, 0, 0)
  | n + 1, i, acc => if i < s.length then (if (tokAt s i).2 then lexLoop s n (skipTo s (i + (tokAt s i).1.t.length)) (acc ++ [(tokAt s i).1]) else ([], 10, i)) else (acc, 0, 0)
def lex (s : List UInt8) : Lexed := if s.length > 20000 then ([], 2, 0) else lexLoop s (s.length + 1) (skipTo s 0) []
theorem skipLoop_le {s : List UInt8} : ∀ (n i : Nat), i ≤ s.length → i ≤ skipLoop s n i ∧ skipLoop s n i ≤ s.length
  | 0, i, h => ⟨Nat.le_refl _, h⟩
  | n + 1, i, h => by
    simp only [skipLoop]
    split
    · have h1 := adv_le (w := notNl) h
      have h2 := adv_le (w := blB) h1
      have h3 := adv_ge notNl s i
      have h4 := adv_ge blB s (adv notNl s i)
      have := skipLoop_le n _ h2
      exact ⟨by omega, this.2⟩
    · exact ⟨Nat.le_refl _, h⟩
theorem skipTo_le {s : List UInt8} {i : Nat} (h : i ≤ s.length) : i ≤ skipTo s i ∧ skipTo s i ≤ s.length := by
  have h1 := adv_le (w := blB) h
  have h2 := adv_ge blB s i
  have := skipLoop_le (s.length + 1) (adv blB s i) h1
  exact ⟨by unfold skipTo; omega, this.2⟩
theorem tok_pos {s : List UInt8} {i : Nat} (hi : i < s.length) (h : (tokAt s i).2 = true) : 0 < (tokAt s i).1.t.length := by
  unfold tokAt at h ⊢
  split
  · rename_i hl
    have hs := adv_sub (w := wrB) (Nat.le_of_lt hi)
    have : i < adv wrB s i := by
      rw [adv_step hi (by simp [wrB, hl])]
      have := adv_ge wrB s (i + 1)
      omega
    simp only
    omega
  · split
    · rename_i hl hd
      have hs := adv_sub (w := diB) (Nat.le_of_lt hi)
      have : i < adv diB s i := by
        rw [adv_step hi hd]
        have := adv_ge diB s (i + 1)
        omega
      simp only
      omega
    · rename_i hl hd
      simp only [hl, hd, Bool.false_eq_true, if_false] at h
      cases hsy : symAt s i with
      | nil => rw [hsy] at h; cases h
      | cons => simp
theorem tok_at (s : List UInt8) (i : Nat) : (tokAt s i).1.p = i := by
  unfold tokAt
  split
  · rfl
  · split <;> rfl
def LoopEnds (s : List UInt8) (r : Lexed) (x : Option (Out × St)) : Prop :=
  (r.2.1 = 0 ∧ ∃ env i, x = some (.exit 0, ⟨env, ⟨[[.p (.str s), .p (.int .i64 i)]], [r.1.length]⟩⟩) ∧ Env.get env 6 = .tsl 0 64 3 (r.1.map Tok.pd)) ∨
  (r.2.1 = 10 ∧ r.1 = [] ∧ ∃ env h, x = some (.ret, ⟨env, h⟩) ∧ Env.get env 2 = .p .nils ∧ Env.get env 3 = .p (.int .i64 10) ∧ Env.get env 4 = .p (.int .i64 r.2.2))
theorem lex_loop {s : List UInt8} (hb : s.length ≤ 20000) : ∀ (n i : Nat) (acc : List Tok), i ≤ s.length → s.length - i < n → acc.length ≤ i →
    LoopEnds s (lexLoop s n i acc) (loopK (call pg) pg.G [0, 5, 6] fc26_b0 ⟨[(0, .p (.str s)), (5, .box 0 0), (6, .tsl 0 64 3 (acc.map Tok.pd))], ⟨[[.p (.str s), .p (.int .i64 i)]], [acc.length]⟩⟩) := by
  intro n
  induction n with
  | zero => intro i acc hi hn; omega
  | succ n ih =>
    intro i acc hi hn hacc
    have hb' : s.length ≤ 4611686018427387904 := by omega
    by_cases hlt : i < s.length
    · obtain ⟨g, hnx⟩ := next_eq hb' hlt
      have hend := tok_end hi
      simp only [lexLoop, if_pos hlt]
      cases hok : (tokAt s i).2 with
      | false =>
        rw [hok] at hnx
        simp only [Bool.false_eq_true, if_false]
        have hat := tok_at s i
        generalize (tokAt s i).1 = t at *
        obtain ⟨k, T, a⟩ := t
        simp only at hat
        subst hat
        refine .inr ⟨rfl, rfl, [(2, .p .nils), (3, .p (.int .i64 10)), (4, .p (.int .i64 a))], ⟨[[.p (.str s), .p (.int .i64 ((a + T.length : Nat) : Int))]], [acc.length]⟩, loopK_out (o := .ret) ?_ (by simp), rfl, rfl, rfl⟩
        simp only [Tok.pd] at hnx
        simp [fc26_b0, evKC, evK, put, Env.get, Env.keep, Opd.ev, loadD, storeD, splice, cutAt, binD, unD, lenD, clsP, cls, clsR, isCl, isW, apartRW, offB, apartWW, clash, insOk, mapO, D.cells, D.one, PD.one, D.refsL, D.refs, D.toksL, D.toks, isMapC, callD, reach, boxRefs, boxToks, ins, Vs.nodupB, idx, D.renL, D.ren, back, firstN, putAll, Res.ren, locD, Out.ren, List.map, hlt, hnx]
      | true =>
        rw [hok] at hnx
        simp only [if_true]
        have hpos := tok_pos hlt hok
        generalize (tokAt s i).1 = t at *
        have hsk := skip_eq hb' hend
        have hle := skipTo_le hend
        have := ih (skipTo s (i + t.t.length)) (acc ++ [t]) hle.2 (by omega) (by simp; omega)
        rw [loopK_norm (s' := ⟨[(0, .p (.str s)), (5, .box 0 0), (6, .tsl 0 64 3 ((acc ++ [t]).map Tok.pd))], ⟨[[.p (.str s), .p (.int .i64 (skipTo s (i + t.t.length)))]], [(acc ++ [t]).length]⟩⟩) ?_]
        · exact this
        · have hroom : roomy (acc.length + 1) 32 = true := by simp only [roomy, Bool.and_eq_true, decide_eq_true_eq]; omega
          obtain ⟨k, T, a⟩ := t
          simp only [Tok.pd] at hnx
          simp only [Int.natCast_add] at hsk hle
          simp [fc26_b0, evKC, evK, put, Env.get, Env.keep, Opd.ev, loadD, storeD, splice, cutAt, binD, unD, lenD, sub, mapO, D.cells, D.one, PD.one, PD.cells, D.refsL, D.refs, D.toksL, D.toks, mkAgg, pures, fillE, appendD, srcD, D.elems?, D.asPD, srcH, isMapC, callD, reach, boxRefs, boxToks, ins, Vs.nodupB, idx, D.renL, D.ren, back, firstN, putAll, Res.ren, locD, below, Out.ren, List.map, hlt, hnx, hsk, hroom, Tok.pd]
    · simp only [lexLoop, if_neg hlt]
      refine .inl ⟨rfl, [(0, .p (.str s)), (5, .box 0 0), (6, .tsl 0 64 3 (acc.map Tok.pd)), (23, .p (.bool false))], (i : Int), loopK_out (o := .exit 0) ?_ (by simp), rfl⟩
      simp [fc26_b0, evKC, evK, put, Env.get, Env.keep, Opd.ev, loadD, cutAt, binD, lenD, mapO, isMapC, D.renL, D.ren, locD, below, Out.ren, List.map, hlt]
def Lexed.toks (r : Lexed) : PD := if r.2.1 = 0 then .slice 3 (r.1.map Tok.pd) else .nils
def Lexed.d (r : Lexed) : D := .tup [.p r.toks, .p (.int .i64 (r.2.1 : Nat)), .p (.int .i64 (r.2.2 : Nat))]
theorem lexLoop_ends (s : List UInt8) : ∀ (n i : Nat) (acc : List Tok), ((lexLoop s n i acc).2.1 = 0 ∧ (lexLoop s n i acc).2.2 = 0) ∨ ((lexLoop s n i acc).2.1 = 10 ∧ (lexLoop s n i acc).1 = [])
  | 0, _, _ => .inl ⟨rfl, rfl⟩
  | n + 1, i, acc => by
    simp only [lexLoop]
    split
    · split
      · exact lexLoop_ends s n _ _
      · exact .inr ⟨rfl, rfl⟩
    · exact .inl ⟨rfl, rfl⟩
theorem lex_body (s : List UInt8) (hmax : s.length ≤ 140737488355328) : ∃ d h, call pg 26 [.p (.str s)] ⟨[], []⟩ = some (.val d, h) ∧ d.ren (fun _ => none) (fun _ => none) = some (lex s).d := by
  by_cases hb : s.length > 20000
  · refine ⟨.tup [.p .nils, .p (.int .i64 2), .p (.int .i64 0)], ⟨[], []⟩, call_body (fc := fc26) rfl rfl rfl rfl ?_, ?_⟩
    · have h : (20000 : Int) < s.length := by omega
      simp [fc26, evKC, evK, put, Env.get, Env.keep, entry, Opd.ev, binD, lenD, finish, evRes, evRes1, mapO, h]
    · simp [lex, hb, Lexed.d, Lexed.toks, D.renL, D.ren]
  · have hb' : s.length ≤ 20000 := by omega
    have hb2 : s.length ≤ 4611686018427387904 := by omega
    have hn : ¬ (20000 : Int) < s.length := by omega
    have hsk := skip_eq hb2 (Nat.zero_le s.length)
    have hle := skipTo_le (Nat.zero_le s.length)
    have h0 : (((0 : Nat) : Int)) = 0 := rfl
    rw [h0] at hsk
    have hx : lex s = lexLoop s (s.length + 1) (skipTo s 0) [] := by unfold lex; rw [if_neg hb]
    rcases lex_loop hb' (s.length + 1) (skipTo s 0) [] hle.2 (by omega) (by simp) with ⟨he, env, i, h1, h2⟩ | ⟨he, hnil, env, h, h1, h2, h3, h4⟩
    · have hpos : (lex s).2.2 = 0 := by
        rw [hx]
        rcases lexLoop_ends s (s.length + 1) (skipTo s 0) [] with q | q
        · exact q.2
        · rw [q.1] at he; cases he
      rw [← hx] at he h1 h2
      refine ⟨.tup [.tsl 0 64 3 ((lex s).1.map Tok.pd), .p (.int .i64 0), .p (.int .i64 0)], ⟨[[.p (.str s), .p (.int .i64 i)]], [(lex s).1.length]⟩, call_body (fc := fc26) rfl rfl rfl rfl ?_, ?_⟩
      · simp only [List.map_nil, List.length_nil] at h1
        simp [fc26, evKC, evK, put, Env.get, Env.keep, entry, Opd.ev, splice, binD, lenD, finish, evRes, evRes1, mapO, D.cells, D.one, PD.one, D.refsL, D.refs, D.toksL, D.toks, mkAgg, pures, fillD, callD, reach, boxRefs, boxToks, ins, Vs.nodupB, idx, D.renL, D.ren, back, firstN, putAll, Res.ren, List.map, hn, hsk, tokD, h1, h2]
      · simp [he, hpos, Lexed.d, Lexed.toks, D.renL, D.ren]
    · rw [← hx] at he h4 hnil
      refine ⟨.tup [.p .nils, .p (.int .i64 10), .p (.int .i64 ((lex s).2.2 : Nat))], h, call_body (fc := fc26) rfl rfl rfl rfl ?_, ?_⟩
      · simp only [List.map_nil, List.length_nil] at h1
        simp [fc26, evKC, evK, put, Env.get, Env.keep, entry, Opd.ev, splice, binD, lenD, finish, evRes, evRes1, mapO, D.cells, D.one, PD.one, D.refsL, D.refs, D.toksL, D.toks, mkAgg, pures, fillD, callD, reach, boxRefs, boxToks, ins, Vs.nodupB, idx, D.renL, D.ren, back, firstN, putAll, Res.ren, List.map, hn, hsk, tokD, h1, h2, h3, h4]
      · simp [he, Lexed.d, Lexed.toks, D.renL, D.ren]
theorem lex_eq (s : List UInt8) (hmax : s.length ≤ 140737488355328) (H : Hp) : callD (call pg) 26 [.p (.str s)] H = some (.val (lex s).d, H) := by
  obtain ⟨d, h, h1, h2⟩ := lex_body s hmax
  exact callD_pure h1 rfl rfl rfl h2

end Go.Proofs.YtalgjkpkkdljaaaGreatDoor.Lx

namespace Go.Proofs.YtalgjkpkkdljaaaGreatDoor.Lx
open Go.Vs
theorem ch_get2 {s : List UInt8} {i : Nat} (h : i < s.length) : s[i] = ch s i := by simp [ch, List.getD_eq_getElem?_getD, h]
def sk : Bool → List UInt8 → List UInt8
  | _, [] => []
  | false, c :: t => if blB c then sk false t else if c == 47 && t.head? == some 47 then sk true t else c :: t
  | true, c :: t => if c == 10 then sk false t else sk true t
theorem drop_adv (w : UInt8 → Bool) (s : List UInt8) (i : Nat) : s.drop (adv w s i) = (s.drop i).dropWhile w := by
  unfold adv
  rw [← List.drop_drop]
  generalize s.drop i = r
  induction r with
  | nil => rfl
  | cons c t ih =>
    rw [List.takeWhile_cons, List.dropWhile_cons]
    split
    · simpa using ih
    · rfl
theorem sk_blank : ∀ r : List UInt8, sk false r = sk false (r.dropWhile blB)
  | [] => rfl
  | c :: t => by
    rw [List.dropWhile_cons]
    by_cases h : blB c = true
    · simp only [sk, h, if_true]
      exact sk_blank t
    · simp only [h, Bool.false_eq_true, if_false]
theorem sk_comment : ∀ r : List UInt8, sk true r = sk false (r.dropWhile notNl)
  | [] => rfl
  | c :: t => by
    rw [List.dropWhile_cons]
    by_cases h : c = 10
    · subst h
      simp [sk, notNl, blB]
    · have h2 : notNl c = true := by simp [notNl, h]
      simp only [h2, if_true, sk]
      rw [if_neg (by simpa using h)]
      exact sk_comment t
theorem beq_swap (a b : UInt8) : (a == b) = (b == a) := by
  rw [Bool.eq_iff_iff, beq_iff_eq, beq_iff_eq]
  exact ⟨Eq.symm, Eq.symm⟩
theorem pre2 (c : UInt8) (t : List UInt8) : [47, 47].isPrefixOf (c :: t) = (c == 47 && t.head? == some 47) := by
  cases t with
  | nil =>
    have h1 : ((([] : List UInt8).head?) == some 47) = false := rfl
    rw [h1, Bool.and_false]
    show (47 == c && false) = false
    rw [Bool.and_false]
  | cons d t =>
    have h1 : (((d :: t).head?) == some 47) = (d == 47) := rfl
    rw [h1]
    show (47 == c && (47 == d && true)) = (c == 47 && d == 47)
    rw [Bool.and_true, beq_swap 47 c, beq_swap 47 d]
theorem dw_head {w : UInt8 → Bool} : ∀ {r : List UInt8} {c : UInt8} {t : List UInt8}, c :: t = r.dropWhile w → w c = false
  | [], c, t, h => by cases h
  | d :: r, c, t, h => by
    rw [List.dropWhile_cons] at h
    split at h
    · exact dw_head h
    · rename_i hd
      cases h
      simpa using hd
theorem sk_skipLoop {s : List UInt8} : ∀ (n i : Nat), i ≤ s.length → s.length - i < n → blB (ch s i) = false ∨ i = s.length → s.drop (skipLoop s n i) = sk false (s.drop i) := by
  intro n
  induction n with
  | zero => intro i _ h; omega
  | succ n ih =>
    intro i hi hn hB
    simp only [skipLoop]
    split
    · rename_i hp
      obtain ⟨q1, q2, q3⟩ := slash_lt hp
      have ha := adv_le (w := notNl) hi
      have hb := adv_le (w := blB) ha
      have hge := adv_ge blB s (adv notNl s i)
      rw [ih _ hb (by omega) ?_]
      · rw [drop_adv, ← sk_blank, drop_adv]
        rw [List.drop_eq_getElem_cons q1] at hp ⊢
        rw [ch_get2 q1] at hp ⊢
        rw [pre2] at hp
        have hb0 : blB (ch s i) = false := by rw [q2]; rfl
        simp only [sk, hb0, Bool.false_eq_true, if_false, hp, if_true]
        rw [sk_comment]
        congr 1
        rw [List.dropWhile_cons, if_pos (by rw [q2]; rfl)]
      · by_cases he : adv blB s (adv notNl s i) < s.length
        · left
          have hd := drop_adv blB s (adv notNl s i)
          rw [List.drop_eq_getElem_cons he, ch_get2 he] at hd
          exact dw_head hd
        · right; omega
    · rename_i hp
      by_cases hi2 : i < s.length
      · rw [List.drop_eq_getElem_cons hi2, ch_get2 hi2] at hp ⊢
        rw [pre2] at hp
        have hb0 : blB (ch s i) = false := by
          rcases hB with h | h
          · exact h
          · omega
        simp only [sk, hb0, Bool.false_eq_true, if_false, hp]
      · rw [List.drop_eq_nil_of_le (by omega)]; rfl
theorem sk_skipTo {s : List UInt8} {i : Nat} (hi : i ≤ s.length) : s.drop (skipTo s i) = sk false (s.drop i) := by
  have ha := adv_le (w := blB) hi
  unfold skipTo
  rw [sk_skipLoop _ _ ha (by omega) ?_, drop_adv, ← sk_blank]
  by_cases he : adv blB s i < s.length
  · left
    have hd := drop_adv blB s i
    rw [List.drop_eq_getElem_cons he, ch_get2 he] at hd
    exact dw_head hd
  · right; omega

end Go.Proofs.YtalgjkpkkdljaaaGreatDoor.Lx

namespace Go.Proofs.YtalgjkpkkdljaaaGreatDoor.Lx
open Go.Vs
structure T0 where
  k : Int
  t : List UInt8
  left : Nat
def edge : List UInt8 → Bool
  | [] => true
  | c :: _ => !wrB c
def tokS (r : List UInt8) : Int × List UInt8 × Bool :=
  match r with
  | [] => (3, [], false)
  | c :: _ =>
    if leB c then (1, r.takeWhile wrB, decide ((r.takeWhile wrB).length ≤ 16))
    else if diB c then (2, r.takeWhile diB, decide ((r.takeWhile diB).length ≤ 9) && (c != 48 || r.takeWhile diB == [48]) && edge (r.dropWhile diB))
    else (3, firstOf r syms, firstOf r syms != [])
theorem sub_adv (w : UInt8 → Bool) (s : List UInt8) (i : Nat) : sub s i (adv w s i) = (s.drop i).takeWhile w := by
  unfold sub adv
  rw [List.drop_take, Nat.add_sub_cancel_left]
  exact (List.prefix_iff_eq_take.1 (List.takeWhile_prefix w)).symm
theorem edge_eq {s : List UInt8} {j : Nat} (hj : j ≤ s.length) : (decide (j = s.length) || !wrB (ch s j)) = edge (s.drop j) := by
  by_cases h : j < s.length
  · have h2 : decide (j = s.length) = false := by simp; omega
    rw [List.drop_eq_getElem_cons h, ch_get2 h, h2, Bool.false_or]
    rfl
  · have h2 : j = s.length := by omega
    subst h2
    simp [edge]
theorem tokAt_tokS {s : List UInt8} {i : Nat} (hi : i < s.length) : ((tokAt s i).1.k, (tokAt s i).1.t, (tokAt s i).2) = tokS (s.drop i) := by
  have hd : s.drop i = ch s i :: s.drop (i + 1) := by rw [List.drop_eq_getElem_cons hi, ch_get2 hi]
  unfold tokAt numOk
  rw [sub_adv, sub_adv, edge_eq (adv_le (Nat.le_of_lt hi)), drop_adv]
  unfold symAt tokS
  rw [hd]
  dsimp only
  split
  · rfl
  · split <;> rfl
def lexR : Nat → List UInt8 → List T0 × Option Nat
  | 0, _ => ([], none)
  | n + 1, r => match sk false r with
    | [] => ([], none)
    | c :: t =>
      if (tokS (c :: t)).2.2 then
        let x := lexR n ((c :: t).drop (tokS (c :: t)).2.1.length)
        (⟨(tokS (c :: t)).1, (tokS (c :: t)).2.1, (c :: t).length⟩ :: x.1, x.2)
      else ([], some (c :: t).length)
def T0.tok (n : Nat) (t : T0) : Tok := ⟨t.k, t.t, n - t.left⟩
def asLexed (n : Nat) (acc : List Tok) (x : List T0 × Option Nat) : Lexed :=
  match x.2 with
  | none => (acc ++ x.1.map (T0.tok n), 0, 0)
  | some p => ([], 10, n - p)
theorem lexLoop_lexR {s : List UInt8} : ∀ (n j : Nat) (acc : List Tok), j ≤ s.length → lexLoop s n (skipTo s j) acc = asLexed s.length acc (lexR n (s.drop j))
  | 0, j, acc, _ => by simp [lexLoop, lexR, asLexed]
  | n + 1, j, acc, hj => by
    have hle := skipTo_le hj
    have hsk := sk_skipTo hj
    simp only [lexLoop, lexR]
    generalize hi : skipTo s j = i at *
    by_cases hlt : i < s.length
    · have ht := tokAt_tokS hlt
      have hat := tok_at s i
      have hend := tok_end hle.2
      have hll : (s.drop i).length = s.length - i := by simp
      have hd : s.drop i = ch s i :: s.drop (i + 1) := by rw [List.drop_eq_getElem_cons hlt, ch_get2 hlt]
      rw [if_pos hlt, ← hsk]
      rw [hd] at hll ht ⊢
      dsimp only
      rw [← ht]
      generalize tokAt s i = T at *
      obtain ⟨⟨k, x, a⟩, ok⟩ := T
      simp only at hat hend
      subst hat
      cases ok with
      | false => simp [asLexed, hll]; omega
      | true =>
        simp only [if_true]
        rw [lexLoop_lexR n _ _ hend, ← hd, List.drop_drop]
        unfold asLexed
        dsimp only
        have hl2 : s.length - (s.drop a).length = a := by simp; omega
        cases (lexR n (s.drop (a + x.length))).2 with
        | none => simp [T0.tok]; omega
        | some p => rfl
    · rw [if_neg hlt, ← hsk, List.drop_eq_nil_of_le (by omega)]
      simp [asLexed]
theorem lex_lexR {s : List UInt8} (h : s.length ≤ 20000) : lex s = asLexed s.length [] (lexR (s.length + 1) s) := by
  unfold lex
  rw [if_neg (by omega), lexLoop_lexR _ _ _ (Nat.zero_le _), List.drop_zero]

end Go.Proofs.YtalgjkpkkdljaaaGreatDoor.Lx

namespace Go.Proofs.YtalgjkpkkdljaaaGreatDoor
open Go.Vs

inductive PR (α : Type) where
  | ok (x : α) (a : Nat)
  | bad (e : Int) (p : Nat) (a : Nat)
def faultD (e : Int) (p : Nat) : D := .p (.iface 123 (.agg [.int .i64 e, .int .i64 p]))
def Ans {α : Type} (g : Nat) (args : List PD) (c : Rd) (a o : Nat) (f : α → D) : PR α → Prop
  | .ok x a' => ∀ bx t, callD (call pg) g (.box 0 0 :: args.map .p) (rH c a o bx t) = some (.val (f x), rH c a' o bx t)
  | .bad e p a' => ∃ o', ∀ bx t, callD (call pg) g (.box 0 0 :: args.map .p) (rH c a o bx t) = some (.pan (faultD e p), rH c a' o' bx t)
def Rd.tok (c : Rd) (i : Nat) : Tok := (c.ts[i]?).getD ⟨0, [], c.e⟩
structure Rd.Sz (c : Rd) : Prop extends c.Ok where
  n : c.ts.length ≤ 400000
  e : c.e ≤ 1000000
  p : ∀ x ∈ c.ts, x.p ≤ 1000000
  k : ∀ x ∈ c.ts, x.k ≠ 0
  t : ∀ x ∈ c.ts, x.t.length ≤ 1000000
  num : ∀ x ∈ c.ts, x.k = 2 → ∃ n : Nat, Lib.atoi x.t = some (n : Int) ∧ n ≤ 999999999 ∧ x.t.length ≤ 9
theorem tok_in {c : Rd} {i : Nat} (h : i < c.ts.length) : c.tok i = c.ts[i] := by
  simp [Rd.tok, List.getElem?_eq_getElem h]
theorem tok_out {c : Rd} {i : Nat} (h : c.ts.length ≤ i) : c.tok i = ⟨0, [], c.e⟩ := by
  simp [Rd.tok, List.getElem?_eq_none h]

section
variable {G : Nat → Option (List PD)} {c : Rd} {a o : Nat} {r : List (List D)} {tk : List Nat}
theorem ldr0 : loadD G ⟨rC c a o :: r, tk⟩ none (.box 0 0) = some (.p (slP 3 (c.l.map Tok.pd))) := rfl
theorem ldr1 : loadD G ⟨rC c a o :: r, tk⟩ none (.box 0 1) = some (.p (.int .i64 a)) := rfl
theorem ldr2 : loadD G ⟨rC c a o :: r, tk⟩ none (.box 0 2) = some (.p (.int .i64 c.e)) := rfl
theorem ldr3 : loadD G ⟨rC c a o :: r, tk⟩ none (.box 0 3) = some (.p (.int .i64 o)) := rfl
theorem ldr4 : loadD G ⟨rC c a o :: r, tk⟩ none (.box 0 4) = some (.mapr 1) := rfl
theorem ldr5 : loadD G ⟨rC c a o :: r, tk⟩ none (.box 0 5) = some (.mapr 2) := rfl
theorem ldr6 : loadD G ⟨rC c a o :: r, tk⟩ none (.box 0 6) = some (.mapr 3) := rfl
theorem str1 (n : Nat) : storeD ⟨rC c a o :: r, tk⟩ 1 (.box 0 1) (.p (.int .i64 n)) = some ⟨rC c n o :: r, tk⟩ := by
  simp [storeD, rC, isMapC, D.cells, D.one, PD.one, splice]
theorem str3 (n : Nat) : storeD ⟨rC c a o :: r, tk⟩ 1 (.box 0 3) (.p (.int .i64 n)) = some ⟨rC c a n :: r, tk⟩ := by
  simp [storeD, rC, isMapC, D.cells, D.one, PD.one, splice]
theorem lenr : lenD 1 (.p (slP 3 (c.l.map Tok.pd))) = some c.ts.length := len_map 3 Tok.pd c.l
theorem iar {k : Nat} (h : k < c.ts.length) : iaddrD none 3 (.p (slP 3 (c.l.map Tok.pd))) (k : Int) = some (.ro [.int .i64 (c.tok k).k, .str (c.tok k).t, .int .i64 (c.tok k).p] 0) := by
  rw [tok_in h]
  have := ia_map (sz := 3) (f := Tok.pd) (o := c.l) h
  rw [this]; rfl
end

section
variable {G : Nat → Option (List PD)} {q0 q1 q2 q3 q4 : List D} {x y z : PD} {r : List (List D)} {tk : List Nat} {H : Hp}
theorem ldro3 : loadD G H (some 3) (.ro [x, y, z] 0) = some (.p (.agg [x, y, z])) := rfl
theorem ld4 : loadD G ⟨q0 :: q1 :: q2 :: q3 :: [.p x, .p y, .p z] :: r, tk⟩ (some 3) (.box 4 0) = some (.p (.agg [x, y, z])) := rfl
theorem ld40 : loadD G ⟨q0 :: q1 :: q2 :: q3 :: [.p x, .p y, .p z] :: r, tk⟩ none (.box 4 0) = some (.p x) := rfl
theorem ld41 : loadD G ⟨q0 :: q1 :: q2 :: q3 :: [.p x, .p y, .p z] :: r, tk⟩ none (.box 4 1) = some (.p y) := rfl
theorem ld42 : loadD G ⟨q0 :: q1 :: q2 :: q3 :: [.p x, .p y, .p z] :: r, tk⟩ none (.box 4 2) = some (.p z) := rfl
theorem ld5 : loadD G ⟨q0 :: q1 :: q2 :: q3 :: q4 :: [.p x, .p y, .p z] :: r, tk⟩ (some 3) (.box 5 0) = some (.p (.agg [x, y, z])) := rfl
theorem ld50 : loadD G ⟨q0 :: q1 :: q2 :: q3 :: q4 :: [.p x, .p y, .p z] :: r, tk⟩ none (.box 5 0) = some (.p x) := rfl
theorem ld51 : loadD G ⟨q0 :: q1 :: q2 :: q3 :: q4 :: [.p x, .p y, .p z] :: r, tk⟩ none (.box 5 1) = some (.p y) := rfl
theorem ld52 : loadD G ⟨q0 :: q1 :: q2 :: q3 :: q4 :: [.p x, .p y, .p z] :: r, tk⟩ none (.box 5 2) = some (.p z) := rfl
end
theorem addw1 {a : Nat} (h : a ≤ 3000000) : IntKind.i64.wrap ((a : Int) + 1) = (a : Int) + 1 := by
  rw [wrap64 (by omega) (by omega)]

section
variable {c : Rd} {a o : Nat} {r : List (List D)} {tk : List Nat} {q0 q1 q2 q3 q4 : List D} {u v w : D} {x z : Int} {y : List UInt8}
theorem str1' : storeD ⟨rC c a o :: r, tk⟩ 1 (.box 0 1) (.p (.int .i64 ((a : Int) + 1))) = some ⟨rC c (a + 1) o :: r, tk⟩ := str1 (a + 1)
theorem stT4 : storeD ⟨q0 :: q1 :: q2 :: q3 :: [u, v, w] :: r, tk⟩ 3 (.box 4 0) (.p (.agg [.int .i64 x, .str y, .int .i64 z])) = some ⟨q0 :: q1 :: q2 :: q3 :: [.p (.int .i64 x), .p (.str y), .p (.int .i64 z)] :: r, tk⟩ := by
  simp [storeD, isMapC, D.cells, D.one, PD.one, splice]
theorem stT5 : storeD ⟨q0 :: q1 :: q2 :: q3 :: q4 :: [u, v, w] :: r, tk⟩ 3 (.box 5 0) (.p (.agg [.int .i64 x, .str y, .int .i64 z])) = some ⟨q0 :: q1 :: q2 :: q3 :: q4 :: [.p (.int .i64 x), .p (.str y), .p (.int .i64 z)] :: r, tk⟩ := by
  simp [storeD, isMapC, D.cells, D.one, PD.one, splice]
end
theorem addw {a k : Nat} (h : a + k ≤ 4000000) : IntKind.i64.wrap ((a : Int) + (k : Int)) = (a : Int) + (k : Int) := by
  rw [wrap64 (by omega) (by omega)]
theorem look0 {c : Rd} (a o k : Nat) (hs : a + k ≤ 4000000) : ∃ ex, call pg 72 (.box 0 0 :: [PD.int .i64 k].map .p) (rH c a o [] []) = some (.val (.p (c.tok (a + k)).pd), rH c a o ex []) := by
  have hw := addw hs
  have hi := @iar c (a + k)
  rw [Int.natCast_add] at hi
  by_cases h : a + k < c.ts.length
  · have hi := hi h
    have h' : (a : Int) + (k : Int) < (c.ts.length : Int) := by omega
    refine ⟨[(c.tok (a + k)).pd.cells.map .p], call_body (fc := fc72) rfl rfl rfl rfl ?_⟩
    simp only [rH, List.append_nil, Tok.pd]
    generalize c.tok (a + k) = x at *
    simp [fc72, evKC, evK, put, Env.get, Env.keep, entry, Opd.ev, storeD, splice, D.asInt?, binD, clsP, cls, clsR, isCl, isW, apartRW, offB, apartWW, clash, insOk, finish, evRes, evRes1, D.cells, D.one, PD.one, PD.cells, isMapC, ldr0, ldr1, lenr, hw, hi, h', ldro3, ld4]
  · have h' : ¬ (a : Int) + (k : Int) < (c.ts.length : Int) := by omega
    rw [tok_out (by omega)]
    refine ⟨[[.p (.int .i64 0), .p (.str []), .p (.int .i64 c.e)]], call_body (fc := fc72) rfl rfl rfl rfl ?_⟩
    simp only [rH, List.append_nil, Tok.pd]
    simp [fc72, evKC, evK, put, Env.get, Env.keep, entry, Opd.ev, storeD, splice, binD, clsP, cls, clsR, isCl, isW, apartRW, offB, apartWW, clash, insOk, finish, evRes, evRes1, D.cells, D.one, PD.one, mkAgg, pures, fillD, isMapC, ldr0, ldr1, ldr2, lenr, hw, h', ld4]
theorem look_eq {c : Rd} (hc : c.Ok) (a o k : Nat) (hs : a + k ≤ 4000000) (bx : List (List D)) (t : List Nat) : callD (call pg) 72 [.box 0 0, .p (.int .i64 k)] (rH c a o bx t) = some (.val (.p (c.tok (a + k)).pd), rH c a o bx t) := by
  obtain ⟨ex, h⟩ := look0 (c := c) a o k hs
  have h' : call pg 72 (.box 0 0 :: [PD.int .i64 k].map .p) (rH c a o [] []) = some (.val (.p (c.tok (a + k)).pd), rH c a o ex []) := h
  exact callD_rd (args := [.int .i64 k]) hc hc rfl (fun _ _ => rfl) h'
theorem look_at {c : Rd} (hc : c.Ok) (a o : Nat) (hs : a ≤ 4000000) (bx : List (List D)) (t : List Nat) : callD (call pg) 72 [.box 0 0, .p (.int .i64 0)] (rH c a o bx t) = some (.val (.p (.agg [.int .i64 (c.tok a).k, .str (c.tok a).t, .int .i64 (c.tok a).p])), rH c a o bx t) :=
  look_eq hc a o 0 hs bx t
theorem callD_pureP {c : CallR} {f : Nat} {args : List D} {H : Hp} {d : D} {Hl : Hp} {d' : D} (h : c f args ⟨[], []⟩ = some (.pan d, Hl)) (hr : D.refsL args = []) (ht : D.toksL args = []) (ha : D.renL (idx []) (idx []) args = some args)
    (hd : d.ren (fun _ => none) (fun _ => none) = some d') : callD c f args H = some (.pan d', H) := by
  have hreach : ∀ n, reach H n [] = [] := by
    intro n
    cases n <;> simp [reach, boxRefs]
  unfold callD
  simp only [hr, ht, ins, hreach, boxToks, List.append_nil, Vs.nodupB, Bool.and_self, if_true, mapO, ha, h]
  unfold back
  simp only [firstN, List.length_nil, Nat.zero_le, if_true, List.take_zero, List.getElem?_nil, mapO, putAll, Res.ren, hd, Option.map_some]
theorem fail_eq (e : Int) (p : Nat) (H : Hp) : callD (call pg) 82 [.p (.int .i64 e), .p (.int .i64 p)] H = some (.pan (faultD e p), H) := by
  have h : call pg 82 [.p (.int .i64 e), .p (.int .i64 p)] ⟨[], []⟩ = some (.pan (faultD e p), ⟨[], []⟩) := by
    refine call_body (fc := fc82) rfl rfl rfl rfl ?_
    simp [fc82, faultD, panicD, evKC, evK, put, Env.get, entry, Opd.ev, splice, finish, D.cells, D.one, PD.one, mkAgg, pures, fillD, D.asPD]
  exact callD_pureP h rfl rfl rfl rfl
def namedB (x : Tok) : Bool := x.k == 1 && !kw x.t
theorem named_eq (x : Tok) (hx : x.t.length ≤ 1000000) (H : Hp) : callD (call pg) 136 [.p (.agg [.int .i64 x.k, .str x.t, .int .i64 x.p])] H = some (.val (.p (.bool (namedB x))), H) := by
  have hk := kw_eq x.t hx
  have h : ∃ H', call pg 136 [.p (.agg [.int .i64 x.k, .str x.t, .int .i64 x.p])] ⟨[], []⟩ = some (.val (.p (.bool (namedB x))), H') := by
    refine ⟨_, call_body (fc := fc136) rfl rfl rfl rfl (r := (_, ⟨[[.p (.int .i64 x.k), .p (.str x.t), .p (.int .i64 x.p)]], []⟩)) ?_⟩
    by_cases h1 : x.k = 1
    · simp [fc136, evKC, evK, evGuard, put, Env.get, Env.keep, entry, Opd.ev, loadD, cutAt, binD, unD, finish, evRes, evRes1, D.cells, D.one, PD.one, isMapC, hk, h1, namedB]
    · have h2 : (x.k == 1) = false := by simp [h1]
      simp [fc136, evKC, evK, evGuard, put, Env.get, Env.keep, entry, Opd.ev, loadD, cutAt, binD, finish, evRes, evRes1, D.cells, D.one, PD.one, isMapC, h2, namedB]
  exact callD_any h rfl rfl rfl rfl H
def wrongP {α : Type} (c : Rd) (a : Nat) : PR α := .bad (if (c.tok a).k = 0 then 21 else 20) (c.tok a).p a
theorem tok_k0 {c : Rd} (h : c.Sz) {a : Nat} (h0 : (c.tok a).k = 0) : (c.tok a).p = c.e := by
  by_cases hl : a < c.ts.length
  · rw [tok_in hl] at h0
    exact absurd h0 (h.k _ (List.getElem_mem hl))
  · rw [tok_out (by omega)]
theorem ans_ok {α : Type} {g : Nat} {args : List PD} {c : Rd} (hc : c.Ok) {a o : Nat} {f : α → D} {x : α} {a' : Nat} (hf : ∀ bi ti, (f x).ren bi ti = some (f x))
    (h : ∃ ex et, call pg g (.box 0 0 :: args.map .p) (rH c a o [] []) = some (.val (f x), rH c a' o ex et)) : Ans g args c a o f (.ok x a') := by
  obtain ⟨ex, et, h⟩ := h
  intro bx t
  exact callD_rd hc hc rfl (r := .val (f x)) (fun bi ti => by simp [Res.ren, hf]) h
theorem ans_bad {α : Type} {g : Nat} {args : List PD} {c : Rd} (hc : c.Ok) {a o : Nat} {f : α → D} {e : Int} {p a' : Nat}
    (h : ∃ o' ex et, call pg g (.box 0 0 :: args.map .p) (rH c a o [] []) = some (.pan (faultD e p), rH c a' o' ex et)) : Ans g args c a o f (.bad e p a') := by
  obtain ⟨o', ex, et, h⟩ := h
  exact ⟨o', fun bx t => callD_rd hc hc rfl (r := .pan (faultD e p)) (fun bi ti => rfl) h⟩
theorem wrong_eq {c : Rd} (h : c.Sz) (a o : Nat) (hs : a ≤ 4000000) (bx : List (List D)) (t : List Nat) : callD (call pg) 49 [.box 0 0] (rH c a o bx t) = some (.pan (faultD (if (c.tok a).k = 0 then 21 else 20) (c.tok a).p), rH c a o bx t) := by
  have lk := fun bx => look_at h.toOk a o hs bx []
  have h0 := tok_k0 h (a := a)
  refine callD_rd (args := []) (ex := [[.p (.int .i64 (c.tok a).k), .p (.str (c.tok a).t), .p (.int .i64 (c.tok a).p)]]) (et := []) h.toOk h.toOk rfl (fun _ _ => rfl) (call_body (fc := fc49) rfl rfl rfl rfl ?_)
  simp only [rH, List.append_nil] at lk ⊢
  generalize c.tok a = x at *
  by_cases hk : x.k = 0
  · simp [fc49, evKC, evK, put, Env.get, Env.keep, entry, Opd.ev, storeD, splice, binD, finish, D.cells, D.one, PD.one, isMapC, lk, hk, ldr2, ld40, fail_eq, h0 hk]
  · have hk' : (x.k == 0) = false := by simp [hk]
    simp [fc49, evKC, evK, put, Env.get, Env.keep, entry, Opd.ev, storeD, splice, binD, finish, D.cells, D.one, PD.one, isMapC, lk, hk, hk', ld40, ld42, fail_eq]
def acceptB (c : Rd) (a : Nat) (s : List UInt8) : Bool := !((c.tok a).k == 0) && (c.tok a).t == s
def acceptN (c : Rd) (a : Nat) (s : List UInt8) : Nat := cond (acceptB c a s) (a + 1) a
theorem accept_eq {c : Rd} (h : c.Ok) (a o : Nat) (s : List UInt8) (hs : a ≤ 3000000) (bx : List (List D)) (t : List Nat) : callD (call pg) 121 [.box 0 0, .p (.str s)] (rH c a o bx t) = some (.val (.p (.bool (acceptB c a s))), rH c (acceptN c a s) o bx t) := by
  have lk := fun bx => look_at h a o (by omega) bx []
  refine callD_rd (args := [.str s]) (ex := [[.p (.int .i64 (c.tok a).k), .p (.str (c.tok a).t), .p (.int .i64 (c.tok a).p)]]) (et := []) h h rfl (fun _ _ => rfl) (call_body (fc := fc121) rfl rfl rfl rfl ?_)
  simp only [rH, List.append_nil, acceptN, acceptB] at lk ⊢
  generalize c.tok a = x at *
  have hw := addw1 (a := a) hs
  by_cases hk : x.k = 0
  · simp [fc121, evKC, evK, evGuard, put, Env.get, Env.keep, entry, Opd.ev, binD, finish, evRes, evRes1, PD.one, lk, hk, ld40, stT4]
  · have hk' : (x.k == 0) = false := by simp [hk]
    by_cases ht : x.t = s
    · simp [fc121, evKC, evK, evGuard, put, Env.get, Env.keep, entry, Opd.ev, binD, strBin, finish, evRes, evRes1, PD.one, stT4, lk, hk', ht, ld40, ld41, ldr1, hw, str1', stT4]
    · have ht' : (x.t == s) = false := by simp [ht]
      simp [fc121, evKC, evK, evGuard, put, Env.get, Env.keep, entry, Opd.ev, binD, strBin, finish, evRes, evRes1, PD.one, stT4, lk, hk', ht', ld40, ld41]
def expectP (c : Rd) (a : Nat) (s : List UInt8) : PR Unit := cond (acceptB c a s) (.ok () (a + 1)) (wrongP c a)
theorem expect_eq {c : Rd} (h : c.Sz) (a o : Nat) (s : List UInt8) (hs : a ≤ 3000000) : Ans 122 [.str s] c a o (fun _ => .undef) (expectP c a s) := by
  have ac := fun bx => accept_eq h.toOk a o s hs bx []
  have wr := fun bx => wrong_eq h a o (by omega) bx []
  simp only [rH, List.append_nil, acceptN] at ac wr
  unfold expectP
  cases hb : acceptB c a s with
  | true =>
    rw [hb] at ac
    refine ans_ok h.toOk (fun _ _ => rfl) ⟨[], [], call_body (fc := fc122) rfl rfl rfl rfl ?_⟩
    simp only [rH, List.append_nil]
    simp [fc122, evKC, evK, put, Env.get, Env.keep, entry, Opd.ev, unD, finish, evRes, ac]
  | false =>
    rw [hb] at ac
    refine ans_bad h.toOk ⟨o, [], [], call_body (fc := fc122) rfl rfl rfl rfl ?_⟩
    simp only [rH, List.append_nil]
    simp [fc122, evKC, evK, put, Env.get, Env.keep, entry, Opd.ev, unD, finish, ac, wr]
def nameP (c : Rd) (a : Nat) : PR Tok := cond (namedB (c.tok a)) (.ok (c.tok a) (a + 1)) (wrongP c a)
theorem rname_eq {c : Rd} (h : c.Sz) (a o : Nat) (hs : a ≤ 3000000) (ht : (c.tok a).t.length ≤ 1000000) : Ans 120 [] c a o (fun x => .p x.pd) (nameP c a) := by
  have lk := fun bx => look_at h.toOk a o (by omega) bx []
  have wr := fun bx => wrong_eq h a o (by omega) bx []
  have nm := named_eq (c.tok a) ht
  have hw := addw1 (a := a) hs
  simp only [rH, List.append_nil] at lk wr
  unfold nameP
  cases hb : namedB (c.tok a) with
  | true =>
    rw [hb] at nm
    refine ans_ok h.toOk (fun _ _ => rfl) ⟨[[.p (.int .i64 (c.tok a).k), .p (.str (c.tok a).t), .p (.int .i64 (c.tok a).p)], [.p (.int .i64 (c.tok a).k), .p (.str (c.tok a).t), .p (.int .i64 (c.tok a).p)]], [], call_body (fc := fc120) rfl rfl rfl rfl ?_⟩
    simp only [rH, List.append_nil, Tok.pd]
    generalize c.tok a = x at *
    simp [fc120, evKC, evK, put, Env.get, Env.keep, entry, Opd.ev, binD, unD, finish, evRes, evRes1, PD.one, stT4, stT5, lk, nm, ld4, ld5, ldr1, hw, str1', stT4, stT5]
  | false =>
    rw [hb] at nm
    refine ans_bad h.toOk ⟨o, [[.p (.int .i64 0), .p (.str []), .p (.int .i64 0)], [.p (.int .i64 (c.tok a).k), .p (.str (c.tok a).t), .p (.int .i64 (c.tok a).p)]], [], call_body (fc := fc120) rfl rfl rfl rfl ?_⟩
    simp only [rH, List.append_nil]
    generalize c.tok a = x at *
    simp [fc120, evKC, evK, put, Env.get, Env.keep, entry, Opd.ev, unD, finish, PD.one, stT5, lk, nm, ld5, wr]

end Go.Proofs.YtalgjkpkkdljaaaGreatDoor

namespace Go.Proofs.YtalgjkpkkdljaaaGreatDoor
open Go.Vs
theorem frz_rC {c : Rd} (h : c.Ok) (a o : Nat) (H : Hp) : (rC c a o).map (D.frz 4 H 8) = rC c a o := by
  have e := h.fz H
  simp only [rC, List.map_cons, e]
  rfl
theorem seal_rd {c : Rd} (h : c.Ok) {a o : Nat} {ex : List (List D)} {t : List Nat} {r r' : Res} (hr : (r.frz 4 (rH c a o ex t)).ren (below 4) some = some r') :
    sealF 4 (r, rH c a o ex t) = (r', rH c a o [] t) := by
  have e1 := frz_rC h a o (rH c a o ex t)
  have e2 := ren_rC (c := c) (bi := below 4) (ti := some) rfl rfl rfl (h.sb _) a o
  have e3 : (rH c a o ex t).bx.take 4 = [rC c a o, tabB, tabU, tabS] := by simp [rH]
  have e4 : mapO (fun cs => D.renL (below 4) some (cs.map (D.frz 4 (rH c a o ex t) 8))) [rC c a o, tabB, tabU, tabS] = some [rC c a o, tabB, tabU, tabS] := by
    simp only [mapO, e1, e2]
    rfl
  have e5 : 4 ≤ (rH c a o ex t).bx.length := by simp [rH]
  unfold sealF
  simp only [e3, e4, hr, if_pos e5]
  simp [rH]
theorem seal_bad {c : Rd} (h : c.Ok) {a o : Nat} {ex : List (List D)} {t : List Nat} {e : Int} {p : Nat} : sealF 4 (.pan (faultD e p), rH c a o ex t) = (.pan (faultD e p), rH c a o [] t) := seal_rd h rfl
theorem seal_nd {c : Rd} (h : c.Ok) {a o : Nat} {ex : List (List D)} {t : List Nat} {x : PD} : sealF 4 (.val (.p x), rH c a o ex t) = (.val (.p x), rH c a o [] t) := seal_rd h rfl
def nodeP (n : Nd) (p a : Nat) : PR Nd := cond (fitsB n.op n.ks) (.ok n a) (.bad 43 p a)

section
variable {G : Nat → Option (List PD)} {q0 q1 q2 q3 q4 : List D} {x y z v w : PD} {r : List (List D)} {tk : List Nat}
theorem ldn0 : loadD G ⟨q0 :: q1 :: q2 :: q3 :: [.p x, .p y, .p z, .p v, .p w] :: r, tk⟩ none (.box 4 0) = some (.p x) := rfl
theorem ldn3 : loadD G ⟨q0 :: q1 :: q2 :: q3 :: [.p x, .p y, .p z, .p v, .p w] :: r, tk⟩ none (.box 4 3) = some (.p v) := rfl
theorem ldn4 : loadD G ⟨q0 :: q1 :: q2 :: q3 :: [.p x, .p y, .p z, .p v, .p w] :: r, tk⟩ none (.box 4 4) = some (.p w) := rfl
theorem ldn : loadD G ⟨q0 :: q1 :: q2 :: q3 :: [.p x, .p y, .p z, .p v, .p w] :: r, tk⟩ (some 5) (.box 4 0) = some (.p (.agg [x, y, z, v, w])) := rfl
theorem ldm : loadD G ⟨q0 :: q1 :: q2 :: q3 :: q4 :: [.p x, .p y, .p z, .p v, .p w] :: r, tk⟩ (some 5) (.box 5 0) = some (.p (.agg [x, y, z, v, w])) := rfl
theorem stn {n1 n2 n3 : Int} {s : List UInt8} {K : PD} (h : K.one = true) {k1 k2 k3 k4 k5 : D} : storeD ⟨q0 :: q1 :: q2 :: q3 :: q4 :: [k1, k2, k3, k4, k5] :: r, tk⟩ 5 (.box 5 0) (.p (.agg [.int .i64 n1, .str s, .int .i64 n2, K, .int .i64 n3])) = some ⟨q0 :: q1 :: q2 :: q3 :: q4 :: [.p (.int .i64 n1), .p (.str s), .p (.int .i64 n2), .p K, .p (.int .i64 n3)] :: r, tk⟩ := by
  have h1 : (D.p K).one = true := h
  have h2 : ∀ k n, (D.p (.int k n)).one = true := fun _ _ => rfl
  have h3 : ∀ s, (D.p (.str s)).one = true := fun _ => rfl
  simp [storeD, isMapC, D.cells, h1, h2, h3, splice]
theorem stn4 {n1 n2 n3 : Int} {s : List UInt8} {K : PD} (h : K.one = true) {k1 k2 k3 k4 k5 : D} : storeD ⟨q0 :: q1 :: q2 :: q3 :: [k1, k2, k3, k4, k5] :: r, tk⟩ 5 (.box 4 0) (.p (.agg [.int .i64 n1, .str s, .int .i64 n2, K, .int .i64 n3])) = some ⟨q0 :: q1 :: q2 :: q3 :: [.p (.int .i64 n1), .p (.str s), .p (.int .i64 n2), .p K, .p (.int .i64 n3)] :: r, tk⟩ := by
  have h1 : (D.p K).one = true := h
  have h2 : ∀ k n, (D.p (.int k n)).one = true := fun _ _ => rfl
  have h3 : ∀ s, (D.p (.str s)).one = true := fun _ => rfl
  simp [storeD, isMapC, D.cells, h1, h2, h3, splice]
theorem oI (k : IntKind) (n : Int) : (PD.int k n).one = true := rfl
theorem oS (s : List UInt8) : (PD.str s).one = true := rfl
theorem oN : PD.nils.one = true := rfl
theorem oP (x : PD) : (D.p x).one = x.one := rfl
theorem cells1 {K : PD} (h : K.one = true) : K.cells = [K] := by
  cases K <;> first | rfl | cases h
end
theorem node_eq {c : Rd} (h : c.Ok) (a o : Nat) (n : Nd) (p : Nat) (hp : n.pos = (p : Int)) (hk : n.ks.length ≤ 1000000000) : Ans 142 [n.pd] c a o (fun x : Nd => .p x.pd) (nodeP n p a) := by
  have hf := fun (bx : List (List D)) (tk : List Nat) => fits_eq (op := n.op) (a := n) hk (H := ⟨rC c a o :: tabB :: tabU :: tabS :: bx, tk⟩) (i := 3) rfl
  have ho := one_kids n
  have hpo := pone_kids n
  have hkc := cells1 hpo
  unfold nodeP
  cases hb : fitsB n.op n.ks with
  | true =>
    rw [hb] at hf
    refine ans_ok h (fun _ _ => rfl) ⟨[], [], call_frz (fc := fc142) rfl rfl rfl rfl (r := (.val (.p n.pd), rH c a o [n.cells.map .p, n.cells.map .p] [])) ?_ (seal_nd h)⟩
    rw [pd_cells]
    have e : n.cells = [.int .i64 n.op, .str n.nm, .int .i64 n.n, n.kidsP, .int .i64 n.pos] := rfl
    simp only [rH, List.append_nil, e]
    simp [fc142, evKC, evK, put, Env.get, Env.keep, entry, Opd.ev, unD, clsP, cls, clsR, isCl, isW, apartRW, offB, apartWW, clash, insOk, finish, evRes, evRes1, D.cells, D.refsL, D.refs, D.toksL, D.toks, ldr6, hf, hpo, ldn0, ldn3, ldn, ldm, stn hpo, oP]
  | false =>
    rw [hb] at hf
    refine ans_bad h ⟨o, [], [], call_frz (fc := fc142) rfl rfl rfl rfl (r := (.pan (faultD 43 p), rH c a o [n.cells.map .p, [.p (.int .i64 0), .p (.str []), .p (.int .i64 0), .p .nils, .p (.int .i64 0)]] [])) ?_ (seal_bad h)⟩
    rw [pd_cells]
    have e : n.cells = [.int .i64 n.op, .str n.nm, .int .i64 n.n, n.kidsP, .int .i64 n.pos] := rfl
    simp only [rH, List.append_nil, e, hp]
    simp [fc142, evKC, evK, put, Env.get, Env.keep, entry, Opd.ev, unD, clsP, cls, clsR, isCl, isW, apartRW, offB, apartWW, clash, insOk, finish, D.cells, D.refsL, D.refs, D.toksL, D.toks, ldr6, hf, hpo, ldn0, ldn3, ldn4, fail_eq, oP]

end Go.Proofs.YtalgjkpkkdljaaaGreatDoor

namespace Go.Proofs.YtalgjkpkkdljaaaGreatDoor
open Go.Vs
def PR.bind {α β : Type} (x : PR α) (f : α → Nat → PR β) : PR β := match x with
  | .ok v a => f v a
  | .bad e p a => .bad e p a
def leafN (op : Int) (nm : List UInt8) (n : Int) (p : Nat) : Nd := .mk op nm n 0 [] p
def kidsN (op : Int) (nm : List UInt8) (ks : List Nd) (p : Nat) : Nd := .mk op nm 0 2 ks p
def Tok.num (x : Tok) : Nat := match Lib.atoi x.t with
  | some n => n.toNat
  | none => 0
def numberP (c : Rd) (most a : Nat) : PR Nat :=
  if (c.tok a).k = 2 then (if most < (c.tok a).num then .bad 2 (c.tok a).p a else .ok (c.tok a).num (a + 1)) else wrongP c a
def digit13 (s : List UInt8) : Bool := match s with
  | [b] => decide (49 ≤ b.toNat) && decide (b.toNat ≤ 51)
  | _ => false
def noneP (c : Rd) (p a : Nat) : PR Nd :=
  if acceptB c a [91] then
    (if (c.tok (a + 1)).k = 2 ∧ digit13 (c.tok (a + 1)).t = true then
      (numberP c 3 (a + 1)).bind fun n a => (expectP c a [93]).bind fun _ a => .ok (leafN 2 [] n p) a
    else wrongP c (a + 1))
  else .ok (leafN 2 [] 1 p) a
def binOp (o : Bin) (k : Int) : Int := if k ≠ 1 ∨ o.rel = 0 then o.alt else o.rel
def joinedP (t : Tok) (o : Bin) (x y : Nd) (a : Nat) : PR Nd :=
  if binOp o (knd x.op) = 0 then .bad 43 t.p a
  else (nodeP (kidsN (binOp o (knd x.op)) [] (if t.t = [60, 61] then [y, x] else [x, y]) t.p) t.p a).bind fun n a =>
    .ok (if t.t = [33, 61] ∨ t.t = [60, 61] then kidsN 40 [] [n] t.p else n) a

section
variable (c : Rd) (prs : Nat → Nat → PR Nd)
def quantP (op : Int) (p a : Nat) : PR Nd :=
  (nameP c a).bind fun t a => (expectP c a [58]).bind fun _ a => (prs 8 a).bind fun e a => (expectP c a [124]).bind fun _ a =>
    (prs 1 a).bind fun f a => nodeP (kidsN op t.t [e, f] p) p a
def callN (nm : List UInt8) (ks : List Nd) (p : Nat) : Nd := .mk 47 nm 0 (if ks = [] then 1 else 2) ks p
def argsP (t : Tok) : Nat → List Nd → Nat → PR Nd
  | 0, ks, a => nodeP (callN t.t ks t.p) t.p a
  | n + 1, ks, a => if acceptB c a [93] then nodeP (callN t.t ks t.p) t.p (a + 1)
    else (if ks = [] then PR.ok () a else expectP c a [44]).bind fun _ a => (prs 8 a).bind fun x a => argsP t n (ks ++ [x]) a
def wordOp (s : List UInt8) : Option Int :=
  if s = [116, 114, 117, 101] then some 30 else if s = [102, 97, 108, 115, 101] then some 31 else if s = [117, 110, 105, 118] then some 3 else if s = [105, 100, 101, 110] then some 4 else none
def primaryP (t : Tok) (a : Nat) : PR Nd :=
  match wordOp t.t with
  | some op => .ok (leafN op [] 0 t.p) (a + 1)
  | none =>
    if t.k = 2 then (numberP c 64 a).bind fun n a => .ok (leafN 20 [] n t.p) a
    else if t.t = [45] ∧ (c.tok (a + 1)).k = 2 then (numberP c 64 (a + 1)).bind fun n a => .ok (leafN 20 [] (-n) t.p) a
    else if t.t = [45] then wrongP c (a + 1)
    else if acceptB c a [110, 111, 110, 101] then noneP c t.p (a + 1)
    else if acceptB c a [123] then (quantP c prs 15 t.p (a + 1)).bind fun n a => (expectP c a [125]).bind fun _ a => .ok n a
    else if acceptB c a [40] then (prs 1 (a + 1)).bind fun n a => (expectP c a [41]).bind fun _ a => .ok n a
    else (nameP c a).bind fun _ a => if acceptB c a [91] then argsP c prs t (c.ts.length + 1) [] (a + 1) else .ok (leafN 1 t.t 0 t.p) a
def primesP : Nat → Nd → Nat → PR Nd
  | 0, n, a => .ok n a
  | m + 1, n, a => if (c.tok a).t = [39] then (nodeP (kidsN 5 [] [n] (c.tok a).p) (c.tok a).p (a + 1)).bind fun n a => primesP m n a else .ok n a
def operandP (a : Nat) : PR Nd :=
  let t := c.tok a
  if t.k ≠ 0 ∧ t.t = [97, 108, 108] then quantP c prs 45 t.p (a + 1)
  else if t.t = [115, 111, 109, 101] ∧ namedB (c.tok (a + 1)) = true ∧ (c.tok (a + 2)).t = [58] then quantP c prs 46 t.p (a + 1)
  else match lookT preT t.t with
    | some o => if t.k ≠ 0 then (prs o.lv (a + 1)).bind fun x a => nodeP (kidsN o.op [] [x] t.p) t.p a else (primaryP c prs t a).bind fun n a => primesP c (c.ts.length + 1) n a
    | none => (primaryP c prs t a).bind fun n a => primesP c (c.ts.length + 1) n a
def opsP (lev : Nat) : Nat → Bool → Nd → Nat → PR Nd
  | 0, _, x, a => .ok x a
  | m + 1, compared, x, a =>
    let t := c.tok a
    match lookT binT t.t with
    | none => .ok x a
    | some o => if t.k = 0 ∨ o.lv < lev ∨ (o.lv = 7 ∧ compared = true) then .ok x a
      else (prs (if o.r then o.lv else o.lv + 1) (a + 1)).bind fun y a => (joinedP t o x y a).bind fun n a => opsP lev m (o.lv == 7) n a
end
def parseP (c : Rd) : Nat → Nat → Nat → PR Nd
  | 0, _, a => wrongP c a
  | d + 1, lev, a => if d = 0 ∧ (c.tok a).k ≠ 0 then .bad 2 (c.tok a).p a
    else (operandP c (parseP c d) a).bind fun x a => opsP c (parseP c d) lev (c.ts.length + 1) false x a
def wholeP (c : Rd) (a : Nat) : PR Nd :=
  (parseP c 101 1 a).bind fun n a' => if knd n.op ≠ 3 then .bad 43 (c.tok a).p a' else if validN n = false then .bad 2 (c.tok a).p a' else .ok n a'
def formulaP (c : Rd) : PR Nd := (wholeP c 0).bind fun n a => if a < c.ts.length then wrongP c a else .ok n a

end Go.Proofs.YtalgjkpkkdljaaaGreatDoor

namespace Go.Proofs.YtalgjkpkkdljaaaGreatDoor
open Go.Vs
theorem tok_t {c : Rd} (h : c.Sz) (a : Nat) : (c.tok a).t.length ≤ 1000000 := by
  by_cases hl : a < c.ts.length
  · rw [tok_in hl]; exact h.t _ (List.getElem_mem hl)
  · rw [tok_out (by omega)]; simp
theorem tok_num {c : Rd} (h : c.Sz) {a : Nat} (h2 : (c.tok a).k = 2) : Lib.atoi (c.tok a).t = some ((c.tok a).num : Int) ∧ (c.tok a).num ≤ 999999999 ∧ (c.tok a).t.length ≤ 9 := by
  by_cases hl : a < c.ts.length
  · rw [tok_in hl] at h2 ⊢
    obtain ⟨n, h3, h4, h5⟩ := h.num _ (List.getElem_mem hl) h2
    have : (c.ts[a]).num = n := by simp [Tok.num, h3]
    rw [this]; exact ⟨h3, h4, h5⟩
  · rw [tok_out (by omega)] at h2; simp at h2
theorem atoi_eq {s : List UInt8} {n : Int} (h1 : s.length ≤ 18) (h2 : Lib.atoi s = some n) (H : Hp) : callD (call pg) 164 [.p (.str s)] H = some (.val (.tup [.p (.int .i64 n), .p .nili]), H) := by
  have h' : pgL 164 [.p (.str s)] ⟨[], []⟩ = some (.val (.tup [.p (.int .i64 n), .p .nili]), ⟨[], []⟩) := by
    simp only [pgL, if_pos h1, h2]
  exact callD_pure (call_lib h') rfl rfl rfl rfl
theorem number_eq {c : Rd} (h : c.Sz) (a o most : Nat) (hs : a ≤ 3000000) : Ans 153 [.int .i64 most] c a o (fun n : Nat => .p (.int .i64 n)) (numberP c most a) := by
  have lk := fun bx => look_at h.toOk a o (by omega) bx []
  have wr := fun bx => wrong_eq h a o (by omega) bx []
  have hw := addw1 (a := a) hs
  simp only [rH, List.append_nil] at lk wr
  unfold numberP
  by_cases h2 : (c.tok a).k = 2
  · obtain ⟨n1, n2, n3⟩ := tok_num h h2
    have at' := fun H => atoi_eq (by omega) n1 H
    rw [if_pos h2]
    generalize c.tok a = x at *
    by_cases hm : most < x.num
    · rw [if_pos hm]
      have hm' : (most : Int) < (x.num : Int) := by omega
      refine ans_bad h.toOk ⟨o, [[.p (.int .i64 x.k), .p (.str x.t), .p (.int .i64 x.p)]], [], call_body (fc := fc153) rfl rfl rfl rfl ?_⟩
      simp only [rH, List.append_nil]
      simp [fc153, evKC, evK, evGuard, put, Env.get, Env.keep, entry, Opd.ev, binD, finish, PD.one, eqD, stT4, lk, h2, at', ld40, ld41, ld42, hm, fail_eq]
    · rw [if_neg hm]
      have hm' : ¬ (most : Int) < (x.num : Int) := by omega
      refine ans_ok h.toOk (fun _ _ => rfl) ⟨[[.p (.int .i64 x.k), .p (.str x.t), .p (.int .i64 x.p)]], [], call_body (fc := fc153) rfl rfl rfl rfl ?_⟩
      simp only [rH, List.append_nil]
      simp [fc153, evKC, evK, evGuard, put, Env.get, Env.keep, entry, Opd.ev, binD, finish, evRes, evRes1, PD.one, eqD, stT4, lk, h2, at', ld40, ld41, hm, ldr1, hw, str1']
  · rw [if_neg h2]
    have h2' : (((c.tok a).k) == 2) = false := by simp [h2]
    have h2'' : (((c.tok a).k) != 2) = true := by simp [h2]
    refine ans_bad h.toOk ⟨o, [[.p (.int .i64 (c.tok a).k), .p (.str (c.tok a).t), .p (.int .i64 (c.tok a).p)]], [], call_body (fc := fc153) rfl rfl rfl rfl ?_⟩
    simp only [rH, List.append_nil]
    generalize c.tok a = x at *
    simp [fc153, evKC, evK, put, Env.get, Env.keep, entry, Opd.ev, binD, finish, PD.one, stT4, lk, h2'', ld40, wr]

end Go.Proofs.YtalgjkpkkdljaaaGreatDoor

namespace Go.Proofs.YtalgjkpkkdljaaaGreatDoor
open Go.Vs
theorem Ans.okU {α : Type} {g : Nat} {args : List PD} {c : Rd} {a o : Nat} {f : α → D} {x : α} {a' : Nat} (h : Ans g args c a o f (.ok x a')) (bx : List (List D)) :
    callD (call pg) g (.box 0 0 :: args.map .p) ⟨rC c a o :: tabB :: tabU :: tabS :: bx, c.tk⟩ = some (.val (f x), ⟨rC c a' o :: tabB :: tabU :: tabS :: bx, c.tk⟩) := by
  have := h bx []
  simpa only [rH, List.append_nil] using this
theorem Ans.badU {α : Type} {g : Nat} {args : List PD} {c : Rd} {a o : Nat} {f : α → D} {e : Int} {p a' : Nat} (h : Ans g args c a o f (.bad e p a' : PR α)) :
    ∃ o', ∀ bx : List (List D), callD (call pg) g (.box 0 0 :: args.map .p) ⟨rC c a o :: tabB :: tabU :: tabS :: bx, c.tk⟩ = some (.pan (faultD e p), ⟨rC c a' o' :: tabB :: tabU :: tabS :: bx, c.tk⟩) := by
  obtain ⟨o', h⟩ := h
  refine ⟨o', fun bx => ?_⟩
  have := h bx []
  simpa only [rH, List.append_nil] using this
theorem ans_frz {g : Nat} {args : List PD} {c : Rd} (hc : c.Ok) {a o : Nat} {fc : FC} (hl : pgL g (.box 0 0 :: args.map .p) (rH c a o [] []) = none) (hf : pgF g = some fc) (hn : args.length + 1 = fc.np) (hz : fc.frozen = true)
    {x : Nd} {a' : Nat} (d : D) (hd : ∀ H, d.frz 4 H 8 = .p x.pd)
    (e : ∃ ex, finish pg.G fc.res (evS (call pg) pg.G iterX fc.body ⟨entry 0 (.box 0 0 :: args.map .p), rH c a o [] []⟩) = some (.val d, rH c a' o ex [])) :
    Ans g args c a o (fun x : Nd => .p x.pd) (.ok x a') := by
  obtain ⟨ex, e⟩ := e
  refine ans_ok hc (fun _ _ => rfl) ⟨[], [], call_frz hl hf (by simpa using hn) hz e (seal_rd hc ?_)⟩
  simp only [Res.frz, hd, Res.ren, D.ren, Option.map_some]
theorem ans_frzB {g : Nat} {args : List PD} {c : Rd} (hc : c.Ok) {a o : Nat} {fc : FC} (hl : pgL g (.box 0 0 :: args.map .p) (rH c a o [] []) = none) (hf : pgF g = some fc) (hn : args.length + 1 = fc.np) (hz : fc.frozen = true)
    {er : Int} {p a' : Nat}
    (e : ∃ ex o', finish pg.G fc.res (evS (call pg) pg.G iterX fc.body ⟨entry 0 (.box 0 0 :: args.map .p), rH c a o [] []⟩) = some (.pan (faultD er p), rH c a' o' ex [])) :
    Ans g args c a o (fun x : Nd => .p x.pd) (.bad er p a') := by
  obtain ⟨ex, o', e⟩ := e
  exact ans_bad hc ⟨o', [], [], call_frz hl hf (by simpa using hn) hz e (seal_bad hc)⟩

section
variable {G : Nat → Option (List PD)} {q0 q1 q2 q3 q4 q5 : List D} {x y z v w : PD} {r : List (List D)} {tk : List Nat} {k1 k2 k3 k4 k5 : D} {n : Int} {s : List UInt8}
theorem ld60 : loadD G ⟨q0 :: q1 :: q2 :: q3 :: q4 :: q5 :: [.p x, .p y, .p z] :: r, tk⟩ none (.box 6 0) = some (.p x) := rfl
theorem ld61 : loadD G ⟨q0 :: q1 :: q2 :: q3 :: q4 :: q5 :: [.p x, .p y, .p z] :: r, tk⟩ none (.box 6 1) = some (.p y) := rfl
theorem ld62 : loadD G ⟨q0 :: q1 :: q2 :: q3 :: q4 :: q5 :: [.p x, .p y, .p z] :: r, tk⟩ none (.box 6 2) = some (.p z) := rfl
theorem stT6 {x z : Int} {y : List UInt8} : storeD ⟨q0 :: q1 :: q2 :: q3 :: q4 :: q5 :: [k1, k2, k3] :: r, tk⟩ 3 (.box 6 0) (.p (.agg [.int .i64 x, .str y, .int .i64 z])) = some ⟨q0 :: q1 :: q2 :: q3 :: q4 :: q5 :: [.p (.int .i64 x), .p (.str y), .p (.int .i64 z)] :: r, tk⟩ := by
  simp [storeD, isMapC, D.cells, D.one, PD.one, splice]
theorem st52 : storeD ⟨q0 :: q1 :: q2 :: q3 :: q4 :: [k1, k2, k3, k4, k5] :: r, tk⟩ 1 (.box 5 2) (.p (.int .i64 n)) = some ⟨q0 :: q1 :: q2 :: q3 :: q4 :: [k1, k2, .p (.int .i64 n), k4, k5] :: r, tk⟩ := by
  simp [storeD, isMapC, D.cells, D.one, PD.one, splice]
end
theorem leaf_cells (op : Int) (nm : List UInt8) (n : Int) (p : Nat) : (leafN op nm n p).pd = .agg [.int .i64 op, .str nm, .int .i64 n, .nils, .int .i64 p] := rfl
theorem none_eq {c : Rd} (h : c.Sz) (a o p : Nat) (hs : a ≤ 2000000) : Ans 154 [.int .i64 p] c a o (fun x : Nd => .p x.pd) (noneP c p a) := by
  have ac := fun bx => accept_eq h.toOk a o [91] (by omega) bx []
  have lk := fun bx => look_at h.toOk (a + 1) o (by omega) bx []
  have wr := fun bx => wrong_eq h (a + 1) o (by omega) bx []
  have hn : Ans 153 [.int .i64 3] c (a + 1) o (fun n : Nat => .p (.int .i64 n)) (numberP c 3 (a + 1)) := number_eq h (a + 1) o 3 (by omega)
  simp only [rH, List.append_nil, acceptN] at ac lk wr
  unfold noneP
  cases hb : acceptB c a [91] with
  | false =>
    rw [hb] at ac
    refine ans_frz h.toOk (fc := fc154) rfl rfl rfl rfl (.p (leafN 2 [] 1 p).pd) (fun _ => rfl) ⟨[(leafN 2 [] 1 p).cells.map .p, (leafN 2 [] 1 p).cells.map .p], ?_⟩
    have e : (leafN 2 [] 1 p).cells = [.int .i64 2, .str [], .int .i64 1, .nils, .int .i64 p] := rfl
    simp only [rH, List.append_nil, leaf_cells, e]
    simp [fc154, evKC, evK, put, Env.get, Env.keep, entry, Opd.ev, splice, finish, evRes, evRes1, D.cells, mkAgg, pures, fillD, ac, ldm, ldn, stn oN, stn4 oN, oP]
  | true =>
    rw [hb] at ac
    have eT : (if true = true then (if (c.tok (a + 1)).k = 2 ∧ digit13 (c.tok (a + 1)).t = true then
      (numberP c 3 (a + 1)).bind fun n a => (expectP c a [93]).bind fun _ a => .ok (leafN 2 [] n p) a
        else wrongP c (a + 1)) else .ok (leafN 2 [] 1 p) a) = (if (c.tok (a + 1)).k = 2 ∧ digit13 (c.tok (a + 1)).t = true then
      (numberP c 3 (a + 1)).bind fun n a => (expectP c a [93]).bind fun _ a => .ok (leafN 2 [] n p) a
        else wrongP c (a + 1)) := if_pos rfl
    rw [eT]
    have e1 : (leafN 2 [] 1 p).cells = [.int .i64 2, .str [], .int .i64 1, .nils, .int .i64 p] := rfl
    by_cases hc : (c.tok (a + 1)).k = 2 ∧ digit13 (c.tok (a + 1)).t = true
    · rw [if_pos hc]
      obtain ⟨h2, h3⟩ := hc
      obtain ⟨b, hb1, hb2, hb3⟩ : ∃ b : UInt8, (c.tok (a + 1)).t = [b] ∧ 49 ≤ b.toNat ∧ b.toNat ≤ 51 := by
        unfold digit13 at h3
        split at h3
        · rename_i b hb; rw [Bool.and_eq_true] at h3; exact ⟨b, hb, of_decide_eq_true h3.1, of_decide_eq_true h3.2⟩
        · cases h3
      have d1 : ¬ ((b.toNat : Int) < 49) := by omega
      have d2 : ¬ (51 < (b.toNat : Int)) := by omega
      rw [hb1, h2] at lk
      have hin : numberP c 3 (a + 1) = .bad 2 (c.tok (a + 1)).p (a + 1) ∨ ∃ m, numberP c 3 (a + 1) = .ok m (a + 1 + 1) := by
        unfold numberP
        rw [if_pos h2]
        by_cases q : 3 < (c.tok (a + 1)).num
        · left; rw [if_pos q]
        · right; exact ⟨_, if_neg q⟩
      rcases hin with hr | ⟨m, hr⟩
      · rw [hr] at hn ⊢
        obtain ⟨o', hn⟩ := hn.badU
        simp only [List.map_cons, List.map_nil] at hn
        refine ans_frzB h.toOk (fc := fc154) rfl rfl rfl rfl ⟨[[.p (.int .i64 0), .p (.str []), .p (.int .i64 0), .p .nils, .p (.int .i64 0)], (leafN 2 [] 1 p).cells.map .p, [.p (.int .i64 2), .p (.str [b]), .p (.int .i64 (c.tok (a + 1)).p)]], o', ?_⟩
        simp only [rH, List.append_nil, e1]
        generalize c.tok (a + 1) = y at *
        simp [fc154, evKC, evK, evGuard, put, Env.get, Env.keep, entry, Opd.ev, splice, indexD, D.asInt?, u8, binD, lenD, finish, D.cells, mkAgg, pures, fillD, ac, lk, stT6, ld60, ld61, d1, d2, hn, stn oN, oP]
      · rw [hr] at hn ⊢
        have hn := hn.okU
        simp only [List.map_cons, List.map_nil] at hn
        show Ans 154 [.int .i64 p] c a o (fun x : Nd => .p x.pd) ((expectP c (a + 1 + 1) [93]).bind fun _ a => .ok (leafN 2 [] m p) a)
        generalize ha2 : a + 1 + 1 = a2 at hn ⊢
        have hx := expect_eq h a2 o [93] (by omega)
        unfold expectP at hx ⊢
        cases hb : acceptB c a2 [93] with
        | true =>
          rw [hb] at hx
          have hx := hx.okU
          simp only [List.map_cons, List.map_nil] at hx
          refine ans_frz h.toOk (fc := fc154) rfl rfl rfl rfl (.p (leafN 2 [] m p).pd) (fun _ => rfl) ⟨[(leafN 2 [] m p).cells.map .p, (leafN 2 [] m p).cells.map .p, [.p (.int .i64 2), .p (.str [b]), .p (.int .i64 (c.tok (a + 1)).p)]], ?_⟩
          have e : (leafN 2 [] m p).cells = [.int .i64 2, .str [], .int .i64 m, .nils, .int .i64 p] := rfl
          simp only [rH, List.append_nil, leaf_cells, e]
          generalize c.tok (a + 1) = y at *
          simp [fc154, evKC, evK, evGuard, put, Env.get, Env.keep, entry, Opd.ev, splice, indexD, D.asInt?, u8, binD, lenD, finish, evRes, evRes1, D.cells, mkAgg, pures, fillD, ac, lk, stT6, ld60, ld61, d1, d2, hn, hx, st52, ldm, ldn, stn oN, stn4 oN, oP]
        | false =>
          rw [hb] at hx
          obtain ⟨o', hx⟩ := Ans.badU hx
          simp only [List.map_cons, List.map_nil] at hx
          refine ans_frzB h.toOk (fc := fc154) rfl rfl rfl rfl ⟨[[.p (.int .i64 0), .p (.str []), .p (.int .i64 0), .p .nils, .p (.int .i64 0)], (leafN 2 [] m p).cells.map .p, [.p (.int .i64 2), .p (.str [b]), .p (.int .i64 (c.tok (a + 1)).p)]], o', ?_⟩
          have e : (leafN 2 [] m p).cells = [.int .i64 2, .str [], .int .i64 m, .nils, .int .i64 p] := rfl
          simp only [rH, List.append_nil, e]
          generalize c.tok (a + 1) = y at *
          simp [fc154, evKC, evK, evGuard, put, Env.get, Env.keep, entry, Opd.ev, splice, indexD, D.asInt?, u8, binD, lenD, finish, D.cells, mkAgg, pures, fillD, ac, lk, stT6, ld60, ld61, d1, d2, hn, hx, st52, stn oN, oP]
    · rw [if_neg hc]
      refine ans_frzB h.toOk (fc := fc154) rfl rfl rfl rfl ⟨[[.p (.int .i64 0), .p (.str []), .p (.int .i64 0), .p .nils, .p (.int .i64 0)], (leafN 2 [] 1 p).cells.map .p, [.p (.int .i64 (c.tok (a + 1)).k), .p (.str (c.tok (a + 1)).t), .p (.int .i64 (c.tok (a + 1)).p)]], o, ?_⟩
      simp only [rH, List.append_nil, e1]
      generalize c.tok (a + 1) = y at *
      by_cases h2 : y.k = 2
      · have h3 : digit13 y.t = false := by
          cases q : digit13 y.t with
          | true => exact absurd ⟨h2, q⟩ hc
          | false => rfl
        match hy : y.t with
        | [] => simp [fc154, evKC, evK, evGuard, put, Env.get, Env.keep, entry, Opd.ev, splice, binD, lenD, finish, D.cells, mkAgg, pures, fillD, ac, lk, h2, hy, wr, stT6, ld60, ld61, stn oN, oP]
        | [b] =>
          rw [hy] at h3
          unfold digit13 at h3
          by_cases d1 : (b.toNat : Int) < 49
          · simp [fc154, evKC, evK, evGuard, put, Env.get, Env.keep, entry, Opd.ev, splice, indexD, D.asInt?, u8, binD, lenD, finish, D.cells, mkAgg, pures, fillD, ac, lk, h2, hy, d1, wr, stT6, ld60, ld61, stn oN, oP]
          · have d2 : 51 < (b.toNat : Int) := by
              rw [Bool.and_eq_false_iff] at h3
              simp only [decide_eq_false_iff_not] at h3
              omega
            simp [fc154, evKC, evK, evGuard, put, Env.get, Env.keep, entry, Opd.ev, splice, indexD, D.asInt?, u8, binD, lenD, finish, D.cells, mkAgg, pures, fillD, ac, lk, h2, hy, d1, d2, wr, stT6, ld60, ld61, stn oN, oP]
        | b :: b' :: l =>
          have hl : ((l.length : Int) + 1 + 1 == 1) = false := by simp; omega
          have hl' : ((l.length : Int) + 1 + 1 != 1) = true := by simp; omega
          simp [fc154, evKC, evK, evGuard, put, Env.get, Env.keep, entry, Opd.ev, splice, binD, lenD, finish, D.cells, mkAgg, pures, fillD, ac, lk, h2, hy, hl', wr, stT6, ld60, ld61, stn oN, oP]
      · have h2' : (y.k != 2) = true := by simp [h2]
        simp [fc154, evKC, evK, evGuard, put, Env.get, Env.keep, entry, Opd.ev, splice, binD, finish, D.cells, mkAgg, pures, fillD, ac, lk, h2', wr, stT6, ld60, stn oN, oP]

end Go.Proofs.YtalgjkpkkdljaaaGreatDoor

namespace Go.Proofs.YtalgjkpkkdljaaaGreatDoor
open Go.Vs
theorem ia_fsl {a : Nd} {k : Nat} (h : k < a.ks.length) : iaddrD none 5 (.fsl 39 5 (a.ks.map Nd.pd)) (k : Int) = some (.ro (a.ks[k]).cells 0) := by
  have := iaddr_fsl (sz := 5) (e0 := 39) (es := a.ks.map Nd.pd) (k := k) (by simpa using h)
  rw [this]
  simp [nd_cells]
def ftSF (w : List UInt8) (a : Nd) (k : Nat) : St := ⟨[(7, .p (.str w)), (31, .fsl 39 5 (a.ks.map Nd.pd)), (32, .p (.int .i64 a.ks.length)), (33, .p (.int .i64 k))], ⟨[tabS], []⟩⟩
theorem fits_endF (w : List UInt8) (a : Nd) : ∃ env, evS (call pg) pg.G iterX fc79_b0 (ftSF w a a.ks.length) = some (.exit 0, ⟨env, ⟨[tabS], []⟩⟩) := by
  have r1 : ∀ f g, D.renL f g tabS = some tabS := fun f g => rfl
  refine ⟨[(7, .p (.str w)), (31, .fsl 39 5 (a.ks.map Nd.pd)), (32, .p (.int .i64 a.ks.length)), (33, .p (.int .i64 a.ks.length)), (34, .p (.bool false))], ?_⟩
  simp [ftSF, fc79_b0, evKC, evK, put, Env.get, Env.keep, Opd.ev, binD, mapO, D.ren, locD, Out.ren, List.map, r1]
theorem fits_stepF {w : List UInt8} {a : Nd} {k : Nat} (hl : a.ks.length = w.length) (hb : a.ks.length ≤ 1000000000) (hlt : k < a.ks.length) :
    evS (call pg) pg.G iterX fc79_b0 (ftSF w a k) = some (if (kl (a.ks[k]).op == w[k]'(hl ▸ hlt)) = true then (.norm, ftSF w a (k + 1)) else (.ret, ⟨[(6, .p (.bool false))], ⟨[tabS], []⟩⟩)) := by
  have r1 : ∀ f g, D.renL f g tabS = some tabS := fun f g => rfl
  have hlt' : (k : Int) < (a.ks.length : Int) := by omega
  have hia := ia_fsl hlt
  have hk1 := inc64 (k := k) (by omega)
  have hx := ix_str (w := w) (k := k) (hl ▸ hlt)
  have hl2 := fun (G : Nat → Option (List PD)) (H : Hp) => load_nd (G := G) (H := H) a.ks[k]
  have hki := kind_eq (a.ks[k]).op
  have hix := kl_index (a.ks[k]).op
  generalize w[k]'(hl ▸ hlt) = c at *
  generalize a.ks[k] = x at *
  have hu := u8_bne (kl x.op) c
  have hst : ∀ tk, storeD ⟨[tabS, [.p (.int .i64 0), .p (.str []), .p (.int .i64 0), .p .nils, .p (.int .i64 0)]], tk⟩ 5 (.box 1 0) (.p x.pd) = some ⟨[tabS, x.cells.map .p], tk⟩ := fun tk => by
    rw [pd_cells]
    exact store_box (H := ⟨[tabS, [.p (.int .i64 0), .p (.str []), .p (.int .i64 0), .p .nils, .p (.int .i64 0)]], tk⟩) (i := 1) (zs := [.int .i64 0, .str [], .int .i64 0, .nils, .int .i64 0]) rfl rfl rfl (by decide) (pd_one x)
  have lop : ∀ G tk, loadD G ⟨[tabS, x.cells.map .p], tk⟩ none (.box 1 0) = some (.p (.int .i64 x.op)) := fun _ _ => rfl
  cases hc : (kl x.op == c) <;> rw [hc] at hu <;> simp [ftSF, fc79_b0, evKC, evK, put, Env.get, Env.keep, Opd.ev, D.asInt?, binD, strBin, clsP, cls, clsR, isCl, D.refsL, D.refs, D.toksL, D.toks, List.map, hlt', hia, hx, hl2, hki, hix, hst, lop] <;> simp [u8, evKC, evK, put, Env.get, Env.keep, Opd.ev, u8, binD, clsP, cls, isW, apartRW, offB, apartWW, clash, insOk, mapO, D.ren, locD, Out.ren, List.map, hu, hk1, r1]
theorem fits_loopF {w : List UInt8} {a : Nd} (hl : a.ks.length = w.length) (hb : a.ks.length ≤ 1000000000) : ∀ (n k : Nat), a.ks.length - k ≤ n → k ≤ a.ks.length →
    (fitsL (a.ks.drop k) (w.drop k) = true → ∃ env, loopK (call pg) pg.G [7, 31, 32, 33] fc79_b0 (ftSF w a k) = some (.exit 0, ⟨env, ⟨[tabS], []⟩⟩)) ∧
    (fitsL (a.ks.drop k) (w.drop k) = false → loopK (call pg) pg.G [7, 31, 32, 33] fc79_b0 (ftSF w a k) = some (.ret, ⟨[(6, .p (.bool false))], ⟨[tabS], []⟩⟩)) := by
  intro n
  have hend : (fitsL (a.ks.drop a.ks.length) (w.drop a.ks.length) = true → ∃ env, loopK (call pg) pg.G [7, 31, 32, 33] fc79_b0 (ftSF w a a.ks.length) = some (.exit 0, ⟨env, ⟨[tabS], []⟩⟩)) ∧
      (fitsL (a.ks.drop a.ks.length) (w.drop a.ks.length) = false → loopK (call pg) pg.G [7, 31, 32, 33] fc79_b0 (ftSF w a a.ks.length) = some (.ret, ⟨[(6, .p (.bool false))], ⟨[tabS], []⟩⟩)) := by
    obtain ⟨env, he⟩ := fits_endF w a
    refine ⟨fun _ => ⟨env, loopK_out (o := .exit 0) he (by simp)⟩, fun h => ?_⟩
    rw [List.drop_eq_nil_of_le (Nat.le_refl _)] at h
    simp [fitsL] at h
  induction n with
  | zero =>
    intro k hn hk
    have he : k = a.ks.length := by omega
    subst he
    exact hend
  | succ n ih =>
    intro k hn hk
    by_cases he : k = a.ks.length
    · subst he; exact hend
    · have hlt : k < a.ks.length := by omega
      have hst := fits_stepF hl hb hlt
      have hc := fitsL_step hlt (w := w) (by omega)
      obtain ⟨i1, i2⟩ := ih (k + 1) (by omega) (by omega)
      cases hb : (kl (a.ks[k]).op == w[k]'(hl ▸ hlt)) with
      | true =>
        rw [hb, if_pos rfl] at hst
        rw [hb, Bool.true_and] at hc
        have hl : loopK (call pg) pg.G [7, 31, 32, 33] fc79_b0 (ftSF w a k) = loopK (call pg) pg.G [7, 31, 32, 33] fc79_b0 (ftSF w a (k + 1)) := loopK_norm hst
        rw [hc, hl]
        exact ⟨i1, i2⟩
      | false =>
        rw [hb, if_neg (by simp)] at hst
        rw [hb, Bool.false_and] at hc
        rw [hc]
        exact ⟨fun h => (by cases h), fun _ => loopK_out (o := .ret) hst (by simp)⟩
theorem fits0F (op : Int) (a : Nd) (hb : a.ks.length ≤ 1000000000) : ∃ ex tk, call pg 79 [.mapr 0, .p (.int .i64 op), .fsl 39 5 (a.ks.map Nd.pd)] ⟨[tabS], []⟩ = some (.val (.p (.bool (fitsB op a.ks))), ⟨tabS :: ex, tk⟩) := by
  have hg := get_shp (H := ⟨[tabS], []⟩) (i := 0) rfl op
  have hk0 : lenD 1 (.fsl 39 5 (a.ks.map Nd.pd)) = some a.ks.length := by rw [lenD_fsl, List.length_map]
  have hrep := repeat_eq a.ks.length (by omega)
  refine ⟨[], [], call_body (fc := fc79) rfl rfl rfl rfl ?_⟩
  by_cases h47 : op = 47
  · subst h47
    have hw : wantS 47 a.ks.length = some (List.replicate a.ks.length 101) := by simp [wantS]
    have hz : getS 47 = .tup [.p (.str []), .p (.bool false)] := by rfl
    rw [hz] at hg
    have hlen : a.ks.length = (List.replicate a.ks.length (101 : UInt8)).length := by simp
    obtain ⟨l1, l2⟩ := fits_loopF (w := List.replicate a.ks.length 101) (a := a) hlen hb a.ks.length 0 (by omega) (by omega)
    rw [List.drop_zero, List.drop_zero] at l1 l2
    simp only [ftSF, Int.natCast_zero] at l1 l2
    cases hf : fitsL a.ks (List.replicate a.ks.length 101) with
    | true =>
      obtain ⟨env, l1⟩ := l1 hf
      have hr : fitsB 47 a.ks = true := by simp [fitsB, hw, hf]
      rw [hr]
      simp [fc79, evKC, evK, evGuard, put, Env.get, Env.keep, entry, Opd.ev, binD, unD, finish, evRes, evRes1, lenD_str, hg, hk0, hrep, l1]
    | false =>
      have l2 := l2 hf
      have hr : fitsB 47 a.ks = false := by simp [fitsB, hw, hf]
      rw [hr]
      simp [fc79, evKC, evK, evGuard, put, Env.get, Env.keep, entry, Opd.ev, binD, unD, finish, evRes, evRes1, lenD_str, hg, hk0, hrep, l2]
  · have h47' : (op == 47) = false := by simpa using h47
    cases hl : lookS shpT op with
    | none =>
      have hr : fitsB op a.ks = false := by simp [fitsB, wantS, h47, hl]
      simp only [getS, hl] at hg
      rw [hr]
      simp [fc79, evKC, evK, evGuard, put, Env.get, Env.keep, entry, Opd.ev, binD, unD, finish, evRes, evRes1, hg, h47']
    | some w =>
      simp only [getS, hl] at hg
      by_cases hlen : a.ks.length = w.length
      · have hlen' : ((a.ks.length : Int) != (w.length : Int)) = false := by rw [bne_nat]; simp [hlen]
        obtain ⟨l1, l2⟩ := fits_loopF (w := w) (a := a) hlen hb a.ks.length 0 (by omega) (by omega)
        rw [List.drop_zero, List.drop_zero] at l1 l2
        simp only [ftSF, Int.natCast_zero] at l1 l2
        cases hf : fitsL a.ks w with
        | true =>
          obtain ⟨env, l1⟩ := l1 hf
          have hr : fitsB op a.ks = true := by simp [fitsB, wantS, h47, hl, hf, hlen]
          rw [hr]
          simp [fc79, evKC, evK, evGuard, put, Env.get, Env.keep, entry, Opd.ev, binD, unD, finish, evRes, evRes1, lenD_str, hg, hk0, h47', hlen', l1]
        | false =>
          have l2 := l2 hf
          have hr : fitsB op a.ks = false := by simp [fitsB, wantS, h47, hl, hf]
          rw [hr]
          simp [fc79, evKC, evK, evGuard, put, Env.get, Env.keep, entry, Opd.ev, binD, unD, finish, evRes, evRes1, lenD_str, hg, hk0, h47', hlen', l2]
      · have hlen' : ((a.ks.length : Int) != (w.length : Int)) = true := by rw [bne_nat]; simp [hlen]
        have hr : fitsB op a.ks = false := by simp [fitsB, wantS, h47, hl, hlen]
        rw [hr]
        simp [fc79, evKC, evK, evGuard, put, Env.get, Env.keep, entry, Opd.ev, binD, unD, finish, evRes, evRes1, lenD_str, hg, hk0, h47', hlen']
theorem callD_shpG {g : Nat} {args : List D} {H : Hp} {i : Nat} (hi : H.bx[i]? = some tabS) {d : D} (hd : ∀ bi ti, d.ren bi ti = some d)
    (hr : D.refsL args = []) (ht : D.toksL args = []) (ha : ∀ bi ti, D.renL bi ti args = some args)
    (h : ∃ ex tk, call pg g (.mapr 0 :: args) ⟨[tabS], []⟩ = some (.val d, ⟨tabS :: ex, tk⟩)) : callD (call pg) g (.mapr i :: args) H = some (.val d, H) := by
  obtain ⟨ex, tk, h⟩ := h
  have e1 : D.refsL (.mapr i :: args) = [i] := by simp [D.refsL, D.refs, hr]
  have e2 : D.toksL (.mapr i :: args) = [] := by simp [D.toksL, D.toks, ht]
  have e3 : ∀ n, reach H n [i] = [i] := fun n => by
    cases n with
    | zero => rfl
    | succ n => simp only [reach, boxRefs_shp hi]
  have e4 : boxToks H [i] = [] := by
    simp only [boxToks, hi, List.append_nil]; rfl
  have e5 : D.renL (idx [i]) (idx []) (.mapr i :: args) = some (.mapr 0 :: args) := by simp [D.renL, D.ren, idx, ha]
  have e6 : D.renL (idx [i]) (idx []) tabS = some tabS := by rfl
  have e7 : D.renL (fun j => [i][j]?) (fun t => ([] : List Nat)[t]?) tabS = some tabS := by rfl
  have hset : H.bx.set i tabS = H.bx := by
    apply List.ext_getElem?
    intro j
    by_cases hj : i = j
    · subst hj
      rw [List.getElem?_set_self (List.getElem?_eq_some_iff.1 hi).1, hi]
    · rw [List.getElem?_set_ne hj]
  have i1 : ins [] [i] = [i] := rfl
  have i2 : ins [] ([] : List Nat) = [] := rfl
  have n1 : (Vs.nodupB [i] && Vs.nodupB ([] : List Nat)) = true := by simp [Vs.nodupB]
  simp only [callD, e1, e2, i1, e3, e4, List.append_nil, i2, n1, if_true, e5, mapO, hi, e6, Option.map_some]
  rw [h]
  have k1 : firstN (tabS :: ex) 1 = some [tabS] := by simp [firstN]
  have k2 : firstN tk 0 = some [] := by simp [firstN]
  simp only [back, List.length_cons, List.length_nil, k1, k2, Res.ren, hd, Option.map_some, mapO, e7, putAll, hset]
theorem fits_eqF {op : Int} {a : Nd} (hb : a.ks.length ≤ 1000000000) {H : Hp} {i : Nat} (hi : H.bx[i]? = some tabS) : callD (call pg) 79 [.mapr i, .p (.int .i64 op), .fsl 39 5 (a.ks.map Nd.pd)] H = some (.val (.p (.bool (fitsB op a.ks))), H) :=
  callD_shpG (args := [.p (.int .i64 op), .fsl 39 5 (a.ks.map Nd.pd)]) hi (fun _ _ => rfl) rfl rfl (fun _ _ => rfl) (fits0F op a hb)

end Go.Proofs.YtalgjkpkkdljaaaGreatDoor

namespace Go.Proofs.YtalgjkpkkdljaaaGreatDoor
open Go.Vs
def litN (op : Int) (nm : List UInt8) (ks : List Nd) (p : Nat) : D := .agg [.p (.int .i64 op), .p (.str nm), .p (.int .i64 0), .fsl 39 5 (ks.map Nd.pd), .p (.int .i64 p)]

section
variable {G : Nat → Option (List PD)} {q0 q1 q2 q3 q4 : List D} {x y z w : PD} {e s : Nat} {l : List PD} {r : List (List D)} {tk : List Nat}
theorem ldf0 : loadD G ⟨q0 :: q1 :: q2 :: q3 :: [.p x, .p y, .p z, .fsl e s l, .p w] :: r, tk⟩ none (.box 4 0) = some (.p x) := rfl
theorem ldf3 : loadD G ⟨q0 :: q1 :: q2 :: q3 :: [.p x, .p y, .p z, .fsl e s l, .p w] :: r, tk⟩ none (.box 4 3) = some (.fsl e s l) := rfl
theorem ldf4 : loadD G ⟨q0 :: q1 :: q2 :: q3 :: [.p x, .p y, .p z, .fsl e s l, .p w] :: r, tk⟩ none (.box 4 4) = some (.p w) := rfl
theorem ldf : loadD G ⟨q0 :: q1 :: q2 :: q3 :: [.p x, .p y, .p z, .fsl e s l, .p w] :: r, tk⟩ (some 5) (.box 4 0) = some (.agg [.p x, .p y, .p z, .fsl e s l, .p w]) := rfl
theorem ldg : loadD G ⟨q0 :: q1 :: q2 :: q3 :: q4 :: [.p x, .p y, .p z, .fsl e s l, .p w] :: r, tk⟩ (some 5) (.box 5 0) = some (.agg [.p x, .p y, .p z, .fsl e s l, .p w]) := rfl
theorem stf {n1 n2 n3 : Int} {t : List UInt8} {k1 k2 k3 k4 k5 : D} : storeD ⟨q0 :: q1 :: q2 :: q3 :: q4 :: [k1, k2, k3, k4, k5] :: r, tk⟩ 5 (.box 5 0) (.agg [.p (.int .i64 n1), .p (.str t), .p (.int .i64 n2), .fsl e s l, .p (.int .i64 n3)]) = some ⟨q0 :: q1 :: q2 :: q3 :: q4 :: [.p (.int .i64 n1), .p (.str t), .p (.int .i64 n2), .fsl e s l, .p (.int .i64 n3)] :: r, tk⟩ := by
  simp [storeD, isMapC, D.cells, D.one, PD.one, splice]
end
theorem kids_pd (op : Int) (nm : List UInt8) (ks : List Nd) (p : Nat) (hk : ks ≠ []) : (kidsN op nm ks p).pd = .agg [.int .i64 op, .str nm, .int .i64 0, .slice 5 (ks.map Nd.pd), .int .i64 p] := by
  rw [pd_cells]
  match ks, hk with
  | x :: l, _ => rfl
theorem kidsN_ks (op : Int) (nm : List UInt8) (ks : List Nd) (p : Nat) : (kidsN op nm ks p).ks = ks := rfl
theorem litN_frz (op : Int) (nm : List UInt8) (ks : List Nd) (p : Nat) (hk : ks ≠ []) (H : Hp) : (litN op nm ks p).frz 4 H 8 = .p (kidsN op nm ks p).pd := by
  rw [kids_pd op nm ks p hk]
  match ks, hk with
  | x :: l, _ => rfl
theorem node_eqF {c : Rd} (h : c.Ok) (a o : Nat) (op : Int) (nm : List UInt8) (ks : List Nd) (p : Nat) (hne : ks ≠ []) (hk : ks.length ≤ 1000000000) (bx : List (List D)) (t : List Nat) :
    callD (call pg) 142 [.box 0 0, litN op nm ks p] (rH c a o bx t) = (if fitsB op ks then some (.val (.p (kidsN op nm ks p).pd), rH c a o bx t) else some (.pan (faultD 43 p), rH c a o bx t)) := by
  have hf := fun (bx : List (List D)) (tk : List Nat) => fits_eqF (op := op) (a := kidsN op nm ks p) hk (H := ⟨rC c a o :: tabB :: tabU :: tabS :: bx, tk⟩) (i := 3) rfl
  simp only [kidsN_ks] at hf
  have g1 : ins [] (D.refsL [.box 0 0, litN op nm ks p]) = [0] := rfl
  have g2 : D.toksL [.box 0 0, litN op nm ks p] = [] := rfl
  have g4 : ∀ f, D.renL (idx [0, 1, 2, 3]) f [.box 0 0, litN op nm ks p] = some [.box 0 0, litN op nm ks p] := fun _ => rfl
  cases hb : fitsB op ks with
  | true =>
    rw [hb] at hf
    rw [if_pos rfl]
    refine callD_rdG (r := .val (.p (kidsN op nm ks p).pd)) (ex := []) (et := []) h h rfl g1 g2 g4 (fun _ _ => rfl) (call_frz (fc := fc142) rfl rfl rfl rfl (r := (.val (litN op nm ks p), rH c a o [[.p (.int .i64 op), .p (.str nm), .p (.int .i64 0), .fsl 39 5 (ks.map Nd.pd), .p (.int .i64 p)], [.p (.int .i64 op), .p (.str nm), .p (.int .i64 0), .fsl 39 5 (ks.map Nd.pd), .p (.int .i64 p)]] [])) ?_ (seal_rd h ?_))
    · simp only [rH, List.append_nil, litN]
      simp [fc142, evKC, evK, put, Env.get, Env.keep, entry, Opd.ev, unD, clsP, cls, clsR, isCl, isW, apartRW, offB, apartWW, clash, insOk, finish, evRes, evRes1, D.cells, D.one, PD.one, D.refsL, D.refs, D.toksL, D.toks, ldr6, hf, ldf0, ldf3, ldf, ldg, stf]
    · simp only [Res.frz, litN_frz op nm ks p hne, Res.ren, D.ren, Option.map_some]
  | false =>
    rw [hb] at hf
    rw [if_neg (by simp)]
    refine callD_rdG (r := .pan (faultD 43 p)) (ex := []) (et := []) h h rfl g1 g2 g4 (fun _ _ => rfl) (call_frz (fc := fc142) rfl rfl rfl rfl (r := (.pan (faultD 43 p), rH c a o [[.p (.int .i64 op), .p (.str nm), .p (.int .i64 0), .fsl 39 5 (ks.map Nd.pd), .p (.int .i64 p)], [.p (.int .i64 0), .p (.str []), .p (.int .i64 0), .p .nils, .p (.int .i64 0)]] [])) ?_ (seal_bad h))
    simp only [rH, List.append_nil, litN]
    simp [fc142, evKC, evK, put, Env.get, Env.keep, entry, Opd.ev, unD, clsP, cls, clsR, isCl, isW, apartRW, offB, apartWW, clash, insOk, finish, D.cells, D.one, PD.one, D.refsL, D.refs, D.toksL, D.toks, ldr6, hf, ldf0, ldf3, ldf4, fail_eq]

end Go.Proofs.YtalgjkpkkdljaaaGreatDoor

namespace Go.Proofs.YtalgjkpkkdljaaaGreatDoor
open Go.Vs
def PR.Bd {α : Type} (c : Rd) (r : PR α) : Prop := ∀ x a, r = .ok x a → a ≤ c.ts.length
structure PrsOk (c : Rd) (o : Nat) (prs : Nat → Nat → PR Nd) : Prop where
  ans : ∀ (lev a : Nat), a ≤ c.ts.length → lev ≤ 20 → Ans 80 [.int .i64 (lev : Int)] c a o (fun x : Nd => .p x.pd) (prs lev a)
  bd : ∀ (lev a : Nat), a ≤ c.ts.length → (prs lev a).Bd c
  adv : ∀ (lev a : Nat) (x : Nd) (a' : Nat), a ≤ c.ts.length → prs lev a = .ok x a' → a < a'
theorem accept_lt {c : Rd} {a : Nat} {s : List UInt8} (h : acceptB c a s = true) : a < c.ts.length := by
  rcases Nat.lt_or_ge a c.ts.length with q | q
  · exact q
  · simp [acceptB, tok_out q] at h
theorem named_lt {c : Rd} {a : Nat} (h : namedB (c.tok a) = true) : a < c.ts.length := by
  rcases Nat.lt_or_ge a c.ts.length with q | q
  · exact q
  · simp [namedB, tok_out q] at h
theorem expect_bd (c : Rd) (a : Nat) (s : List UInt8) : (expectP c a s).Bd c := by
  intro x a' h
  unfold expectP at h
  cases hb : acceptB c a s with
  | true => rw [hb] at h; cases h; exact accept_lt hb
  | false => rw [hb] at h; cases h
theorem name_bd (c : Rd) (a : Nat) : (nameP c a).Bd c := by
  intro x a' h
  unfold nameP at h
  cases hb : namedB (c.tok a) with
  | true => rw [hb] at h; cases h; exact named_lt hb
  | false => rw [hb] at h; cases h
theorem node_bd {c : Rd} {a : Nat} (h : a ≤ c.ts.length) (n : Nd) (p : Nat) : (nodeP n p a).Bd c := by
  intro x a' e
  unfold nodeP at e
  cases hb : fitsB n.op n.ks with
  | true => rw [hb] at e; cases e; exact h
  | false => rw [hb] at e; cases e

section
variable {G : Nat → Option (List PD)} {q0 q1 q2 q3 q4 q5 : List D} {x y z v w : PD} {r : List (List D)} {tk : List Nat}
theorem oL (n : Nat) (l : List PD) : (PD.slice n l).one = true := rfl
theorem ldz6 : loadD G ⟨q0 :: q1 :: q2 :: q3 :: q4 :: q5 :: [.p x, .p y, .p z, .p v, .p w] :: r, tk⟩ (some 5) (.box 6 0) = some (.p (.agg [x, y, z, v, w])) := rfl
theorem stz6 {n1 n2 n3 : Int} {s : List UInt8} {K : PD} (h : K.one = true) {k1 k2 k3 k4 k5 : D} : storeD ⟨q0 :: q1 :: q2 :: q3 :: q4 :: q5 :: [k1, k2, k3, k4, k5] :: r, tk⟩ 5 (.box 6 0) (.p (.agg [.int .i64 n1, .str s, .int .i64 n2, K, .int .i64 n3])) = some ⟨q0 :: q1 :: q2 :: q3 :: q4 :: q5 :: [.p (.int .i64 n1), .p (.str s), .p (.int .i64 n2), .p K, .p (.int .i64 n3)] :: r, tk⟩ := by
  have h1 : (D.p K).one = true := h
  have h2 : ∀ k n, (D.p (.int k n)).one = true := fun _ _ => rfl
  have h3 : ∀ s, (D.p (.str s)).one = true := fun _ => rfl
  simp [storeD, isMapC, D.cells, h1, h2, h3, splice]
end
theorem ans_okB {α : Type} {g : Nat} {args : List PD} {c : Rd} {a o : Nat} {f : α → D} {x : α} {a' : Nat} {r : PR α} (h : Ans g args c a o f r) (e : r = .ok x a') (bx : List (List D)) :
    callD (call pg) g (.box 0 0 :: args.map .p) ⟨rC c a o :: tabB :: tabU :: tabS :: bx, c.tk⟩ = some (.val (f x), ⟨rC c a' o :: tabB :: tabU :: tabS :: bx, c.tk⟩) := by
  subst e; exact h.okU bx
theorem bind_ok {α β : Type} (v : α) (a : Nat) (f : α → Nat → PR β) : (PR.ok v a).bind f = f v a := rfl
theorem bind_bad {α β : Type} (e : Int) (p a : Nat) (f : α → Nat → PR β) : (PR.bad e p a).bind f = .bad e p a := rfl
theorem cls_rd {c : Rd} (h : c.Ok) (a o a' o' : Nat) (bx : List (List D)) (g i : Nat) (y : PD) : ∃ k : Nat × Nat, (k = (1, 0) ∨ k = (4000000012, 0)) ∧ ∀ env : Env, env.get i = .box 0 0 →
    clsP env ⟨rC c a o :: tabB :: tabU :: tabS :: bx, c.tk⟩ ⟨rC c a' o' :: tabB :: tabU :: tabS :: bx, c.tk⟩ (.call (.c (.fn g [] [])) [.t i, .c (.p y)]) = k := by
  have hr := reach_rH h a o bx []
  simp only [rH, List.append_nil] at hr
  refine ⟨if hpEq ⟨rC c a o :: tabB :: tabU :: tabS :: bx, c.tk⟩ ⟨rC c a' o' :: tabB :: tabU :: tabS :: bx, c.tk⟩ then (1, 0) else (4000000012, 0), ?_, fun env he => ?_⟩
  · cases hpEq ⟨rC c a o :: tabB :: tabU :: tabS :: bx, c.tk⟩ ⟨rC c a' o' :: tabB :: tabU :: tabS :: bx, c.tk⟩ <;> simp
  · have e1 : cls env (.call (.c (.fn g [] [])) [.t i, .c (.p y)]) = 2 := by simp [cls, Opd.ev, he, D.refsL, D.refs]
    have e2 : callIds env ⟨rC c a o :: tabB :: tabU :: tabS :: bx, c.tk⟩ (.call (.c (.fn g [] [])) [.t i, .c (.p y)]) = [0, 1, 2, 3] := by
      simp only [callIds, Opd.ev, List.nil_append, List.append_nil, List.map_cons, List.map_nil, he]
      exact hr
    unfold clsP
    rw [e1, e2]
    simp [isCl, bnd]
theorem quant_eq {c : Rd} (h : c.Sz) {o : Nat} {prs : Nat → Nat → PR Nd} (hp : PrsOk c o prs) (op : Int) (p a : Nat) (ha : a ≤ c.ts.length) :
    Ans 141 [.int .i64 op, .int .i64 p] c a o (fun x : Nd => .p x.pd) (quantP c prs op p a) := by
  have hn := h.n
  have z0 : ([.p (.int .i64 0), .p (.str []), .p (.int .i64 0), .p .nils, .p (.int .i64 0)] : List D) = [.p (.int .i64 0), .p (.str []), .p (.int .i64 0), .p .nils, .p (.int .i64 0)] := rfl
  unfold quantP
  have s1 := rname_eq h a o (by omega) (tok_t h a)
  have b1 := name_bd c a
  cases r1 : nameP c a with
  | bad e q a1 =>
    rw [r1] at s1
    change Ans 141 [.int .i64 op, .int .i64 p] c a o (fun x : Nd => .p x.pd) (.bad e q a1)
    obtain ⟨o', s1⟩ := Ans.badU s1
    simp only [List.map_nil] at s1
    refine ans_frzB h.toOk (fc := fc141) rfl rfl rfl rfl ⟨[[.p (.int .i64 0), .p (.str []), .p (.int .i64 0), .p .nils, .p (.int .i64 0)]], o', ?_⟩
    simp only [rH, List.append_nil]
    simp [fc141, evKC, evK, put, Env.get, Env.keep, entry, Opd.ev, finish, s1]
  | ok t a1 =>
    have s1 := ans_okB s1 r1
    have b1 := b1 t a1 r1
    simp only [List.map_nil, Tok.pd] at s1
    simp only [bind_ok]
    have s2 := expect_eq h a1 o [58] (by omega)
    have b2 := expect_bd c a1 [58]
    cases r2 : expectP c a1 [58] with
    | bad e q a2 =>
      rw [r2] at s2
      change Ans 141 [.int .i64 op, .int .i64 p] c a o (fun x : Nd => .p x.pd) (.bad e q a2)
      obtain ⟨o', s2⟩ := Ans.badU s2
      simp only [List.map_nil, List.map_cons] at s2
      refine ans_frzB h.toOk (fc := fc141) rfl rfl rfl rfl ⟨[[.p (.int .i64 0), .p (.str []), .p (.int .i64 0), .p .nils, .p (.int .i64 0)], [.p (.int .i64 t.k), .p (.str t.t), .p (.int .i64 t.p)]], o', ?_⟩
      simp only [rH, List.append_nil]
      simp [fc141, evKC, evK, put, Env.get, Env.keep, entry, Opd.ev, finish, s1, s2, stT5]
    | ok u a2 =>
      have s2 := ans_okB s2 r2
      simp only [bind_ok]
      have b2 := b2 u a2 r2
      simp only [List.map_nil, List.map_cons] at s2
      have s3 : Ans 80 [.int .i64 8] c a2 o (fun x : Nd => .p x.pd) (prs 8 a2) := hp.ans 8 a2 b2 (by omega)
      have b3 := hp.bd 8 a2 b2
      cases r3 : prs 8 a2 with
      | bad e q a3 =>
        rw [r3] at s3
        change Ans 141 [.int .i64 op, .int .i64 p] c a o (fun x : Nd => .p x.pd) (.bad e q a3)
        obtain ⟨o', s3⟩ := Ans.badU s3
        simp only [List.map_nil, List.map_cons] at s3
        refine ans_frzB h.toOk (fc := fc141) rfl rfl rfl rfl ⟨[[.p (.int .i64 0), .p (.str []), .p (.int .i64 0), .p .nils, .p (.int .i64 0)], [.p (.int .i64 t.k), .p (.str t.t), .p (.int .i64 t.p)]], o', ?_⟩
        simp only [rH, List.append_nil]
        simp [fc141, evKC, evK, put, Env.get, Env.keep, entry, Opd.ev, finish, s1, s2, s3, stT5]
      | ok x a3 =>
        have s3 := ans_okB s3 r3
        simp only [bind_ok]
        have b3 := b3 x a3 r3
        simp only [List.map_nil, List.map_cons, pd_cells x, Nd.cells] at s3
        have hkx := pone_kids x
        have s4 := expect_eq h a3 o [124] (by omega)
        have b4 := expect_bd c a3 [124]
        cases r4 : expectP c a3 [124] with
        | bad e q a4 =>
          rw [r4] at s4
          change Ans 141 [.int .i64 op, .int .i64 p] c a o (fun x : Nd => .p x.pd) (.bad e q a4)
          obtain ⟨o', s4⟩ := Ans.badU s4
          simp only [List.map_nil, List.map_cons] at s4
          refine ans_frzB h.toOk (fc := fc141) rfl rfl rfl rfl ⟨[[.p (.int .i64 0), .p (.str []), .p (.int .i64 0), .p .nils, .p (.int .i64 0)], [.p (.int .i64 t.k), .p (.str t.t), .p (.int .i64 t.p)], x.cells.map .p], o', ?_⟩
          simp only [rH, List.append_nil, Nd.cells]
          simp [fc141, evKC, evK, put, Env.get, Env.keep, entry, Opd.ev, finish, s1, s2, s3, s4, stT5, stz6 hkx]
        | ok u' a4 =>
          have s4 := ans_okB s4 r4
          simp only [bind_ok]
          have b4 := b4 u' a4 r4
          simp only [List.map_nil, List.map_cons] at s4
          have s5 : Ans 80 [.int .i64 1] c a4 o (fun x : Nd => .p x.pd) (prs 1 a4) := hp.ans 1 a4 b4 (by omega)
          cases r5 : prs 1 a4 with
          | bad e q a5 =>
            rw [r5] at s5
            change Ans 141 [.int .i64 op, .int .i64 p] c a o (fun x : Nd => .p x.pd) (.bad e q a5)
            obtain ⟨o', s5⟩ := Ans.badU s5
            simp only [List.map_nil, List.map_cons] at s5
            refine ans_frzB h.toOk (fc := fc141) rfl rfl rfl rfl ⟨[[.p (.int .i64 0), .p (.str []), .p (.int .i64 0), .p .nils, .p (.int .i64 0)], [.p (.int .i64 t.k), .p (.str t.t), .p (.int .i64 t.p)], x.cells.map .p], o', ?_⟩
            simp only [rH, List.append_nil, Nd.cells]
            simp [fc141, evKC, evK, evGuard, put, Env.get, Env.keep, entry, Opd.ev, clsP, cls, clsR, isCl, isW, apartRW, offB, apartWW, clash, insOk, finish, s1, s2, s3, s4, s5, stT5, stz6 hkx, ld51, ldz6, drP, evRest, behind, pairsOk, panOk, SO.uses, SK.slots, Opd.slots, SK.heapless]
          | ok y a5 =>
            have s5 := ans_okB s5 r5
            have hky := pone_kids y
            simp only [List.map_nil, List.map_cons, pd_cells y, Nd.cells] at s5
            have nd := fun bx => node_eqF h.toOk a5 o op t.t [x, y] p (by simp) (by simp) bx []
            simp only [rH, List.append_nil, litN, List.map_nil, List.map_cons] at nd
            change Ans 141 [.int .i64 op, .int .i64 p] c a o (fun x : Nd => .p x.pd) (nodeP (kidsN op t.t [x, y] p) p a5)
            obtain ⟨kc, hkc, hcl⟩ := cls_rd h.toOk a4 o a5 o [[.p (.int .i64 0), .p (.str []), .p (.int .i64 0), .p .nils, .p (.int .i64 0)], [.p (.int .i64 t.k), .p (.str t.t), .p (.int .i64 t.p)], x.cells.map .p] 80 22 (.int .i64 1)
            simp only [Nd.cells, List.map_cons, List.map_nil] at hcl
            unfold nodeP
            have kk : fitsB (kidsN op t.t [x, y] p).op (kidsN op t.t [x, y] p).ks = fitsB op [x, y] := rfl
            rw [kk]
            cases hb : fitsB op [x, y] with
            | true =>
              have kp := kids_pd op t.t [x, y] p (by simp)
              simp only [List.map_nil, List.map_cons, pd_cells x, pd_cells y, Nd.cells] at kp
              simp only [hb, if_true, kp, pd_cells x, pd_cells y, Nd.cells] at nd
              refine ans_frz h.toOk (fc := fc141) rfl rfl rfl rfl (.p (kidsN op t.t [x, y] p).pd) (fun _ => rfl) ⟨[[.p (.int .i64 op), .p (.str t.t), .p (.int .i64 0), .p (.slice 5 [.agg x.cells, .agg y.cells]), .p (.int .i64 p)], [.p (.int .i64 t.k), .p (.str t.t), .p (.int .i64 t.p)], x.cells.map .p], ?_⟩
              simp only [rH, List.append_nil, Nd.cells, kp]
              rcases hkc with rfl | rfl <;> simp [fc141, ↓hcl, evKC, evK, put, Env.get, Env.keep, entry, Opd.ev, splice, clsP, cls, clsR, isCl, isW, apartRW, offB, apartWW, clash, insOk, finish, evRes, evRes1, D.cells, PD.cells, D.refsL, D.refs, D.toksL, D.toks, mkAgg, pures, fillD, fillE, D.asPD, s1, s2, s3, s4, s5, nd, hkx, hky, stT5, stz6 hkx, ld51, ldz6, stn4 (oL _ _), ldn, oP]
            | false =>
              simp only [hb, if_false, Bool.false_eq_true, pd_cells x, pd_cells y, Nd.cells] at nd
              refine ans_frzB h.toOk (fc := fc141) rfl rfl rfl rfl ⟨[[.p (.int .i64 0), .p (.str []), .p (.int .i64 0), .p .nils, .p (.int .i64 0)], [.p (.int .i64 t.k), .p (.str t.t), .p (.int .i64 t.p)], x.cells.map .p], o, ?_⟩
              simp only [rH, List.append_nil, Nd.cells]
              rcases hkc with rfl | rfl <;> simp [fc141, ↓hcl, evKC, evK, put, Env.get, Env.keep, entry, Opd.ev, splice, clsP, cls, clsR, isCl, isW, apartRW, offB, apartWW, clash, insOk, finish, D.cells, PD.cells, mkAgg, pures, fillD, fillE, D.asPD, s1, s2, s3, s4, s5, nd, hkx, hky, stT5, stz6 hkx, ld51, ldz6, oP, drP, evRest, behind, pairsOk, panOk, SO.uses, SK.slots, Opd.slots, SK.heapless]

end Go.Proofs.YtalgjkpkkdljaaaGreatDoor

namespace Go.Proofs.YtalgjkpkkdljaaaGreatDoor
open Go.Vs

section
variable {G : Nat → Option (List PD)} {q0 q1 q2 q3 q4 q5 q6 q7 q8 : List D} {x y z v w : PD} {e s : Nat} {l : List PD} {r : List (List D)} {tk : List Nat} {k1 k2 k3 k4 k5 : D} {n1 n2 n3 : Int} {t : List UInt8} {K : PD}
theorem lo2 : loadD G ⟨q0 :: q1 :: q2 :: q3 :: q4 :: [.p x, .p y, .p z, .p v] :: r, tk⟩ none (.box 5 2) = some (.p z) := rfl
theorem lo3 : loadD G ⟨q0 :: q1 :: q2 :: q3 :: q4 :: [.p x, .p y, .p z, .p v] :: r, tk⟩ none (.box 5 3) = some (.p v) := rfl
theorem lz60 : loadD G ⟨q0 :: q1 :: q2 :: q3 :: q4 :: q5 :: [.p x, .p y, .p z, .p v, .p w] :: r, tk⟩ none (.box 6 0) = some (.p x) := rfl
theorem lz7 : loadD G ⟨q0 :: q1 :: q2 :: q3 :: q4 :: q5 :: q6 :: [.p x, .p y, .p z, .p v, .p w] :: r, tk⟩ (some 5) (.box 7 0) = some (.p (.agg [x, y, z, v, w])) := rfl
theorem lz8 : loadD G ⟨q0 :: q1 :: q2 :: q3 :: q4 :: q5 :: q6 :: q7 :: [.p x, .p y, .p z, .p v, .p w] :: r, tk⟩ (some 5) (.box 8 0) = some (.p (.agg [x, y, z, v, w])) := rfl
theorem lz9 : loadD G ⟨q0 :: q1 :: q2 :: q3 :: q4 :: q5 :: q6 :: q7 :: q8 :: [.p x, .p y, .p z, .p v, .p w] :: r, tk⟩ (some 5) (.box 9 0) = some (.p (.agg [x, y, z, v, w])) := rfl
theorem lf8 : loadD G ⟨q0 :: q1 :: q2 :: q3 :: q4 :: q5 :: q6 :: q7 :: [.p x, .p y, .p z, .fsl e s l, .p w] :: r, tk⟩ (some 5) (.box 8 0) = some (.agg [.p x, .p y, .p z, .fsl e s l, .p w]) := rfl
theorem lf9 : loadD G ⟨q0 :: q1 :: q2 :: q3 :: q4 :: q5 :: q6 :: q7 :: q8 :: [.p x, .p y, .p z, .fsl e s l, .p w] :: r, tk⟩ (some 5) (.box 9 0) = some (.agg [.p x, .p y, .p z, .fsl e s l, .p w]) := rfl
theorem sz7 (h : K.one = true) : storeD ⟨q0 :: q1 :: q2 :: q3 :: q4 :: q5 :: q6 :: [k1, k2, k3, k4, k5] :: r, tk⟩ 5 (.box 7 0) (.p (.agg [.int .i64 n1, .str t, .int .i64 n2, K, .int .i64 n3])) = some ⟨q0 :: q1 :: q2 :: q3 :: q4 :: q5 :: q6 :: [.p (.int .i64 n1), .p (.str t), .p (.int .i64 n2), .p K, .p (.int .i64 n3)] :: r, tk⟩ := by
  have h1 : (D.p K).one = true := h
  have h2 : ∀ k n, (D.p (.int k n)).one = true := fun _ _ => rfl
  have h3 : ∀ s, (D.p (.str s)).one = true := fun _ => rfl
  simp [storeD, isMapC, D.cells, h1, h2, h3, splice]
theorem sz8 (h : K.one = true) : storeD ⟨q0 :: q1 :: q2 :: q3 :: q4 :: q5 :: q6 :: q7 :: [k1, k2, k3, k4, k5] :: r, tk⟩ 5 (.box 8 0) (.p (.agg [.int .i64 n1, .str t, .int .i64 n2, K, .int .i64 n3])) = some ⟨q0 :: q1 :: q2 :: q3 :: q4 :: q5 :: q6 :: q7 :: [.p (.int .i64 n1), .p (.str t), .p (.int .i64 n2), .p K, .p (.int .i64 n3)] :: r, tk⟩ := by
  have h1 : (D.p K).one = true := h
  have h2 : ∀ k n, (D.p (.int k n)).one = true := fun _ _ => rfl
  have h3 : ∀ s, (D.p (.str s)).one = true := fun _ => rfl
  simp [storeD, isMapC, D.cells, h1, h2, h3, splice]
theorem sz9 (h : K.one = true) : storeD ⟨q0 :: q1 :: q2 :: q3 :: q4 :: q5 :: q6 :: q7 :: q8 :: [k1, k2, k3, k4, k5] :: r, tk⟩ 5 (.box 9 0) (.p (.agg [.int .i64 n1, .str t, .int .i64 n2, K, .int .i64 n3])) = some ⟨q0 :: q1 :: q2 :: q3 :: q4 :: q5 :: q6 :: q7 :: q8 :: [.p (.int .i64 n1), .p (.str t), .p (.int .i64 n2), .p K, .p (.int .i64 n3)] :: r, tk⟩ := by
  have h1 : (D.p K).one = true := h
  have h2 : ∀ k n, (D.p (.int k n)).one = true := fun _ _ => rfl
  have h3 : ∀ s, (D.p (.str s)).one = true := fun _ => rfl
  simp [storeD, isMapC, D.cells, h1, h2, h3, splice]
theorem sf8 : storeD ⟨q0 :: q1 :: q2 :: q3 :: q4 :: q5 :: q6 :: q7 :: [k1, k2, k3, k4, k5] :: r, tk⟩ 5 (.box 8 0) (.agg [.p (.int .i64 n1), .p (.str t), .p (.int .i64 n2), .fsl e s l, .p (.int .i64 n3)]) = some ⟨q0 :: q1 :: q2 :: q3 :: q4 :: q5 :: q6 :: q7 :: [.p (.int .i64 n1), .p (.str t), .p (.int .i64 n2), .fsl e s l, .p (.int .i64 n3)] :: r, tk⟩ := by
  simp [storeD, isMapC, D.cells, D.one, PD.one, splice]
theorem sf9 : storeD ⟨q0 :: q1 :: q2 :: q3 :: q4 :: q5 :: q6 :: q7 :: q8 :: [k1, k2, k3, k4, k5] :: r, tk⟩ 5 (.box 9 0) (.agg [.p (.int .i64 n1), .p (.str t), .p (.int .i64 n2), .fsl e s l, .p (.int .i64 n3)]) = some ⟨q0 :: q1 :: q2 :: q3 :: q4 :: q5 :: q6 :: q7 :: q8 :: [.p (.int .i64 n1), .p (.str t), .p (.int .i64 n2), .fsl e s l, .p (.int .i64 n3)] :: r, tk⟩ := by
  simp [storeD, isMapC, D.cells, D.one, PD.one, splice]
end
theorem oB (b : Bool) : (PD.bool b).one = true := rfl
theorem joined_zero {c : Rd} (h : c.Ok) (a o : Nat) (t : Tok) (b : Bin) (x y : Nd) (h0 : binOp b (knd x.op) = 0) :
    Ans 128 [t.pd, b.pd, x.pd, y.pd] c a o (fun x : Nd => .p x.pd) (.bad 43 t.p a) := by
  have hkx := pone_kids x
  have hky := pone_kids y
  have ki := kind_eq x.op
  rw [pd_cells x, pd_cells y]
  refine ans_frzB h (fc := fc128) rfl rfl rfl rfl ⟨[[.p (.int .i64 t.k), .p (.str t.t), .p (.int .i64 t.p)], [.p (.int .i64 b.lv), .p (.bool b.r), .p (.int .i64 b.rel), .p (.int .i64 b.alt)], x.cells.map .p, y.cells.map .p, [.p (.int .i64 0), .p (.str []), .p (.int .i64 0), .p .nils, .p (.int .i64 0)]], o, ?_⟩
  simp only [rH, List.append_nil, Tok.pd, Bin.pd, Nd.cells]
  unfold binOp at h0
  by_cases hk : knd x.op = 1
  · have hk' : (knd x.op != 1) = false := by simp [hk]
    by_cases hr : b.rel = 0
    · have ha : b.alt = 0 := by simpa [hr] using h0
      simp [fc128, evKC, evK, evGuard, put, Env.get, Env.keep, entry, Opd.ev, binD, finish, D.cells, hkx, hky, ki, hk, hr, ha, lo2, lo3, lz60, ld42, oP, fail_eq]
    · simp [hk, hr] at h0
  · have ha : b.alt = 0 := by simpa [hk] using h0
    have hk' : (knd x.op != 1) = true := by simp [hk]
    simp [fc128, evKC, evK, evGuard, put, Env.get, Env.keep, entry, Opd.ev, binD, finish, D.cells, hkx, hky, ki, hk', ha, lo2, lo3, lz60, ld42, oP, fail_eq]
theorem joined_eq {c : Rd} (h : c.Ok) (a o : Nat) (t : Tok) (b : Bin) (x y : Nd) : Ans 128 [t.pd, b.pd, x.pd, y.pd] c a o (fun x : Nd => .p x.pd) (joinedP t b x y a) := by
  unfold joinedP
  by_cases h0 : binOp b (knd x.op) = 0
  · rw [if_pos h0]; exact joined_zero h a o t b x y h0
  · rw [if_neg h0]
    have hkx := pone_kids x
    have hky := pone_kids y
    have ki := kind_eq x.op
    have hop : (knd x.op = 1 ∧ (knd x.op != 1) = false ∧ (b.rel == 0) = false ∧ binOp b (knd x.op) = b.rel) ∨ (knd x.op = 1 ∧ (knd x.op != 1) = false ∧ (b.rel == 0) = true ∧ binOp b (knd x.op) = b.alt) ∨ (knd x.op ≠ 1 ∧ (knd x.op != 1) = true ∧ True ∧ binOp b (knd x.op) = b.alt) := by
      by_cases hk : knd x.op = 1
      · by_cases hr : b.rel = 0
        · right; left; simp [hk, hr, binOp]
        · left; simp [hk, hr, binOp]
      · right; right; simp [hk, binOp]
    have hv' : (binOp b (knd x.op) == 0) = false := by simp [h0]
    generalize binOp b (knd x.op) = ov at *
    rw [pd_cells x, pd_cells y]
    obtain ⟨tk, tt, tp⟩ := t
    dsimp only
    by_cases ht : tt = [60, 61]
    · subst ht
      have ht1 : True := trivial
      have ht2 : True := trivial
      show Ans 128 _ c a o _ ((nodeP (kidsN ov [] [y, x] tp) tp a).bind fun n a => .ok (kidsN 40 [] [n] tp) a)

      have nd := fun bx => node_eqF h a o ov [] [y, x] tp (by simp) (by simp) bx []
      have kp := kids_pd ov [] [y, x] tp (by simp)
      simp only [List.map_nil, List.map_cons, pd_cells x, pd_cells y, Nd.cells] at kp
      simp only [rH, List.append_nil, litN, List.map_nil, List.map_cons] at nd
      unfold nodeP
      have kk : fitsB (kidsN ov [] [y, x] tp).op (kidsN ov [] [y, x] tp).ks = fitsB ov [y, x] := rfl
      rw [kk]
      cases hb : fitsB ov [y, x] with
      | true =>
        simp only [hb, if_true, kp, pd_cells x, pd_cells y, Nd.cells] at nd
        refine ans_frz h (fc := fc128) rfl rfl rfl rfl (litN 40 [] [kidsN ov [] [y, x] tp] tp) (litN_frz 40 [] _ tp (by simp)) ⟨[[.p (.int .i64 tk), .p (.str [60, 61]), .p (.int .i64 tp)], [.p (.int .i64 b.lv), .p (.bool b.r), .p (.int .i64 b.rel), .p (.int .i64 b.alt)], y.cells.map .p, x.cells.map .p, [.p (.int .i64 40), .p (.str []), .p (.int .i64 0), .fsl 39 5 [(kidsN ov [] [y, x] tp).pd], .p (.int .i64 tp)], [.p (.int .i64 40), .p (.str []), .p (.int .i64 0), .fsl 39 5 [(kidsN ov [] [y, x] tp).pd], .p (.int .i64 tp)]], ?_⟩
        simp only [rH, List.append_nil, Tok.pd, Bin.pd, Nd.cells, litN, List.map_cons, List.map_nil, kp]
        rcases hop with ⟨hk, hk', hr, hv⟩ | ⟨hk, hk', hr, hv⟩ | ⟨hk, hk', hr, hv⟩ <;> subst hv <;> simp [fc128, evKC, evK, evGuard, put, Env.get, Env.keep, entry, Opd.ev, splice, binD, strBin, finish, evRes, evRes1, D.cells, PD.cells, mkAgg, pures, fillD, fillE, D.asPD, hkx, hky, ki, hk, hk', hr, hv', lo2, lo3, lz60, ld41, ld42, ldz6, lz7, lz9, lf8, lf9, stz6 hky, sz7 hkx, sz9 (oL _ _), sf8, sf9, oP, nd]
      | false =>
        simp only [hb, if_false, Bool.false_eq_true, pd_cells x, pd_cells y, Nd.cells] at nd
        refine ans_frzB h (fc := fc128) rfl rfl rfl rfl ⟨[[.p (.int .i64 tk), .p (.str [60, 61]), .p (.int .i64 tp)], [.p (.int .i64 b.lv), .p (.bool b.r), .p (.int .i64 b.rel), .p (.int .i64 b.alt)], y.cells.map .p, x.cells.map .p, [.p (.int .i64 0), .p (.str []), .p (.int .i64 0), .p .nils, .p (.int .i64 0)]], o, ?_⟩
        simp only [rH, List.append_nil, Tok.pd, Bin.pd, Nd.cells]
        rcases hop with ⟨hk, hk', hr, hv⟩ | ⟨hk, hk', hr, hv⟩ | ⟨hk, hk', hr, hv⟩ <;> subst hv <;> simp [fc128, evKC, evK, evGuard, put, Env.get, Env.keep, entry, Opd.ev, splice, binD, strBin, finish, D.cells, PD.cells, mkAgg, pures, fillD, fillE, D.asPD, hkx, hky, ki, hk, hk', hr, hv', lo2, lo3, lz60, ld41, ld42, ldz6, lz7, stz6 hky, sz7 hkx, oP, nd]
    · by_cases hu : tt = [33, 61]
      · subst hu
        have ht1 : True := trivial
        have ht2 : True := trivial
        show Ans 128 _ c a o _ ((nodeP (kidsN ov [] [x, y] tp) tp a).bind fun n a => .ok (kidsN 40 [] [n] tp) a)

        have nd := fun bx => node_eqF h a o ov [] [x, y] tp (by simp) (by simp) bx []
        have kp := kids_pd ov [] [x, y] tp (by simp)
        simp only [List.map_nil, List.map_cons, pd_cells x, pd_cells y, Nd.cells] at kp
        simp only [rH, List.append_nil, litN, List.map_nil, List.map_cons] at nd
        unfold nodeP
        have kk : fitsB (kidsN ov [] [x, y] tp).op (kidsN ov [] [x, y] tp).ks = fitsB ov [x, y] := rfl
        rw [kk]
        cases hb : fitsB ov [x, y] with
        | true =>
          simp only [hb, if_true, kp, pd_cells x, pd_cells y, Nd.cells] at nd
          refine ans_frz h (fc := fc128) rfl rfl rfl rfl (litN 40 [] [kidsN ov [] [x, y] tp] tp) (litN_frz 40 [] _ tp (by simp)) ⟨[[.p (.int .i64 tk), .p (.str [33, 61]), .p (.int .i64 tp)], [.p (.int .i64 b.lv), .p (.bool b.r), .p (.int .i64 b.rel), .p (.int .i64 b.alt)], x.cells.map .p, y.cells.map .p, [.p (.int .i64 40), .p (.str []), .p (.int .i64 0), .fsl 39 5 [(kidsN ov [] [x, y] tp).pd], .p (.int .i64 tp)], [.p (.int .i64 40), .p (.str []), .p (.int .i64 0), .fsl 39 5 [(kidsN ov [] [x, y] tp).pd], .p (.int .i64 tp)]], ?_⟩
          simp only [rH, List.append_nil, Tok.pd, Bin.pd, Nd.cells, litN, List.map_cons, List.map_nil, kp]
          rcases hop with ⟨hk, hk', hr, hv⟩ | ⟨hk, hk', hr, hv⟩ | ⟨hk, hk', hr, hv⟩ <;> subst hv <;> simp [fc128, evKC, evK, evGuard, put, Env.get, Env.keep, entry, Opd.ev, splice, binD, strBin, finish, evRes, evRes1, D.cells, PD.cells, mkAgg, pures, fillD, fillE, D.asPD, hkx, hky, ki, hk, hk', hr, hv', lo2, lo3, lz60, ld41, ld42, ldz6, lz7, lz9, lf8, lf9, sz9 (oL _ _), sf8, sf9, oP, nd]
        | false =>
          simp only [hb, if_false, Bool.false_eq_true, pd_cells x, pd_cells y, Nd.cells] at nd
          refine ans_frzB h (fc := fc128) rfl rfl rfl rfl ⟨[[.p (.int .i64 tk), .p (.str [33, 61]), .p (.int .i64 tp)], [.p (.int .i64 b.lv), .p (.bool b.r), .p (.int .i64 b.rel), .p (.int .i64 b.alt)], x.cells.map .p, y.cells.map .p, [.p (.int .i64 0), .p (.str []), .p (.int .i64 0), .p .nils, .p (.int .i64 0)]], o, ?_⟩
          simp only [rH, List.append_nil, Tok.pd, Bin.pd, Nd.cells]
          rcases hop with ⟨hk, hk', hr, hv⟩ | ⟨hk, hk', hr, hv⟩ | ⟨hk, hk', hr, hv⟩ <;> subst hv <;> simp [fc128, evKC, evK, evGuard, put, Env.get, Env.keep, entry, Opd.ev, splice, binD, strBin, finish, D.cells, PD.cells, mkAgg, pures, fillD, fillE, D.asPD, hkx, hky, ki, hk, hk', hr, hv', lo2, lo3, lz60, ld41, ld42, ldz6, lz7, oP, nd]
      · have ht1 : (tt == [60, 61]) = false := by simp [ht]
        have ht2 : (tt == [33, 61]) = false := by simp [hu]
        rw [if_neg ht]
        simp only [ht, hu, or_false, if_false]

        have nd := fun bx => node_eqF h a o ov [] [x, y] tp (by simp) (by simp) bx []
        have kp := kids_pd ov [] [x, y] tp (by simp)
        simp only [List.map_nil, List.map_cons, pd_cells x, pd_cells y, Nd.cells] at kp
        simp only [rH, List.append_nil, litN, List.map_nil, List.map_cons] at nd
        unfold nodeP
        have kk : fitsB (kidsN ov [] [x, y] tp).op (kidsN ov [] [x, y] tp).ks = fitsB ov [x, y] := rfl
        rw [kk]
        cases hb : fitsB ov [x, y] with
        | true =>
          simp only [hb, if_true, kp, pd_cells x, pd_cells y, Nd.cells] at nd
          refine ans_frz h (fc := fc128) rfl rfl rfl rfl (.p (kidsN ov [] [x, y] tp).pd) (fun _ => rfl) ⟨[[.p (.int .i64 tk), .p (.str tt), .p (.int .i64 tp)], [.p (.int .i64 b.lv), .p (.bool b.r), .p (.int .i64 b.rel), .p (.int .i64 b.alt)], x.cells.map .p, y.cells.map .p, [.p (.int .i64 ov), .p (.str []), .p (.int .i64 0), .p (.slice 5 [.agg x.cells, .agg y.cells]), .p (.int .i64 tp)], [.p (.int .i64 ov), .p (.str []), .p (.int .i64 0), .p (.slice 5 [.agg x.cells, .agg y.cells]), .p (.int .i64 tp)]], ?_⟩
          simp only [rH, List.append_nil, Tok.pd, Bin.pd, Nd.cells, List.map_cons, List.map_nil, kp]
          rcases hop with ⟨hk, hk', hr, hv⟩ | ⟨hk, hk', hr, hv⟩ | ⟨hk, hk', hr, hv⟩ <;> subst hv <;> simp [fc128, evKC, evK, evGuard, put, Env.get, Env.keep, entry, Opd.ev, splice, binD, strBin, finish, evRes, evRes1, D.cells, PD.cells, mkAgg, pures, fillD, fillE, D.asPD, hkx, hky, ki, hk, hk', hr, hv', lo2, lo3, lz60, ld41, ld42, ldz6, lz7, lz8, lz9, sz8 (oL _ _), sz9 (oL _ _), oP, nd, ht1, ht2]
        | false =>
          simp only [hb, if_false, Bool.false_eq_true, pd_cells x, pd_cells y, Nd.cells] at nd
          refine ans_frzB h (fc := fc128) rfl rfl rfl rfl ⟨[[.p (.int .i64 tk), .p (.str tt), .p (.int .i64 tp)], [.p (.int .i64 b.lv), .p (.bool b.r), .p (.int .i64 b.rel), .p (.int .i64 b.alt)], x.cells.map .p, y.cells.map .p, [.p (.int .i64 0), .p (.str []), .p (.int .i64 0), .p .nils, .p (.int .i64 0)]], o, ?_⟩
          simp only [rH, List.append_nil, Tok.pd, Bin.pd, Nd.cells]
          rcases hop with ⟨hk, hk', hr, hv⟩ | ⟨hk, hk', hr, hv⟩ | ⟨hk, hk', hr, hv⟩ <;> subst hv <;> simp [fc128, evKC, evK, evGuard, put, Env.get, Env.keep, entry, Opd.ev, splice, binD, strBin, finish, D.cells, PD.cells, mkAgg, pures, fillD, fillE, D.asPD, hkx, hky, ki, hk, hk', hr, hv', lo2, lo3, lz60, ld41, ld42, ldz6, lz7, oP, nd, ht1]

end Go.Proofs.YtalgjkpkkdljaaaGreatDoor

namespace Go.Proofs.YtalgjkpkkdljaaaGreatDoor
open Go.Vs
theorem renL_p (bi ti : Nat → Option Nat) : ∀ l : List PD, D.renL bi ti (l.map .p) = some (l.map .p)
  | [] => rfl
  | x :: l => by simp [D.renL, D.ren, renL_p bi ti l]
theorem renB_p (bi ti : Nat → Option Nat) : ∀ bs : List (List PD), mapO (D.renL bi ti) (bs.map fun b => b.map D.p) = some (bs.map fun b => b.map D.p)
  | [] => rfl
  | b :: bs => by simp only [List.map_cons, mapO, renL_p, renB_p bi ti bs]; rfl
theorem loc_rd {c : Rd} (h : c.Ok) (a o : Nat) (bs : List (List PD)) (ex : List (List D)) (out : Out) (env : Env) (nb : Nat) (hnb : nb = bs.length + 4) (ho : out.ren (below nb) (below c.tk.length) = some out) :
    locD nb c.tk.length (out, ⟨env, ⟨rC c a o :: tabB :: tabU :: tabS :: ((bs.map fun b => b.map D.p) ++ ex), c.tk⟩⟩) =
      (out, ⟨env.map fun y => (y.1, (y.2.ren (below nb) (below c.tk.length)).getD .dead), ⟨rC c a o :: tabB :: tabU :: tabS :: (bs.map fun b => b.map D.p), c.tk⟩⟩) := by
  have b1 : below nb 1 = some 1 := by simp [below, hnb]
  have b2 : below nb 2 = some 2 := by simp [below, hnb]
  have b3 : below nb 3 = some 3 := by simp [below, hnb]
  have e2 := ren_rC (c := c) (bi := below nb) (ti := below c.tk.length) b1 b2 b3 (h.lb _) a o
  have t1 : D.renL (below nb) (below c.tk.length) tabB = some tabB := rfl
  have t2 : D.renL (below nb) (below c.tk.length) tabU = some tabU := rfl
  have t3 : D.renL (below nb) (below c.tk.length) tabS = some tabS := rfl
  have e3 : (rC c a o :: tabB :: tabU :: tabS :: ((bs.map fun b => b.map D.p) ++ ex)).take nb = rC c a o :: tabB :: tabU :: tabS :: (bs.map fun b => b.map D.p) := by
    rw [hnb]
    simp only [List.take_succ_cons]
    rw [List.take_left' (by simp)]
  have e4 : mapO (D.renL (below nb) (below c.tk.length)) (rC c a o :: tabB :: tabU :: tabS :: (bs.map fun b => b.map D.p)) = some (rC c a o :: tabB :: tabU :: tabS :: (bs.map fun b => b.map D.p)) := by
    simp only [mapO, e2, t1, t2, t3, renB_p]
    rfl
  have e5 : nb ≤ (rC c a o :: tabB :: tabU :: tabS :: ((bs.map fun b => b.map D.p) ++ ex)).length := by
    simp only [List.length_cons, List.length_append, List.length_map]; omega
  unfold locD
  simp only [e3, e4, ho]
  rw [if_pos ⟨e5, Nat.le_refl _⟩]
  simp

end Go.Proofs.YtalgjkpkkdljaaaGreatDoor

namespace Go.Proofs.YtalgjkpkkdljaaaGreatDoor
open Go.Vs
def prB (z t p : List PD) (n : Nd) : List (List D) := [z, t, p, n.cells].map fun b => b.map D.p
def prS (c : Rd) (a o : Nat) (z t p : List PD) (n : Nd) : St := ⟨[(0, .box 0 0), (2, .box 4 0), (6, .box 7 0)], ⟨rC c a o :: tabB :: tabU :: tabS :: prB z t p n, c.tk⟩⟩
theorem pr_out {c : Rd} (h : c.Sz) (a o : Nat) (z t p : List PD) (n : Nd) (ha : a ≤ c.ts.length) (hq : (c.tok a).t ≠ [39]) :
    ∃ env, evS (call pg) pg.G iterX fc127_b0 (prS c a o z t p n) = some (.exit 0, ⟨env, (prS c a o z t p n).hp⟩) ∧ env.get 0 = .box 0 0 ∧ env.get 2 = .box 4 0 ∧ env.get 6 = .box 7 0 := by
  have hn := h.n
  have lk := fun bx => look_at h.toOk a o (by omega) bx []
  simp only [rH, List.append_nil] at lk
  have hq' : ((c.tok a).t == [39]) = false := by simp [hq]
  have hl := fun env => loc_rd h.toOk a o [z, t, p, n.cells] [] (.exit 0) env 8 rfl rfl
  simp only [List.append_nil, List.map_cons, List.map_nil] at hl
  refine ⟨[(0, .box 0 0), (2, .box 4 0), (6, .box 7 0), (95, .p (.bool false))], ?_, rfl, rfl, rfl⟩
  simp only [prS, prB, List.map_cons, List.map_nil]
  simp [fc127_b0, evKC, evK, put, Env.get, Env.keep, Opd.ev, cutAt, binD, strBin, lk, hq', hl, D.ren, below]
theorem pr_step {c : Rd} (h : c.Sz) (a o : Nat) (z t p : List PD) (n : Nd) (ha : a ≤ c.ts.length) (hq : (c.tok a).t = [39]) (hf : fitsB 5 [n] = true) :
    evS (call pg) pg.G iterX fc127_b0 (prS c a o z t p n) = some (.norm, prS c (a + 1) o z t p (kidsN 5 [] [n] (c.tok a).p)) := by
  have hn := h.n
  have lk := fun bx => look_at h.toOk a o (by omega) bx []
  have nd := fun bx => node_eqF h.toOk (a + 1) o 5 [] [n] (c.tok a).p (by simp) (by simp) bx []
  have hkn := pone_kids n
  have hw := addw1 (a := a) (by omega)
  have kc : (kidsN 5 [] [n] (c.tok a).p).cells = [.int .i64 5, .str [], .int .i64 0, .slice 5 [n.pd], .int .i64 (c.tok a).p] := rfl
  have kp := kids_pd 5 [] [n] (c.tok a).p (by simp)
  have hl := fun env => loc_rd h.toOk (a + 1) o [z, t, p, (kidsN 5 [] [n] (c.tok a).p).cells] [] .norm env 8 rfl rfl
  simp only [List.append_nil, List.map_cons, List.map_nil, kc] at hl
  simp only [pd_cells n] at hl
  simp only [Nd.cells] at hl
  simp only [List.map_nil, List.map_cons, pd_cells n, Nd.cells] at kp
  simp only [rH, List.append_nil, litN, hf, if_true, kp, List.map_cons, List.map_nil, pd_cells n, Nd.cells] at lk nd
  simp only [prS, prB, List.map_cons, List.map_nil, kc, pd_cells n]
  simp only [Nd.cells, List.map_cons, List.map_nil]
  generalize c.tok a = x at *
  simp [fc127_b0, evKC, evK, put, Env.get, Env.keep, Opd.ev, splice, cutAt, binD, strBin, D.cells, PD.cells, mkAgg, pures, fillD, fillE, D.asPD, lk, hq, nd, hw, hkn, ldr1, str1', lz7, sz7 (oL _ _), oP, hl, D.ren, below]
theorem pr_bad {c : Rd} (h : c.Sz) (a o : Nat) (z t p : List PD) (n : Nd) (ha : a ≤ c.ts.length) (hq : (c.tok a).t = [39]) (hf : fitsB 5 [n] = false) :
    ∃ env, evS (call pg) pg.G iterX fc127_b0 (prS c a o z t p n) = some (.pan (faultD 43 (c.tok a).p), ⟨env, (prS c (a + 1) o z t p n).hp⟩) := by
  have hn := h.n
  have lk := fun bx => look_at h.toOk a o (by omega) bx []
  have nd := fun bx => node_eqF h.toOk (a + 1) o 5 [] [n] (c.tok a).p (by simp) (by simp) bx []
  have hkn := pone_kids n
  have hw := addw1 (a := a) (by omega)
  have hl := fun env => loc_rd h.toOk (a + 1) o [z, t, p, n.cells] [] (.pan (faultD 43 (c.tok a).p)) env 8 rfl rfl
  simp only [List.append_nil, List.map_cons, List.map_nil, Nd.cells] at hl
  simp only [rH, List.append_nil, litN, hf, if_false, Bool.false_eq_true, List.map_cons, List.map_nil, pd_cells n, Nd.cells] at lk nd
  simp only [prS, prB, List.map_cons, List.map_nil, Nd.cells]
  generalize c.tok a = x at *
  simp [fc127_b0, evKC, evK, put, Env.get, Env.keep, Opd.ev, splice, cutAt, binD, strBin, D.cells, PD.cells, mkAgg, pures, fillD, fillE, D.asPD, lk, hq, nd, hw, hkn, ldr1, str1', lz7, oP, hl, D.ren, below]

end Go.Proofs.YtalgjkpkkdljaaaGreatDoor

namespace Go.Proofs.YtalgjkpkkdljaaaGreatDoor
open Go.Vs
theorem primes_loop {c : Rd} (h : c.Sz) (o : Nat) (z t p : List PD) : ∀ (m a : Nat) (n : Nd), a ≤ c.ts.length → c.ts.length - a < m → match primesP c m n a with
    | .ok n' a' => a' ≤ c.ts.length ∧ ∃ env, loopK (call pg) pg.G [0, 2, 6] fc127_b0 (prS c a o z t p n) = some (.exit 0, ⟨env, (prS c a' o z t p n').hp⟩) ∧ env.get 0 = .box 0 0 ∧ env.get 2 = .box 4 0 ∧ env.get 6 = .box 7 0
    | .bad e q a' => ∃ env n', loopK (call pg) pg.G [0, 2, 6] fc127_b0 (prS c a o z t p n) = some (.pan (faultD e q), ⟨env, (prS c a' o z t p n').hp⟩) := by
  intro m
  induction m with
  | zero => intro a n _ h2; omega
  | succ m ih =>
    intro a n ha hm
    unfold primesP
    by_cases hq : (c.tok a).t = [39]
    · rw [if_pos hq]
      have hlt : a < c.ts.length := by
        rcases Nat.lt_or_ge a c.ts.length with q | q
        · exact q
        · rw [tok_out q] at hq; simp at hq
      unfold nodeP
      have kk : fitsB (kidsN 5 [] [n] (c.tok a).p).op (kidsN 5 [] [n] (c.tok a).p).ks = fitsB 5 [n] := rfl
      rw [kk]
      cases hf : fitsB 5 [n] with
      | true =>
        have hs := pr_step h a o z t p n ha hq hf
        have := ih (a + 1) (kidsN 5 [] [n] (c.tok a).p) (by omega) (by omega)
        have hl : loopK (call pg) pg.G [0, 2, 6] fc127_b0 (prS c a o z t p n) = loopK (call pg) pg.G [0, 2, 6] fc127_b0 (prS c (a + 1) o z t p (kidsN 5 [] [n] (c.tok a).p)) := loopK_norm hs
        rw [hl]
        exact this
      | false =>
        obtain ⟨env, hs⟩ := pr_bad h a o z t p n ha hq hf
        exact ⟨env, n, loopK_out hs (by simp)⟩
    · rw [if_neg hq]
      obtain ⟨env, hs, h1, h2, h3⟩ := pr_out h a o z t p n ha hq
      exact ⟨ha, env, loopK_out hs (by simp), h1, h2, h3⟩

end Go.Proofs.YtalgjkpkkdljaaaGreatDoor

namespace Go.Proofs.YtalgjkpkkdljaaaGreatDoor
open Go.Vs

section
variable {G : Nat → Option (List PD)} {b q : List D} {bx : List (List D)} {tk : List Nat} {d e v : D}
theorem isMap2 : isMapC (d :: e :: b) = false := by cases d <;> rfl
theorem ld_succ {n : Option Nat} {i off : Nat} : loadD G ⟨q :: bx, tk⟩ n (.box (i + 1) off) = loadD G ⟨bx, tk⟩ n (.box i off) := rfl
theorem ld_zero {n : Option Nat} {off : Nat} : loadD G ⟨(d :: e :: b) :: bx, tk⟩ n (.box 0 off) = cutAt (d :: e :: b) off n id mkAgg := by
  simp only [loadD, List.getElem?_cons_zero, isMap2, Bool.false_eq_true, if_false]
theorem st_succ {n i off : Nat} : storeD ⟨q :: bx, tk⟩ n (.box (i + 1) off) v = (storeD ⟨bx, tk⟩ n (.box i off) v).map fun H => ⟨q :: H.bx, H.tk⟩ := by
  simp only [storeD, List.getElem?_cons_succ]
  cases bx[i]? with
  | none => rfl
  | some cs =>
    dsimp only
    split <;> rfl
theorem st_zero {n off : Nat} : storeD ⟨(d :: e :: b) :: bx, tk⟩ n (.box 0 off) v = if v.cells.length = n ∧ v.cells.all D.one = true ∧ off + n ≤ (d :: e :: b).length ∧ 0 < n then some ⟨splice (d :: e :: b) off v.cells :: bx, tk⟩ else none := by
  simp only [storeD, List.getElem?_cons_zero, isMap2, true_and, List.set_cons_zero]
theorem str3' {c : Rd} {a o : Nat} : storeD ⟨rC c a o :: bx, tk⟩ 1 (.box 0 3) (.p (.int .i64 ((o : Int) + 1))) = some ⟨rC c a (o + 1) :: bx, tk⟩ := str3 (o + 1)
theorem oT (t e s : Nat) (l : List PD) : (D.tsl t e s l).one = true := rfl
theorem oF (e s : Nat) (l : List PD) : (D.fsl e s l).one = true := rfl
theorem oE (n : Nat) : (PD.emp n).one = true := rfl
end
theorem loc_rdT {c : Rd} (h : c.Ok) (a o : Nat) (bs bs' ex : List (List D)) (t t2 : List Nat) (out : Out) (env : Env) (nb nt : Nat) (hnb : nb = bs.length + 4) (hnt : nt = c.tk.length + t.length)
    (hb : mapO (D.renL (below nb) (below nt)) bs = some bs') (ho : out.ren (below nb) (below nt) = some out) :
    locD nb nt (out, ⟨env, ⟨rC c a o :: tabB :: tabU :: tabS :: (bs ++ ex), c.tk ++ (t ++ t2)⟩⟩) =
      (out, ⟨env.map fun y => (y.1, (y.2.ren (below nb) (below nt)).getD .dead), ⟨rC c a o :: tabB :: tabU :: tabS :: bs', c.tk ++ t⟩⟩) := by
  have b1 : below nb 1 = some 1 := by simp [below, hnb]
  have b2 : below nb 2 = some 2 := by simp [below, hnb]
  have b3 : below nb 3 = some 3 := by simp [below, hnb]
  have e2 := ren_rC (c := c) (bi := below nb) (ti := below nt) b1 b2 b3 (h.lb' _ nt (by omega)) a o
  have t1 : D.renL (below nb) (below nt) tabB = some tabB := rfl
  have t2' : D.renL (below nb) (below nt) tabU = some tabU := rfl
  have t3 : D.renL (below nb) (below nt) tabS = some tabS := rfl
  have e3 : (rC c a o :: tabB :: tabU :: tabS :: (bs ++ ex)).take nb = rC c a o :: tabB :: tabU :: tabS :: bs := by
    rw [hnb]
    simp only [List.take_succ_cons]
    rw [List.take_left' rfl]
  have e4 : mapO (D.renL (below nb) (below nt)) (rC c a o :: tabB :: tabU :: tabS :: bs) = some (rC c a o :: tabB :: tabU :: tabS :: bs') := by
    simp only [mapO, e2, t1, t2', t3, hb]
    rfl
  have e5 : nb ≤ (rC c a o :: tabB :: tabU :: tabS :: (bs ++ ex)).length := by
    simp only [List.length_cons, List.length_append]; omega
  have e6 : nt ≤ (c.tk ++ (t ++ t2)).length := by simp only [List.length_append]; omega
  have e7 : (c.tk ++ (t ++ t2)).take nt = c.tk ++ t := by
    rw [← List.append_assoc, List.take_left']
    simp [hnt]
  unfold locD
  simp only [e3, e4, ho]
  rw [if_pos ⟨e5, e6⟩, e7]
theorem cls_rdT {c : Rd} (h : c.Ok) (a o a' o' : Nat) (bx : List (List D)) (t : List Nat) (g i : Nat) (y : PD) : ∃ k : Nat × Nat, (k = (1, 0) ∨ k = (4000000012, 0)) ∧ ∀ env : Env, env.get i = .box 0 0 →
    clsP env ⟨rC c a o :: tabB :: tabU :: tabS :: bx, c.tk ++ t⟩ ⟨rC c a' o' :: tabB :: tabU :: tabS :: bx, c.tk ++ t⟩ (.call (.c (.fn g [] [])) [.t i, .c (.p y)]) = k := by
  have hr := reach_rH h a o bx t
  simp only [rH] at hr
  refine ⟨if hpEq ⟨rC c a o :: tabB :: tabU :: tabS :: bx, c.tk ++ t⟩ ⟨rC c a' o' :: tabB :: tabU :: tabS :: bx, c.tk ++ t⟩ then (1, 0) else (4000000012, 0), ?_, fun env he => ?_⟩
  · cases hpEq ⟨rC c a o :: tabB :: tabU :: tabS :: bx, c.tk ++ t⟩ ⟨rC c a' o' :: tabB :: tabU :: tabS :: bx, c.tk ++ t⟩ <;> simp
  · have e1 : cls env (.call (.c (.fn g [] [])) [.t i, .c (.p y)]) = 2 := by simp [cls, Opd.ev, he, D.refsL, D.refs]
    have e2 : callIds env ⟨rC c a o :: tabB :: tabU :: tabS :: bx, c.tk ++ t⟩ (.call (.c (.fn g [] [])) [.t i, .c (.p y)]) = [0, 1, 2, 3] := by
      simp only [callIds, Opd.ev, List.nil_append, List.append_nil, List.map_cons, List.map_nil, he]
      exact hr
    unfold clsP
    rw [e1, e2]
    simp [isCl, bnd]
theorem Ans.okT {α : Type} {g : Nat} {args : List PD} {c : Rd} {a o : Nat} {f : α → D} {x : α} {a' : Nat} {r : PR α} (h : Ans g args c a o f r) (e : r = .ok x a') (bx : List (List D)) (t : List Nat) :
    callD (call pg) g (.box 0 0 :: args.map .p) ⟨rC c a o :: tabB :: tabU :: tabS :: bx, c.tk ++ t⟩ = some (.val (f x), ⟨rC c a' o :: tabB :: tabU :: tabS :: bx, c.tk ++ t⟩) := by
  subst e; exact h bx t
theorem Ans.badT {α : Type} {g : Nat} {args : List PD} {c : Rd} {a o : Nat} {f : α → D} {e : Int} {p a' : Nat} {r : PR α} (h : Ans g args c a o f r) (q : r = .bad e p a') :
    ∃ o', ∀ (bx : List (List D)) (t : List Nat), callD (call pg) g (.box 0 0 :: args.map .p) ⟨rC c a o :: tabB :: tabU :: tabS :: bx, c.tk ++ t⟩ = some (.pan (faultD e p), ⟨rC c a' o' :: tabB :: tabU :: tabS :: bx, c.tk ++ t⟩) := by
  subst q; exact h
def caB (c : Rd) (t z : List PD) (nm : List UInt8) (p : Nat) (ks : List Nd) : List (List D) := [t.map .p, z.map .p, [.p (.int .i64 47), .p (.str nm), .p (.int .i64 0), .tsl c.tk.length 39 5 (ks.map Nd.pd), .p (.int .i64 p)]]
def caS (c : Rd) (a o : Nat) (t z : List PD) (nm : List UInt8) (p : Nat) (ks : List Nd) : St := ⟨[(0, .box 0 0), (4, .box 5 0), (5, .box 6 0)], ⟨rC c a o :: tabB :: tabU :: tabS :: caB c t z nm p ks, c.tk ++ [ks.length]⟩⟩
theorem ca_ren (c : Rd) (t z : List PD) (nm : List UInt8) (p : Nat) (ks : List Nd) : mapO (D.renL (below 7) (below (c.tk.length + 1))) (caB c t z nm p ks) = some (caB c t z nm p ks) := by
  have : below (c.tk.length + 1) c.tk.length = some c.tk.length := by simp [below]
  simp only [caB, mapO, renL_p, D.renL, D.ren, this]
  rfl
theorem ca_loc {c : Rd} (h : c.Ok) (a o : Nat) (t z : List PD) (nm : List UInt8) (p : Nat) (ks : List Nd) (ex : List (List D)) (m : Nat) (out : Out) (env : Env) (ho : out.ren (below 7) (below (c.tk.length + 1)) = some out) :
    locD 7 (c.tk.length + 1) (out, ⟨env, ⟨rC c a o :: tabB :: tabU :: tabS :: (caB c t z nm p ks ++ ex), c.tk ++ [m]⟩⟩) =
      (out, ⟨env.map fun y => (y.1, (y.2.ren (below 7) (below (c.tk.length + 1))).getD .dead), ⟨rC c a o :: tabB :: tabU :: tabS :: caB c t z nm p ks, c.tk ++ [m]⟩⟩) :=
  loc_rdT h a o (caB c t z nm p ks) _ ex [m] [] out env 7 _ rfl rfl (ca_ren ..) ho
theorem ca_end {c : Rd} (h : c.Sz) (a o : Nat) (t z : List PD) (nm : List UInt8) (p : Nat) (ks : List Nd) (ha : a ≤ c.ts.length) (hq : acceptB c a [93] = true) :
    ∃ env, evS (call pg) pg.G iterX fc155_b0 (caS c a o t z nm p ks) = some (.exit 0, ⟨env, (caS c (a + 1) o t z nm p ks).hp⟩) ∧ env.get 0 = .box 0 0 ∧ env.get 4 = .box 5 0 ∧ env.get 5 = .box 6 0 := by
  have hn := h.n
  have ac := fun bx t => accept_eq h.toOk a o [93] (by omega) bx t
  simp only [rH, acceptN, hq, cond_true] at ac
  have hl := fun env => ca_loc h.toOk (a + 1) o t z nm p ks [] ks.length (.exit 0) env rfl
  simp only [caB, List.append_nil] at hl
  simp only [caS, caB]
  apply Exists.intro
  refine ⟨?_, ?_, ?_, ?_⟩
  · conv => lhs; simp [fc155_b0, evKC, evK, evGuard, put, Env.get, Env.keep, entry, Opd.ev, splice, cutAt, indexD, D.asInt?, D.asNat?, u8, binD, strBin, unD, lenD, boundsD, sliceD, iaddrD, sub, minmaxD, eqvL, PD.eqv, clsP, cls, clsR, isCl, isW, apartRW, offB, apartWW, clash, insOk, finish, evRes, evRes1, mapO, D.cells, PD.cells, D.refsL, D.refs, D.toksL, D.toks, mkAgg, pures, fillD, fillE, appendD, srcD, D.elems?, D.asPD, Int.toNat_natCast, srcH, srcBH, eqD, D.asPDL, isMapC, ac, hl, D.ren, below]
  all_goals rfl
def sepP (c : Rd) (ks : List Nd) (a : Nat) : PR Unit := if ks = [] then .ok () a else expectP c a [44]
theorem append_tok {c : Rd} {l : List PD} {x : PD} {m : Nat} {bx : List (List D)} (hm : l.length = m) (hb : m ≤ 1000000) : appendD 39 5 64 (.tsl c.tk.length 39 5 l) [x] ⟨bx, c.tk ++ [m]⟩ = some (.tsl c.tk.length 39 5 (l ++ [x]), ⟨bx, c.tk ++ [m + 1]⟩) := by
  have hr : roomy (m + 1) 64 = true := by simp only [roomy, Bool.and_eq_true, decide_eq_true_eq]; omega
  subst hm
  simp [appendD, hr]
theorem len_tsl (t : Nat) (ks : List Nd) : lenD 1 (.tsl t 39 5 (ks.map Nd.pd)) = some ks.length := by rw [lenD_tsl, List.length_map]
theorem gt0 {ks : List Nd} : decide ((ks.length : Int) > 0) = !decide (ks = []) := by
  cases ks with
  | nil => rfl
  | cons x l => simp
theorem ca_bad1 {c : Rd} (h : c.Sz) (a o : Nat) (t z : List PD) (nm : List UInt8) (p : Nat) (ks : List Nd) (ha : a ≤ c.ts.length) (hq : acceptB c a [93] = false) {e : Int} {q a' : Nat} (hx : sepP c ks a = .bad e q a') :
    ∃ env o', evS (call pg) pg.G iterX fc155_b0 (caS c a o t z nm p ks) = some (.pan (faultD e q), ⟨env, (caS c a' o' t z nm p ks).hp⟩) := by
  have hn := h.n
  have ac := fun bx t => accept_eq h.toOk a o [93] (by omega) bx t
  simp only [rH, acceptN, hq, cond_false] at ac
  unfold sepP at hx
  have hne : ks ≠ [] := fun e => by rw [if_pos e] at hx; cases hx
  rw [if_neg hne] at hx
  obtain ⟨o', s1⟩ := (expect_eq h a o [44] (by omega)).badT hx
  simp only [List.map_cons, List.map_nil] at s1
  have hl := fun env => ca_loc h.toOk a' o' t z nm p ks [] ks.length (.pan (faultD e q)) env rfl
  simp only [caB, List.append_nil] at hl
  have hg : 0 < ks.length := List.length_pos_iff.2 hne
  simp only [caS, caB]
  apply Exists.intro
  refine ⟨o', ?_⟩
  conv => lhs; simp [fc155_b0, evKC, evK, evGuard, put, Env.get, Env.keep, entry, Opd.ev, splice, cutAt, indexD, D.asInt?, D.asNat?, u8, binD, strBin, unD, boundsD, sliceD, iaddrD, sub, minmaxD, eqvL, PD.eqv, clsP, cls, clsR, isCl, isW, apartRW, offB, apartWW, clash, insOk, finish, evRes, evRes1, mapO, D.cells, PD.cells, D.refsL, D.refs, D.toksL, D.toks, mkAgg, pures, fillD, fillE, appendD, srcD, D.elems?, D.asPD, Int.toNat_natCast, srcH, srcBH, eqD, D.asPDL, isMapC, ld_succ, ld_zero, st_succ, st_zero, oI, oS, oN, oP, oB, oL, oT, oF, oE, ldr0, ldr1, ldr2, ldr3, ldr4, ldr5, ldr6, str1', str3', ac, hl, D.ren, below, s1, len_tsl, hg]
theorem sep_ok {c : Rd} {ks : List Nd} {a a1 : Nat} {u : Unit} (h : sepP c ks a = .ok u a1) (ha : a ≤ c.ts.length) : (ks = [] ∧ a1 = a) ∨ (ks ≠ [] ∧ expectP c a [44] = .ok u a1) := by
  unfold sepP at h
  by_cases hk : ks = []
  · rw [if_pos hk] at h; cases h; exact .inl ⟨hk, rfl⟩
  · rw [if_neg hk] at h; exact .inr ⟨hk, h⟩
theorem sep_bd {c : Rd} {ks : List Nd} {a a1 : Nat} {u : Unit} (h : sepP c ks a = .ok u a1) (ha : a ≤ c.ts.length) : a1 ≤ c.ts.length := by
  rcases sep_ok h ha with ⟨_, rfl⟩ | ⟨_, q⟩
  · exact ha
  · exact expect_bd c a [44] _ _ q
theorem ca_bad2 {c : Rd} (h : c.Sz) {o : Nat} {prs : Nat → Nat → PR Nd} (hp : PrsOk c o prs) (a : Nat) (t z : List PD) (nm : List UInt8) (p : Nat) (ks : List Nd) (ha : a ≤ c.ts.length) (hq : acceptB c a [93] = false) {a1 : Nat} {u : Unit} (hx : sepP c ks a = .ok u a1)
    {e : Int} {q a' : Nat} (hy : prs 8 a1 = .bad e q a') :
    ∃ env o', evS (call pg) pg.G iterX fc155_b0 (caS c a o t z nm p ks) = some (.pan (faultD e q), ⟨env, (caS c a' o' t z nm p ks).hp⟩) := by
  have hn := h.n
  have ac := fun bx t => accept_eq h.toOk a o [93] (by omega) bx t
  simp only [rH, acceptN, hq, cond_false] at ac
  have hb1 := sep_bd hx ha
  obtain ⟨o', s2⟩ := (hp.ans 8 a1 hb1 (by omega)).badT hy
  have hlv : ((8 : Nat) : Int) = 8 := rfl
  simp only [List.map_cons, List.map_nil, hlv] at s2
  have hl := fun env => ca_loc h.toOk a' o' t z nm p ks [] ks.length (.pan (faultD e q)) env rfl
  simp only [caB, List.append_nil] at hl
  simp only [caS, caB]
  rcases sep_ok hx ha with ⟨rfl, rfl⟩ | ⟨hk, hx⟩
  · simp only [List.map_nil, List.length_nil] at hl ⊢
    apply Exists.intro
    refine ⟨o', ?_⟩
    conv => lhs; simp [fc155_b0, evKC, evK, evGuard, put, Env.get, Env.keep, entry, Opd.ev, splice, cutAt, indexD, D.asInt?, D.asNat?, u8, binD, strBin, unD, boundsD, sliceD, iaddrD, sub, minmaxD, eqvL, PD.eqv, clsP, cls, clsR, isCl, isW, apartRW, offB, apartWW, clash, insOk, finish, evRes, evRes1, mapO, D.cells, PD.cells, D.refsL, D.refs, D.toksL, D.toks, mkAgg, pures, fillD, fillE, appendD, srcD, D.elems?, D.asPD, Int.toNat_natCast, srcH, srcBH, eqD, D.asPDL, isMapC, ld_succ, ld_zero, st_succ, st_zero, oI, oS, oN, oP, oB, oL, oT, oF, oE, ldr0, ldr1, ldr2, ldr3, ldr4, ldr5, ldr6, str1', str3', ac, hl, D.ren, below, lenD_tsl, s2, drP, evRest, behind, pairsOk, panOk, SO.uses, SK.slots, Opd.slots, SK.heapless]
  · have s1 := (expect_eq h a o [44] (by omega)).okT hx
    simp only [List.map_cons, List.map_nil] at s1
    have hg : 0 < ks.length := List.length_pos_iff.2 hk
    apply Exists.intro
    refine ⟨o', ?_⟩
    conv => lhs; simp [fc155_b0, evKC, evK, evGuard, put, Env.get, Env.keep, entry, Opd.ev, splice, cutAt, indexD, D.asInt?, D.asNat?, u8, binD, strBin, unD, boundsD, sliceD, iaddrD, sub, minmaxD, eqvL, PD.eqv, clsP, cls, clsR, isCl, isW, apartRW, offB, apartWW, clash, insOk, finish, evRes, evRes1, mapO, D.cells, PD.cells, D.refsL, D.refs, D.toksL, D.toks, mkAgg, pures, fillD, fillE, appendD, srcD, D.elems?, D.asPD, Int.toNat_natCast, srcH, srcBH, eqD, D.asPDL, isMapC, ld_succ, ld_zero, st_succ, st_zero, oI, oS, oN, oP, oB, oL, oT, oF, oE, ldr0, ldr1, ldr2, ldr3, ldr4, ldr5, ldr6, str1', str3', ac, hl, D.ren, below, s1, s2, len_tsl, hg, drP, evRest, behind, pairsOk, panOk, SO.uses, SK.slots, Opd.slots, SK.heapless]
theorem ca_step {c : Rd} (h : c.Sz) {o : Nat} {prs : Nat → Nat → PR Nd} (hp : PrsOk c o prs) (a : Nat) (t z : List PD) (nm : List UInt8) (p : Nat) (ks : List Nd) (ha : a ≤ c.ts.length) (hks : ks.length ≤ a) (hq : acceptB c a [93] = false) {a1 : Nat} {u : Unit} (hx : sepP c ks a = .ok u a1)
    {x : Nd} {a' : Nat} (hy : prs 8 a1 = .ok x a') :
    evS (call pg) pg.G iterX fc155_b0 (caS c a o t z nm p ks) = some (.norm, caS c a' o t z nm p (ks ++ [x])) := by
  have hn := h.n
  have ac := fun bx t => accept_eq h.toOk a o [93] (by omega) bx t
  simp only [rH, acceptN, hq, cond_false] at ac
  have hb1 := sep_bd hx ha
  have s2 := (hp.ans 8 a1 hb1 (by omega)).okT hy
  have hlv : ((8 : Nat) : Int) = 8 := rfl
  simp only [List.map_cons, List.map_nil, hlv, pd_cells x, Nd.cells] at s2
  have hkx := pone_kids x
  have hl := fun env => ca_loc h.toOk a' o t z nm p (ks ++ [x]) [] (ks.length + 1) .norm env rfl
  simp only [caB, List.append_nil, List.map_append, List.map_cons, List.map_nil, pd_cells x, Nd.cells] at hl
  have hap := fun bx y => append_tok (c := c) (l := ks.map Nd.pd) (x := y) (m := ks.length) (bx := bx) (by simp) (by omega)
  simp only [caS, caB, List.map_append, List.map_cons, List.map_nil, List.length_append, List.length_cons, List.length_nil, pd_cells x, Nd.cells, Nat.zero_add]
  rcases sep_ok hx ha with ⟨rfl, rfl⟩ | ⟨hk, hx⟩
  · obtain ⟨kc, hkc, hcl⟩ := cls_rdT h.toOk a1 o a' o (caB c t z nm p []) [0] 80 22 (.int .i64 8)
    simp only [caB, List.map_nil] at hcl
    simp only [List.map_nil, List.length_nil, List.nil_append] at hl hap ⊢
    rcases hkc with rfl | rfl <;> simp [fc155_b0, ↓hcl, evKC, evK, put, Env.get, Env.keep, Opd.ev, splice, cutAt, binD, unD, clsP, cls, clsR, isCl, isW, apartRW, offB, apartWW, clash, insOk, D.cells, PD.cells, fillE, srcD, D.elems?, D.asPD, srcH, ld_succ, ld_zero, st_succ, st_zero, ac, hl, D.ren, below, lenD_tsl, s2, hap, hkx]
  · have s1 := (expect_eq h a o [44] (by omega)).okT hx
    simp only [List.map_cons, List.map_nil] at s1
    have hg : 0 < ks.length := List.length_pos_iff.2 hk
    obtain ⟨kc, hkc, hcl⟩ := cls_rdT h.toOk a1 o a' o (caB c t z nm p ks) [ks.length] 80 22 (.int .i64 8)
    simp only [caB] at hcl
    rcases hkc with rfl | rfl <;> simp [fc155_b0, ↓hcl, evKC, evK, put, Env.get, Env.keep, Opd.ev, splice, cutAt, binD, unD, clsP, cls, clsR, isCl, isW, apartRW, offB, apartWW, clash, insOk, D.cells, PD.cells, fillE, srcD, D.elems?, D.asPD, srcH, ld_succ, ld_zero, st_succ, st_zero, ac, hl, D.ren, below, s1, s2, len_tsl, hg, hap, hkx]

end Go.Proofs.YtalgjkpkkdljaaaGreatDoor

namespace Go.Proofs.YtalgjkpkkdljaaaGreatDoor
open Go.Vs
def argsL (c : Rd) (prs : Nat → Nat → PR Nd) : Nat → List Nd → Nat → PR (List Nd)
  | 0, ks, a => .ok ks a
  | n + 1, ks, a => if acceptB c a [93] then .ok ks (a + 1) else (sepP c ks a).bind fun _ a => (prs 8 a).bind fun x a => argsL c prs n (ks ++ [x]) a
theorem argsP_argsL (c : Rd) (prs : Nat → Nat → PR Nd) (t : Tok) : ∀ (n : Nat) (ks : List Nd) (a : Nat), argsP c prs t n ks a = (argsL c prs n ks a).bind fun ks a => nodeP (callN t.t ks t.p) t.p a := by
  intro n
  induction n with
  | zero => intro ks a; rfl
  | succ n ih =>
    intro ks a
    unfold argsP argsL
    split
    · rfl
    · show (sepP c ks a).bind _ = ((sepP c ks a).bind _).bind _
      cases sepP c ks a with
      | bad e p a => rfl
      | ok u a1 =>
        simp only [bind_ok]
        cases prs 8 a1 with
        | bad e p a => rfl
        | ok x a2 =>
          simp only [bind_ok]
          exact ih _ _
theorem args_loop {c : Rd} (h : c.Sz) {o : Nat} {prs : Nat → Nat → PR Nd} (hp : PrsOk c o prs) (t z : List PD) (nm : List UInt8) (p : Nat) : ∀ (m a : Nat) (ks : List Nd), a ≤ c.ts.length → ks.length ≤ a → c.ts.length - a < m → match argsL c prs m ks a with
    | .ok ks' a' => a' ≤ c.ts.length ∧ ks'.length ≤ a' ∧ ∃ env, loopK (call pg) pg.G [0, 4, 5] fc155_b0 (caS c a o t z nm p ks) = some (.exit 0, ⟨env, (caS c a' o t z nm p ks').hp⟩) ∧ env.get 0 = .box 0 0 ∧ env.get 4 = .box 5 0 ∧ env.get 5 = .box 6 0
    | .bad e q a' => ∃ env o' ks', loopK (call pg) pg.G [0, 4, 5] fc155_b0 (caS c a o t z nm p ks) = some (.pan (faultD e q), ⟨env, (caS c a' o' t z nm p ks').hp⟩) := by
  intro m
  induction m with
  | zero => intro a n _ _ h2; omega
  | succ m ih =>
    intro a ks ha hks hm
    unfold argsL
    cases hq : acceptB c a [93] with
    | true =>
      obtain ⟨env, hs, h1, h2, h3⟩ := ca_end h a o t z nm p ks ha hq
      exact ⟨accept_lt hq, by omega, env, loopK_out hs (by simp), h1, h2, h3⟩
    | false =>
      simp only [Bool.false_eq_true, if_false]
      cases hx : sepP c ks a with
      | bad e q a' =>
        obtain ⟨env, o', hs⟩ := ca_bad1 h a o t z nm p ks ha hq hx
        exact ⟨env, o', ks, loopK_out hs (by simp)⟩
      | ok u a1 =>
        simp only [bind_ok]
        cases hy : prs 8 a1 with
        | bad e q a' =>
          obtain ⟨env, o', hs⟩ := ca_bad2 h hp a t z nm p ks ha hq hx hy
          exact ⟨env, o', ks, loopK_out hs (by simp)⟩
        | ok x a' =>
          simp only [bind_ok]
          have hs := ca_step h hp a t z nm p ks ha hks hq hx hy
          have hb1 := sep_bd hx ha
          have hlt := hp.adv 8 a1 x a' hb1 hy
          have hbd := hp.bd 8 a1 hb1 x a' hy
          have hle : a ≤ a1 := by
            rcases sep_ok hx ha with ⟨_, rfl⟩ | ⟨_, q⟩
            · exact Nat.le_refl _
            · unfold expectP at q
              cases hb : acceptB c a [44] with
              | true => rw [hb] at q; cases q; omega
              | false => rw [hb] at q; cases q
          have := ih a' (ks ++ [x]) hbd (by simp; omega) (by omega)
          have hl : loopK (call pg) pg.G [0, 4, 5] fc155_b0 (caS c a o t z nm p ks) = loopK (call pg) pg.G [0, 4, 5] fc155_b0 (caS c a' o t z nm p (ks ++ [x])) := loopK_norm hs
          rw [hl]
          exact this
theorem callN_cells (nm : List UInt8) (ks : List Nd) (p : Nat) : (callN nm ks p).cells = [.int .i64 47, .str nm, .int .i64 0, .slice 5 (ks.map Nd.pd), .int .i64 p] := by
  cases ks <;> rfl
theorem ca_out {c : Rd} (h : c.Ok) (a o : Nat) (t z : List PD) (nm : List UInt8) (p : Nat) (ks : List Nd) (out : Out) (env : Env) (ho : out.ren (below 7) (below c.tk.length) = some out) :
    locD 7 c.tk.length (out, ⟨env, (caS c a o t z nm p ks).hp⟩) =
      (out, ⟨env.map fun y => (y.1, (y.2.ren (below 7) (below c.tk.length)).getD .dead), ⟨rC c a o :: tabB :: tabU :: tabS :: [t.map .p, z.map .p, (callN nm ks p).cells.map .p], c.tk⟩⟩) := by
  have hb : mapO (D.renL (below 7) (below c.tk.length)) (caB c t z nm p ks) = some [t.map .p, z.map .p, (callN nm ks p).cells.map .p] := by
    have : below c.tk.length c.tk.length = none := by simp [below]
    simp only [caB, mapO, renL_p, D.renL, D.ren, this, callN_cells]
    rfl
  have := loc_rdT h a o (caB c t z nm p ks) _ [] [] [ks.length] out env 7 c.tk.length rfl rfl hb ho
  simp only [List.append_nil, List.nil_append] at this
  exact this
theorem get_map (f : D → D) (hf : f .dead = .dead) (t : Nat) : ∀ env : Env, Env.get (env.map fun y => (y.1, f y.2)) t = f (env.get t)
  | [] => hf.symm
  | (s, d) :: e => by
    simp only [List.map_cons, Env.get]
    split
    · rfl
    · exact get_map f hf t e
theorem call_eq {c : Rd} (h : c.Sz) {o : Nat} {prs : Nat → Nat → PR Nd} (hp : PrsOk c o prs) (t : Tok) (a : Nat) (ha : a ≤ c.ts.length) :
    Ans 155 [t.pd] c a o (fun x : Nd => .p x.pd) (argsP c prs t (c.ts.length + 1) [] a) := by
  rw [argsP_argsL]
  have hn := h.n
  have hL := args_loop h hp [.int .i64 t.k, .str t.t, .int .i64 t.p] [.int .i64 0, .str [], .int .i64 0, .nils, .int .i64 0] t.t t.p (c.ts.length + 1) a [] ha (by simp) (by omega)
  cases hr : argsL c prs (c.ts.length + 1) [] a with
  | bad e q a' =>
    rw [hr] at hL
    obtain ⟨env, o', ks, hL⟩ := hL
    have hl := ca_out h.toOk a' o' [.int .i64 t.k, .str t.t, .int .i64 t.p] [.int .i64 0, .str [], .int .i64 0, .nils, .int .i64 0] t.t t.p ks (.pan (faultD e q)) env rfl
    simp only [caS, caB, List.map_cons, List.map_nil, List.length_nil] at hL hl
    refine ans_frzB h.toOk (fc := fc155) rfl rfl rfl rfl ?_
    apply Exists.intro
    refine ⟨o', ?_⟩
    simp only [rH, List.append_nil, Tok.pd]
    conv => lhs; simp [fc155, evKC, evK, evGuard, put, Env.get, Env.keep, entry, Opd.ev, splice, cutAt, indexD, D.asInt?, D.asNat?, u8, binD, strBin, unD, boundsD, sliceD, iaddrD, sub, minmaxD, eqvL, PD.eqv, clsP, cls, clsR, isCl, isW, apartRW, offB, apartWW, clash, insOk, finish, evRes, evRes1, mapO, D.cells, PD.cells, D.refsL, D.refs, D.toksL, D.toks, mkAgg, pures, fillD, fillE, appendD, srcD, D.elems?, D.asPD, Int.toNat_natCast, srcH, srcBH, eqD, D.asPDL, isMapC, ld_succ, ld_zero, st_succ, st_zero, oI, oS, oN, oP, oB, oL, oT, oF, oE, ldr0, ldr1, ldr2, ldr3, ldr4, ldr5, ldr6, str1', str3', tokbD, tokD, hL, hl]
  | ok ks a' =>
    rw [hr] at hL
    obtain ⟨hb, hks, env, hL, g0, g4, g5⟩ := hL
    simp only [bind_ok]
    have nd := node_eq h.toOk a' o (callN t.t ks t.p) t.p (by cases ks <;> rfl) (by show ks.length ≤ _; omega)
    have hl := ca_out h.toOk a' o [.int .i64 t.k, .str t.t, .int .i64 t.p] [.int .i64 0, .str [], .int .i64 0, .nils, .int .i64 0] t.t t.p ks .norm env rfl
    have g0' := get_map (fun d => (D.ren (below 7) (below c.tk.length) d).getD .dead) rfl 0 env
    have g4' := get_map (fun d => (D.ren (below 7) (below c.tk.length) d).getD .dead) rfl 4 env
    have g5' := get_map (fun d => (D.ren (below 7) (below c.tk.length) d).getD .dead) rfl 5 env
    rw [g0] at g0'
    rw [g4] at g4'
    rw [g5] at g5'
    replace g0' : _ = D.box 0 0 := g0'.trans rfl
    replace g4' : _ = D.box 5 0 := g4'.trans rfl
    replace g5' : _ = D.box 6 0 := g5'.trans rfl
    simp only [caS, caB, List.map_cons, List.map_nil, List.length_nil, callN_cells] at hL hl
    unfold nodeP at nd ⊢
    cases hf : fitsB (callN t.t ks t.p).op (callN t.t ks t.p).ks with
    | true =>
      rw [hf] at nd
      have nd := nd.okU
      simp only [List.map_cons, List.map_nil, pd_cells, callN_cells] at nd
      refine ans_frz h.toOk (fc := fc155) rfl rfl rfl rfl (.p (callN t.t ks t.p).pd) (fun _ => rfl) ?_
      apply Exists.intro
      simp only [rH, List.append_nil, Tok.pd, pd_cells (callN t.t ks t.p), callN_cells]
      conv => lhs; simp [fc155, evKC, evK, evGuard, put, Env.get, Env.keep, entry, Opd.ev, splice, cutAt, indexD, D.asInt?, D.asNat?, u8, binD, strBin, unD, boundsD, sliceD, iaddrD, sub, minmaxD, eqvL, PD.eqv, clsP, cls, clsR, isCl, isW, apartRW, offB, apartWW, clash, insOk, finish, evRes, evRes1, mapO, D.cells, PD.cells, D.refsL, D.refs, D.toksL, D.toks, mkAgg, pures, fillD, fillE, appendD, srcD, D.elems?, D.asPD, Int.toNat_natCast, srcH, srcBH, eqD, D.asPDL, isMapC, ld_succ, ld_zero, st_succ, st_zero, oI, oS, oN, oP, oB, oL, oT, oF, oE, ldr0, ldr1, ldr2, ldr3, ldr4, ldr5, ldr6, str1', str3', tokbD, tokD, hL, hl, g0', g4', g5', nd]
    | false =>
      rw [hf] at nd
      obtain ⟨o', nd⟩ := Ans.badU nd
      simp only [List.map_cons, List.map_nil, pd_cells, callN_cells] at nd
      refine ans_frzB h.toOk (fc := fc155) rfl rfl rfl rfl ?_
      apply Exists.intro
      refine ⟨o', ?_⟩
      simp only [rH, List.append_nil, Tok.pd]
      conv => lhs; simp [fc155, evKC, evK, evGuard, put, Env.get, Env.keep, entry, Opd.ev, splice, cutAt, indexD, D.asInt?, D.asNat?, u8, binD, strBin, unD, boundsD, sliceD, iaddrD, sub, minmaxD, eqvL, PD.eqv, clsP, cls, clsR, isCl, isW, apartRW, offB, apartWW, clash, insOk, finish, evRes, evRes1, mapO, D.cells, PD.cells, D.refsL, D.refs, D.toksL, D.toks, mkAgg, pures, fillD, fillE, appendD, srcD, D.elems?, D.asPD, Int.toNat_natCast, srcH, srcBH, eqD, D.asPDL, isMapC, ld_succ, ld_zero, st_succ, st_zero, oI, oS, oN, oP, oB, oL, oT, oF, oE, ldr0, ldr1, ldr2, ldr3, ldr4, ldr5, ldr6, str1', str3', tokbD, tokD, hL, hl, g0', g4', g5', nd]

end Go.Proofs.YtalgjkpkkdljaaaGreatDoor

namespace Go.Proofs.YtalgjkpkkdljaaaGreatDoor
open Go.Vs
def wordT : List (List UInt8 × Int) := [([105, 100, 101, 110], 4), ([116, 114, 117, 101], 30), ([117, 110, 105, 118], 3), ([102, 97, 108, 115, 101], 31)]
theorem wordT_op (s : List UInt8) : lookT wordT s = wordOp s := by
  unfold wordOp
  simp only [wordT, lookT]
  by_cases h1 : s = [116, 114, 117, 101]
  · subst h1; rfl
  by_cases h2 : s = [102, 97, 108, 115, 101]
  · subst h2; rfl
  by_cases h3 : s = [117, 110, 105, 118]
  · subst h3; rfl
  by_cases h4 : s = [105, 100, 101, 110]
  · subst h4; rfl
  simp [h1, h2, h3, h4, Ne.symm h1, Ne.symm h2, Ne.symm h3, Ne.symm h4]

section
variable {b0 b1 b2 b3 b4 b5 : List D} {tk : List Nat}
theorem mi1 : mapinsD 2 (.mapr 6) (.p (.str [116, 114, 117, 101])) (.p (.int .i64 30)) ⟨[b0, b1, b2, b3, b4, b5, [.mapc 2 [] []]], tk⟩ = some (.undef, ⟨[b0, b1, b2, b3, b4, b5, [.mapc 2 [.str [116, 114, 117, 101]] [.p (.int .i64 30)]]], tk⟩) := rfl
theorem mi2 : mapinsD 2 (.mapr 6) (.p (.str [102, 97, 108, 115, 101])) (.p (.int .i64 31)) ⟨[b0, b1, b2, b3, b4, b5, [.mapc 2 [.str [116, 114, 117, 101]] [.p (.int .i64 30)]]], tk⟩ = some (.undef, ⟨[b0, b1, b2, b3, b4, b5, [.mapc 2 [.str [116, 114, 117, 101], .str [102, 97, 108, 115, 101]] [.p (.int .i64 30), .p (.int .i64 31)]]], tk⟩) := rfl
theorem mi3 : mapinsD 2 (.mapr 6) (.p (.str [117, 110, 105, 118])) (.p (.int .i64 3)) ⟨[b0, b1, b2, b3, b4, b5, [.mapc 2 [.str [116, 114, 117, 101], .str [102, 97, 108, 115, 101]] [.p (.int .i64 30), .p (.int .i64 31)]]], tk⟩ = some (.undef, ⟨[b0, b1, b2, b3, b4, b5, [.mapc 2 [.str [116, 114, 117, 101], .str [117, 110, 105, 118], .str [102, 97, 108, 115, 101]] [.p (.int .i64 30), .p (.int .i64 3), .p (.int .i64 31)]]], tk⟩) := rfl
theorem mi4 : mapinsD 2 (.mapr 6) (.p (.str [105, 100, 101, 110])) (.p (.int .i64 4)) ⟨[b0, b1, b2, b3, b4, b5, [.mapc 2 [.str [116, 114, 117, 101], .str [117, 110, 105, 118], .str [102, 97, 108, 115, 101]] [.p (.int .i64 30), .p (.int .i64 3), .p (.int .i64 31)]]], tk⟩ = some (.undef, ⟨[b0, b1, b2, b3, b4, b5, mapT (fun n => .int .i64 n) wordT], tk⟩) := rfl
theorem mget (s : List UInt8) : mapgetD 2 (.int .i64 0) true (.mapr 6) (.p (.str s)) ⟨[b0, b1, b2, b3, b4, b5, mapT (fun n => .int .i64 n) wordT], tk⟩ = some (getT (fun n => .int .i64 n) (.int .i64 0) wordT s) := get_mapT rfl s
end
theorem ans_frzE {g : Nat} {args : List PD} {c : Rd} (hc : c.Ok) {a o : Nat} {fc : FC} (hl : pgL g (.box 0 0 :: args.map .p) (rH c a o [] []) = none) (hf : pgF g = some fc) (hn : args.length + 1 = fc.np) (hz : fc.frozen = true)
    {x : Nd} {a' : Nat}
    (e : ∃ ex, finish pg.G fc.res (evS (call pg) pg.G iterX fc.body ⟨entry 0 (.box 0 0 :: args.map .p), ⟨rC c a o :: tabB :: tabU :: tabS :: [], c.tk⟩⟩) = some (.val (.p x.pd), ⟨rC c a' o :: tabB :: tabU :: tabS :: ex, c.tk⟩)) :
    Ans g args c a o (fun x : Nd => .p x.pd) (.ok x a') := by
  refine ans_frz hc hl hf hn hz (.p x.pd) (fun _ => rfl) ?_
  simpa only [rH, List.append_nil] using e
theorem ans_frzBE {g : Nat} {args : List PD} {c : Rd} (hc : c.Ok) {a o : Nat} {fc : FC} (hl : pgL g (.box 0 0 :: args.map .p) (rH c a o [] []) = none) (hf : pgF g = some fc) (hn : args.length + 1 = fc.np) (hz : fc.frozen = true)
    {er : Int} {p a' : Nat}
    (e : ∃ o' ex, finish pg.G fc.res (evS (call pg) pg.G iterX fc.body ⟨entry 0 (.box 0 0 :: args.map .p), ⟨rC c a o :: tabB :: tabU :: tabS :: [], c.tk⟩⟩) = some (.pan (faultD er p), ⟨rC c a' o' :: tabB :: tabU :: tabS :: ex, c.tk⟩)) :
    Ans g args c a o (fun x : Nd => .p x.pd) (.bad er p a') := by
  refine ans_frzB hc hl hf hn hz ?_
  obtain ⟨o', ex, e⟩ := e
  refine ⟨ex, o', ?_⟩
  simpa only [rH, List.append_nil] using e
theorem pr_word {c : Rd} (h : c.Sz) (o : Nat) (t : Tok) (a : Nat) (ha : a ≤ c.ts.length) {op : Int} (hw : wordOp t.t = some op) :
    Ans 143 [t.pd] c a o (fun x : Nd => .p x.pd) (.ok (leafN op [] 0 t.p) (a + 1)) := by
  have hn := h.n
  have hw1 := addw1 (a := a) (by omega)
  rw [← wordT_op] at hw
  refine ans_frzE h.toOk (fc := fc143) rfl rfl rfl rfl ?_
  apply Exists.intro
  simp only [Tok.pd, leaf_cells]
  conv => lhs; simp [fc143, evKC, evK, evGuard, put, Env.get, Env.keep, entry, Opd.ev, splice, cutAt, indexD, D.asInt?, D.asNat?, u8, binD, strBin, unD, boundsD, sliceD, iaddrD, sub, minmaxD, eqvL, PD.eqv, clsP, cls, clsR, isCl, isW, apartRW, offB, apartWW, clash, insOk, finish, evRes, evRes1, mapO, D.cells, PD.cells, D.refsL, D.refs, D.toksL, D.toks, mkAgg, pures, fillD, fillE, appendD, srcD, D.elems?, D.asPD, Int.toNat_natCast, srcH, srcBH, eqD, D.asPDL, isMapC, ld_succ, ld_zero, st_succ, st_zero, oI, oS, oN, oP, oB, oL, oT, oF, oE, ldr0, ldr1, ldr2, ldr3, ldr4, ldr5, ldr6, str1', str3', mi1, mi2, mi3, mi4, mget, getT, hw, hw1]
theorem bind_inv {α β : Type} {x : PR α} {f : α → Nat → PR β} {y : β} {a : Nat} (h : x.bind f = .ok y a) : ∃ v b, x = .ok v b ∧ f v b = .ok y a := by
  cases x with
  | ok v b => exact ⟨v, b, rfl, h⟩
  | bad e p b => cases h
theorem expect_inv {c : Rd} {a : Nat} {s : List UInt8} {u : Unit} {a' : Nat} (h : expectP c a s = .ok u a') : a' = a + 1 ∧ acceptB c a s = true := by
  unfold expectP at h
  cases hb : acceptB c a s with
  | true => rw [hb] at h; cases h; exact ⟨rfl, rfl⟩
  | false => rw [hb] at h; cases h
theorem name_inv {c : Rd} {a : Nat} {t : Tok} {a' : Nat} (h : nameP c a = .ok t a') : a' = a + 1 ∧ t = c.tok a ∧ namedB (c.tok a) = true := by
  unfold nameP at h
  cases hb : namedB (c.tok a) with
  | true => rw [hb] at h; cases h; exact ⟨rfl, rfl, rfl⟩
  | false => rw [hb] at h; cases h
theorem node_inv {n : Nd} {p a : Nat} {x : Nd} {a' : Nat} (h : nodeP n p a = .ok x a') : x = n ∧ a' = a ∧ fitsB n.op n.ks = true := by
  unfold nodeP at h
  cases hb : fitsB n.op n.ks with
  | true => rw [hb] at h; cases h; exact ⟨rfl, rfl, rfl⟩
  | false => rw [hb] at h; cases h
theorem quant_inv {c : Rd} {prs : Nat → Nat → PR Nd} {op : Int} {p a : Nat} {x : Nd} {a' : Nat} (h : quantP c prs op p a = .ok x a') :
    ∃ e a3 f, namedB (c.tok a) = true ∧ acceptB c (a + 1) [58] = true ∧ prs 8 (a + 2) = .ok e a3 ∧ acceptB c a3 [124] = true ∧ prs 1 (a3 + 1) = .ok f a' ∧ x = kidsN op (c.tok a).t [e, f] p ∧ fitsB op [e, f] = true := by
  obtain ⟨t, a1, h1, g1⟩ := bind_inv h
  obtain ⟨u, a2, h2, g2⟩ := bind_inv g1
  obtain ⟨e, a3, h3, g3⟩ := bind_inv g2
  obtain ⟨u', a4, h4, g4⟩ := bind_inv g3
  obtain ⟨f, a5, h5, g5⟩ := bind_inv g4
  clear h g1 g2 g3 g4
  obtain ⟨rfl, rfl, n1⟩ := name_inv h1
  obtain ⟨rfl, n2⟩ := expect_inv h2
  obtain ⟨rfl, n4⟩ := expect_inv h4
  obtain ⟨rfl, rfl, n5⟩ := node_inv g5
  exact ⟨e, a3, f, n1, n2, h3, n4, h5, rfl, n5⟩
theorem quant_bd {c : Rd} {o : Nat} {prs : Nat → Nat → PR Nd} (hp : PrsOk c o prs) (op : Int) (p : Nat) {a : Nat} (ha : a ≤ c.ts.length) : (quantP c prs op p a).Bd c := by
  intro x a' h
  obtain ⟨e, a3, f, n1, n2, h3, n4, h5, _⟩ := quant_inv h
  exact hp.bd 1 (a3 + 1) (accept_lt n4) f a' h5
theorem neg_w (n : Nat) (h : n ≤ 999999999) : IntKind.i64.wrap (-(n : Int)) = -(n : Int) := by
  rw [wrap64 (by omega) (by omega)]
theorem numberP_le {c : Rd} {most a n a' : Nat} (h : numberP c most a = .ok n a') : n ≤ most ∧ a' = a + 1 := by
  unfold numberP at h
  split at h
  · split at h
    · cases h
    · cases h; exact ⟨by omega, rfl⟩
  · cases h
theorem pr_num {c : Rd} (h : c.Sz) {o : Nat} {prs : Nat → Nat → PR Nd} (hp : PrsOk c o prs) (t : Tok) (a : Nat) (ha : a ≤ c.ts.length) (hw : lookT wordT t.t = none) (h2 : t.k = 2) :
    Ans 143 [t.pd] c a o (fun x : Nd => .p x.pd) ((numberP c 64 a).bind fun n a => .ok (leafN 20 [] n t.p) a) := by
  have hn := h.n
  have s1 : Ans 153 [.int .i64 64] c a o (fun n : Nat => .p (.int .i64 n)) (numberP c 64 a) := number_eq h a o 64 (by omega)
  cases r1 : numberP c 64 a with
  | bad e q a1 =>
    obtain ⟨o', s1⟩ := s1.badT r1
    have s1 := fun bx => s1 bx []
    simp only [List.map_cons, List.map_nil, List.append_nil] at s1
    change Ans 143 [t.pd] c a o (fun x : Nd => .p x.pd) (.bad e q a1)
    refine ans_frzBE h.toOk (fc := fc143) rfl rfl rfl rfl ⟨o', ?_⟩
    apply Exists.intro
    simp only [Tok.pd]
    conv => lhs; simp [fc143, evKC, evK, evGuard, put, Env.get, Env.keep, entry, Opd.ev, splice, cutAt, indexD, D.asInt?, D.asNat?, u8, binD, strBin, unD, boundsD, sliceD, iaddrD, sub, minmaxD, eqvL, PD.eqv, clsP, cls, clsR, isCl, isW, apartRW, offB, apartWW, clash, insOk, finish, evRes, evRes1, mapO, D.cells, PD.cells, D.refsL, D.refs, D.toksL, D.toks, mkAgg, pures, fillD, fillE, appendD, srcD, D.elems?, D.asPD, Int.toNat_natCast, srcH, srcBH, eqD, D.asPDL, isMapC, ld_succ, ld_zero, st_succ, st_zero, oI, oS, oN, oP, oB, oL, oT, oF, oE, ldr0, ldr1, ldr2, ldr3, ldr4, ldr5, ldr6, str1', str3', mi1, mi2, mi3, mi4, mget, getT, hw, s1, h2, drP, evRest, behind, pairsOk, panOk, SO.uses, SK.slots, Opd.slots, SK.heapless]
  | ok n a1 =>
    have s1 := fun bx => s1.okT r1 bx []
    simp only [List.map_cons, List.map_nil, List.append_nil] at s1
    change Ans 143 [t.pd] c a o (fun x : Nd => .p x.pd) (.ok (leafN 20 [] n t.p) a1)
    obtain ⟨kc, hkc, hcl⟩ := cls_rd h.toOk a o a1 o [[.p (.int .i64 2), .p (.str t.t), .p (.int .i64 t.p)], [.p (.int .i64 0), .p (.str []), .p (.int .i64 0), .p .nils, .p (.int .i64 0)], mapT (fun n => .int .i64 n) wordT] 153 35 (.int .i64 64)
    rcases hkc with rfl | rfl
    all_goals
      refine ans_frzE h.toOk (fc := fc143) rfl rfl rfl rfl ?_
      apply Exists.intro
      simp only [Tok.pd, leaf_cells]
      conv => lhs; simp [fc143, evKC, evK, evGuard, put, Env.get, Env.keep, entry, Opd.ev, splice, cutAt, indexD, D.asInt?, D.asNat?, u8, binD, strBin, unD, boundsD, sliceD, iaddrD, sub, minmaxD, eqvL, PD.eqv, clsP, cls, clsR, isCl, isW, apartRW, offB, apartWW, clash, insOk, finish, evRes, evRes1, mapO, D.cells, PD.cells, D.refsL, D.refs, D.toksL, D.toks, mkAgg, pures, fillD, fillE, appendD, srcD, D.elems?, D.asPD, Int.toNat_natCast, srcH, srcBH, eqD, D.asPDL, isMapC, ld_succ, ld_zero, st_succ, st_zero, oI, oS, oN, oP, oB, oL, oT, oF, oE, ldr0, ldr1, ldr2, ldr3, ldr4, ldr5, ldr6, str1', str3', mi1, mi2, mi3, mi4, mget, getT, hw, ↓hcl, s1, h2]
theorem pr_neg {c : Rd} (h : c.Sz) {o : Nat} {prs : Nat → Nat → PR Nd} (hp : PrsOk c o prs) (t : Tok) (a : Nat) (ha : a ≤ c.ts.length) (hw : lookT wordT t.t = none) (h2 : (t.k == 2) = false) (h3 : t.t = [45]) (h4 : (c.tok (a + 1)).k = 2) :
    Ans 143 [t.pd] c a o (fun x : Nd => .p x.pd) ((numberP c 64 (a + 1)).bind fun n a => .ok (leafN 20 [] (-n) t.p) a) := by
  have hn := h.n
  have hw1 := addw1 (a := a) (by omega)
  have lk := fun bx => look_eq h.toOk a o 1 (by omega) bx []
  have hlv : ((1 : Nat) : Int) = 1 := rfl
  simp only [rH, List.append_nil, hlv, Tok.pd, h4] at lk
  have s1 : Ans 153 [.int .i64 64] c (a + 1) o (fun n : Nat => .p (.int .i64 n)) (numberP c 64 (a + 1)) := number_eq h (a + 1) o 64 (by omega)
  cases r1 : numberP c 64 (a + 1) with
  | bad e q a1 =>
    obtain ⟨o', s1⟩ := s1.badT r1
    have s1 := fun bx => s1 bx []
    simp only [List.map_cons, List.map_nil, List.append_nil] at s1
    change Ans 143 [t.pd] c a o (fun x : Nd => .p x.pd) (.bad e q a1)
    rw [h3] at hw
    refine ans_frzBE h.toOk (fc := fc143) rfl rfl rfl rfl ⟨o', ?_⟩
    apply Exists.intro
    simp only [Tok.pd]
    conv => lhs; simp [fc143, evKC, evK, evGuard, put, Env.get, Env.keep, entry, Opd.ev, splice, cutAt, indexD, D.asInt?, D.asNat?, u8, binD, strBin, unD, boundsD, sliceD, iaddrD, sub, minmaxD, eqvL, PD.eqv, clsP, cls, clsR, isCl, isW, apartRW, offB, apartWW, clash, insOk, finish, evRes, evRes1, mapO, D.cells, PD.cells, D.refsL, D.refs, D.toksL, D.toks, mkAgg, pures, fillD, fillE, appendD, srcD, D.elems?, D.asPD, Int.toNat_natCast, srcH, srcBH, eqD, D.asPDL, isMapC, ld_succ, ld_zero, st_succ, st_zero, oI, oS, oN, oP, oB, oL, oT, oF, oE, ldr0, ldr1, ldr2, ldr3, ldr4, ldr5, ldr6, str1', str3', mi1, mi2, mi3, mi4, mget, getT, hw, s1, h2, h3, lk, hw1, drP, evRest, behind, pairsOk, panOk, SO.uses, SK.slots, Opd.slots, SK.heapless]
  | ok n a1 =>
    have hle := (numberP_le r1).1
    have hng := neg_w n (by omega)
    have s1 := fun bx => s1.okT r1 bx []
    simp only [List.map_cons, List.map_nil, List.append_nil] at s1
    change Ans 143 [t.pd] c a o (fun x : Nd => .p x.pd) (.ok (leafN 20 [] (-n) t.p) a1)
    rw [h3] at hw
    obtain ⟨kc, hkc, hcl⟩ := cls_rd h.toOk (a + 1) o a1 o [[.p (.int .i64 t.k), .p (.str [45]), .p (.int .i64 t.p)], [.p (.int .i64 0), .p (.str []), .p (.int .i64 0), .p .nils, .p (.int .i64 0)], mapT (fun n => .int .i64 n) wordT] 153 57 (.int .i64 64)
    rcases hkc with rfl | rfl
    all_goals
      refine ans_frzE h.toOk (fc := fc143) rfl rfl rfl rfl ?_
      apply Exists.intro
      simp only [Tok.pd, leaf_cells]
      conv => lhs; simp [fc143, evKC, evK, evGuard, put, Env.get, Env.keep, entry, Opd.ev, splice, cutAt, indexD, D.asInt?, D.asNat?, u8, binD, strBin, unD, boundsD, sliceD, iaddrD, sub, minmaxD, eqvL, PD.eqv, clsP, cls, clsR, isCl, isW, apartRW, offB, apartWW, clash, insOk, finish, evRes, evRes1, mapO, D.cells, PD.cells, D.refsL, D.refs, D.toksL, D.toks, mkAgg, pures, fillD, fillE, appendD, srcD, D.elems?, D.asPD, Int.toNat_natCast, srcH, srcBH, eqD, D.asPDL, isMapC, ld_succ, ld_zero, st_succ, st_zero, oI, oS, oN, oP, oB, oL, oT, oF, oE, ldr0, ldr1, ldr2, ldr3, ldr4, ldr5, ldr6, str1', str3', mi1, mi2, mi3, mi4, mget, getT, hw, ↓hcl, s1, h2, h3, lk, hw1, unD, hng]
theorem pr_minus {c : Rd} (h : c.Sz) {o : Nat} {prs : Nat → Nat → PR Nd} (hp : PrsOk c o prs) (t : Tok) (a : Nat) (ha : a ≤ c.ts.length) (hw : lookT wordT t.t = none) (h2 : (t.k == 2) = false) (h3 : t.t = [45]) (h4 : ((c.tok (a + 1)).k == 2) = false) :
    Ans 143 [t.pd] c a o (fun x : Nd => .p x.pd) (wrongP c (a + 1)) := by
  have hn := h.n
  have hw1 := addw1 (a := a) (by omega)
  have lk := fun bx => look_eq h.toOk a o 1 (by omega) bx []
  have wr := fun bx => wrong_eq h (a + 1) o (by omega) bx []
  have hlv : ((1 : Nat) : Int) = 1 := rfl
  simp only [rH, List.append_nil, hlv, Tok.pd] at lk wr
  unfold wrongP
  rw [h3] at hw
  generalize c.tok (a + 1) = y at *
  refine ans_frzBE h.toOk (fc := fc143) rfl rfl rfl rfl ⟨o, ?_⟩
  apply Exists.intro
  simp only [Tok.pd]
  conv => lhs; simp [fc143, evKC, evK, evGuard, put, Env.get, Env.keep, entry, Opd.ev, splice, cutAt, indexD, D.asInt?, D.asNat?, u8, binD, strBin, unD, boundsD, sliceD, iaddrD, sub, minmaxD, eqvL, PD.eqv, clsP, cls, clsR, isCl, isW, apartRW, offB, apartWW, clash, insOk, finish, evRes, evRes1, mapO, D.cells, PD.cells, D.refsL, D.refs, D.toksL, D.toks, mkAgg, pures, fillD, fillE, appendD, srcD, D.elems?, D.asPD, Int.toNat_natCast, srcH, srcBH, eqD, D.asPDL, isMapC, ld_succ, ld_zero, st_succ, st_zero, oI, oS, oN, oP, oB, oL, oT, oF, oE, ldr0, ldr1, ldr2, ldr3, ldr4, ldr5, ldr6, str1', str3', mi1, mi2, mi3, mi4, mget, getT, hw, wr, h2, h3, lk, h4, hw1]
theorem pr_none {c : Rd} (h : c.Sz) {o : Nat} {prs : Nat → Nat → PR Nd} (hp : PrsOk c o prs) (t : Tok) (a : Nat) (ha : a ≤ c.ts.length) (hw : lookT wordT t.t = none) (h2 : (t.k == 2) = false) (h3 : (t.t == [45]) = false) (q1 : acceptB c a [110, 111, 110, 101] = true) :
    Ans 143 [t.pd] c a o (fun x : Nd => .p x.pd) (noneP c t.p (a + 1)) := by
  have hn := h.n
  have hb1 := accept_lt q1
  have k1 := fun bx => accept_eq h.toOk a o [110, 111, 110, 101] (by omega) bx []
  simp only [rH, List.append_nil, acceptN, q1, cond_true] at k1
  have s1 : Ans 154 [.int .i64 t.p] c (a + 1) o (fun x : Nd => .p x.pd) (noneP c t.p (a + 1)) := none_eq h (a + 1) o t.p (by omega)
  cases r1 : noneP c t.p (a + 1) with
  | bad e q a1 =>
    obtain ⟨o', s1⟩ := s1.badT r1
    have s1 := fun bx => s1 bx []
    simp only [List.map_cons, List.map_nil, List.append_nil] at s1
    refine ans_frzBE h.toOk (fc := fc143) rfl rfl rfl rfl ⟨o', ?_⟩
    apply Exists.intro
    simp only [Tok.pd]
    conv => lhs; simp [fc143, evKC, evK, evGuard, put, Env.get, Env.keep, entry, Opd.ev, splice, cutAt, indexD, D.asInt?, D.asNat?, u8, binD, strBin, unD, boundsD, sliceD, iaddrD, sub, minmaxD, eqvL, PD.eqv, clsP, cls, clsR, isCl, isW, apartRW, offB, apartWW, clash, insOk, finish, evRes, evRes1, mapO, D.cells, PD.cells, D.refsL, D.refs, D.toksL, D.toks, mkAgg, pures, fillD, fillE, appendD, srcD, D.elems?, D.asPD, Int.toNat_natCast, srcH, srcBH, eqD, D.asPDL, isMapC, ld_succ, ld_zero, st_succ, st_zero, oI, oS, oN, oP, oB, oL, oT, oF, oE, ldr0, ldr1, ldr2, ldr3, ldr4, ldr5, ldr6, str1', str3', mi1, mi2, mi3, mi4, mget, getT, hw, s1, h2, h3, k1]
  | ok x a2 =>
    have s1 := fun bx => s1.okT r1 bx []
    have hkx := pone_kids x
    simp only [List.map_cons, List.map_nil, List.append_nil, pd_cells x, Nd.cells] at s1
    refine ans_frzE h.toOk (fc := fc143) rfl rfl rfl rfl ?_
    apply Exists.intro
    simp only [Tok.pd, pd_cells x, Nd.cells]
    conv => lhs; simp [fc143, evKC, evK, evGuard, put, Env.get, Env.keep, entry, Opd.ev, splice, cutAt, indexD, D.asInt?, D.asNat?, u8, binD, strBin, unD, boundsD, sliceD, iaddrD, sub, minmaxD, eqvL, PD.eqv, clsP, cls, clsR, isCl, isW, apartRW, offB, apartWW, clash, insOk, finish, evRes, evRes1, mapO, D.cells, PD.cells, D.refsL, D.refs, D.toksL, D.toks, mkAgg, pures, fillD, fillE, appendD, srcD, D.elems?, D.asPD, Int.toNat_natCast, srcH, srcBH, eqD, D.asPDL, isMapC, ld_succ, ld_zero, st_succ, st_zero, oI, oS, oN, oP, oB, oL, oT, oF, oE, ldr0, ldr1, ldr2, ldr3, ldr4, ldr5, ldr6, str1', str3', mi1, mi2, mi3, mi4, mget, getT, hw, s1, h2, h3, k1, hkx]
theorem pr_compr {c : Rd} (h : c.Sz) {o : Nat} {prs : Nat → Nat → PR Nd} (hp : PrsOk c o prs) (t : Tok) (a : Nat) (ha : a ≤ c.ts.length) (hw : lookT wordT t.t = none) (h2 : (t.k == 2) = false) (h3 : (t.t == [45]) = false) (q1 : acceptB c a [110, 111, 110, 101] = false) (q2 : acceptB c a [123] = true) :
    Ans 143 [t.pd] c a o (fun x : Nd => .p x.pd) ((quantP c prs 15 t.p (a + 1)).bind fun n a => (expectP c a [125]).bind fun _ a => .ok n a) := by
  have hn := h.n
  have hb1 := accept_lt q2
  have k1 := fun bx => accept_eq h.toOk a o [110, 111, 110, 101] (by omega) bx []
  simp only [rH, List.append_nil, acceptN, q1, cond_false] at k1
  have k2 := fun bx => accept_eq h.toOk a o [123] (by omega) bx []
  simp only [rH, List.append_nil, acceptN, q2, cond_true] at k2
  have s1 : Ans 141 [.int .i64 15, .int .i64 t.p] c (a + 1) o (fun x : Nd => .p x.pd) (quantP c prs 15 t.p (a + 1)) := quant_eq h hp 15 t.p (a + 1) hb1
  cases r1 : quantP c prs 15 t.p (a + 1) with
  | bad e q a1 =>
    obtain ⟨o', s1⟩ := s1.badT r1
    have s1 := fun bx => s1 bx []
    simp only [List.map_cons, List.map_nil, List.append_nil] at s1
    change Ans 143 [t.pd] c a o (fun x : Nd => .p x.pd) (.bad e q a1)
    refine ans_frzBE h.toOk (fc := fc143) rfl rfl rfl rfl ⟨o', ?_⟩
    apply Exists.intro
    simp only [Tok.pd]
    conv => lhs; simp [fc143, evKC, evK, evGuard, put, Env.get, Env.keep, entry, Opd.ev, splice, cutAt, indexD, D.asInt?, D.asNat?, u8, binD, strBin, unD, boundsD, sliceD, iaddrD, sub, minmaxD, eqvL, PD.eqv, clsP, cls, clsR, isCl, isW, apartRW, offB, apartWW, clash, insOk, finish, evRes, evRes1, mapO, D.cells, PD.cells, D.refsL, D.refs, D.toksL, D.toks, mkAgg, pures, fillD, fillE, appendD, srcD, D.elems?, D.asPD, Int.toNat_natCast, srcH, srcBH, eqD, D.asPDL, isMapC, ld_succ, ld_zero, st_succ, st_zero, oI, oS, oN, oP, oB, oL, oT, oF, oE, ldr0, ldr1, ldr2, ldr3, ldr4, ldr5, ldr6, str1', str3', mi1, mi2, mi3, mi4, mget, getT, hw, s1, h2, h3, k1, k2]
  | ok x b1 =>
    have s1 := fun bx => s1.okT r1 bx []
    have hkx := pone_kids x
    have hb2 := quant_bd hp 15 t.p hb1 x b1 r1
    simp only [List.map_cons, List.map_nil, List.append_nil, pd_cells x, Nd.cells] at s1
    simp only [bind_ok]
    have s2 := expect_eq h b1 o [125] (by omega)
    cases r2 : expectP c b1 [125] with
    | bad e q b2 =>
      obtain ⟨o', s2⟩ := s2.badT r2
      have s2 := fun bx => s2 bx []
      simp only [List.map_cons, List.map_nil, List.append_nil] at s2
      change Ans 143 [t.pd] c a o (fun x : Nd => .p x.pd) (.bad e q b2)
      refine ans_frzBE h.toOk (fc := fc143) rfl rfl rfl rfl ⟨o', ?_⟩
      apply Exists.intro
      simp only [Tok.pd]
      conv => lhs; simp [fc143, evKC, evK, evGuard, put, Env.get, Env.keep, entry, Opd.ev, splice, cutAt, indexD, D.asInt?, D.asNat?, u8, binD, strBin, unD, boundsD, sliceD, iaddrD, sub, minmaxD, eqvL, PD.eqv, clsP, cls, clsR, isCl, isW, apartRW, offB, apartWW, clash, insOk, finish, evRes, evRes1, mapO, D.cells, PD.cells, D.refsL, D.refs, D.toksL, D.toks, mkAgg, pures, fillD, fillE, appendD, srcD, D.elems?, D.asPD, Int.toNat_natCast, srcH, srcBH, eqD, D.asPDL, isMapC, ld_succ, ld_zero, st_succ, st_zero, oI, oS, oN, oP, oB, oL, oT, oF, oE, ldr0, ldr1, ldr2, ldr3, ldr4, ldr5, ldr6, str1', str3', mi1, mi2, mi3, mi4, mget, getT, hw, s1, s2, h2, h3, k1, k2, hkx]
    | ok u b2 =>
      have s2 := fun bx => s2.okT r2 bx []
      simp only [List.map_cons, List.map_nil, List.append_nil] at s2
      change Ans 143 [t.pd] c a o (fun x : Nd => .p x.pd) (.ok x b2)
      refine ans_frzE h.toOk (fc := fc143) rfl rfl rfl rfl ?_
      apply Exists.intro
      simp only [Tok.pd, pd_cells x, Nd.cells]
      conv => lhs; simp [fc143, evKC, evK, evGuard, put, Env.get, Env.keep, entry, Opd.ev, splice, cutAt, indexD, D.asInt?, D.asNat?, u8, binD, strBin, unD, boundsD, sliceD, iaddrD, sub, minmaxD, eqvL, PD.eqv, clsP, cls, clsR, isCl, isW, apartRW, offB, apartWW, clash, insOk, finish, evRes, evRes1, mapO, D.cells, PD.cells, D.refsL, D.refs, D.toksL, D.toks, mkAgg, pures, fillD, fillE, appendD, srcD, D.elems?, D.asPD, Int.toNat_natCast, srcH, srcBH, eqD, D.asPDL, isMapC, ld_succ, ld_zero, st_succ, st_zero, oI, oS, oN, oP, oB, oL, oT, oF, oE, ldr0, ldr1, ldr2, ldr3, ldr4, ldr5, ldr6, str1', str3', mi1, mi2, mi3, mi4, mget, getT, hw, s1, s2, h2, h3, k1, k2, hkx]
theorem pr_paren {c : Rd} (h : c.Sz) {o : Nat} {prs : Nat → Nat → PR Nd} (hp : PrsOk c o prs) (t : Tok) (a : Nat) (ha : a ≤ c.ts.length) (hw : lookT wordT t.t = none) (h2 : (t.k == 2) = false) (h3 : (t.t == [45]) = false) (q1 : acceptB c a [110, 111, 110, 101] = false) (q2 : acceptB c a [123] = false) (q3 : acceptB c a [40] = true) :
    Ans 143 [t.pd] c a o (fun x : Nd => .p x.pd) ((prs 1 (a + 1)).bind fun n a => (expectP c a [41]).bind fun _ a => .ok n a) := by
  have hn := h.n
  have hb1 := accept_lt q3
  have k1 := fun bx => accept_eq h.toOk a o [110, 111, 110, 101] (by omega) bx []
  simp only [rH, List.append_nil, acceptN, q1, cond_false] at k1
  have k2 := fun bx => accept_eq h.toOk a o [123] (by omega) bx []
  simp only [rH, List.append_nil, acceptN, q2, cond_false] at k2
  have k3 := fun bx => accept_eq h.toOk a o [40] (by omega) bx []
  simp only [rH, List.append_nil, acceptN, q3, cond_true] at k3
  have s1 : Ans 80 [.int .i64 1] c (a + 1) o (fun x : Nd => .p x.pd) (prs 1 (a + 1)) := hp.ans 1 (a + 1) hb1 (by omega)
  cases r1 : prs 1 (a + 1) with
  | bad e q a1 =>
    obtain ⟨o', s1⟩ := s1.badT r1
    have s1 := fun bx => s1 bx []
    simp only [List.map_cons, List.map_nil, List.append_nil] at s1
    change Ans 143 [t.pd] c a o (fun x : Nd => .p x.pd) (.bad e q a1)
    refine ans_frzBE h.toOk (fc := fc143) rfl rfl rfl rfl ⟨o', ?_⟩
    apply Exists.intro
    simp only [Tok.pd]
    conv => lhs; simp [fc143, evKC, evK, evGuard, put, Env.get, Env.keep, entry, Opd.ev, splice, cutAt, indexD, D.asInt?, D.asNat?, u8, binD, strBin, unD, boundsD, sliceD, iaddrD, sub, minmaxD, eqvL, PD.eqv, clsP, cls, clsR, isCl, isW, apartRW, offB, apartWW, clash, insOk, finish, evRes, evRes1, mapO, D.cells, PD.cells, D.refsL, D.refs, D.toksL, D.toks, mkAgg, pures, fillD, fillE, appendD, srcD, D.elems?, D.asPD, Int.toNat_natCast, srcH, srcBH, eqD, D.asPDL, isMapC, ld_succ, ld_zero, st_succ, st_zero, oI, oS, oN, oP, oB, oL, oT, oF, oE, ldr0, ldr1, ldr2, ldr3, ldr4, ldr5, ldr6, str1', str3', mi1, mi2, mi3, mi4, mget, getT, hw, s1, h2, h3, k1, k2, k3]
  | ok x b1 =>
    have s1 := fun bx => s1.okT r1 bx []
    have hkx := pone_kids x
    have hb2 := hp.bd 1 (a + 1) hb1 x b1 r1
    simp only [List.map_cons, List.map_nil, List.append_nil, pd_cells x, Nd.cells] at s1
    simp only [bind_ok]
    have s2 := expect_eq h b1 o [41] (by omega)
    cases r2 : expectP c b1 [41] with
    | bad e q b2 =>
      obtain ⟨o', s2⟩ := s2.badT r2
      have s2 := fun bx => s2 bx []
      simp only [List.map_cons, List.map_nil, List.append_nil] at s2
      change Ans 143 [t.pd] c a o (fun x : Nd => .p x.pd) (.bad e q b2)
      refine ans_frzBE h.toOk (fc := fc143) rfl rfl rfl rfl ⟨o', ?_⟩
      apply Exists.intro
      simp only [Tok.pd]
      conv => lhs; simp [fc143, evKC, evK, evGuard, put, Env.get, Env.keep, entry, Opd.ev, splice, cutAt, indexD, D.asInt?, D.asNat?, u8, binD, strBin, unD, boundsD, sliceD, iaddrD, sub, minmaxD, eqvL, PD.eqv, clsP, cls, clsR, isCl, isW, apartRW, offB, apartWW, clash, insOk, finish, evRes, evRes1, mapO, D.cells, PD.cells, D.refsL, D.refs, D.toksL, D.toks, mkAgg, pures, fillD, fillE, appendD, srcD, D.elems?, D.asPD, Int.toNat_natCast, srcH, srcBH, eqD, D.asPDL, isMapC, ld_succ, ld_zero, st_succ, st_zero, oI, oS, oN, oP, oB, oL, oT, oF, oE, ldr0, ldr1, ldr2, ldr3, ldr4, ldr5, ldr6, str1', str3', mi1, mi2, mi3, mi4, mget, getT, hw, s1, s2, h2, h3, k1, k2, k3, hkx]
    | ok u b2 =>
      have s2 := fun bx => s2.okT r2 bx []
      simp only [List.map_cons, List.map_nil, List.append_nil] at s2
      change Ans 143 [t.pd] c a o (fun x : Nd => .p x.pd) (.ok x b2)
      refine ans_frzE h.toOk (fc := fc143) rfl rfl rfl rfl ?_
      apply Exists.intro
      simp only [Tok.pd, pd_cells x, Nd.cells]
      conv => lhs; simp [fc143, evKC, evK, evGuard, put, Env.get, Env.keep, entry, Opd.ev, splice, cutAt, indexD, D.asInt?, D.asNat?, u8, binD, strBin, unD, boundsD, sliceD, iaddrD, sub, minmaxD, eqvL, PD.eqv, clsP, cls, clsR, isCl, isW, apartRW, offB, apartWW, clash, insOk, finish, evRes, evRes1, mapO, D.cells, PD.cells, D.refsL, D.refs, D.toksL, D.toks, mkAgg, pures, fillD, fillE, appendD, srcD, D.elems?, D.asPD, Int.toNat_natCast, srcH, srcBH, eqD, D.asPDL, isMapC, ld_succ, ld_zero, st_succ, st_zero, oI, oS, oN, oP, oB, oL, oT, oF, oE, ldr0, ldr1, ldr2, ldr3, ldr4, ldr5, ldr6, str1', str3', mi1, mi2, mi3, mi4, mget, getT, hw, s1, s2, h2, h3, k1, k2, k3, hkx]
theorem pr_name {c : Rd} (h : c.Sz) {o : Nat} {prs : Nat → Nat → PR Nd} (hp : PrsOk c o prs) (t : Tok) (a : Nat) (ha : a ≤ c.ts.length) (hw : lookT wordT t.t = none) (h2 : (t.k == 2) = false) (h3 : (t.t == [45]) = false) (q1 : acceptB c a [110, 111, 110, 101] = false) (q2 : acceptB c a [123] = false) (q3 : acceptB c a [40] = false) :
    Ans 143 [t.pd] c a o (fun x : Nd => .p x.pd) ((nameP c a).bind fun _ a => if acceptB c a [91] then argsP c prs t (c.ts.length + 1) [] (a + 1) else .ok (leafN 1 t.t 0 t.p) a) := by
  have hn := h.n
  have k1 := fun bx => accept_eq h.toOk a o [110, 111, 110, 101] (by omega) bx []
  simp only [rH, List.append_nil, acceptN, q1, cond_false] at k1
  have k2 := fun bx => accept_eq h.toOk a o [123] (by omega) bx []
  simp only [rH, List.append_nil, acceptN, q2, cond_false] at k2
  have k3 := fun bx => accept_eq h.toOk a o [40] (by omega) bx []
  simp only [rH, List.append_nil, acceptN, q3, cond_false] at k3
  have s1 := rname_eq h a o (by omega) (tok_t h a)
  cases r1 : nameP c a with
  | bad e q a1 =>
    obtain ⟨o', s1⟩ := s1.badT r1
    have s1 := fun bx => s1 bx []
    simp only [List.map_nil, List.append_nil] at s1
    change Ans 143 [t.pd] c a o (fun x : Nd => .p x.pd) (.bad e q a1)
    refine ans_frzBE h.toOk (fc := fc143) rfl rfl rfl rfl ⟨o', ?_⟩
    apply Exists.intro
    simp only [Tok.pd]
    conv => lhs; simp [fc143, evKC, evK, evGuard, put, Env.get, Env.keep, entry, Opd.ev, splice, cutAt, indexD, D.asInt?, D.asNat?, u8, binD, strBin, unD, boundsD, sliceD, iaddrD, sub, minmaxD, eqvL, PD.eqv, clsP, cls, clsR, isCl, isW, apartRW, offB, apartWW, clash, insOk, finish, evRes, evRes1, mapO, D.cells, PD.cells, D.refsL, D.refs, D.toksL, D.toks, mkAgg, pures, fillD, fillE, appendD, srcD, D.elems?, D.asPD, Int.toNat_natCast, srcH, srcBH, eqD, D.asPDL, isMapC, ld_succ, ld_zero, st_succ, st_zero, oI, oS, oN, oP, oB, oL, oT, oF, oE, ldr0, ldr1, ldr2, ldr3, ldr4, ldr5, ldr6, str1', str3', mi1, mi2, mi3, mi4, mget, getT, hw, s1, h2, h3, k1, k2, k3]
  | ok u b1 =>
    have s1 := fun bx => s1.okT r1 bx []
    have hb1 := name_bd c a u b1 r1
    simp only [List.map_nil, List.append_nil, Tok.pd] at s1
    simp only [bind_ok]
    have k4 := fun bx => accept_eq h.toOk b1 o [91] (by omega) bx []
    cases q4 : acceptB c b1 [91] with
    | false =>
      simp only [rH, List.append_nil, acceptN, q4, cond_false] at k4
      simp only [Bool.false_eq_true, if_false]
      refine ans_frzE h.toOk (fc := fc143) rfl rfl rfl rfl ?_
      apply Exists.intro
      simp only [Tok.pd, leaf_cells]
      conv => lhs; simp [fc143, evKC, evK, evGuard, put, Env.get, Env.keep, entry, Opd.ev, splice, cutAt, indexD, D.asInt?, D.asNat?, u8, binD, strBin, unD, boundsD, sliceD, iaddrD, sub, minmaxD, eqvL, PD.eqv, clsP, cls, clsR, isCl, isW, apartRW, offB, apartWW, clash, insOk, finish, evRes, evRes1, mapO, D.cells, PD.cells, D.refsL, D.refs, D.toksL, D.toks, mkAgg, pures, fillD, fillE, appendD, srcD, D.elems?, D.asPD, Int.toNat_natCast, srcH, srcBH, eqD, D.asPDL, isMapC, ld_succ, ld_zero, st_succ, st_zero, oI, oS, oN, oP, oB, oL, oT, oF, oE, ldr0, ldr1, ldr2, ldr3, ldr4, ldr5, ldr6, str1', str3', mi1, mi2, mi3, mi4, mget, getT, hw, s1, h2, h3, k1, k2, k3, k4]
    | true =>
      simp only [rH, List.append_nil, acceptN, q4, cond_true] at k4
      simp only [if_true]
      have hb2 := accept_lt q4
      have s2 := call_eq h hp t (b1 + 1) hb2
      cases r2 : argsP c prs t (c.ts.length + 1) [] (b1 + 1) with
      | bad e q b2 =>
        obtain ⟨o', s2⟩ := s2.badT r2
        have s2 := fun bx => s2 bx []
        simp only [List.map_cons, List.map_nil, List.append_nil, Tok.pd] at s2
        refine ans_frzBE h.toOk (fc := fc143) rfl rfl rfl rfl ⟨o', ?_⟩
        apply Exists.intro
        simp only [Tok.pd]
        conv => lhs; simp [fc143, evKC, evK, evGuard, put, Env.get, Env.keep, entry, Opd.ev, splice, cutAt, indexD, D.asInt?, D.asNat?, u8, binD, strBin, unD, boundsD, sliceD, iaddrD, sub, minmaxD, eqvL, PD.eqv, clsP, cls, clsR, isCl, isW, apartRW, offB, apartWW, clash, insOk, finish, evRes, evRes1, mapO, D.cells, PD.cells, D.refsL, D.refs, D.toksL, D.toks, mkAgg, pures, fillD, fillE, appendD, srcD, D.elems?, D.asPD, Int.toNat_natCast, srcH, srcBH, eqD, D.asPDL, isMapC, ld_succ, ld_zero, st_succ, st_zero, oI, oS, oN, oP, oB, oL, oT, oF, oE, ldr0, ldr1, ldr2, ldr3, ldr4, ldr5, ldr6, str1', str3', mi1, mi2, mi3, mi4, mget, getT, hw, s1, s2, h2, h3, k1, k2, k3, k4]
      | ok x b2 =>
        have s2 := fun bx => s2.okT r2 bx []
        have hkx := pone_kids x
        simp only [List.map_cons, List.map_nil, List.append_nil, Tok.pd, pd_cells x, Nd.cells] at s2
        refine ans_frzE h.toOk (fc := fc143) rfl rfl rfl rfl ?_
        apply Exists.intro
        simp only [Tok.pd, pd_cells x, Nd.cells]
        conv => lhs; simp [fc143, evKC, evK, evGuard, put, Env.get, Env.keep, entry, Opd.ev, splice, cutAt, indexD, D.asInt?, D.asNat?, u8, binD, strBin, unD, boundsD, sliceD, iaddrD, sub, minmaxD, eqvL, PD.eqv, clsP, cls, clsR, isCl, isW, apartRW, offB, apartWW, clash, insOk, finish, evRes, evRes1, mapO, D.cells, PD.cells, D.refsL, D.refs, D.toksL, D.toks, mkAgg, pures, fillD, fillE, appendD, srcD, D.elems?, D.asPD, Int.toNat_natCast, srcH, srcBH, eqD, D.asPDL, isMapC, ld_succ, ld_zero, st_succ, st_zero, oI, oS, oN, oP, oB, oL, oT, oF, oE, ldr0, ldr1, ldr2, ldr3, ldr4, ldr5, ldr6, str1', str3', mi1, mi2, mi3, mi4, mget, getT, hw, s1, s2, h2, h3, k1, k2, k3, k4, hkx]
theorem acc_end {c : Rd} {a : Nat} (h0 : (c.tok a).k = 0) (s : List UInt8) : acceptB c a s = false := by simp [acceptB, h0]
theorem pr_end {c : Rd} (h : c.Sz) {o : Nat} (t : Tok) (a : Nat) (ha : a ≤ c.ts.length) (hw : lookT wordT t.t = none) (h0 : (c.tok a).k = 0) (h2 : (t.k == 2) = false) (h3 : (t.t == [45]) = false) :
    Ans 143 [t.pd] c a o (fun x : Nd => .p x.pd) (wrongP c a) := by
  have hn := h.n
  have q1 := acc_end h0 [110, 111, 110, 101]
  have q2 := acc_end h0 [123]
  have q3 := acc_end h0 [40]
  have k1 := fun bx => accept_eq h.toOk a o [110, 111, 110, 101] (by omega) bx []
  simp only [rH, List.append_nil, acceptN, q1, cond_false] at k1
  have k2 := fun bx => accept_eq h.toOk a o [123] (by omega) bx []
  simp only [rH, List.append_nil, acceptN, q2, cond_false] at k2
  have k3 := fun bx => accept_eq h.toOk a o [40] (by omega) bx []
  simp only [rH, List.append_nil, acceptN, q3, cond_false] at k3
  have s1 := rname_eq h a o (by omega) (tok_t h a)
  have r1 : nameP c a = wrongP c a := by simp [nameP, namedB, h0]
  unfold wrongP at r1 ⊢
  obtain ⟨o', s1⟩ := s1.badT r1
  have s1 := fun bx => s1 bx []
  simp only [List.map_nil, List.append_nil] at s1
  refine ans_frzBE h.toOk (fc := fc143) rfl rfl rfl rfl ⟨o', ?_⟩
  apply Exists.intro
  simp only [Tok.pd]
  conv => lhs; simp [fc143, evKC, evK, evGuard, put, Env.get, Env.keep, entry, Opd.ev, splice, cutAt, indexD, D.asInt?, D.asNat?, u8, binD, strBin, unD, boundsD, sliceD, iaddrD, sub, minmaxD, eqvL, PD.eqv, clsP, cls, clsR, isCl, isW, apartRW, offB, apartWW, clash, insOk, finish, evRes, evRes1, mapO, D.cells, PD.cells, D.refsL, D.refs, D.toksL, D.toks, mkAgg, pures, fillD, fillE, appendD, srcD, D.elems?, D.asPD, Int.toNat_natCast, srcH, srcBH, eqD, D.asPDL, isMapC, ld_succ, ld_zero, st_succ, st_zero, oI, oS, oN, oP, oB, oL, oT, oF, oE, ldr0, ldr1, ldr2, ldr3, ldr4, ldr5, ldr6, str1', str3', mi1, mi2, mi3, mi4, mget, getT, hw, s1, h2, h3, k1, k2, k3]
theorem primary_eq {c : Rd} (h : c.Sz) {o : Nat} {prs : Nat → Nat → PR Nd} (hp : PrsOk c o prs) (t : Tok) (a : Nat) (ha : a ≤ c.ts.length) :
    Ans 143 [t.pd] c a o (fun x : Nd => .p x.pd) (primaryP c prs t a) := by
  unfold primaryP
  cases hw : wordOp t.t with
  | some op => exact pr_word h o t a ha hw
  | none =>
    rw [← wordT_op] at hw
    dsimp only
    by_cases h2 : t.k = 2
    · rw [if_pos h2]; exact pr_num h hp t a ha hw h2
    rw [if_neg h2]
    have h2 : (t.k == 2) = false := by simp [h2]
    by_cases h3 : t.t = [45]
    · by_cases h4 : (c.tok (a + 1)).k = 2
      · rw [if_pos ⟨h3, h4⟩]; exact pr_neg h hp t a ha hw h2 h3 h4
      · rw [if_neg (fun q => h4 q.2), if_pos h3]; have h4 : ((c.tok (a + 1)).k == 2) = false := by simp [h4]
        exact pr_minus h hp t a ha hw h2 h3 h4
    rw [if_neg (fun q => h3 q.1), if_neg h3]
    have h3 : (t.t == [45]) = false := by simp [h3]
    cases q1 : acceptB c a [110, 111, 110, 101] with
    | true => rw [if_pos rfl]; exact pr_none h hp t a ha hw h2 h3 q1
    | false =>
      rw [if_neg (by simp)]
      cases q2 : acceptB c a [123] with
      | true => rw [if_pos rfl]; exact pr_compr h hp t a ha hw h2 h3 q1 q2
      | false =>
        rw [if_neg (by simp)]
        cases q3 : acceptB c a [40] with
        | true => rw [if_pos rfl]; exact pr_paren h hp t a ha hw h2 h3 q1 q2 q3
        | false => rw [if_neg (by simp)]; exact pr_name h hp t a ha hw h2 h3 q1 q2 q3

end Go.Proofs.YtalgjkpkkdljaaaGreatDoor
