/-
  Regions whose order Go leaves open, ended.
-/
import Derived.Test.YtphnflkjgoobmaaDoorFwQ
namespace Go.Vs

variable {P : Program} {G : Nat → Option (List PD)}

def lst (L : Array Bool) (i : Nat) : Bool := L.getD i false

theorem lst_set {L : Array Bool} {i : Nat} (hi : i < L.size) (j : Nat) : lst (L.setIfInBounds i true) j = if i = j then true else lst L j := by
  simp only [lst, Array.getD_eq_getD_getElem?, Array.getElem?_setIfInBounds]
  split
  · rename_i h; subst h; simp
  · rfl

theorem mem_ready {ops : Array Oper} {L : Array Bool} (hL : L.size = ops.size) {i : Nat} (h : i ∈ Region.ready .any ops L) : ∃ o, ops[i]? = some o ∧ i < ops.size ∧ lst L i = false ∧ ∀ p ∈ predsOf o, lst L p = true := by
  simp only [Region.ready, List.mem_filter, List.mem_range, Bool.and_eq_true, Bool.not_eq_true'] at h
  obtain ⟨hi, h1, h2⟩ := h
  have ho : ops[i]? = some ops[i] := Array.getElem?_eq_getElem hi
  rw [ho] at h2
  simp only [Option.map_some, Option.getD_some] at h2
  refine ⟨_, ho, hi, ?_, fun p hp => ?_⟩
  · have hiL : i < L.size := by omega
    simp only [lst, Array.getD_eq_getD_getElem?, Array.getElem?_eq_getElem hiL, Option.getD_some] at h1 ⊢
    exact h1
  · simp only [predsOf, List.mem_map, List.mem_filter, Array.mem_toList_iff] at hp
    obtain ⟨e, ⟨he, hb⟩, rfl⟩ := hp
    have := (Array.all_eq_true'.1 h2) e he
    simpa [hb, lst] using this

theorem ready_of {ops : Array Oper} {L : Array Bool} (hL : L.size = ops.size) {i : Nat} {o : Oper} (ho : ops[i]? = some o) (hl : lst L i = false) (hp : ∀ p ∈ predsOf o, lst L p = true) : i ∈ Region.ready .any ops L := by
  have hi : i < ops.size := (Array.getElem?_eq_some_iff.1 ho).1
  simp only [Region.ready, List.mem_filter, List.mem_range, Bool.and_eq_true, Bool.not_eq_true']
  refine ⟨hi, ?_, ?_⟩
  · have hiL : i < L.size := by omega
    simp only [lst, Array.getD_eq_getD_getElem?, Array.getElem?_eq_getElem hiL, Option.getD_some] at hl ⊢
    exact hl
  · rw [ho]
    simp only [Option.map_some, Option.getD_some]
    refine Array.all_eq_true'.2 fun e he => ?_
    by_cases hb : Region.binds .any e = true
    · have := hp e.on (List.mem_map.2 ⟨e, List.mem_filter.2 ⟨by simpa using he, hb⟩, rfl⟩)
      simpa [hb, lst] using this
    · simp [hb]

/-- How many are not listed. -/
def left (l : Nat → Bool) : Nat → Nat
  | 0 => 0
  | n + 1 => left l n + if l n then 0 else 1

theorem left_zero {l : Nat → Bool} : ∀ {n : Nat}, left l n = 0 → ∀ j, j < n → l j = true
  | n + 1, h, j, hj => by
    simp only [left] at h
    by_cases hjn : j = n
    · subst hjn; cases hl : l j <;> simp_all
    · exact left_zero (n := n) (by omega) j (by omega)

theorem left_set {l l' : Nat → Bool} {i : Nat} (hi : l i = false) (hs : ∀ j, l' j = if i = j then true else l j) : ∀ {n : Nat}, (i < n → left l' n + 1 = left l n) ∧ (n ≤ i → left l' n = left l n)
  | 0 => ⟨fun h => by omega, fun _ => rfl⟩
  | n + 1 => by
    obtain ⟨h1, h2⟩ := left_set hi hs (n := n)
    simp only [left, hs n]
    refine ⟨fun h => ?_, fun h => ?_⟩
    · by_cases hn : i = n
      · subst hn; rw [h2 (by omega)]; simp [hi]
      · rw [if_neg hn, ← h1 (by omega)]; omega
    · have hne : ¬ i = n := by omega
      rw [if_neg hne, h2 (by omega)]

theorem least_left {l : Nat → Bool} : ∀ (n : Nat), (∃ j, j < n ∧ l j = false) → ∃ j, j < n ∧ l j = false ∧ ∀ k, k < j → l k = true
  | 0, ⟨j, h, _⟩ => by omega
  | n + 1, ⟨j, h, hj⟩ => by
    by_cases q : ∃ j, j < n ∧ l j = false
    · obtain ⟨k, h1, h2, h3⟩ := least_left n q
      exact ⟨k, by omega, h2, h3⟩
    · refine ⟨j, h, hj, fun k hk => ?_⟩
      cases hl : l k with
      | true => rfl
      | false => exact absurd ⟨k, by omega, hl⟩ q

theorem draw_wp {c : CallR} (S : Sound P G c) {ops : Array Oper} {sl : List SO} {nt : Nat} (hlen : ops.size = sl.length) (hof : ∀ (i : Nat) o so, ops[i]? = some o → sl[i]? = some so → OpOf P ops nt o so)
    (hlt : ∀ (j : Nat) o' t, ops[j]? = some o' → o'.dst = some t → t < nt) {pairs : List (Nat × Nat)} (hok : drawOk pairs ops.toList sl = true) {env env' : Env} {H H' : Hp} {cs : List Nat} (ev : evDraw c G sl env H = some (env', H', cs))
    (hp : pairs.all (fun p => !clash (cs.getD p.1 0) (cs.getD p.2 0)) = true) {γ : Gh} {a : Act} {w : World} (I : Inv G γ H w) (En : EnvRep γ env a.tmps) (hn : a.tmps.size = nt) {Q : Exit → Act → World → Prop}
    (hQ : ∀ γ' a' w', γ.le γ' → Frame γ H w γ' H' w' → Inv G γ' H' w' → EnvRep γ' env' a'.tmps → a'.tmps.size = nt → a'.defers = a.defers → Q .normal a' w') :
    wpAny P .any ops Q ops.size (Array.replicate ops.size false) a w := by
  obtain ⟨E, Hs, d, rfl, rfl, rfl, rfl, T⟩ := evDraw_trace ev
  obtain ⟨R, hR⟩ := drawOk_iff hok
  have getO : ∀ i, i < ops.size → ∃ o b, ops[i]? = some o ∧ ops.toList[i]? = some o ∧ sl[i]? = some b := fun i hi =>
    ⟨ops[i], sl[i]'(by omega), Array.getElem?_eq_getElem hi, by simp [hi], List.getElem?_eq_getElem (by omega)⟩
  have hpair : ∀ (j i : Nat), (j, i) ∈ pairs → clash (cs.getD j 0) (cs.getD i 0) = false := fun j i h => by simpa using List.all_eq_true.1 hp (j, i) h
  generalize hcf : (fun j => cs.getD j 0) = cf at T
  have hcf' : ∀ j, cs.getD j 0 = cf j := fun j => by rw [← hcf]
  -- what is related
  have key : ∀ (fuel : Nat) (L : Array Bool) (γ1 : Gh) (a1 : Act) (w1 : World), L.size = ops.size → left (lst L) ops.size = fuel →
      (∀ i, i < ops.size → lst L i = true → ∀ j, j < i → R i j = true → lst L j = true) →
      γ.le γ1 → Frame γ (Hs 0) w γ1 (lastW (Hs 0) (fun j => cf j == 2) (fun j => Hs (j + 1)) (lst L) ops.size) w1 → Inv G γ1 (lastW (Hs 0) (fun j => cf j == 2) (fun j => Hs (j + 1)) (lst L) ops.size) w1 →
      (∀ t, RepD γ1 (a1.tmps.getD t undef) (lastW ((E 0).get t) (wrT sl t) d (lst L) ops.size)) → a1.tmps.size = nt → a1.defers = a.defers →
      wpAny P .any ops Q fuel L a1 w1 := by
    intro fuel
    induction fuel with
    | zero =>
      intro L γ1 a1 w1 hL hleft hcl hle hF hI hE hsz hdf
      have hall := left_zero hleft
      refine ⟨?_, ?_⟩
      · refine List.eq_nil_iff_forall_not_mem.2 fun i hi => ?_
        obtain ⟨o, _, h1, h2, _⟩ := mem_ready hL hi
        rw [hall i h1] at h2; cases h2
      · have e1 : ∀ t, lastW ((E 0).get t) (wrT sl t) d (lst L) ops.size = (E sl.length).get t := fun t => by
          rw [T.get t _ (Nat.le_refl _), ← hlen]
          exact lastW_congr _ fun j hj _ => hall j hj
        have e2 : lastW (Hs 0) (fun j => cf j == 2) (fun j => Hs (j + 1)) (lst L) ops.size = Hs sl.length := by
          rw [T.heap _ (Nat.le_refl _), ← hlen]
          exact lastW_congr _ fun j hj _ => hall j hj
        rw [e2] at hF hI
        exact hQ γ1 a1 w1 hle hF hI (fun t => by rw [← e1 t]; exact hE t) hsz hdf
    | succ fuel ih =>
      intro L γ1 a1 w1 hL hleft hcl hle hF hI hE hsz hdf
      refine ⟨fun hnil => ?_, fun i hi => ?_⟩
      · exfalso
        have hex : ∃ j, j < ops.size ∧ lst L j = false := by
          refine Classical.byContradiction fun hne => ?_
          have hz : ∀ n, n ≤ ops.size → left (lst L) n = 0 := by
            intro n
            induction n with
            | zero => intro _; rfl
            | succ n ihn =>
              intro hn
              have : lst L n = true := by
                cases hl : lst L n with
                | true => rfl
                | false => exact absurd ⟨n, by omega, hl⟩ hne
              simp only [left, this, if_true, ihn (by omega)]
          rw [hz _ (Nat.le_refl _)] at hleft
          omega
        obtain ⟨j, h1, h2, h3⟩ := least_left _ hex
        obtain ⟨o, b, ho, ho', hb⟩ := getO j h1
        have : j ∈ Region.ready .any ops L := ready_of hL ho h2 fun p hp => h3 p ((hR j o b ho' hb).1 p hp)
        rw [hnil] at this
        cases this
      · obtain ⟨o, ho, hilt, hil, hpr⟩ := mem_ready hL hi
        obtain ⟨o2, so, ho2, hol, hso⟩ := getO i hilt
        have : o2 = o := by rw [ho] at ho2; cases ho2; rfl
        subst this
        have hofi := hof i o2 so ho hso
        -- all that i must follow is listed
        have pre : ∀ j, j < i → R i j = true → lst L j = true := fun j hj hr => by
          obtain ⟨b, hb⟩ : ∃ b, sl[j]? = some b := ⟨_, List.getElem?_eq_getElem (by omega)⟩
          rcases (hR i o2 so hol hso).2 j b hj hb with ⟨_, p, hp, h1⟩ | h1
          · have hlp := hpr p hp
            rcases h1 with rfl | ⟨h1, h2⟩
            · exact hlp
            · exact hcl p (by have := (hR i o2 so hol hso).1 p hp; omega) hlp j h1 h2
          · rw [h1.1] at hr; cases hr
        -- what must follow i is not listed
        have post : ∀ j, i < j → j < ops.size → R j i = true → lst L j = false := fun j hj hjn hr => by
          cases hl : lst L j with
          | false => rfl
          | true => rw [hcl j hjn hl i hj hr] at hil; cases hil
        -- what is not related to i is apart from it
        have slots : ∀ t, (t ∈ so.uses ∨ so.dst = some t) → ∀ j, j < ops.size → wrT sl t j = true → j ≠ i → (lst L j = decide (j < i)) := fun t ht j hj hw hne => by
          obtain ⟨_, b, _, hjo, hb⟩ := getO j hj
          have hbd : b.dst = some t := by simpa [wrT, hb] using hw
          by_cases hji : j < i
          · rw [pre j hji ?_]; simp [hji]
            rcases (hR i o2 so hol hso).2 j b hji hb with h | h
            · exact h.1
            · exfalso
              have := h.2.1
              simp only [slotClash, hbd, Bool.or_eq_false_iff] at this
              rcases ht with ht | ht
              · simp [ht] at this
              · simp [ht] at this
          · rw [post j (by omega) hj ?_]; simp [hji]
            rcases (hR j _ b hjo hb).2 i so (by omega) hso with h | h
            · exact h.1
            · exfalso
              have := h.2.1
              simp only [slotClash, hbd, Bool.or_eq_false_iff] at this
              rcases ht with ht | ht
              · simp [ht] at this
              · simp [ht] at this
        have heaps : cf i ≠ 0 → ∀ j, j < ops.size → j ≠ i → (cf j = 2 ∨ (cf i = 2 ∧ cf j ≠ 0)) → lst L j = decide (j < i) := fun hi0 j hj hne h2 => by
          obtain ⟨_, b, _, hjo, hb⟩ := getO j hj
          have hnl : ∀ (x : SO) (n : Nat), sl[n]? = some x → cf n ≠ 0 → x.k.heapless = true → False := fun x n hx h0 hh => h0 (T.heapless hx hh)
          have hj0 : cf j ≠ 0 := by omega
          have hcl2 : clash (cf i) (cf j) = true ∧ clash (cf j) (cf i) = true := by
            rcases h2 with h2 | ⟨h2, h3⟩
            · simp [clash, h2, hi0]
            · simp [clash, h2, h3]
          by_cases hji : j < i
          · rw [pre j hji ?_]; simp [hji]
            rcases (hR i o2 so hol hso).2 j b hji hb with h | h
            · exact h.1
            · exfalso
              rcases h.2.2 with q | q | q
              · exact hnl b j hb hj0 q
              · exact hnl so i hso hi0 q
              · have := hpair j i q
                rw [hcf', hcf', hcl2.2] at this; cases this
          · rw [post j (by omega) hj ?_]; simp [hji]
            rcases (hR j _ b hjo hb).2 i so (by omega) hso with h | h
            · exact h.1
            · exfalso
              rcases h.2.2 with q | q | q
              · exact hnl so i hso hi0 q
              · exact hnl b j hb hj0 q
              · have := hpair i j q
                rw [hcf', hcf', hcl2.1] at this; cases this
        -- the slots that i reads hold what they held in the text's order
        have hget : ∀ t ∈ so.uses, lastW ((E 0).get t) (wrT sl t) d (lst L) ops.size = (E i).get t := fun t ht => by
          rw [T.get t i (by omega), ← lastW_below ops.size (by omega)]
          refine lastW_congr _ fun j hj hw => ?_
          by_cases hne : j = i
          · subst hne; simp [hil]
          · exact slots t (.inl ht) j hj hw hne
        have hheap : cf i ≠ 0 → lastW (Hs 0) (fun j => cf j == 2) (fun j => Hs (j + 1)) (lst L) ops.size = Hs i := fun h0 => by
          rw [T.heap i (by omega), ← lastW_below ops.size (by omega)]
          refine lastW_congr _ fun j hj hw => ?_
          by_cases hne : j = i
          · subst hne; simp [hil]
          · exact heaps h0 j hj hne (.inl (by simpa using hw))
        have hEi : EnvRep γ1 ((E i).keep so.uses) a1.tmps := fun t => by
          rw [Env.get_keep]
          split
          · rename_i ht; rw [← hget t ht]; exact hE t
          · exact .dead _
        have hgd : evGuard ((E i).keep so.uses) so.g = evGuard (E i) so.g := by
          unfold evGuard
          cases hg : so.g with
          | none => rfl
          | some tw =>
            obtain ⟨t, want⟩ := tw
            have : t ∈ so.uses := by simp [SO.uses, hg]
            simp only [Env.get_keep, this, if_true]
        have hevk : ∀ H2, evKC c G ((E i).keep so.uses) H2 so.k = evKC c G (E i) H2 so.k := fun H2 =>
          evKC_congr fun t ht => by rw [Env.get_keep, if_pos (by simp [SO.uses, ht])]
        -- behind i
        have hL2 : (L.setIfInBounds i true).size = ops.size := by simp [hL]
        have hset := lst_set (L := L) (i := i) (by omega)
        have hleft2 : left (lst (L.setIfInBounds i true)) ops.size = fuel := by
          have := (left_set hil hset (n := ops.size)).1 hilt
          omega
        have hcl2 : ∀ k, k < ops.size → lst (L.setIfInBounds i true) k = true → ∀ j, j < k → R k j = true → lst (L.setIfInBounds i true) j = true := fun k hk hlk j hj hr => by
          rw [hset j]
          split
          · rfl
          · rw [hset k] at hlk
            split at hlk
            · rename_i h; subst h; exact pre j hj hr
            · exact hcl k hk hlk j hj hr
        have hW2 : ∀ t, lastW ((E 0).get t) (wrT sl t) d (lst (L.setIfInBounds i true)) ops.size = if so.dst = some t then d i else lastW ((E 0).get t) (wrT sl t) d (lst L) ops.size := fun t => by
          split
          · rename_i ht
            refine lastW_at (by rw [hset]; simp) (by simp [wrT, hso, ht]) _ hilt fun j h1 h2 h3 => ?_
            rw [hset, if_neg (by omega), slots t (.inr ht) j h2 h3 (by omega)]
            simp; omega
          · rename_i ht
            refine lastW_congr _ fun j hj hw => ?_
            rw [hset, if_neg]
            intro h; subst h
            simp [wrT, hso] at hw
            exact ht hw
        have fin : ∀ γ2 w2 v, γ1.le γ2 → Frame γ1 (lastW (Hs 0) (fun j => cf j == 2) (fun j => Hs (j + 1)) (lst L) ops.size) w1 γ2 (lastW (Hs 0) (fun j => cf j == 2) (fun j => Hs (j + 1)) (lst (L.setIfInBounds i true)) ops.size) w2 →
            Inv G γ2 (lastW (Hs 0) (fun j => cf j == 2) (fun j => Hs (j + 1)) (lst (L.setIfInBounds i true)) ops.size) w2 → RepD γ2 v (d i) → wpAny P .any ops Q fuel (L.setIfInBounds i true) (a1.put o2.dst v) w2 := fun γ2 w2 v h1 h2 h3 h4 => by
          refine ih _ γ2 _ w2 hL2 hleft2 hcl2 (hle.trans h1) (hF.trans h2) h3 (fun t => ?_) ?_ ?_
          · rw [hW2 t, hofi.dst]
            cases hd : o2.dst with
            | none => simpa [Act.put] using (hE t).mono h1
            | some u =>
              have hu : u < a1.tmps.size := by rw [hsz]; exact hofi.lt u hd
              simp only [Act.put, Option.some.injEq]
              split
              · rename_i hut; subst hut
                simpa [Array.getD_eq_getD_getElem?, hu] using h4
              · rename_i hut
                have := (hE t).mono h1
                simpa [Array.getD_eq_getD_getElem?, Array.getElem?_setIfInBounds, hut] using this
          · cases o2.dst <;> simp [Act.put, hsz]
          · cases o2.dst <;> simp [Act.put, hdf]
        -- where i does not write, the heap stays
        have hsame : cf i ≠ 2 → lastW (Hs 0) (fun j => cf j == 2) (fun j => Hs (j + 1)) (lst (L.setIfInBounds i true)) ops.size = lastW (Hs 0) (fun j => cf j == 2) (fun j => Hs (j + 1)) (lst L) ops.size := fun h2 =>
          lastW_congr _ fun j hj hw => by
            rw [hset, if_neg]
            intro h; subst h
            exact h2 (by simpa using hw)
        simp only [wpOp, ho]
        rcases T.step i so hso with ⟨hg, hd, hH, hc0⟩ | ⟨hg, hd, _⟩
        · have hw := guard_ok hofi hEi hsz hlt (hgd.trans hg)
          rw [if_neg (by simp [hw])]
          have hs := hsame (by omega)
          refine fin γ1 w1 undef (.refl γ1) ?_ ?_ ?_
          · rw [hs]; exact .refl _ _ _
          · rw [hs]; exact hI
          · rw [hd]; exact RepD.undef
        · have hw := guard_ok hofi hEi hsz hlt (hgd.trans hg)
          rw [if_pos hw]
          refine .inl ?_
          by_cases h0 : cf i = 0
          · have hs := hsame (by omega)
            have hev := T.free hso h0 hg (lastW (Hs 0) (fun j => cf j == 2) (fun j => Hs (j + 1)) (lst L) ops.size)
            refine op_wp S hI hEi hofi.k ((hevk _).trans hev) (fun v γ2 w2 d2 hr h1 h2 h3 h4 => ?_) (fun v γ2 w2 d2 hr _ _ _ _ => by cases hr)
            cases hr
            refine fin γ2 w2 v h1 ?_ ?_ h4
            · rw [hs]; exact h2
            · rw [hs]; exact h3
          · have hb := hheap h0
            have hnext : Hs (i + 1) = lastW (Hs 0) (fun j => cf j == 2) (fun j => Hs (j + 1)) (lst (L.setIfInBounds i true)) ops.size := by
              by_cases h2 : cf i = 2
              · refine (lastW_at (d := fun j => Hs (j + 1)) (by rw [hset]; simp) (by simp [h2]) _ hilt fun j h1 h3 h4 => ?_).symm
                rw [hset, if_neg (by omega), heaps h0 j h3 (by omega) (.inl (by simpa using h4))]
                simp; omega
              · rw [hsame h2, hb, T.quiet hso h2]
            rw [hb] at hI fin
            refine op_wp S hI hEi hofi.k ((hevk _).trans hd) (fun v γ2 w2 d2 hr h1 h2 h3 h4 => ?_) (fun v γ2 w2 d2 hr _ _ _ _ => by cases hr)
            cases hr
            refine fin γ2 w2 v h1 ?_ ?_ h4
            · rw [← hnext]; exact h2
            · rw [← hnext]; exact h3
  refine key _ _ γ a w (by simp) ?_ (fun i hi hl => by simp [lst, Array.getD_eq_getD_getElem?, hi] at hl) (.refl γ) ?_ ?_ ?_ hn rfl
  · have : ∀ n, n ≤ ops.size → left (lst (Array.replicate ops.size false)) n = n := by
      intro n
      induction n with
      | zero => intro _; rfl
      | succ n ihn =>
        intro h
        have h1 : lst (Array.replicate ops.size false) n = false := by simp [lst, Array.getD_eq_getD_getElem?, Array.getElem?_replicate]; split <;> rfl
        simp only [left, h1, ihn (by omega)]
        rfl
    exact this _ (Nat.le_refl _)
  all_goals
    have hz : ∀ {α : Type} (g0 : α) (wr : Nat → Bool) (d : Nat → α) (n : Nat), lastW g0 wr d (lst (Array.replicate ops.size false)) n = g0 := by
      intro α g0 wr d n
      induction n with
      | zero => rfl
      | succ n ihn =>
        have h1 : lst (Array.replicate ops.size false) n = false := by simp [lst, Array.getD_eq_getD_getElem?, Array.getElem?_replicate]; split <;> rfl
        simp only [lastW, h1, Bool.false_eq_true, false_and, if_false, ihn]
    first | (rw [hz]; exact .refl _ _ _) | (rw [hz]; exact I) | (intro t; rw [hz]; exact En t)

end Go.Vs
