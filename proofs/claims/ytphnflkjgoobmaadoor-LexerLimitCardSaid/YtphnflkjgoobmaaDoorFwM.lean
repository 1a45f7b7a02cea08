/-
  Every operation of the evaluator but a call does what the model's does.
-/
import Derived.Test.YtphnflkjgoobmaaDoorFwL
namespace Go.Vs

variable {P : Program} {G : Nat → Option (List PD)} {γ : Gh} {H : Hp} {w : World} {env : Env} {a : Act} {o : Oper}

theorem op_done (I : Inv G γ H w) (E : EnvRep γ env a.tmps) {k : SK} (hk : kOf P o.op = some k) {d : D} {H' : Hp} (he : evK G env H k = some (d, H')) : Done P G γ H w a o d H' := by
  cases ho : o.op with
  | move x =>
    rw [ho] at hk
    obtain ⟨y, hy, rfl⟩ := Option.map_eq_some_iff.1 hk
    simp only [evK] at he
    cases he
    exact done_move I E (.inl ho) hy
  | assign x =>
    rw [ho] at hk
    obtain ⟨y, hy, rfl⟩ := Option.map_eq_some_iff.1 hk
    simp only [evK] at he
    cases he
    exact done_move I E (.inr ho) hy
  | pick c x y =>
    rw [ho] at hk
    simp only [kOf] at hk
    split at hk
    · rename_i c' x' y' h1 h2 h3
      cases hk
      simp only [evK] at he
      split at he
      · rename_i t ht
        cases he
        exact done_pick I E ho h1 h2 h3 ht
      · cases he
    · cases hk
  | alloc e =>
    rw [ho] at hk
    obtain ⟨z, hz, rfl⟩ := Option.map_eq_some_iff.1 hk
    exact done_alloc I ho hz he
  | box e x =>
    rw [ho] at hk
    obtain ⟨y, hy, rfl⟩ := Option.map_eq_some_iff.1 hk
    exact done_box I E ho hy he
  | build t parts =>
    rw [ho] at hk
    simp only [kOf] at hk
    split at hk
    · rename_i fs zs h1 h2
      split at hk
      · rename_i pl hpl
        obtain ⟨qs, hq, rfl⟩ := Option.map_eq_some_iff.1 hk
        exact done_build_struct I E ho h1 h2 hpl hq he
      · cases hk
    · rename_i n e zs h1 h2
      split at hk
      · rename_i s hs
        obtain ⟨qs, hq, rfl⟩ := Option.map_eq_some_iff.1 hk
        exact done_build_array I E ho h1 h2 hs hq he
      · cases hk
    · cases hk
  | buildSlice t len parts =>
    rw [ho] at hk
    simp only [kOf] at hk
    split at hk
    · rename_i e h1
      split at hk
      · rename_i n z ps h2 h3 h4
        split at hk
        · rename_i hlim
          cases hk
          exact done_bslice I E ho h1 h2 h3 h4 hlim he
        · cases hk
      · cases hk
    · cases hk
  | load t x =>
    rw [ho] at hk
    simp only [kOf] at hk
    split at hk
    · rename_i n y h1 h2
      cases hk
      exact done_load I E ho h1 h2 he
    · cases hk
  | store t x y =>
    rw [ho] at hk
    simp only [kOf] at hk
    split at hk
    · rename_i n x' y' h1 h2 h3
      cases hk
      exact done_store I E ho h1 h2 h3 he
    · cases hk
  | nilCheck x =>
    rw [ho] at hk
    obtain ⟨y, hy, rfl⟩ := Option.map_eq_some_iff.1 hk
    exact done_nilCheck I E ho hy he
  | binOp op t x y yt =>
    rw [ho] at hk
    simp only [kOf] at hk
    split at hk
    · rename_i h1 h2 _
      cases hk
      exact done_bin I E ho h1 h2 he
    · rename_i h1 h2 _
      cases hk
      exact done_bin I E ho h1 h2 he
    · rename_i h1 h2 h3
      split at hk
      · rename_i hop
        cases hk
        exact done_eqk I E ho hop h1 h2 (.inl ⟨rfl, h3⟩) he
      · cases hk
    · rename_i h1 h2 h3
      split at hk
      · rename_i hop
        cases hk
        exact done_eqk I E ho hop h1 h2 (.inr (.inl ⟨rfl, _, h3⟩)) he
      · cases hk
    · rename_i h1 h2 h3
      split at hk
      · rename_i hop
        cases hk
        exact done_eqk I E ho hop h1 h2 (.inr (.inr (.inl ⟨rfl, _, h3⟩))) he
      · cases hk
    · rename_i h1 h2 h3
      split at hk
      · rename_i hop
        cases hk
        exact done_eqk I E ho hop h1 h2 (.inr (.inr (.inr ⟨rfl, _, _, _, h3⟩))) he
      · cases hk
    · rename_i h1 h2 h3
      split at hk
      · rename_i hop
        obtain ⟨ts, hts, rfl⟩ := Option.map_eq_some_iff.1 hk
        exact done_eqs I E ho hop.1 h1 h2 h3 hop.2.1 hop.2.2 hts he
      · cases hk
    · cases hk
  | unOp op t x =>
    rw [ho] at hk
    obtain ⟨y, hy, rfl⟩ := Option.map_eq_some_iff.1 hk
    exact done_un I E ho hy he
  | convert s t x =>
    rw [ho] at hk
    simp only [kOf] at hk
    split at hk
    · rename_i h1 h2 h3
      cases hk
      exact done_conv I E ho h1 h2 h3 he
    · rename_i h1 h2 h3
      cases hk
      exact done_strid I E ho h1 h2 h3 he
    · rename_i h1 h2 h3
      split at hk
      · rename_i h4
        cases hk
        exact done_toBytes I E ho h1 h2 h4 h3 he
      · cases hk
    · rename_i h1 h2 h3
      split at hk
      · rename_i h4
        cases hk
        exact done_toStr I E ho h1 h4 h2 h3 he
      · cases hk
    · cases hk
  | makeFunc fn first cap =>
    rw [ho] at hk
    cases fn with
    | func f =>
      simp only [kOf] at hk
      split at hk
      · rename_i h1 h2
        cases hk
        simp only [evK] at he
        cases he
        exact done_mkfn I E ho h1 h2
      · cases hk
    | _ => cases hk
  | slice t x lo hi mx =>
    rw [ho] at hk
    cases mx with
    | some m => simp only [kOf] at hk; cases hk
    | none =>
      simp only [kOf] at hk
      split at hk
      · rename_i h1 h2 h3 h4
        cases hk
        exact done_slice_str I E ho h1 h2 h3 h4 he
      · rename_i h1 h2 h3 h4
        split at hk
        · rename_i h5
          cases hk
          exact done_slice_sl I E ho h1 h5 h2 h3 h4 he
        · cases hk
      · cases hk
  | fieldAddr t x f =>
    rw [ho] at hk
    simp only [kOf] at hk
    split at hk
    · rename_i h1 h2
      split at hk
      · rename_i h3
        split at hk
        · rename_i h4
          cases hk
          exact done_faddr I E ho h2 h1 h3 h4 he
        · cases hk
      · cases hk
    · cases hk
  | field t x f =>
    rw [ho] at hk
    simp only [kOf] at hk
    split at hk
    · rename_i h1 h2
      split at hk
      · rename_i h3
        obtain ⟨n, hn, rfl⟩ := Option.map_eq_some_iff.1 hk
        exact done_field I E ho h2 h1 h3 hn he
      · cases hk
    · cases hk
  | indexAddr t x i =>
    rw [ho] at hk
    simp only [kOf] at hk
    split at hk
    · rename_i h1 h2 h3
      obtain ⟨n, hn, rfl⟩ := Option.map_eq_some_iff.1 hk
      exact done_iaddr_array I E ho h1 hn h2 h3 he
    · rename_i h1 h2 h3
      obtain ⟨n, hn, rfl⟩ := Option.map_eq_some_iff.1 hk
      exact done_iaddr_slice I E ho h1 hn h2 h3 he
    · cases hk
  | index t x i =>
    rw [ho] at hk
    simp only [kOf] at hk
    split at hk
    · rename_i h1 h2 h3
      split at hk
      · rename_i h4 h5
        cases hk
        exact done_index_arr I E ho h1 h4 h5 h2 h3 he
      · cases hk
    · rename_i h1 h2 h3
      cases hk
      exact done_index_str I E ho h1 h2 h3 he
    · cases hk
  | extract x i =>
    rw [ho] at hk
    obtain ⟨y, hy, rfl⟩ := Option.map_eq_some_iff.1 hk
    exact done_extract I E ho hy he
  | makeInterface t x =>
    rw [ho] at hk
    simp only [kOf] at hk
    split at hk
    · cases hk
    · rename_i hni h1 h2
      cases hk
      exact done_iface I ho (by rw [h1]; rfl) (fun ms h => by rw [h1] at h; cases h; exact hni _ rfl) he (fun z hz => seal_rep (opdOf_rep E h2) hz)
    · cases hk
  | call c =>
    rw [ho] at hk
    simp only [kOf] at hk
    obtain ⟨callee, args, ats⟩ := c
    cases callee with
    | value f =>
      simp only [callOf] at hk
      split at hk
      · cases hk; simp only [evK] at he; cases he
      · cases hk
    | invoke r m => simp only [callOf] at hk; cases hk
    | builtin b =>
      simp only [callOf] at hk
      split at hk
      · rename_i x t e1 e2
        have hargs : args = #[x] := by simpa using congrArg List.toArray e1
        have hats : ats = #[t] := by simpa using congrArg List.toArray e2
        subst hargs; subst hats
        split at hk
        · rename_i h1 h2
          cases hk
          exact done_len I E ho (.inl ⟨rfl, h1⟩) h2 he
        · rename_i h1 h2
          cases hk
          exact done_len I E ho (.inr ⟨rfl, _, h1⟩) h2 he
        · cases hk
      · rename_i s x t u e1 e2
        have hargs : args = #[s, x] := by simpa using congrArg List.toArray e1
        have hats : ats = #[t, u] := by simpa using congrArg List.toArray e2
        subst hargs; subst hats
        split at hk
        · rename_i e du s' x' h1 h2 h3 h4
          split at hk
          · rename_i i hi
            split at hk
            · rename_i z hz
              split at hk
              · rename_i hc
                cases hk
                simp only [appOk, Bool.and_eq_true, decide_eq_true_eq, beq_iff_eq] at hc
                obtain ⟨⟨c1, c2⟩, c3⟩ := hc
                refine done_append I E ho h1 h2 ?_ hi hz c2 c3 h3 h4 he
                cases du <;> first | (simp at c1; done) | exact .inl ⟨_, rfl⟩ | exact .inr rfl
              · cases hk
            · cases hk
          · cases hk
        · cases hk
      · rename_i x y e1
        have hargs : args = #[x, y] := by simpa using congrArg List.toArray e1
        subst hargs
        split at hk
        · rename_i h1 h2
          cases hk
          exact done_minmax I E (mx := true) (ts := ats) ho h1 h2 he
        · cases hk
      · rename_i x y e1
        have hargs : args = #[x, y] := by simpa using congrArg List.toArray e1
        subst hargs
        split at hk
        · rename_i h1 h2
          cases hk
          exact done_minmax I E (mx := false) (ts := ats) ho h1 h2 he
        · cases hk
      · cases hk
  | _ => rw [ho] at hk; cases hk

end Go.Vs
