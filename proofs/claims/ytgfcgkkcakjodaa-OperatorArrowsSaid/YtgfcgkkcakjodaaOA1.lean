/-
  A part of the proof of OperatorArrows: slices.Clone of an empty slice gives an empty slice, and names of functions follow no order: facts on the program of the seat. No condition of its own.
-/
import Derived.Test.YtgfcgkkcakjodaaDQ
import Derived.Test.YtgfcgkkcakjodaaProg
set_option linter.unusedVariables false
set_option linter.unusedSimpArgs false
namespace Go.Proofs
open Go Go.DL

theorem T.hm : Try.prog.follows .mixedOrders = true := by kernel_rfl

/-- slices.Clone of an empty slice. -/
theorem T.clone21 (d : DVal) (σ : St) (hd : emptyD d = true) : DCalls Try.prog 21 [d] σ (isC (.ret (.full 0 [])) σ) := by
  have hu : Try.prog.underlying 39 = some (.slice 43) := by kernel_rfl
  have hel : elemT Try.prog 39 = some 43 := by kernel_rfl
  have hap : (appT Try.prog 39).isSome = true := by kernel_rfl
  suffices h : DCalls Try.prog 21 [d] σ fun r s => ∃ k, isC (.ret (.full k [])) σ r s by
    refine h.coe fun r s hr => ?_
    obtain ⟨k, rfl, rfl⟩ := hr
    exact ⟨_, _, rfl, ⟨rfl, rfl⟩, fun κ w v h => rep_nil h⟩
  have hbs2 : evalBuildSlice Try.prog 39 0 [] σ = some (.full 3 [], σ) := by kernel_rfl
  obtain ⟨q, hq⟩ := Option.isSome_iff_exists.1 hap
  refine DCalls_of Try.func21 rfl (by simp [Try.ntmps21]) ?_
  simp only [Try.ntmps21]
  refine W_seq_k fun K hK => W_region (by decide) ?_
  simp [go_sem]
  refine hK _ _ ?_; clear hK K
  refine W_seq_k fun K hK => W_seq_k fun K2 hK2 => ?_
  refine W_nilcmp rfl rfl rfl rfl rfl rfl (by decide) (by decide) hu (by simp [go_sem]) hd fun b => ?_
  refine hK2 _ _ ?_; clear hK2 K2
  refine W_if (t := b) (by simp [go_sem]) (fun hb => ?_) (fun hb => ?_)
  · refine W_seq_k fun K2 hK2 => W_region (by decide) ?_
    simp [go_sem]
    refine hK2 _ _ ?_; clear hK2 K2
    refine W_ret ?_
    simp [go_sem, isC]
  · refine W_skip ?_
    refine hK _ _ ?_; clear hK K
    refine W_seq_k fun K hK => W_region (by decide) ?_
    have hd' : (∃ j, d = .full j []) ∨ ∃ j, d = .f (.sl j []) := by
      unfold emptyD at hd
      split at hd
      · exact .inl ⟨_, rfl⟩
      · exact .inr ⟨_, rfl⟩
      · cases hd
    simp only [evalBuildSlice] at hbs2
    rcases hd' with ⟨j, rfl⟩ | ⟨j, rfl⟩
    all_goals
      simp [go_sem, hu, hel, hq, hbs2]
      refine hK _ _ ?_
      refine W_ret ?_
      simp [go_sem, isC]

/-- slices.Clone of an empty slice. -/
theorem T.clone33 (d : DVal) (σ : St) (hd : emptyD d = true) : DCalls Try.prog 33 [d] σ (isC (.ret (.full 0 [])) σ) := by
  have hu : Try.prog.underlying 24 = some (.slice 26) := by kernel_rfl
  have hel : elemT Try.prog 24 = some 26 := by kernel_rfl
  have hap : (appT Try.prog 24).isSome = true := by kernel_rfl
  suffices h : DCalls Try.prog 33 [d] σ fun r s => ∃ k, isC (.ret (.full k [])) σ r s by
    refine h.coe fun r s hr => ?_
    obtain ⟨k, rfl, rfl⟩ := hr
    exact ⟨_, _, rfl, ⟨rfl, rfl⟩, fun κ w v h => rep_nil h⟩
  have hbs2 : evalBuildSlice Try.prog 24 0 [] σ = some (.full 4 [], σ) := by kernel_rfl
  obtain ⟨q, hq⟩ := Option.isSome_iff_exists.1 hap
  refine DCalls_of Try.func33 rfl (by simp [Try.ntmps33]) ?_
  simp only [Try.ntmps33]
  refine W_seq_k fun K hK => W_region (by decide) ?_
  simp [go_sem]
  refine hK _ _ ?_; clear hK K
  refine W_seq_k fun K hK => W_seq_k fun K2 hK2 => ?_
  refine W_nilcmp rfl rfl rfl rfl rfl rfl (by decide) (by decide) hu (by simp [go_sem]) hd fun b => ?_
  refine hK2 _ _ ?_; clear hK2 K2
  refine W_if (t := b) (by simp [go_sem]) (fun hb => ?_) (fun hb => ?_)
  · refine W_seq_k fun K2 hK2 => W_region (by decide) ?_
    simp [go_sem]
    refine hK2 _ _ ?_; clear hK2 K2
    refine W_ret ?_
    simp [go_sem, isC]
  · refine W_skip ?_
    refine hK _ _ ?_; clear hK K
    refine W_seq_k fun K hK => W_region (by decide) ?_
    have hd' : (∃ j, d = .full j []) ∨ ∃ j, d = .f (.sl j []) := by
      unfold emptyD at hd
      split at hd
      · exact .inl ⟨_, rfl⟩
      · exact .inr ⟨_, rfl⟩
      · cases hd
    simp only [evalBuildSlice] at hbs2
    rcases hd' with ⟨j, rfl⟩ | ⟨j, rfl⟩
    all_goals
      simp [go_sem, hu, hel, hq, hbs2]
      refine hK _ _ ?_
      refine W_ret ?_
      simp [go_sem, isC]

/-- slices.Clone of an empty slice. -/
theorem T.clone49 (d : DVal) (σ : St) (hd : emptyD d = true) : DCalls Try.prog 49 [d] σ (isC (.ret (.full 0 [])) σ) := by
  have hu : Try.prog.underlying 22 = some (.slice 3) := by kernel_rfl
  have hel : elemT Try.prog 22 = some 3 := by kernel_rfl
  have hap : (appT Try.prog 22).isSome = true := by kernel_rfl
  suffices h : DCalls Try.prog 49 [d] σ fun r s => ∃ k, isC (.ret (.full k [])) σ r s by
    refine h.coe fun r s hr => ?_
    obtain ⟨k, rfl, rfl⟩ := hr
    exact ⟨_, _, rfl, ⟨rfl, rfl⟩, fun κ w v h => rep_nil h⟩
  have hbs2 : evalBuildSlice Try.prog 22 0 [] σ = some (.full 1 [], σ) := by kernel_rfl
  obtain ⟨q, hq⟩ := Option.isSome_iff_exists.1 hap
  refine DCalls_of Try.func49 rfl (by simp [Try.ntmps49]) ?_
  simp only [Try.ntmps49]
  refine W_seq_k fun K hK => W_region (by decide) ?_
  simp [go_sem]
  refine hK _ _ ?_; clear hK K
  refine W_seq_k fun K hK => W_seq_k fun K2 hK2 => ?_
  refine W_nilcmp rfl rfl rfl rfl rfl rfl (by decide) (by decide) hu (by simp [go_sem]) hd fun b => ?_
  refine hK2 _ _ ?_; clear hK2 K2
  refine W_if (t := b) (by simp [go_sem]) (fun hb => ?_) (fun hb => ?_)
  · refine W_seq_k fun K2 hK2 => W_region (by decide) ?_
    simp [go_sem]
    refine hK2 _ _ ?_; clear hK2 K2
    refine W_ret ?_
    simp [go_sem, isC]
  · refine W_skip ?_
    refine hK _ _ ?_; clear hK K
    refine W_seq_k fun K hK => W_region (by decide) ?_
    have hd' : (∃ j, d = .full j []) ∨ ∃ j, d = .f (.sl j []) := by
      unfold emptyD at hd
      split at hd
      · exact .inl ⟨_, rfl⟩
      · exact .inr ⟨_, rfl⟩
      · cases hd
    simp only [evalBuildSlice] at hbs2
    rcases hd' with ⟨j, rfl⟩ | ⟨j, rfl⟩
    all_goals
      simp [go_sem, hu, hel, hq, hbs2]
      refine hK _ _ ?_
      refine W_ret ?_
      simp [go_sem, isC]

/-- What is proved beside. -/
def T.ext : CallE := fun f ds σ => bif Nat.beq f 21 || Nat.beq f 33 || Nat.beq f 49 then (match ds with
  | [d] => bif emptyD d then some (.ret (.full 0 []), σ) else none
  | _ => none) else none
theorem T.ext_ok : CallOk Try.prog T.ext := by
  intro f ds σ r s h
  unfold T.ext at h
  cases hf : (Nat.beq f 21 || Nat.beq f 33 || Nat.beq f 49) with
  | false => simp [hf] at h
  | true =>
    simp only [hf, cond_true] at h
    split at h
    · rename_i d
      cases he : emptyD d with
      | false => simp [he] at h
      | true =>
        simp only [he, cond_true, Option.some.injEq, Prod.mk.injEq] at h
        obtain ⟨rfl, rfl⟩ := h
        simp only [Bool.or_eq_true] at hf
        rcases hf with (hf | hf) | hf <;> have := nb hf <;> subst this
        · exact T.clone21 d _ he
        · exact T.clone33 d _ he
        · exact T.clone49 d _ he
    · cases h
end Go.Proofs
