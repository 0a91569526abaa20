/-
  A part of the proof of OperatorArrows: a leaf is cloned as it is, and no operand of a chain is refused by the first test of Resolve. No condition of its own.
-/
import Derived.Test.YtgfcgkkcakjodaaOA5
set_option linter.unusedVariables false
set_option linter.unusedSimpArgs false
namespace Go.Proofs
open Go Go.DL

set_option maxHeartbeats 8000000 in
theorem T.clone (s : ByteArray) (σ : St) : DCalls Try.prog 18 [.f (AT.leaf s).f] σ (isC (.ret (.f (AT.leaf s).f)) σ) := by
  refine DCalls.pure1 rfl ?_
  refine DCalls_args_of Try.func18 rfl (by simp [Try.ntmps18]) ?_
  simp only [Try.ntmps18]
  repeat' first
    | refine W_seq_c fun K hK => ?_
    | (refine W_region (by decide) ?_; simp [go_sem, AT.f])
    | refine K_use (by assumption) ?_
    | (refine W_ret ?_; simp [go_sem, AT.f])
    | (refine W_skip ?_; simp [go_sem, AT.f])
    | (refine W_exit ?_; simp [go_sem, AT.f])
    | refine W_block ?_
    | refine W_of_WL ?_
    | refine WL_of_k fun K hK => ?_
    | (refine W_cond (by simp [go_sem, AT.f]; rfl) ?_; simp only [cond_true, cond_false])
    | (refine DCalls.mono (by first | exact T.clone33 _ _ rfl) ?_; rintro _ _ ⟨rfl, rfl⟩; simp [go_sem, AT.f])
  exact ⟨_, rfl, Pre.mk _ [] rfl (List.append_nil _).symm⟩

theorem T.arrow_name {s : ByteArray} (h : T.Nm s) : T.isArrow s = false := by
  rcases h with rfl | rfl | rfl | rfl <;> decide

set_option maxHeartbeats 8000000 in
theorem T.resolve2 {s : ByteArray} (h : T.isArrow s = true ∨ T.Nm s) {w : Int} (hw : w ≠ 0) {σ : St} {o : Nat} (ho : σ.objs[o]? = some (.cells [.f (T.I w)])) : DCalls Try.prog 15 [.f (T.op s), .ptr o 0] σ (isC (.ret (.f (T.B false))) σ) := by
  obtain ⟨hlt, hge⟩ := T.ge ho
  have ha := T.arrow s
  have hwf : T.Nm s → ∀ σ, DCalls Try.prog 17 [.f (AT.leaf s).f] σ (isC (.ret (.f (T.I 0))) σ) := fun h => T.wellFormed (.leaf s) h (by simp [AT.size]) (by simp [AT.depth])
  simp only [T.op, AT.f] at ha hwf ⊢
  have hw' : ¬ (0 = w) := fun e => hw e.symm
  refine DCalls.pure1 rfl ?_
  refine DCalls_args_of Try.func15 rfl (by simp [Try.ntmps15]) ?_
  simp only [Try.ntmps15]
  rcases h with h | h
  · rw [h] at ha
    repeat' first
      | refine W_seq_c fun K hK => ?_
      | (refine W_region (by decide) ?_; simp [go_sem, hlt, hge, hw'])
      | refine K_use (by assumption) ?_
      | (refine W_ret ?_; simp [go_sem, hlt, hge, hw'])
      | (refine W_skip ?_; simp [go_sem, hlt, hge, hw'])
      | (refine W_exit ?_; simp [go_sem, hlt, hge, hw'])
      | refine W_block ?_
      | refine W_of_WL ?_
      | refine WL_of_k fun K hK => ?_
      | (refine W_cond (by simp [go_sem, hlt, hge, hw']; rfl) ?_; simp only [cond_true, cond_false])
      | (refine DCalls.mono (by first | exact ha _) ?_; rintro _ _ ⟨rfl, rfl⟩; simp [go_sem, hlt, hge, hw'])
      | (refine W_draw T.hm ⟨[0, 1, 3, 7, 15, 31, 63, 15, 255, 511, 1023], [1, 6, 10], [([0], []), ([2, 3, 4, 5, 7], []), ([8, 9], [7]), ([], [])]⟩ (by decide +kernel) ?_; simp [go_sem, hlt, hge, hw'])
    exact ⟨_, rfl, Pre.mk _ [] rfl (List.append_nil _).symm⟩
  · rw [T.arrow_name h] at ha
    have hwf := hwf h
    repeat' first
      | refine W_seq_c fun K hK => ?_
      | (refine W_region (by decide) ?_; simp [go_sem, hlt, hge, hw'])
      | refine K_use (by assumption) ?_
      | (refine W_ret ?_; simp [go_sem, hlt, hge, hw'])
      | (refine W_skip ?_; simp [go_sem, hlt, hge, hw'])
      | (refine W_exit ?_; simp [go_sem, hlt, hge, hw'])
      | refine W_block ?_
      | refine W_of_WL ?_
      | refine WL_of_k fun K hK => ?_
      | (refine W_cond (by simp [go_sem, hlt, hge, hw']; rfl) ?_; simp only [cond_true, cond_false])
      | (refine DCalls.mono (by first | exact ha _ | exact hwf _) ?_; rintro _ _ ⟨rfl, rfl⟩; simp [go_sem, hlt, hge, hw'])
      | (refine W_draw T.hm ⟨[0, 1, 3, 7, 15, 31, 63, 15, 255, 511, 1023], [1, 6, 10], [([0], []), ([2, 3, 4, 5, 7], []), ([8, 9], [7]), ([], [])]⟩ (by decide +kernel) ?_; simp [go_sem, hlt, hge, hw'])
    exact ⟨_, rfl, Pre.mk _ [] rfl (List.append_nil _).symm⟩
end Go.Proofs
