/-
  A part of the proof of OperatorArrows: lfcheckref02.Same answers true at two equal trees of arrows. No condition of its own.
-/
import Derived.Test.YtgfcgkkcakjodaaOA3
set_option linter.unusedVariables false
set_option linter.unusedSimpArgs false
namespace Go.Proofs
open Go Go.DL

set_option maxHeartbeats 8000000 in
theorem T.same (a : AT) (t : Bool) (σ : St) : DCalls Try.prog 8 [.f a.f, .f a.f, .f (T.B t)] σ (isC (.ret (.f (T.B true))) σ) := by
  induction a generalizing σ with
  | leaf s =>
    cases t
    all_goals
      refine DCalls.pure1 rfl ?_
      refine DCalls_args_of Try.func8 rfl (by simp [Try.ntmps8]) ?_
      simp only [Try.ntmps8]
      repeat' first
        | refine W_seq_c fun K hK => ?_
        | (refine W_region (by decide) ?_; simp [go_sem, AT.f])
        | refine K_use (by assumption) ?_
        | (refine W_ret ?_; simp [go_sem, AT.f])
        | (refine W_skip ?_; simp [go_sem, AT.f])
        | (refine W_exit ?_; simp [go_sem, AT.f])
        | refine W_block ?_
        | refine W_of_WL ?_
        | refine WL_of_k fun K hK => ?_
        | (refine W_cond (by simp [go_sem, AT.f]; rfl) ?_; simp only [cond_true, cond_false])
      exact ⟨_, rfl, Pre.mk _ [] rfl (List.append_nil _).symm⟩
  | node a b iha ihb =>
    obtain ⟨x1, x2, x3, x4, ha⟩ := a.f_agg
    obtain ⟨y1, y2, y3, y4, hb'⟩ := b.f_agg
    simp only [AT.f]
    rw [ha] at iha ⊢
    rw [hb'] at ihb ⊢
    cases t
    all_goals
      refine DCalls.pure1 rfl ?_
      refine DCalls_args_of Try.func8 rfl (by simp [Try.ntmps8]) ?_
      simp only [Try.ntmps8]
      repeat' first
        | refine W_seq_c fun K hK => ?_
        | (refine W_region (by decide) ?_; simp [go_sem])
        | refine K_use (by assumption) ?_
        | (refine W_ret ?_; simp [go_sem])
        | (refine W_skip ?_; simp [go_sem])
        | (refine W_exit ?_; simp [go_sem])
        | refine W_block ?_
        | refine W_of_WL ?_
        | refine WL_of_k fun K hK => ?_
        | (refine W_cond (by simp [go_sem]; rfl) ?_; simp only [cond_true, cond_false])
        | (refine DCalls.mono (by first | exact iha _ | exact ihb _) ?_; rintro _ _ ⟨rfl, rfl⟩; simp [go_sem])
        | (refine W_draw T.hm ⟨[0, 1, 0, 7, 15, 0, 32, 0, 224, 480, 0, 2047, 4095], [11], [([0, 1, 2, 3, 4, 5, 6, 7, 8, 9, 10], []), ([12], [])]⟩ (by decide +kernel) ?_; simp [go_sem])
      exact ⟨_, rfl, Pre.mk _ [] rfl (List.append_nil _).symm⟩
end Go.Proofs
