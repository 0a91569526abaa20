/-
  A part of the proof of OperatorArrows: resolver.resolve of one name. No condition of its own.
-/
import Derived.Test.YtgfcgkkcakjodaaOB1
set_option linter.unusedVariables false
set_option linter.unusedSimpArgs false
namespace Go.Proofs
open Go Go.DL

set_option maxRecDepth 8000 in
set_option maxHeartbeats 16000000 in
/-- A single name. -/
theorem T.resolve1 {σ : St} {r m : Nat} {b : Int} (h : T.Rv σ r m b) {s : ByteArray} (hs : T.Nm s) : DCalls Try.prog 19 [.ptr r 0, .f (.sl 5 [T.op s])] σ (isC (.ret (.tup [.f (AT.leaf s).f, .f (T.B true)])) σ) := by
  have hl : ∀ l a, DCalls Try.prog 35 [.ptr r 0, .f (.sl 5 [T.op s])] ⟨σ.objs ++ l, a⟩ (isC (.ret (.tup [.f (.sl 0 []), .f (T.opv 0 0), .f (T.B false)])) ⟨σ.objs ++ l, a⟩) := fun l a => by
    have := T.lowest (h.app l a) [s] (by simp)
    simpa [T.low, T.lowStep, T.arrow_name hs, T.atF] using this
  have hc := fun σ => T.clone s σ
  simp only [AT.f, T.op, T.opv] at hl hc ⊢
  refine DCalls.pure1 rfl ?_
  refine DCalls_args_of Try.func19 rfl (by simp [Try.ntmps19]) ?_
  simp only [Try.ntmps19]
  repeat' first
    | refine W_seq_c fun K hK => ?_
    | (refine W_region (by decide) ?_; simp [go_sem])
    | refine K_use (by assumption) ?_
    | (refine W_ret ?_; simp [go_sem])
    | (refine W_skip ?_; simp [go_sem])
    | (refine W_exit ?_; simp [go_sem])
    | refine W_block ?_
    | refine W_of_WL ?_
    | refine WL_of_k fun K hK => ?_
    | (refine W_cond (by simp [go_sem]; rfl) ?_; simp only [cond_true, cond_false])
    | (refine DCalls.mono (by first | exact hl _ _ | exact hc _) ?_; rintro _ _ ⟨rfl, rfl⟩; simp [go_sem])
    | (refine W_draw T.hm ⟨[0, 0, 2, 6, 15, 31], [3, 4, 5], [([0, 1, 2], []), ([], [0]), ([], []), ([], [])]⟩ (by decide +kernel) ?_; simp [go_sem])
    | (refine W_draw T.hm ⟨[0, 0, 0, 4, 12, 30, 62, 0, 128, 0, 512, 1536, 3584, 8191, 16383, 16383, 65535, 131071], [13, 16, 17], [([0, 1, 2, 3, 4, 5, 6, 7, 8, 9, 10, 11, 12], []), ([14, 15], []), ([], []), ([], [])]⟩ (by decide +kernel) ?_; simp [go_sem])
    | (refine W_draw T.hm ⟨[0, 0, 0, 6, 14, 0, 0, 64, 192, 480, 0, 0, 2048, 6144, 15360, 32767, 65535, 65535, 262143, 524287], [15, 18, 19], [([0, 1, 2, 3, 4, 5, 6, 7, 8, 9, 10, 11, 12, 13, 14], []), ([16, 17], []), ([], []), ([], [])]⟩ (by decide +kernel) ?_; simp [go_sem])

  exact ⟨_, rfl, Pre.mk _ [] rfl (List.append_nil _).symm⟩
end Go.Proofs
