/-
  A part of the proof of OperatorArrows: what name, arrow, raw.Size and raw.Depth answer at such trees. No condition of its own.
-/
import Derived.Test.YtgfcgkkcakjodaaOA3
set_option linter.unusedVariables false
set_option linter.unusedSimpArgs false
namespace Go.Proofs
open Go Go.DL

theorem T.name (s : ByteArray) (σ : St) : DCalls Try.prog 4 [.f (T.S s)] σ (isC (.ret (.f (T.op s))) σ) := by
  refine DCalls.pure1 rfl ?_
  refine DCalls_args_of Try.func4 rfl (by simp [Try.ntmps4]) ?_
  simp only [Try.ntmps4]
  repeat' first
    | refine W_seq_c fun K hK => ?_
    | (refine W_region (by decide) ?_; simp [go_sem])
    | refine K_use (by assumption) ?_
    | (refine W_ret ?_; simp [go_sem])
    | (refine W_skip ?_; simp [go_sem])
    | (refine W_exit ?_; simp [go_sem])
    | refine W_block ?_
    | refine W_of_WL ?_
    | refine WL_of_k fun K hK => ?_
    | (refine W_cond (by simp [go_sem]; rfl) ?_; simp only [cond_true, cond_false])
  exact ⟨_, rfl, Pre.mk _ [] rfl (List.append_nil _).symm⟩

def T.isArrow (s : ByteArray) : Bool := decide (s = ⟨#[45, 62]⟩) || decide (s = ⟨#[60, 45]⟩)
theorem T.arrow (s : ByteArray) (σ : St) : DCalls Try.prog 16 [.f (T.op s)] σ (isC (.ret (.f (T.B (T.isArrow s)))) σ) := by
  unfold T.isArrow
  by_cases h1 : s = ⟨#[45, 62]⟩
  all_goals by_cases h2 : s = ⟨#[60, 45]⟩
  all_goals
    refine DCalls.pure1 rfl ?_
    refine DCalls_args_of Try.func16 rfl (by simp [Try.ntmps16]) ?_
    simp only [Try.ntmps16]
    repeat' first
      | refine W_seq_c fun K hK => ?_
      | (refine W_region (by decide) ?_; simp [go_sem, T.op, h1, h2])
      | refine K_use (by assumption) ?_
      | (refine W_ret ?_; simp [go_sem, T.op, h1, h2])
      | (refine W_skip ?_; simp [go_sem, T.op, h1, h2])
      | (refine W_exit ?_; simp [go_sem, T.op, h1, h2])
      | refine W_block ?_
      | refine W_of_WL ?_
      | refine WL_of_k fun K hK => ?_
      | (refine W_cond (by simp [go_sem, T.op, h1, h2]; rfl) ?_; simp only [cond_true, cond_false])
    exact ⟨_, rfl, Pre.mk _ [] rfl (List.append_nil _).symm⟩

def AT.size : AT → Nat
  | .leaf _ => 1
  | .node a b => 1 + a.size + b.size
def AT.depth : AT → Nat
  | .leaf _ => 1
  | .node a b => max a.depth b.depth + 1

theorem T.wrap {n : Int} (h0 : -9223372036854775808 ≤ n) (h1 : n < 9223372036854775808) : IntKind.i64.wrap n = n := by
  simp [IntKind.wrap, IntKind.bits, IntKind.signed]; omega

theorem T.size (a : AT) (σ : St) (hb : a.size < 4611686018427387904) : DCalls Try.prog 31 [.f a.f] σ (isC (.ret (.f (T.I a.size))) σ) := by
  induction a generalizing σ with
  | leaf s =>
    refine DCalls.pure1 rfl ?_
    refine DCalls_args_of Try.func31 rfl (by simp [Try.ntmps31]) ?_
    simp only [Try.ntmps31]
    repeat' first
      | refine W_seq_c fun K hK => ?_
      | (refine W_region (by decide) ?_; simp [go_sem, AT.f])
      | refine K_use (by assumption) ?_
      | (refine W_ret ?_; simp [go_sem, AT.f])
      | (refine W_skip ?_; simp [go_sem, AT.f])
      | (refine W_exit ?_; simp [go_sem, AT.f])
      | refine W_block ?_
      | refine W_of_WL ?_
      | refine WL_of_k fun K hK => ?_
      | (refine W_cond (by simp [go_sem, AT.f]; rfl) ?_; simp only [cond_true, cond_false])
    exact ⟨_, rfl, Pre.mk _ [] rfl (List.append_nil _).symm⟩
  | node a b iha ihb =>
    simp only [AT.size] at hb ⊢
    refine DCalls.pure1 rfl ?_
    refine DCalls_args_of Try.func31 rfl (by simp [Try.ntmps31]) ?_
    simp only [Try.ntmps31, AT.f]
    obtain ⟨x1, x2, x3, x4, ha⟩ := a.f_agg
    obtain ⟨y1, y2, y3, y4, hb'⟩ := b.f_agg
    rw [ha] at iha ⊢
    rw [hb'] at ihb ⊢
    have w1 : IntKind.i64.wrap (1 + (a.size : Int)) = 1 + a.size := T.wrap (by omega) (by omega)
    have w2 : IntKind.i64.wrap (1 + (a.size : Int) + b.size) = 1 + a.size + b.size := T.wrap (by omega) (by omega)
    repeat' first
      | refine W_seq_c fun K hK => ?_
      | (refine W_region (by decide) ?_; simp [go_sem, w1, w2])
      | refine K_use (by assumption) ?_
      | (refine W_ret ?_; simp [go_sem, w1, w2])
      | (refine W_skip ?_; simp [go_sem, w1, w2])
      | (refine W_exit ?_; simp [go_sem, w1, w2])
      | refine W_block ?_
      | refine W_of_WL ?_
      | refine WL_of_k fun K hK => ?_
      | (refine W_cond (by simp [go_sem, w1, w2]; rfl) ?_; simp only [cond_true, cond_false])
      | (refine DCalls.mono (by first | exact iha _ (by omega) | exact ihb _ (by omega)) ?_; rintro _ _ ⟨rfl, rfl⟩; simp [go_sem, w1, w2])
    exact ⟨_, rfl, Pre.mk _ [] rfl (List.append_nil _).symm⟩

theorem T.depth (a : AT) (σ : St) (hb : a.depth < 4611686018427387904) : DCalls Try.prog 32 [.f a.f] σ (isC (.ret (.f (T.I a.depth))) σ) := by
  induction a generalizing σ with
  | leaf s =>
    refine DCalls.pure1 rfl ?_
    refine DCalls_args_of Try.func32 rfl (by simp [Try.ntmps32]) ?_
    simp only [Try.ntmps32]
    repeat' first
      | refine W_seq_c fun K hK => ?_
      | (refine W_region (by decide) ?_; simp [go_sem, AT.f])
      | refine K_use (by assumption) ?_
      | (refine W_ret ?_; simp [go_sem, AT.f])
      | (refine W_skip ?_; simp [go_sem, AT.f])
      | (refine W_exit ?_; simp [go_sem, AT.f])
      | refine W_block ?_
      | refine W_of_WL ?_
      | refine WL_of_k fun K hK => ?_
      | (refine W_cond (by simp [go_sem, AT.f]; rfl) ?_; simp only [cond_true, cond_false])
    exact ⟨_, rfl, Pre.mk _ [] rfl (List.append_nil _).symm⟩
  | node a b iha ihb =>
    simp only [AT.depth] at hb ⊢
    refine DCalls.pure1 rfl ?_
    refine DCalls_args_of Try.func32 rfl (by simp [Try.ntmps32]) ?_
    simp only [Try.ntmps32, AT.f]
    obtain ⟨x1, x2, x3, x4, ha⟩ := a.f_agg
    obtain ⟨y1, y2, y3, y4, hb'⟩ := b.f_agg
    rw [ha] at iha ⊢
    rw [hb'] at ihb ⊢
    have h1 : (if 0 < a.depth then (a.depth : Int) else 0) = a.depth := by split <;> omega
    have h2 : (if a.depth < b.depth then (b.depth : Int) else a.depth) = (max a.depth b.depth : Nat) := by split <;> omega
    have w1 : IntKind.i64.wrap (((max a.depth b.depth : Nat) : Int) + 1) = ((max a.depth b.depth : Nat) : Int) + 1 := T.wrap (by omega) (by omega)
    have w3 : ((max a.depth b.depth + 1 : Nat) : Int) = ((max a.depth b.depth : Nat) : Int) + 1 := by omega
    rw [w3]
    generalize max a.depth b.depth = m at *
    repeat' first
      | refine W_seq_c fun K hK => ?_
      | (refine W_region (by decide) ?_; simp [go_sem, h1, h2, w1])
      | refine K_use (by assumption) ?_
      | (refine W_ret ?_; simp [go_sem, h1, h2, w1])
      | (refine W_skip ?_; simp [go_sem, h1, h2, w1])
      | (refine W_exit ?_; simp [go_sem, h1, h2, w1])
      | refine W_block ?_
      | refine W_of_WL ?_
      | refine WL_of_k fun K hK => ?_
      | (refine W_cond (by simp [go_sem, h1, h2, w1]; rfl) ?_; simp only [cond_true, cond_false])
      | (refine DCalls.mono (by first | exact iha _ (by omega) | exact ihb _ (by omega)) ?_; rintro _ _ ⟨rfl, rfl⟩; simp [go_sem, h1, h2, w1])
    exact ⟨_, rfl, Pre.mk _ [] rfl (List.append_nil _).symm⟩
end Go.Proofs
