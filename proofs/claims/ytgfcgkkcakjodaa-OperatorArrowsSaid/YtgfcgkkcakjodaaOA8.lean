/-
  A part of the proof of OperatorArrows: slices.ContainsFunc answers false where the test is false at each element, and what resolver.operator answers. No condition of its own.
-/
import Derived.Test.YtgfcgkkcakjodaaOA7
set_option linter.unusedVariables false
set_option linter.unusedSimpArgs false
namespace Go.Proofs
open Go Go.DL

/-- slices.IndexFunc of operands: none. -/
theorem T.indexOps (es : List FVal) (hes : es.length < 4611686018427387904) (c : DVal) (g : FuncId) (caps : List DVal) (hc : c = .fn (.func g) caps) (hg : bodyOk Try.prog g = true) (σ : St)
    (h : ∀ x ∈ es, (∃ x1 x2 x3 x4 x5, x = .agg [x1, x2, x3, x4, x5]) ∧ DCalls Try.prog g (.f x :: caps) σ (isC (.ret (.f (T.B false))) σ)) : DCalls Try.prog 26 [.f (.sl 5 es), c] σ (isC (.ret (.f (T.I (-1)))) σ) := by
  subst hc
  refine DCalls.pure1 rfl ?_
  refine DCalls_args_of Try.func26 rfl (by simp [Try.ntmps26]) ?_
  simp only [Try.ntmps26]
  repeat' first
    | refine W_seq_c fun K hK => ?_
    | (refine W_region (by decide) ?_; simp [go_sem])
    | refine K_use (by assumption) ?_
    | (refine W_ret ?_; simp [go_sem])
    | (refine W_skip ?_; simp [go_sem])
    | (refine W_exit ?_; simp [go_sem])
    | refine W_block ?_
    | (refine W_cond (by simp [go_sem]; rfl) ?_; simp only [cond_true, cond_false])
  refine W_index (fun i e s => s = σ ∧ e.get 0 = some (.f (.sl 5 es)) ∧ e.get 1 = some (.fn (.func g) caps) ∧ e.get 7 = some (.f (T.I es.length)) ∧ e.get 8 = some (.f (T.I i))) es.length 0 (Nat.zero_le _) (by simp [go_sem]) ?_ ?_
  · rintro i e s hi ⟨rfl, h0, h1, h7, h8⟩ K hK
    have hw : IntKind.i64.wrap ((i : Int) + 1) = (i : Int) + 1 := T.wrap (by omega) (by omega)
    obtain ⟨⟨x1, x2, x3, x4, x5, hx⟩, hcall⟩ := h es[i] (List.getElem_mem hi)
    rw [hx] at hcall
    repeat' first
      | refine W_seq_c fun K hK => ?_
      | (refine W_region (by decide) ?_; simp [go_sem, h0, h1, h7, h8, hi, hw, hx, hg])
      | refine K_use (by assumption) ?_
      | (refine W_ret ?_; simp [go_sem, h0, h1, h7, h8, hi, hw, hx, hg])
      | (refine W_skip ?_; simp [go_sem, h0, h1, h7, h8, hi, hw, hx, hg])
      | (refine W_exit ?_; simp [go_sem, h0, h1, h7, h8, hi, hw, hx, hg])
      | refine W_block ?_
      | (refine W_cond (by simp [go_sem, h0, h1, h7, h8, hi, hw, hx, hg]; rfl) ?_; simp only [cond_true, cond_false])
      | (refine DCalls.mono (by first | exact hcall) ?_; rintro _ _ ⟨rfl, rfl⟩; simp [go_sem, h0, h1, h7, h8, hi, hw, hx, hg])
    simp [go_sem, h0, h1, h7, h8]
  · rintro e s ⟨rfl, h0, h1, h7, h8⟩ K
    repeat' first
      | refine W_seq_c fun K hK => ?_
      | (refine W_region (by decide) ?_; simp [go_sem, h0, h1, h7, h8])
      | refine K_use (by assumption) ?_
      | (refine W_ret ?_; simp [go_sem, h0, h1, h7, h8])
      | (refine W_skip ?_; simp [go_sem, h0, h1, h7, h8])
      | (refine W_exit ?_; simp [go_sem, h0, h1, h7, h8])
      | refine W_block ?_
      | (refine W_cond (by simp [go_sem, h0, h1, h7, h8]; rfl) ?_; simp only [cond_true, cond_false])
    exact ⟨_, rfl, Pre.refl _⟩

set_option maxHeartbeats 8000000 in
theorem T.containsOps {l : FVal} {c : DVal} {σ : St} (h : DCalls Try.prog 26 [.f l, c] σ (isC (.ret (.f (T.I (-1)))) σ)) : DCalls Try.prog 14 [.f l, c] σ (isC (.ret (.f (T.B false))) σ) := by
  refine DCalls.pure1 rfl ?_
  refine DCalls_args_of Try.func14 rfl (by simp [Try.ntmps14]) ?_
  simp only [Try.ntmps14]
  repeat' first
    | refine W_seq_c fun K hK => ?_
    | (refine W_region (by decide) ?_; simp [go_sem])
    | refine K_use (by assumption) ?_
    | (refine W_ret ?_; simp [go_sem])
    | (refine W_skip ?_; simp [go_sem])
    | (refine W_exit ?_; simp [go_sem])
    | refine W_block ?_
    | refine W_of_WL ?_
    | refine WL_of_k fun K hK => ?_
    | (refine W_cond (by simp [go_sem]; rfl) ?_; simp only [cond_true, cond_false])
    | (refine DCalls.mono (by first | exact h) ?_; rintro _ _ ⟨rfl, rfl⟩; simp [go_sem])
  exact ⟨_, rfl, Pre.refl _⟩

/-! ### The operators of a resolver -/
def T.fix (s : ByteArray) : Int := if s = ⟨#[45, 62]⟩ then 5 else if s = ⟨#[60, 45]⟩ then 4 else 0
def T.prec (s : ByteArray) : Int := if s = ⟨#[45, 62]⟩ then -1 else if s = ⟨#[60, 45]⟩ then -1 else 0
def T.opv (fx pr : Int) : FVal := .agg [T.S ⟨#[]⟩, T.I fx, T.I pr]
def T.arrows : List (Value × DVal) := [(.string ⟨#[45, 62]⟩, .f (T.opv 5 (-1))), (.string ⟨#[60, 45]⟩, .f (T.opv 4 (-1)))]
structure T.Rv (σ : St) (r m : Nat) (b : Int) : Prop where
  r : σ.objs[r]? = some (.cells [.map m, .f (T.I b)])
  m : σ.objs[m]? = some (.map T.arrows)

set_option maxHeartbeats 8000000 in
theorem T.operator {σ : St} {r m : Nat} {b : Int} (h : T.Rv σ r m b) (s : ByteArray) : DCalls Try.prog 48 [.ptr r 0, .f (T.op s)] σ (isC (.ret (.tup [.f (T.opv (T.fix s) (T.prec s)), .f (T.B (T.isArrow s))])) σ) := by
  obtain ⟨hr1, hr2⟩ := T.ge h.r
  obtain ⟨hm1, hm2⟩ := T.ge h.m
  refine DCalls.pure1 rfl ?_
  refine DCalls_args_of Try.func48 rfl (by simp [Try.ntmps48]) ?_
  simp only [Try.ntmps48]
  unfold T.fix T.prec T.isArrow
  by_cases h1 : s = ⟨#[45, 62]⟩
  · subst h1
    repeat' first
      | refine W_seq_c fun K hK => ?_
      | (refine W_region (by decide) ?_; simp [go_sem, hr1, hr2, hm1, hm2, T.op, T.arrows, T.opv])
      | refine K_use (by assumption) ?_
      | (refine W_ret ?_; simp [go_sem, hr1, hr2, hm1, hm2, T.op, T.arrows, T.opv])
      | (refine W_skip ?_; simp [go_sem, hr1, hr2, hm1, hm2, T.op, T.arrows, T.opv])
      | (refine W_exit ?_; simp [go_sem, hr1, hr2, hm1, hm2, T.op, T.arrows, T.opv])
      | refine W_block ?_
      | refine W_of_WL ?_
      | refine WL_of_k fun K hK => ?_
      | (refine W_cond (by simp [go_sem, hr1, hr2, hm1, hm2, T.op, T.arrows, T.opv]; rfl) ?_; simp only [cond_true, cond_false])
      | (refine W_draw T.hm ⟨[0, 1, 3, 7, 0, 16, 48, 127, 255, 511, 511, 0, 3071, 8191], [11, 12, 13], [([0, 1, 2, 3, 4, 5, 6, 7, 8, 9, 10], []), ([], [0, 1, 2, 3, 4, 5, 6, 7, 8, 9, 10]), ([], [10]), ([], [])]⟩ (by decide +kernel) ?_; simp [go_sem, hr1, hr2, hm1, hm2, T.op, T.arrows, T.opv])

    exact ⟨_, rfl, Pre.mk _ [] rfl (List.append_nil _).symm⟩
  · by_cases h2 : s = ⟨#[60, 45]⟩
    · subst h2
      repeat' first
        | refine W_seq_c fun K hK => ?_
        | (refine W_region (by decide) ?_; simp [go_sem, hr1, hr2, hm1, hm2, T.op, T.arrows, T.opv])
        | refine K_use (by assumption) ?_
        | (refine W_ret ?_; simp [go_sem, hr1, hr2, hm1, hm2, T.op, T.arrows, T.opv])
        | (refine W_skip ?_; simp [go_sem, hr1, hr2, hm1, hm2, T.op, T.arrows, T.opv])
        | (refine W_exit ?_; simp [go_sem, hr1, hr2, hm1, hm2, T.op, T.arrows, T.opv])
        | refine W_block ?_
        | refine W_of_WL ?_
        | refine WL_of_k fun K hK => ?_
        | (refine W_cond (by simp [go_sem, hr1, hr2, hm1, hm2, T.op, T.arrows, T.opv]; rfl) ?_; simp only [cond_true, cond_false])
        | (refine W_draw T.hm ⟨[0, 1, 3, 7, 0, 16, 48, 127, 255, 511, 511, 0, 3071, 8191], [11, 12, 13], [([0, 1, 2, 3, 4, 5, 6, 7, 8, 9, 10], []), ([], [0, 1, 2, 3, 4, 5, 6, 7, 8, 9, 10]), ([], [10]), ([], [])]⟩ (by decide +kernel) ?_; simp [go_sem, hr1, hr2, hm1, hm2, T.op, T.arrows, T.opv])
      exact ⟨_, rfl, Pre.mk _ [] rfl (List.append_nil _).symm⟩
    · have h1' : ¬ (⟨#[45, 62]⟩ = s) := fun e => h1 e.symm
      have h2' : ¬ (⟨#[60, 45]⟩ = s) := fun e => h2 e.symm
      repeat' first
        | refine W_seq_c fun K hK => ?_
        | (refine W_region (by decide) ?_; simp [go_sem, hr1, hr2, hm1, hm2, h1, h2, h1', h2', T.op, T.arrows, T.opv])
        | refine K_use (by assumption) ?_
        | (refine W_ret ?_; simp [go_sem, hr1, hr2, hm1, hm2, h1, h2, h1', h2', T.op, T.arrows, T.opv])
        | (refine W_skip ?_; simp [go_sem, hr1, hr2, hm1, hm2, h1, h2, h1', h2', T.op, T.arrows, T.opv])
        | (refine W_exit ?_; simp [go_sem, hr1, hr2, hm1, hm2, h1, h2, h1', h2', T.op, T.arrows, T.opv])
        | refine W_block ?_
        | refine W_of_WL ?_
        | refine WL_of_k fun K hK => ?_
        | (refine W_cond (by simp [go_sem, hr1, hr2, hm1, hm2, h1, h2, h1', h2', T.op, T.arrows, T.opv]; rfl) ?_; simp only [cond_true, cond_false])
        | (refine W_draw T.hm ⟨[0, 1, 3, 7, 0, 16, 48, 127, 255, 511, 511, 0, 3071, 8191], [11, 12, 13], [([0, 1, 2, 3, 4, 5, 6, 7, 8, 9, 10], []), ([], [0, 1, 2, 3, 4, 5, 6, 7, 8, 9, 10]), ([], [10]), ([], [])]⟩ (by decide +kernel) ?_; simp [go_sem, hr1, hr2, hm1, hm2, h1, h2, h1', h2', T.op, T.arrows, T.opv])

      exact ⟨_, rfl, Pre.mk _ [] rfl (List.append_nil _).symm⟩
end Go.Proofs
