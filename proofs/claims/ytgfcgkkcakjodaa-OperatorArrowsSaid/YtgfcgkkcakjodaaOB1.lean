/-
  A part of the proof of OperatorArrows: resolver.fail, join, and slices.Clone of numbers. No condition of its own.
-/
import Derived.Test.YtgfcgkkcakjodaaOA9
set_option linter.unusedVariables false
set_option linter.unusedSimpArgs false
namespace Go.Proofs
open Go Go.DL

theorem T.Rv.app {σ : St} {r m : Nat} {b : Int} (h : T.Rv σ r m b) (l : List Ob) (a : List Ar) : T.Rv ⟨σ.objs ++ l, a⟩ r m b :=
  ⟨by rw [List.getElem?_append_left (List.getElem?_eq_some_iff.1 h.r).1]; exact h.r, by rw [List.getElem?_append_left (List.getElem?_eq_some_iff.1 h.m).1]; exact h.m⟩

def T.rawZ : FVal := .agg [T.I 0, T.S ⟨#[]⟩, T.I 0, .sl 0 []]

/-- What 'fail' leaves. -/
def T.Failed (σ : St) (r m : Nat) (e : Int) (res : Res) (s : St) : Prop := res = .ret (.tup [.f T.rawZ, .f (T.B false)]) ∧ ∃ l a, s = ⟨σ.objs.set r (.cells [.map m, .f (T.I e)]) ++ l, σ.arrs ++ a⟩

set_option maxRecDepth 8000 in
set_option maxHeartbeats 16000000 in
theorem T.fail {σ : St} {r m : Nat} {b : Int} (h : T.Rv σ r m b) (e : Int) : DCalls Try.prog 34 [.ptr r 0, .f (T.I e)] σ (T.Failed σ r m e) := by
  obtain ⟨hr1, hr2⟩ := T.ge h.r
  have hr3 : ∀ x, (σ.objs ++ [x])[r]? = some (.cells [.map m, .f (T.I b)]) := fun x => by rw [List.getElem?_append_left hr1]; exact h.r
  have hr4 : ∀ x y, (σ.objs ++ [x]).set r y = σ.objs.set r y ++ [x] := fun x y => by rw [List.set_append_left _ _ hr1]
  have hr5 : ∀ y, (σ.objs.set r y).length = σ.objs.length := fun y => List.length_set
  have hr6 : ∀ y (l : List Ob), (σ.objs.set r y ++ l)[σ.objs.length]? = l[0]? := fun y l => by rw [← hr5 y, T.ga0]
  have hr7 : ∀ y (l : List Ob) x, (σ.objs.set r y ++ l).set σ.objs.length x = σ.objs.set r y ++ l.set 0 x := fun y l x => by rw [← hr5 y, T.sa0]
  refine DCalls.results (R := fun res s => ∃ res' s', fzR s res = some (res', s') ∧ T.Failed σ r m e res' s') ?_ fun res s h => h
  refine DCalls_args_of Try.func34 rfl (by simp [Try.ntmps34]) ?_
  simp only [Try.ntmps34]
  repeat' first
    | refine W_seq_c fun K hK => ?_
    | (refine W_region (by decide) ?_; simp [go_sem, hr1, hr2, hr3, hr4, hr5, hr6, hr7])
    | refine K_use (by assumption) ?_
    | (refine W_ret ?_; simp [go_sem, hr1, hr2, hr3, hr4, hr5, hr6, hr7])
    | (refine W_skip ?_; simp [go_sem, hr1, hr2, hr3, hr4, hr5, hr6, hr7])
    | (refine W_exit ?_; simp [go_sem, hr1, hr2, hr3, hr4, hr5, hr6, hr7])
    | refine W_block ?_
    | refine W_of_WL ?_
    | refine WL_of_k fun K hK => ?_
    | (refine W_cond (by simp [go_sem, hr1, hr2, hr3, hr4, hr5, hr6, hr7]; rfl) ?_; simp only [cond_true, cond_false])
  have hE : ∀ l : List Ob, (⟨l, σ.arrs⟩ : St) = ⟨l, σ.arrs ++ []⟩ := fun l => by rw [List.append_nil]
  exact ⟨.ret (.tup [.f T.rawZ, .f (T.B false)]), ⟨_, σ.arrs⟩, rfl, rfl, _, [], hE _⟩

set_option maxHeartbeats 16000000 in
theorem T.join (s : ByteArray) (h : T.isArrow s = true) (a b : AT) (σ : St) : DCalls Try.prog 50 [.f (AT.leaf s).f, .f a.f, .f b.f] σ (isC (.ret (.f (if s = ⟨#[45, 62]⟩ then AT.node a b else AT.node b a).f)) σ) := by
  obtain ⟨x1, x2, x3, x4, ha⟩ := a.f_agg
  obtain ⟨y1, y2, y3, y4, hb⟩ := b.f_agg
  refine DCalls.pure1 rfl ?_
  refine DCalls_args_of Try.func50 rfl (by simp [Try.ntmps50]) ?_
  simp only [Try.ntmps50]
  by_cases h1 : s = ⟨#[45, 62]⟩
  · subst h1
    simp only [if_true, AT.f, ha, hb]
    repeat' first
      | refine W_seq_c fun K hK => ?_
      | (refine W_region (by decide) ?_; simp [go_sem])
      | refine K_use (by assumption) ?_
      | (refine W_ret ?_; simp [go_sem])
      | (refine W_skip ?_; simp [go_sem])
      | (refine W_exit ?_; simp [go_sem])
      | refine W_block ?_
      | refine W_of_WL ?_
      | refine WL_of_k fun K hK => ?_
      | (refine W_cond (by simp [go_sem]; rfl) ?_; simp only [cond_true, cond_false])
    exact ⟨_, rfl, Pre.mk _ [] rfl (List.append_nil _).symm⟩
  · have h2 : s = ⟨#[60, 45]⟩ := by simpa [T.isArrow, h1] using h
    subst h2
    simp only [h1, if_false, AT.f, ha, hb]
    repeat' first
      | refine W_seq_c fun K hK => ?_
      | (refine W_region (by decide) ?_; simp [go_sem])
      | refine K_use (by assumption) ?_
      | (refine W_ret ?_; simp [go_sem])
      | (refine W_skip ?_; simp [go_sem])
      | (refine W_exit ?_; simp [go_sem])
      | refine W_block ?_
      | refine W_of_WL ?_
      | refine WL_of_k fun K hK => ?_
      | (refine W_cond (by simp [go_sem]; rfl) ?_; simp only [cond_true, cond_false])
    exact ⟨_, rfl, Pre.mk _ [] rfl (List.append_nil _).symm⟩

/-- slices.Clone of a slice of numbers that is not empty. -/
theorem T.clone49n (e : FVal) (es : List FVal) (hn : es.length ≤ 1000) (σ : St) : DCalls Try.prog 49 [.f (.sl 1 (e :: es))] σ (isC (.ret (.arr σ.arrs.length 0)) ⟨σ.objs, σ.arrs ++ [⟨3, 1, e :: es, 0, 0⟩]⟩) := by
  refine DCalls_args_of Try.func49 rfl (by simp [Try.ntmps49]) ?_
  simp only [Try.ntmps49]
  have hb1 : (es.length + 1) * 8 ≤ 140737488355328 := by omega
  have hb2 : es.length + 1 ≤ 140737488355328 := by omega
  have hb3 : es.length ≤ 140737488355327 := by omega
  repeat' first
    | refine W_seq_c fun K hK => ?_
    | (refine W_region (by decide) ?_; simp [go_sem, hb1, hb2, hb3, evalNil, isNilC, fullSl])
    | refine K_use (by assumption) ?_
    | (refine W_ret ?_; simp [go_sem, hb1, hb2, hb3, evalNil, isNilC, fullSl])
    | (refine W_skip ?_; simp [go_sem, hb1, hb2, hb3, evalNil, isNilC, fullSl])
    | (refine W_exit ?_; simp [go_sem, hb1, hb2, hb3, evalNil, isNilC, fullSl])
    | refine W_block ?_
    | refine W_of_WL ?_
    | refine WL_of_k fun K hK => ?_
    | (refine W_cond (by simp [go_sem, hb1, hb2, hb3, evalNil, isNilC, fullSl]; rfl) ?_; simp only [cond_true, cond_false])
  exact ⟨rfl, rfl⟩
end Go.Proofs
