/-
  A part of the proof of OperatorArrows: what resolver.lowest answers at a sequence of names and arrows. No condition of its own.
-/
import Derived.Test.YtgfcgkkcakjodaaOA8
set_option linter.unusedVariables false
set_option linter.unusedSimpArgs false
namespace Go.Proofs
open Go Go.DL

/-- What 'lowest' keeps. -/
structure T.Lw where
  ats : List Nat
  fx : Int
  pr : Int
  same : Bool
def T.lowStep (i : Nat) (s : ByteArray) (w : T.Lw) : T.Lw :=
  if T.isArrow s = true then (if w.ats = [] then ⟨[i], T.fix s, T.prec s, true⟩ else ⟨w.ats ++ [i], w.fx, w.pr, w.same && decide (T.fix s = w.fx)⟩) else w
def T.low : Nat → List ByteArray → T.Lw → T.Lw
  | _, [], w => w
  | i, s :: ss, w => T.low (i + 1) ss (T.lowStep i s w)
def T.atF (ats : List Nat) : FVal := if ats = [] then .sl 0 [] else .sl 1 (ats.map fun a : Nat => T.I a)

def T.AtRep (n : Nat) (ats : List Nat) (d : DVal) (m : List Ar) : Prop :=
  (ats = [] ∧ d = .full 0 [] ∧ m = []) ∨ (∃ a : Nat, ats = [a] ∧ d = .full 1 [T.I a] ∧ m = []) ∨ ∃ g, 2 ≤ ats.length ∧ d = .arr n g ∧ m = [⟨3, 1, ats.map fun a : Nat => T.I a, g, 0⟩]

theorem T.prec_arrow {s : ByteArray} (h : T.isArrow s = true) : T.prec s = -1 := by
  unfold T.isArrow at h
  unfold T.prec
  by_cases h1 : s = ⟨#[45, 62]⟩
  · simp [h1]
  · by_cases h2 : s = ⟨#[60, 45]⟩
    · simp [h2]
    · simp [h1, h2] at h

set_option maxRecDepth 8000 in
set_option maxHeartbeats 16000000 in
theorem T.lowest {σ : St} {r m : Nat} {b : Int} (h : T.Rv σ r m b) (ss : List ByteArray) (hn : ss.length ≤ 1000) :
    DCalls Try.prog 35 [.ptr r 0, .f (.sl 5 (ss.map T.op))] σ (isC (.ret (.tup [.f (T.atF (T.low 0 ss ⟨[], 0, 0, false⟩).ats), .f (T.opv (T.low 0 ss ⟨[], 0, 0, false⟩).fx (T.low 0 ss ⟨[], 0, 0, false⟩).pr), .f (T.B (T.low 0 ss ⟨[], 0, 0, false⟩).same)])) σ) := by
  generalize hfin : T.low 0 ss ⟨[], 0, 0, false⟩ = fin
  refine DCalls.pure1 rfl ?_
  refine DCalls_args_of Try.func35 rfl (by simp [Try.ntmps35]) ?_
  simp only [Try.ntmps35]
  repeat' first
    | refine W_seq_c fun K hK => ?_
    | (refine W_region (by decide) ?_; simp [go_sem])
    | refine K_use (by assumption) ?_
    | (refine W_ret ?_; simp [go_sem])
    | (refine W_skip ?_; simp [go_sem])
    | (refine W_exit ?_; simp [go_sem])
    | refine W_block ?_
    | (refine W_cond (by simp [go_sem]; rfl) ?_; simp only [cond_true, cond_false])
  refine W_index (fun i e s => ∃ w l m', T.low i (ss.drop i) w = fin ∧ w.ats.length ≤ i ∧ (w.ats ≠ [] → w.pr = -1) ∧ s = ⟨σ.objs ++ .cells [.f (T.S ⟨#[]⟩), .f (T.I w.fx), .f (T.I w.pr)] :: l, σ.arrs ++ m'⟩ ∧ (∃ d, e.get 4 = some d ∧ T.AtRep σ.arrs.length w.ats d m') ∧
      e.get 0 = some (.ptr r 0) ∧ e.get 1 = some (.f (.sl 5 (ss.map T.op))) ∧ e.get 5 = some (.ptr σ.objs.length 0) ∧ e.get 6 = some (.f (T.B w.same)) ∧ e.get 11 = some (.f (.sl 5 (ss.map T.op))) ∧ e.get 12 = some (.f (T.I ss.length)) ∧ e.get 13 = some (.f (T.I i))) ss.length 0 (Nat.zero_le _)
      ⟨⟨[], 0, 0, false⟩, [], [], hfin, Nat.le_refl _, by simp, by simp, ⟨_, by simp [go_sem], .inl ⟨rfl, rfl, rfl⟩⟩, by simp [go_sem]⟩ ?_ ?_
  · rintro i e s hi ⟨w, l, m', hlow, hlen, hpr, rfl, ⟨d, h4, hat⟩, h0, h1, h5, h6, h11, h12, h13⟩ K hK
    have hw : IntKind.i64.wrap ((i : Int) + 1) = (i : Int) + 1 := T.wrap (by omega) (by omega)
    have hgi : ss[i]? = some ss[i] := List.getElem?_eq_getElem hi
    obtain ⟨s, hs⟩ : ∃ s, s = ss[i] := ⟨_, rfl⟩
    have hdrop : ss.drop i = s :: ss.drop (i + 1) := by rw [hs, List.drop_eq_getElem_cons hi]
    rw [hdrop] at hlow
    simp only [T.low] at hlow
    have hrv : ∀ l' m'', T.Rv ⟨σ.objs ++ l', m''⟩ r m b := fun l' m'' => ⟨by rw [List.getElem?_append_left (List.getElem?_eq_some_iff.1 h.r).1]; exact h.r, by rw [List.getElem?_append_left (List.getElem?_eq_some_iff.1 h.m).1]; exact h.m⟩
    have hop : ∀ l' m'', DCalls Try.prog 48 [.ptr r 0, .f (T.op s)] ⟨σ.objs ++ l', m''⟩ (isC (.ret (.tup [.f (T.opv (T.fix s) (T.prec s)), .f (T.B (T.isArrow s))])) ⟨σ.objs ++ l', m''⟩) := fun l' m'' => T.operator (hrv l' m'') s
    have hs' := hs.symm
    simp only [T.op, T.opv] at hop h1 h11
    by_cases ha : T.isArrow s = true
    · have hp := T.prec_arrow ha
      rw [ha, hp] at hop
      have hpr' := hpr
      rcases hat with ⟨h7, rfl, rfl⟩ | ⟨a, h7, rfl, rfl⟩ | ⟨g, h7, rfl, rfl⟩
      · skip
        repeat' first
          | refine W_seq_c fun K hK => ?_
          | (refine W_region (by decide) ?_; simp [go_sem, h0, h1, h4, h5, h6, h11, h12, h13, hi, hw, hs', T.op])
          | refine K_use (by assumption) ?_
          | (refine W_ret ?_; simp [go_sem, h0, h1, h4, h5, h6, h11, h12, h13, hi, hw, hs', T.op])
          | (refine W_skip ?_; simp [go_sem, h0, h1, h4, h5, h6, h11, h12, h13, hi, hw, hs', T.op])
          | (refine W_exit ?_; simp [go_sem, h0, h1, h4, h5, h6, h11, h12, h13, hi, hw, hs', T.op])
          | refine W_block ?_
          | (refine W_cond (by simp [go_sem, h0, h1, h4, h5, h6, h11, h12, h13, hi, hw, hs', T.op]; rfl) ?_; simp only [cond_true, cond_false])
          | (refine DCalls.mono (by first | exact hop _ _) ?_; rintro _ _ ⟨rfl, rfl⟩; simp [go_sem, h0, h1, h4, h5, h6, h11, h12, h13, hi, hw, hs', T.op])
          | (refine W_draw T.hm ⟨[0, 1, 0, 3, 15, 31], [3, 4, 5], [([0, 1, 2], []), ([], [2]), ([], []), ([], [])]⟩ (by decide +kernel) ?_; simp [go_sem, h0, h1, h4, h5, h6, h11, h12, h13, hi, hw, hs', T.op])
          | (refine W_draw T.hm ⟨[0, 0, 0, 1, 11, 31], [3, 4, 5], [([0, 1, 2], []), ([], [1, 2]), ([], [2]), ([], [])]⟩ (by decide +kernel) ?_; simp [go_sem, h0, h1, h4, h5, h6, h11, h12, h13, hi, hw, hs', T.op])
        refine ⟨⟨[i], T.fix s, -1, true⟩, _, [], ?_, by simp, by simp, by rw [List.append_nil], ⟨_, by simp [go_sem], .inr (.inl ⟨i, rfl, rfl, rfl⟩)⟩, by simp [go_sem, h0, h1, h5, h6, h11, h12]⟩
        simpa [T.lowStep, ha, h7, hp] using hlow
      · have hpr1 : w.pr = -1 := hpr (by rw [h7]; simp)
        cases hsm : w.same
        all_goals
          rw [hsm] at h6
          repeat' first
            | refine W_seq_c fun K hK => ?_
            | (refine W_region (by decide) ?_; simp [go_sem, h0, h1, h4, h5, h6, h11, h12, h13, hi, hw, hs', hpr1, T.op])
            | refine K_use (by assumption) ?_
            | (refine W_ret ?_; simp [go_sem, h0, h1, h4, h5, h6, h11, h12, h13, hi, hw, hs', hpr1, T.op])
            | (refine W_skip ?_; simp [go_sem, h0, h1, h4, h5, h6, h11, h12, h13, hi, hw, hs', hpr1, T.op])
            | (refine W_exit ?_; simp [go_sem, h0, h1, h4, h5, h6, h11, h12, h13, hi, hw, hs', hpr1, T.op])
            | refine W_block ?_
            | (refine W_cond (by simp [go_sem, h0, h1, h4, h5, h6, h11, h12, h13, hi, hw, hs', hpr1, T.op]; rfl) ?_; simp only [cond_true, cond_false])
            | (refine DCalls.mono (by first | exact hop _ _) ?_; rintro _ _ ⟨rfl, rfl⟩; simp [go_sem, h0, h1, h4, h5, h6, h11, h12, h13, hi, hw, hs', hpr1, T.op])
            | (refine W_draw T.hm ⟨[0, 1, 0, 3, 15, 31], [3, 4, 5], [([0, 1, 2], []), ([], [2]), ([], []), ([], [])]⟩ (by decide +kernel) ?_; simp [go_sem, h0, h1, h4, h5, h6, h11, h12, h13, hi, hw, hs', hpr1, T.op])
            | (refine W_draw T.hm ⟨[0, 0, 0, 1, 11, 31], [3, 4, 5], [([0, 1, 2], []), ([], [1, 2]), ([], [2]), ([], [])]⟩ (by decide +kernel) ?_; simp [go_sem, h0, h1, h4, h5, h6, h11, h12, h13, hi, hw, hs', hpr1, T.op])
          have hi1 : 1 ≤ i := by rw [h7] at hlen; simpa using hlen
          refine ⟨⟨[a, i], w.fx, -1, w.same && decide (T.fix s = w.fx)⟩, _, _, ?_, by simp; omega, by simp, rfl, ⟨_, by simp [go_sem], .inr (.inr ⟨0, by simp, rfl, rfl⟩)⟩, by simp [go_sem, h0, h1, h5, h6, h11, h12, hsm]⟩
          simpa [T.lowStep, ha, h7, hp, hpr1, hsm] using hlow
      · have hne : w.ats ≠ [] := by intro e; rw [e] at h7; simp at h7
        have hpr1 : w.pr = -1 := hpr hne
        have hb1 : (w.ats.length + 1) * 8 ≤ 140737488355328 := by omega
        have hb2 : w.ats.length + 1 ≤ 140737488355328 := by omega
        have hb3 : w.ats.length ≤ 140737488355327 := by omega
        have hne0 : ¬ ((w.ats.length : Int) = 0) := by omega
        cases hsm : w.same
        all_goals
          rw [hsm] at h6
          repeat' first
            | refine W_seq_c fun K hK => ?_
            | (refine W_region (by decide) ?_; simp [go_sem, h0, h1, h4, h5, h6, h11, h12, h13, hi, hw, hs', hpr1, hb1, hb2, hb3, hne, hne0, T.op])
            | refine K_use (by assumption) ?_
            | (refine W_ret ?_; simp [go_sem, h0, h1, h4, h5, h6, h11, h12, h13, hi, hw, hs', hpr1, hb1, hb2, hb3, hne, hne0, T.op])
            | (refine W_skip ?_; simp [go_sem, h0, h1, h4, h5, h6, h11, h12, h13, hi, hw, hs', hpr1, hb1, hb2, hb3, hne, hne0, T.op])
            | (refine W_exit ?_; simp [go_sem, h0, h1, h4, h5, h6, h11, h12, h13, hi, hw, hs', hpr1, hb1, hb2, hb3, hne, hne0, T.op])
            | refine W_block ?_
            | (refine W_cond (by simp [go_sem, h0, h1, h4, h5, h6, h11, h12, h13, hi, hw, hs', hpr1, hb1, hb2, hb3, hne, hne0, T.op]; rfl) ?_; simp only [cond_true, cond_false])
            | (refine DCalls.mono (by first | exact hop _ _) ?_; rintro _ _ ⟨rfl, rfl⟩; simp [go_sem, h0, h1, h4, h5, h6, h11, h12, h13, hi, hw, hs', hpr1, hb1, hb2, hb3, hne, hne0, T.op])
            | (refine W_draw T.hm ⟨[0, 1, 0, 3, 15, 31], [3, 4, 5], [([0, 1, 2], []), ([], [2]), ([], []), ([], [])]⟩ (by decide +kernel) ?_; simp [go_sem, h0, h1, h4, h5, h6, h11, h12, h13, hi, hw, hs', hpr1, hb1, hb2, hb3, hne, hne0, T.op])
            | (refine W_draw T.hm ⟨[0, 0, 0, 1, 11, 31], [3, 4, 5], [([0, 1, 2], []), ([], [1, 2]), ([], [2]), ([], [])]⟩ (by decide +kernel) ?_; simp [go_sem, h0, h1, h4, h5, h6, h11, h12, h13, hi, hw, hs', hpr1, hb1, hb2, hb3, hne, hne0, T.op])
          refine ⟨⟨w.ats ++ [i], w.fx, -1, w.same && decide (T.fix s = w.fx)⟩, _, _, ?_, by simp; omega, by simp, rfl, ⟨_, by simp [go_sem], .inr (.inr ⟨g + 1, by simp; omega, rfl, by simp⟩)⟩, by simp [go_sem, h0, h1, h5, h6, h11, h12, hsm]⟩
          simpa [T.lowStep, ha, hne, hp, hpr1, hsm] using hlow
    · have ha' : T.isArrow s = false := Bool.eq_false_iff.2 ha
      rw [ha'] at hop
      repeat' first
        | refine W_seq_c fun K hK => ?_
        | (refine W_region (by decide) ?_; simp [go_sem, h0, h1, h4, h5, h6, h11, h12, h13, hi, hw, hs', T.op])
        | refine K_use (by assumption) ?_
        | (refine W_ret ?_; simp [go_sem, h0, h1, h4, h5, h6, h11, h12, h13, hi, hw, hs', T.op])
        | (refine W_skip ?_; simp [go_sem, h0, h1, h4, h5, h6, h11, h12, h13, hi, hw, hs', T.op])
        | (refine W_exit ?_; simp [go_sem, h0, h1, h4, h5, h6, h11, h12, h13, hi, hw, hs', T.op])
        | refine W_block ?_
        | (refine W_cond (by simp [go_sem, h0, h1, h4, h5, h6, h11, h12, h13, hi, hw, hs', T.op]; rfl) ?_; simp only [cond_true, cond_false])
        | (refine DCalls.mono (by first | exact hop _ _) ?_; rintro _ _ ⟨rfl, rfl⟩; simp [go_sem, h0, h1, h4, h5, h6, h11, h12, h13, hi, hw, hs', T.op])
      refine ⟨w, _, m', ?_, by omega, hpr, rfl, ⟨d, by simp [go_sem, h4], hat⟩, by simp [go_sem, h0, h1, h5, h6, h11, h12]⟩
      simpa [T.lowStep, ha'] using hlow
  · rintro e s ⟨w, l, m', hlow, hlen, hpr, rfl, ⟨d, h4, hat⟩, h0, h1, h5, h6, h11, h12, h13⟩ K
    have hd : ss.drop ss.length = [] := List.drop_length
    rw [hd] at hlow
    simp only [T.low] at hlow
    subst hlow
    repeat' first
      | refine W_seq_c fun K hK => ?_
      | (refine W_region (by decide) ?_; simp [go_sem, h0, h1, h4, h5, h6, h11, h12, h13, T.opv])
      | refine K_use (by assumption) ?_
      | (refine W_ret ?_; simp [go_sem, h0, h1, h4, h5, h6, h11, h12, h13, T.opv])
      | (refine W_skip ?_; simp [go_sem, h0, h1, h4, h5, h6, h11, h12, h13, T.opv])
      | (refine W_exit ?_; simp [go_sem, h0, h1, h4, h5, h6, h11, h12, h13, T.opv])
      | refine W_block ?_
      | (refine W_cond (by simp [go_sem, h0, h1, h4, h5, h6, h11, h12, h13, T.opv]; rfl) ?_; simp only [cond_true, cond_false])
      | (refine W_draw T.hm ⟨[0, 1, 0, 3, 15, 31], [3, 4, 5], [([0, 1, 2], []), ([], [2]), ([], []), ([], [])]⟩ (by decide +kernel) ?_; simp [go_sem, h0, h1, h4, h5, h6, h11, h12, h13, T.opv])
      | (refine W_draw T.hm ⟨[0, 0, 0, 1, 11, 31], [3, 4, 5], [([0, 1, 2], []), ([], [1, 2]), ([], [2]), ([], [])]⟩ (by decide +kernel) ?_; simp [go_sem, h0, h1, h4, h5, h6, h11, h12, h13, T.opv])
    rcases hat with ⟨h7, rfl, rfl⟩ | ⟨a, h7, rfl, rfl⟩ | ⟨g, h7, rfl, rfl⟩
    · rw [h7]
      exact ⟨_, rfl, Pre.mk _ [] rfl rfl⟩
    · rw [h7]
      exact ⟨_, rfl, Pre.mk _ [] rfl rfl⟩
    · have hne : w.ats ≠ [] := by intro e; rw [e] at h7; simp at h7
      simp only [T.atF, hne, if_false, fzR, fzXs, fzX, fzA, fz]
      refine ⟨_, by simp [go_sem, fzXs, fzX, fzA, fz]; rfl, ?_⟩
      exact Pre.mk _ _ rfl rfl
end Go.Proofs
