/-
  A part of the proof of OperatorArrows: resolver.resolve of a chain with one kind of arrow, and of one that begins with both kinds. No condition of its own.
-/
import Derived.Test.YtgfcgkkcakjodaaOB3
set_option linter.unusedVariables false
set_option linter.unusedSimpArgs false
namespace Go.Proofs
open Go Go.DL

/-! ### 'lowest' of a chain -/
def T.atsOf (i n : Nat) : List Nat := (List.range n).map fun j => i + 2 * j + 1
theorem T.low_chn {q : ByteArray} (hq : T.isArrow q = true) : ∀ (cs : List ByteArray) (c : ByteArray) (i : Nat) (w : T.Lw), (∀ x ∈ c :: cs, T.Nm x) → w.ats ≠ [] → w.fx = T.fix q → w.same = true →
    T.low i (T.chn q (c :: cs)) w = ⟨w.ats ++ T.atsOf i cs.length, w.fx, w.pr, true⟩
  | [], c, i, w, hs, h1, h2, h3 => by
    have hc := T.arrow_name (hs c (by simp))
    obtain ⟨a, b, e, f⟩ := w
    simp only at h3
    simp [T.chn, T.low, T.lowStep, hc, T.atsOf, h3]
  | d :: cs, c, i, w, hs, h1, h2, h3 => by
    have hc := T.arrow_name (hs c (by simp))
    have ih := T.low_chn hq cs d (i + 2) ⟨w.ats ++ [i + 1], w.fx, w.pr, true⟩ (fun x hx => hs x (List.mem_cons_of_mem _ hx)) (by simp) h2 rfl
    show T.low i (c :: q :: T.chn q (d :: cs)) w = _
    simp only [T.low, T.lowStep, hc, hq, h1, h2, h3, if_true, if_false, Bool.false_eq_true, Bool.true_and, decide_true]
    rw [h2] at ih
    rw [show i + 1 + 1 = i + 2 by omega, ih]
    simp only [T.Lw.mk.injEq, and_true, List.append_assoc, List.append_cancel_left_eq]
    simp only [T.atsOf, List.length_cons, List.range_succ_eq_map, List.map_cons, List.map_map]
    simp [Function.comp_def]
    omega
theorem T.low_chain {q : ByteArray} (hq : T.isArrow q = true) (c d : ByteArray) (ds : List ByteArray) (hs : ∀ x ∈ c :: d :: ds, T.Nm x) :
    T.low 0 (T.chn q (c :: d :: ds)) ⟨[], 0, 0, false⟩ = ⟨T.atsOf 0 (ds.length + 1), T.fix q, -1, true⟩ := by
  have hc := T.arrow_name (hs c (by simp))
  have ih := T.low_chn hq ds d 2 ⟨[1], T.fix q, -1, true⟩ (fun x hx => hs x (List.mem_cons_of_mem _ hx)) (by simp) rfl rfl
  show T.low 0 (c :: q :: T.chn q (d :: ds)) _ = _
  simp only [T.low, T.lowStep, hc, hq, if_true, if_false, Bool.false_eq_true, T.prec_arrow hq]
  rw [show 0 + 1 + 1 = 2 by omega, show 0 + 1 = 1 by omega, ih]
  simp only [T.Lw.mk.injEq, and_true]
  simp only [T.atsOf, List.range_succ_eq_map, List.map_cons, List.map_map]
  simp [Function.comp_def]
  omega
theorem T.atF_atsOf (n : Nat) : T.atF (T.atsOf 0 (n + 1)) = .sl 1 (T.odds (n + 1)) := by
  have : T.atsOf 0 (n + 1) ≠ [] := by simp [T.atsOf]
  rw [T.atF, if_neg this]
  simp [T.atsOf, T.odds]
theorem T.low_same : ∀ (ss : List ByteArray) (i : Nat) (w : T.Lw), w.ats ≠ [] → w.same = false → (T.low i ss w).ats ≠ [] ∧ (T.low i ss w).same = false
  | [], i, w, h1, h2 => ⟨h1, h2⟩
  | s :: ss, i, w, h1, h2 => by
    simp only [T.low]
    refine T.low_same ss (i + 1) _ ?_ ?_
    · by_cases ha : T.isArrow s = true <;> simp [T.lowStep, ha, h1]
    · by_cases ha : T.isArrow s = true <;> simp [T.lowStep, ha, h1, h2]
/-- A chain whose first arrow is turned. -/
theorem T.low_mixed (c d e : ByteArray) (ss : List ByteArray) (hc : T.Nm c) (hd : T.Nm d) (w : T.Lw) :
    (T.low 0 (c :: ⟨#[60, 45]⟩ :: d :: ⟨#[45, 62]⟩ :: ss) ⟨[], 0, 0, false⟩).ats ≠ [] ∧ (T.low 0 (c :: ⟨#[60, 45]⟩ :: d :: ⟨#[45, 62]⟩ :: ss) ⟨[], 0, 0, false⟩).same = false := by
  have hc := T.arrow_name hc
  have hd := T.arrow_name hd
  have h1 : T.isArrow ⟨#[60, 45]⟩ = true := by decide
  have h2 : T.isArrow ⟨#[45, 62]⟩ = true := by decide
  have h3 : T.fix ⟨#[60, 45]⟩ = 4 := by decide
  have h4 : T.fix ⟨#[45, 62]⟩ = 5 := by decide
  simp only [T.low, T.lowStep, hc, hd, h1, h2, h3, h4, if_true, if_false, Bool.false_eq_true]
  exact T.low_same _ _ _ (by simp) (by simp)

set_option maxRecDepth 8000 in
set_option maxHeartbeats 16000000 in
/-- A chain. -/
theorem T.resolveC {σ : St} {r m : Nat} {b : Int} (h : T.Rv σ r m b) (q : ByteArray) (hq : T.isArrow q = true) (c d : ByteArray) (ds : List ByteArray) (hn : ds.length ≤ 400) (hs : ∀ x ∈ c :: d :: ds, T.Nm x) :
    DCalls Try.prog 19 [.ptr r 0, .f (.sl 5 ((T.chn q (c :: d :: ds)).map T.op))] σ (isC (.ret (.tup [.f (T.tree q (c :: d :: ds)).f, .f (T.B true)])) σ) := by
  have hlen : (T.chn q (c :: d :: ds)).length = 2 * ds.length + 3 := by rw [T.chn_len q _ (by simp)]; simp; omega
  have hl : ∀ l a, DCalls Try.prog 35 [.ptr r 0, .f (.sl 5 ((T.chn q (c :: d :: ds)).map T.op))] ⟨σ.objs ++ l, a⟩ (isC (.ret (.tup [.f (.sl 1 (T.odds (ds.length + 1))), .f (T.opv (T.fix q) (-1)), .f (T.B true)])) ⟨σ.objs ++ l, a⟩) := fun l a => by
    have := T.lowest (h.app l a) (T.chn q (c :: d :: ds)) (by omega)
    rw [T.low_chain hq c d ds hs] at this
    simpa only [T.atF_atsOf] using this
  have hb : ∀ l a, DCalls Try.prog 38 [.ptr r 0, .f (.sl 5 ((T.chn q (c :: d :: ds)).map T.op)), .f (.sl 1 (T.odds (ds.length + 1))), .f (T.I (T.fix q))] ⟨σ.objs ++ l, a⟩ (isC (.ret (.tup [.f (T.tree q (c :: d :: ds)).f, .f (T.B true)])) ⟨σ.objs ++ l, a⟩) :=
    fun l a => T.binary (h.app l a) q hq c d ds hn hs
  obtain ⟨x1, x2, x3, x4, hx⟩ := (T.tree q (c :: d :: ds)).f_agg
  have hel : ((T.chn q (c :: d :: ds)).map T.op).length = 2 * ds.length + 3 := by simpa using hlen
  have hol : (T.odds (ds.length + 1)).length = ds.length + 1 := by simp [T.odds]
  have hfx : T.fix q = 5 ∨ T.fix q = 4 := by
    unfold T.isArrow at hq
    unfold T.fix
    by_cases h1 : q = ⟨#[45, 62]⟩
    · simp [h1]
    · have h2 : q = ⟨#[60, 45]⟩ := by simpa [h1] using hq
      simp [h2]
  rw [hx] at hb ⊢
  generalize (T.chn q (c :: d :: ds)).map T.op = es at *
  generalize T.odds (ds.length + 1) = os at *
  have hne : ¬ ((es.length : Int) = 0) := by omega
  have hne2 : ¬ ((os.length : Int) = 0) := by omega
  have hne3 : ¬ (es = []) := by intro e; rw [e] at hel; simp at hel
  have hne4 : ¬ (os = []) := by intro e; rw [e] at hol; simp at hol
  refine DCalls.pure1 rfl ?_
  refine DCalls_args_of Try.func19 rfl (by simp [Try.ntmps19]) ?_
  simp only [Try.ntmps19]
  simp only [T.opv] at hl
  rcases hfx with hfx | hfx
  all_goals
    rw [hfx] at hl hb
    repeat' first
      | refine W_seq_c fun K hK => ?_
      | (refine W_region (by decide) ?_; simp [go_sem, hne, hne2, hne3, hne4])
      | refine K_use (by assumption) ?_
      | (refine W_ret ?_; simp [go_sem, hne, hne2, hne3, hne4])
      | (refine W_skip ?_; simp [go_sem, hne, hne2, hne3, hne4])
      | (refine W_exit ?_; simp [go_sem, hne, hne2, hne3, hne4])
      | refine W_block ?_
      | refine W_of_WL ?_
      | refine WL_of_k fun K hK => ?_
      | (refine W_cond (by simp [go_sem, hne, hne2, hne3, hne4]; rfl) ?_; simp only [cond_true, cond_false])
      | (refine DCalls.mono (by first | exact hl _ _ | exact hb _ _) ?_; rintro _ _ ⟨rfl, rfl⟩; simp [go_sem, hne, hne2, hne3, hne4])
      | (refine W_draw T.hm ⟨[0, 0, 2, 6, 15, 31], [3, 4, 5], [([0, 1, 2], []), ([], [0]), ([], []), ([], [])]⟩ (by decide +kernel) ?_; simp [go_sem, hne, hne2, hne3, hne4])
      | (refine W_draw T.hm ⟨[0, 0, 0, 4, 12, 30, 62, 0, 128, 0, 512, 1536, 3584, 8191, 16383, 16383, 65535, 131071], [13, 16, 17], [([0, 1, 2, 3, 4, 5, 6, 7, 8, 9, 10, 11, 12], []), ([14, 15], []), ([], []), ([], [])]⟩ (by decide +kernel) ?_; simp [go_sem, hne, hne2, hne3, hne4])
      | (refine W_draw T.hm ⟨[0, 0, 0, 6, 14, 0, 0, 64, 192, 480, 0, 0, 2048, 6144, 15360, 32767, 65535, 65535, 262143, 524287], [15, 18, 19], [([0, 1, 2, 3, 4, 5, 6, 7, 8, 9, 10, 11, 12, 13, 14], []), ([16, 17], []), ([], []), ([], [])]⟩ (by decide +kernel) ?_; simp [go_sem, hne, hne2, hne3, hne4])
    exact ⟨_, rfl, Pre.mk _ [] rfl (List.append_nil _).symm⟩

set_option maxRecDepth 8000 in
set_option maxHeartbeats 16000000 in
/-- A chain of both arrows. -/
theorem T.resolveM {σ : St} {r m : Nat} {b : Int} (h : T.Rv σ r m b) (c d : ByteArray) (ss : List ByteArray) (hn : ss.length ≤ 900) (hc : T.Nm c) (hd : T.Nm d) :
    DCalls Try.prog 19 [.ptr r 0, .f (.sl 5 ((c :: ⟨#[60, 45]⟩ :: d :: ⟨#[45, 62]⟩ :: ss).map T.op))] σ (T.Failed σ r m 22) := by
  obtain ⟨h1, h2⟩ := T.low_mixed c d c ss hc hd ⟨[], 0, 0, false⟩
  have hl : ∀ l a, DCalls Try.prog 35 [.ptr r 0, .f (.sl 5 ((c :: ⟨#[60, 45]⟩ :: d :: ⟨#[45, 62]⟩ :: ss).map T.op))] ⟨σ.objs ++ l, a⟩ _ := fun l a => T.lowest (h.app l a) (c :: ⟨#[60, 45]⟩ :: d :: ⟨#[45, 62]⟩ :: ss) (by simp; omega)
  generalize T.low 0 (c :: ⟨#[60, 45]⟩ :: d :: ⟨#[45, 62]⟩ :: ss) ⟨[], 0, 0, false⟩ = w at *
  obtain ⟨ats, fx, pr, same⟩ := w
  simp only at h1 h2 hl
  subst h2
  obtain ⟨y, ys, hy⟩ : ∃ y ys, T.atF ats = .sl 1 (y :: ys) := by
    cases ats with
    | nil => exact absurd rfl h1
    | cons a ats => exact ⟨_, _, rfl⟩
  rw [hy] at hl
  simp only [T.opv, List.map_cons] at hl ⊢
  generalize ss.map T.op = es at *
  generalize T.op c = oc at *
  generalize T.op d = od at *
  generalize T.op ⟨#[60, 45]⟩ = o1 at *
  generalize T.op ⟨#[45, 62]⟩ = o2 at *
  have hne : ¬ ((es.length : Int) + 1 + 1 + 1 + 1 = 0) := by omega
  have hne2 : ¬ ((ys.length : Int) + 1 = 0) := by omega
  have hr1 := (T.ge h.r).1
  refine DCalls.results (R := fun res s => ∃ res' s', fzR s res = some (res', s') ∧ T.Failed σ r m 22 res' s') ?_ fun res s h => h
  refine DCalls_args_of Try.func19 rfl (by simp [Try.ntmps19]) ?_
  simp only [Try.ntmps19]
  have hf : ∀ l a, DCalls Try.prog 34 [.ptr r 0, .f (T.I 22)] ⟨σ.objs ++ l, a⟩ (T.Failed ⟨σ.objs ++ l, a⟩ r m 22) := fun l a => T.fail (h.app l a) 22
  repeat' first
    | refine W_seq_c fun K hK => ?_
    | (refine W_region (by decide) ?_; simp [go_sem, hne, hne2])
    | refine K_use (by assumption) ?_
    | (refine W_ret ?_; simp [go_sem, hne, hne2])
    | (refine W_skip ?_; simp [go_sem, hne, hne2])
    | (refine W_exit ?_; simp [go_sem, hne, hne2])
    | refine W_block ?_
    | refine W_of_WL ?_
    | refine WL_of_k fun K hK => ?_
    | (refine W_cond (by simp [go_sem, hne, hne2]; rfl) ?_; simp only [cond_true, cond_false])
    | (refine DCalls.mono (by first | exact hl _ _) ?_; rintro _ _ ⟨rfl, rfl⟩; simp [go_sem, hne, hne2])
    | (refine W_draw T.hm ⟨[0, 0, 2, 6, 15, 31], [3, 4, 5], [([0, 1, 2], []), ([], [0]), ([], []), ([], [])]⟩ (by decide +kernel) ?_; simp [go_sem, hne, hne2])
    | (refine W_draw T.hm ⟨[0, 0, 0, 4, 12, 30, 62, 0, 128, 0, 512, 1536, 3584, 8191, 16383, 16383, 65535, 131071], [13, 16, 17], [([0, 1, 2, 3, 4, 5, 6, 7, 8, 9, 10, 11, 12], []), ([14, 15], []), ([], []), ([], [])]⟩ (by decide +kernel) ?_; simp [go_sem, hne, hne2])
    | (refine W_draw T.hm ⟨[0, 0, 0, 6, 14, 0, 0, 64, 192, 480, 0, 0, 2048, 6144, 15360, 32767, 65535, 65535, 262143, 524287], [15, 18, 19], [([0, 1, 2, 3, 4, 5, 6, 7, 8, 9, 10, 11, 12, 13, 14], []), ([16, 17], []), ([], []), ([], [])]⟩ (by decide +kernel) ?_; simp [go_sem, hne, hne2])
  have hr4 : ∀ (l : List Ob) y, (σ.objs ++ l).set r y = σ.objs.set r y ++ l := fun l y => by rw [List.set_append_left _ _ hr1]
  have hr5 : ∀ y, (σ.objs.set r y).length = σ.objs.length := fun y => List.length_set
  have hr6 : ∀ y (l : List Ob), (σ.objs.set r y ++ l)[σ.objs.length]? = l[0]? := fun y l => by rw [← hr5 y, T.ga0]
  have hr7 : ∀ y (l : List Ob) x, (σ.objs.set r y ++ l).set σ.objs.length x = σ.objs.set r y ++ l.set 0 x := fun y l x => by rw [← hr5 y, T.sa0]
  refine DCalls.mono (hf _ _) ?_
  rintro _ _ ⟨rfl, l, a, rfl⟩
  simp only [hr4, List.append_assoc, T.rawZ]
  simp [go_sem, hr5, hr6, hr7]
  repeat' first
    | refine W_seq_c fun K hK => ?_
    | (refine W_region (by decide) ?_; simp [go_sem, hne, hne2, hr5, hr6, hr7])
    | refine K_use (by assumption) ?_
    | (refine W_ret ?_; simp [go_sem, hne, hne2, hr5, hr6, hr7])
    | (refine W_skip ?_; simp [go_sem, hne, hne2, hr5, hr6, hr7])
    | (refine W_exit ?_; simp [go_sem, hne, hne2, hr5, hr6, hr7])
    | refine W_block ?_
    | refine W_of_WL ?_
    | refine WL_of_k fun K hK => ?_
    | (refine W_cond (by simp [go_sem, hne, hne2, hr5, hr6, hr7]; rfl) ?_; simp only [cond_true, cond_false])
  exact ⟨.ret (.tup [.f T.rawZ, .f (T.B false)]), _, rfl, rfl, _, _, rfl⟩
end Go.Proofs
