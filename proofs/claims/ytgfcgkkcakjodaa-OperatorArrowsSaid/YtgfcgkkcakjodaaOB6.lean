/-
  A part of the proof of OperatorArrows: the call of OperatorArrows answers true at every list of numbers. No condition of its own.
-/
import Derived.Test.YtgfcgkkcakjodaaDT
import Derived.Test.YtgfcgkkcakjodaaOB5
import Derived.Test.YtgfcgkkcakjodaaOA6
set_option linter.unusedVariables false
set_option linter.unusedSimpArgs false
namespace Go.Proofs
open Go Go.DL

theorem T.cut (x : Int) : ∃ j : Nat, j < 4 ∧ ∀ σ, DCalls Try.prog 5 [.f (T.I x), .f (T.I 4)] σ (isC (.ret (.f (T.I j))) σ) := by
  obtain ⟨m, hm⟩ : ∃ m : Nat, IntKind.u64.wrap x = (m : Int) := by
    have : 0 ≤ IntKind.u64.wrap x := by simp [IntKind.wrap, IntKind.bits, IntKind.signed]; omega
    exact ⟨(IntKind.u64.wrap x).toNat, by omega⟩
  have w4 : IntKind.u64.wrap 4 = 4 := by decide
  obtain ⟨j, hj⟩ : ∃ j, j = m % 4 := ⟨_, rfl⟩
  have htm : (m : Int).tmod 4 = (j : Int) := by rw [hj]; exact (Int.ofNat_tmod m 4).symm
  have hw : IntKind.i64.wrap (j : Int) = (j : Int) := T.wrap (by omega) (by omega)
  have hw2 : IntKind.u64.wrap (j : Int) = (j : Int) := by simp [IntKind.wrap, IntKind.bits, IntKind.signed]; omega
  refine ⟨j, by omega, fun σ => ?_⟩
  refine DCalls.pure1 rfl ?_
  refine DCalls_args_of Try.func5 rfl (by simp [Try.ntmps5]) ?_
  simp only [Try.ntmps5]
  repeat' first
    | refine W_seq_c fun K hK => ?_
    | (refine W_region (by decide) ?_; simp [go_sem, hm, w4, htm, hw, hw2])
    | refine K_use (by assumption) ?_
    | (refine W_ret ?_; simp [go_sem, hm, w4, htm, hw, hw2])
    | (refine W_skip ?_; simp [go_sem, hm, w4, htm, hw, hw2])
    | (refine W_exit ?_; simp [go_sem, hm, w4, htm, hw, hw2])
    | refine W_block ?_
    | refine W_of_WL ?_
    | refine WL_of_k fun K hK => ?_
    | (refine W_cond (by simp [go_sem, hm, w4, htm, hw, hw2]; rfl) ?_; simp only [cond_true, cond_false])
  exact ⟨_, rfl, Pre.mk _ [] (List.append_nil _).symm (List.append_nil _).symm⟩

theorem T.letter (j : Nat) (hj : j < 4) : ∃ s, T.Nm s ∧ ([.lit (.string ⟨#[97]⟩), .lit (.string ⟨#[98]⟩), .lit (.string ⟨#[99]⟩), .lit (.string ⟨#[100]⟩)] : List FVal)[j]? = some (T.S s) := by
  have : j = 0 ∨ j = 1 ∨ j = 2 ∨ j = 3 := by omega
  rcases this with rfl | rfl | rfl | rfl
  · exact ⟨_, .inl rfl, rfl⟩
  · exact ⟨_, .inr (.inl rfl), rfl⟩
  · exact ⟨_, .inr (.inr (.inl rfl)), rfl⟩
  · exact ⟨_, .inr (.inr (.inr rfl)), rfl⟩

/-! ### The two chains -/
theorem T.chn_snoc (q : ByteArray) : ∀ (cs : List ByteArray) (x : ByteArray), cs ≠ [] → T.chn q (cs ++ [x]) = T.chn q cs ++ [q, x]
  | [], x, h => absurd rfl h
  | [c], x, _ => rfl
  | c :: d :: cs, x, _ => by
    have := T.chn_snoc q (d :: cs) x (by simp)
    show c :: q :: T.chn q (d :: cs ++ [x]) = c :: q :: T.chn q (d :: cs) ++ [q, x]
    rw [this]; rfl
theorem T.chn_cons (q : ByteArray) (x : ByteArray) (cs : List ByteArray) (h : cs ≠ []) : T.chn q (x :: cs) = x :: q :: T.chn q cs := by
  cases cs with
  | nil => exact absurd rfl h
  | cons c cs => rfl
theorem AT.r_snoc : ∀ (cs : List ByteArray) (d : ByteArray), AT.r (cs ++ [d]) = AT.l (.leaf d) cs.reverse
  | [], d => rfl
  | [c], d => rfl
  | c :: e :: cs, d => by
    have := AT.r_snoc (e :: cs) d
    show AT.node (.leaf c) (AT.r (e :: cs ++ [d])) = _
    rw [this, List.reverse_cons (a := c), AT.l_snoc]
def T.R : ByteArray := ⟨#[45, 62]⟩
def T.L : ByteArray := ⟨#[60, 45]⟩
theorem T.tree_eq (cs : List ByteArray) (h : cs ≠ []) : T.tree T.L cs.reverse = T.tree T.R cs := by
  obtain ⟨ds, d, rfl⟩ : ∃ ds d, cs = ds ++ [d] := ⟨cs.dropLast, cs.getLast h, (List.dropLast_concat_getLast h).symm⟩
  have h1 : T.tree T.R (ds ++ [d]) = AT.r (ds ++ [d]) := by
    cases ds <;> simp [T.tree, T.R]
  rw [h1, AT.r_snoc]
  simp [T.tree, T.L]

theorem T.fits1 (n : Nat) (h : n ≤ 60) : (n + 1) * 64 ≤ 140737488355328 ∧ n + 1 ≤ 140737488355328 ∧ (n + 1 + 1) * 64 ≤ 140737488355328 ∧ n + 1 + 1 ≤ 140737488355328 ∧ n ≤ 140737488355327 ∧ n + 1 ≤ 140737488355327 := by
  refine ⟨?_, ?_, ?_, ?_, ?_, ?_⟩ <;> omega
theorem T.fits2 (n : Nat) (h : n ≤ 60) : (1 + (n + 1)) * 64 ≤ 140737488355328 ∧ 1 + (n + 1) ≤ 140737488355328 ∧ (1 + (n + 1 + 1)) * 64 ≤ 140737488355328 ∧ 1 + (n + 1 + 1) ≤ 140737488355328 := by
  refine ⟨?_, ?_, ?_, ?_⟩ <;> omega

theorem T.ResolveAny (q : ByteArray) (hq : T.isArrow q = true) (cs : List ByteArray) (hne : cs ≠ []) (hn : cs.length ≤ 60) (hs : ∀ x ∈ cs, T.Nm x) (σ : St) :
    DCalls Try.prog 7 [.full 0 [], .f (.sl 5 ((T.chn q cs).map T.op))] σ (isC (.ret (.tup [.f (T.tree q cs).f, .f (T.I 0)])) σ) := by
  match cs, hne, hn, hs with
  | [c], _, _, hs =>
    have h := T.Resolve1 c (hs c (by simp)) σ
    have h2 : T.tree q [c] = .leaf c := by
      show (if q = ⟨#[45, 62]⟩ then AT.r [c] else AT.l (.leaf c) []) = _
      split <;> rfl
    rw [h2]; exact h
  | c :: d :: ds, _, hn, hs => exact T.ResolveC q hq c d ds (by simp at hn; omega) hs σ

set_option maxRecDepth 8000 in
set_option maxHeartbeats 16000000 in
theorem T.law (ls : List Int) : DCalls2 Try.prog 3 [.f (.sl 1 (ls.map T.I))] ⟨[], []⟩ (fun r _ => r = .ret (.f (T.B true))) := by
  obtain ⟨xs, hxs⟩ : ∃ xs, ls.map T.I = xs := ⟨_, rfl⟩
  have hxl : xs.length = ls.length := by rw [← hxs, List.length_map]
  have hxg : ∀ i, i < xs.length → ∃ x : Int, xs[i]? = some (T.I x) := fun i hi => by
    rw [← hxs, List.getElem?_map]
    exact ⟨ls[i]'(by omega), by rw [List.getElem?_eq_getElem (by omega)]; rfl⟩
  rw [hxs]
  clear hxl hxs
  refine DCalls2_args_of Try.func3 rfl (by simp [Try.ntmps3]) ?_
  simp only [Try.ntmps3]
  repeat' first
    | refine W2_seq_c fun K hK => ?_
    | (refine W2_region (by decide) ?_; simp [go_sem])
    | refine K_use (by assumption) ?_
    | (refine W2_ret ?_; simp [go_sem])
    | (refine W2_skip ?_; simp [go_sem])
    | (refine W2_exit ?_; simp [go_sem])
    | refine W2_block ?_
    | (refine W2_cond (by simp [go_sem]; rfl) ?_; simp only [cond_true, cond_false])
  rename_i K1 hK1
  obtain ⟨N, hN⟩ : ∃ N, N = min xs.length 30 := ⟨_, rfl⟩
  have hrest : ∀ (e : Env) (s : St) (cs : List ByteArray), cs.length ≤ 30 → (∀ x ∈ cs, T.Nm x) → ((cs = [] ∧ e.get 3 = some (.full 0 []) ∧ s = ⟨[], []⟩) ∨ ∃ g, cs ≠ [] ∧ e.get 3 = some (.arr 0 g) ∧ e.get 4 = some (.f (.sl 5 ((T.chn T.L cs.reverse).map T.op))) ∧ s = ⟨[], [⟨28, 5, (T.chn T.R cs).map T.op, g, 0⟩]⟩) → K1 e s := by
    intro e s cs hlen hnm hcase
    refine hK1 e s ?_
    rcases hcase with ⟨rfl, h3, rfl⟩ | ⟨g, hne, h3, h4, rfl⟩
    · skip
      repeat' first
        | refine W2_seq_c fun K hK => ?_
        | (refine W2_region (by decide) ?_; simp [go_sem, h3])
        | refine K_use (by assumption) ?_
        | (refine W2_ret ?_; simp [go_sem, h3])
        | (refine W2_skip ?_; simp [go_sem, h3])
        | (refine W2_exit ?_; simp [go_sem, h3])
        | refine W2_block ?_
        | (refine W2_cond (by simp [go_sem, h3]; rfl) ?_; simp only [cond_true, cond_false])
        | (refine DCalls.mono (by first | exact T.awake _) ?_; rintro _ _ ⟨rfl, rfl⟩; simp [go_sem, h3])
    · obtain ⟨k, hk⟩ : ∃ k, cs.length = k := ⟨_, rfl⟩
      have hk0 : 0 < k := by rw [← hk]; cases cs with | nil => exact absurd rfl hne | cons a b => simp
      have hRs := T.ResolveAny T.R (by decide) cs hne (by omega) hnm
      have hRb := T.ResolveAny T.L (by decide) cs.reverse (by simpa using hne) (by simpa using (by omega : cs.length ≤ 60)) (fun x hx => hnm x (by simpa using hx))
      rw [T.tree_eq cs hne] at hRb
      have htr : T.tree T.R cs = AT.r cs := by cases cs with | nil => exact absurd rfl hne | cons a b => simp [T.tree, T.R]
      rw [htr] at hRs hRb
      have hsame := fun σ => T.same (AT.r cs) false σ
      obtain ⟨x1, x2, x3, x4, hx⟩ := (AT.r cs).f_agg
      rw [hx] at hRs hRb hsame
      obtain ⟨E2, hE2⟩ : ∃ E2, (T.chn T.L cs.reverse).map T.op = E2 := ⟨_, rfl⟩
      rw [hE2] at hRb h4
      obtain ⟨es, hes⟩ : ∃ es, (T.chn T.R cs).map T.op = es := ⟨_, rfl⟩
      rw [hes] at hRs ⊢
      have hel : es.length = 2 * k - 1 := by rw [← hes, List.length_map, T.chn_len _ _ hne, hk]
      have hRs2 : ∀ objs fl, DCalls Try.prog 7 [.full 0 [], .arr 0 g] ⟨objs, [⟨28, 5, es, g, fl⟩]⟩ (isC (.ret (.tup [.f (.agg [x1, x2, x3, x4]), .f (T.I 0)])) ⟨objs, [⟨28, 5, es, g, es.length⟩]⟩) := fun objs fl =>
        DCalls.arg2 (by simp [fzX, fzA, fz, go_sem]) (hRs _)
      have hne0 : ¬ ((es.length : Int) = 0) := by omega
      have hne1 : ¬ (es = []) := by intro e; rw [e] at hel; simp at hel; omega
      repeat' first
        | refine W2_seq_c fun K hK => ?_
        | (refine W2_region (by decide) ?_; simp [go_sem, h3, h4, hne0, hne1])
        | refine K_use (by assumption) ?_
        | (refine W2_ret ?_; simp [go_sem, h3, h4, hne0, hne1])
        | (refine W2_skip ?_; simp [go_sem, h3, h4, hne0, hne1])
        | (refine W2_exit ?_; simp [go_sem, h3, h4, hne0, hne1])
        | refine W2_block ?_
        | (refine W2_cond (by simp [go_sem, h3, h4, hne0, hne1]; rfl) ?_; simp only [cond_true, cond_false])
        | (refine DCalls.mono (by first | exact hRs2 _ _ | exact hRb _ | exact hsame _) ?_; rintro _ _ ⟨rfl, rfl⟩; simp [go_sem, h3, h4, hne0, hne1])
      rename_i K3 hK3
      have hrest2 : ∀ (e : Env) (o : List Ob), e.get 3 = some (.arr 0 g) → K3 e ⟨o, [⟨28, 5, es, g, es.length⟩]⟩ := by
        intro e o h3
        refine hK3 e _ ?_
        refine W2_seq_c fun K5 hK5 => ?_
        have hlast : ∀ (e : Env) (s : St), K5 e s := by
          intro e s
          refine hK5 e s ?_
          repeat' first
            | refine W2_seq_c fun K hK => ?_
            | (refine W2_region (by decide) ?_; simp [go_sem])
            | refine K_use (by assumption) ?_
            | (refine W2_ret ?_; simp [go_sem])
            | (refine W2_skip ?_; simp [go_sem])
            | (refine W2_exit ?_; simp [go_sem])
            | refine W2_block ?_
            | (refine W2_cond (by simp [go_sem]; rfl) ?_; simp only [cond_true, cond_false])
            | (refine DCalls.mono (by first | exact T.awake _) ?_; rintro _ _ ⟨rfl, rfl⟩; simp [go_sem])
        refine W2_seq_c fun K4 hK4 => ?_
        refine W2_region (by decide) ?_
        simp [go_sem, h3]
        refine hK4 _ _ ?_
        by_cases hk3 : 3 ≤ k
        · have h5 : 3 < (es.length : Int) := by omega
          refine W2_cond (by simp [go_sem, h5]; rfl) ?_
          simp only [cond_true]
          refine W2_turn (Turn.thaw 0 3 g rfl (by simp [go_sem, h3]) ?_) ?_
          · rw [← hes]
            simp only [List.all_map, List.all_eq_true]
            intro x _; rfl
          · obtain ⟨c0, c1, c2, ds, hcs⟩ : ∃ c0 c1 c2 ds, cs = c0 :: c1 :: c2 :: ds := by
              match cs, hk with
              | c0 :: c1 :: c2 :: ds, _ => exact ⟨_, _, _, _, rfl⟩
              | [], h => simp at h; omega
              | [a], h => simp at h; omega
              | [a, b], h => simp at h; omega
            have hM := T.ResolveM c0 c1 (T.chn T.R (c2 :: ds)) (by rw [T.chn_len _ _ (by simp)]; rw [hcs] at hlen; simp at hlen ⊢; omega) (hnm _ (by rw [hcs]; simp)) (hnm _ (by rw [hcs]; simp)) (T.chn_word (by decide) _ fun x hx => hnm x (by rw [hcs]; exact List.mem_cons_of_mem _ (List.mem_cons_of_mem _ hx)))
            have hes2 : es.set 1 (T.op T.L) = (c0 :: T.L :: c1 :: T.R :: T.chn T.R (c2 :: ds)).map T.op := by
              rw [← hes, hcs]; rfl
            have hM2 : ∀ objs, DCalls Try.prog 7 [.full 0 [], .arr 0 g] ⟨objs, [⟨28, 5, es.set 1 (T.op T.L), g, 0⟩]⟩ (isC (.ret (.tup [.f T.rawZ, .f (T.I 22)])) ⟨objs, [⟨28, 5, es.set 1 (T.op T.L), g, es.length⟩]⟩) := fun objs =>
              DCalls.arg2 (e := .f (.sl 5 (es.set 1 (T.op T.L)))) (σ' := ⟨objs, [⟨28, 5, es.set 1 (T.op T.L), g, es.length⟩]⟩) (by simp [fzX, fzA, fz, go_sem]) (by rw [hes2]; exact hM _)
            obtain ⟨E3, hE3⟩ : ∃ E3, es.set 1 (T.op T.L) = E3 := ⟨_, rfl⟩
            have hset : es.set 1 (.agg [.lit (.int .i64 1), .lit (.string ⟨#[60, 45]⟩), .lit (.int .i64 0), .sl 0 [], .lit (.bool false)]) = E3 := hE3
            rw [hE3] at hM2
            have hn1 := fun σ => T.name ⟨#[60, 45]⟩ σ
            simp only [T.op, T.rawZ] at hn1 hM2
            have hl1 : 1 < es.length := by omega
            obtain ⟨q1, hq1⟩ : ∃ q1, es[1]? = some q1 := ⟨_, List.getElem?_eq_getElem hl1⟩
            obtain ⟨_, hq2⟩ := T.ge hq1
            repeat' first
              | refine W2_seq_c fun K hK => ?_
              | (refine W2_region (by decide) ?_; simp [go_sem, hset, hl1, hq1, hq2])
              | refine K_use (by assumption) ?_
              | (refine W2_ret ?_; simp [go_sem, hset, hl1, hq1, hq2])
              | (refine W2_skip ?_; simp [go_sem, hset, hl1, hq1, hq2])
              | (refine W2_exit ?_; simp [go_sem, hset, hl1, hq1, hq2])
              | refine W2_block ?_
              | (refine W2_cond (by simp [go_sem, hset, hl1, hq1, hq2]; rfl) ?_; simp only [cond_true, cond_false])
              | (refine DCalls.mono (by first | exact hn1 _ | exact hM2 _ | exact T.awake _) ?_; rintro _ _ ⟨rfl, rfl⟩; simp [go_sem, hset, hl1, hq1, hq2])
        · have h5 : ¬ 3 < (es.length : Int) := by omega
          refine W2_cond (by simp [go_sem, h5]; rfl) ?_
          simp only [cond_false]
          refine W2_skip ?_
          exact hlast _ _
      clear hK3
      refine W2_index (fun i e s => ∃ x1 x2 x3 x4 b, (AT.r (cs.drop i)).f = .agg [x1, x2, x3, x4] ∧ s = ⟨[.cells [.f x1, .f x2, .f x3, .f x4], b], [⟨28, 5, es, g, es.length⟩]⟩ ∧ e.get 3 = some (.arr 0 g) ∧ e.get 7 = some (.ptr 0 0) ∧ e.get 11 = some (.f (T.I i))) (k - 1) 0 (Nat.zero_le _)
        ⟨x1, x2, x3, x4, _, hx, rfl, by simp [go_sem, h3], by simp [go_sem], by simp [go_sem]⟩ ?_ ?_
      · rintro i e s hi ⟨x1, x2, x3, x4, b, hx, rfl, h3, h7, h11⟩ K0 hK0
        obtain ⟨c0, c1, ds, hcd⟩ : ∃ c0 c1 ds, cs.drop i = c0 :: c1 :: ds := by
          have h1 : i < cs.length := by omega
          have h2 : i + 1 < cs.length := by omega
          exact ⟨_, _, _, by rw [List.drop_eq_getElem_cons h1, List.drop_eq_getElem_cons h2]⟩
        have hc0 : cs[i]? = some c0 := by
          have := congrArg (·[0]?) hcd
          simpa using this
        have hdr : cs.drop (i + 1) = c1 :: ds := by
          have := congrArg (List.drop 1) hcd
          simpa [List.drop_drop, Nat.add_comm] using this
        rw [hcd] at hx
        obtain ⟨y1, y2, y3, y4, hy⟩ := (AT.r (c1 :: ds)).f_agg
        simp only [AT.r, AT.f, FVal.agg.injEq, List.cons.injEq, and_true] at hx
        rw [hy] at hx
        obtain ⟨rfl, rfl, rfl, rfl⟩ := hx
        obtain ⟨p, hp⟩ : ∃ p, p = 2 * i := ⟨_, rfl⟩
        have hep : es[p]? = some (T.op c0) := by rw [← hes, List.getElem?_map, hp, T.chn_even _ cs i (by omega), hc0]; rfl
        obtain ⟨hep1, hep2⟩ := T.ge hep
        simp only [T.op] at hep hep2
        have hs := fun σ => T.same (.leaf c0) true σ
        simp only [AT.f] at hs
        have htd : ((es.length : Int)).tdiv 2 = ((k - 1 : Nat) : Int) := by
          have : (es.length : Int) = ((2 * k - 1 : Nat) : Int) := by rw [hel]
          rw [this]
          have h2 : ((2 * k - 1 : Nat) : Int).tdiv 2 = (((2 * k - 1) / 2 : Nat) : Int) := (Int.ofNat_tdiv (2 * k - 1) 2).symm
          rw [h2]; congr 1; omega
        obtain ⟨k1, hk1⟩ : ∃ k1, k1 = k - 1 := ⟨_, rfl⟩
        rw [← hk1] at htd
        have hw1 : IntKind.i64.wrap (k1 : Int) = k1 := T.wrap (by omega) (by omega)
        have hw2 : IntKind.i64.wrap ((k1 : Int) + 1) = (k1 : Int) + 1 := T.wrap (by omega) (by omega)
        have hw3 : IntKind.i64.wrap ((i : Int) + 1) = (i : Int) + 1 := T.wrap (by omega) (by omega)
        have hw4 : IntKind.i64.wrap (2 * (i : Int)) = (p : Int) := by rw [T.wrap (by omega) (by omega)]; omega
        have hlt : (i : Int) < k1 := by omega
        have hpl : (p : Int) < es.length := by omega
        repeat' first
          | refine W2_seq_c fun K hK => ?_
          | (refine W2_region (by decide) ?_; simp [go_sem, h3, h7, h11, htd, hw1, hw2, hw3, hw4, hlt, hep, hep1, hep2, hpl])
          | refine K_use (by assumption) ?_
          | (refine W2_ret ?_; simp [go_sem, h3, h7, h11, htd, hw1, hw2, hw3, hw4, hlt, hep, hep1, hep2, hpl])
          | (refine W2_skip ?_; simp [go_sem, h3, h7, h11, htd, hw1, hw2, hw3, hw4, hlt, hep, hep1, hep2, hpl])
          | (refine W2_exit ?_; simp [go_sem, h3, h7, h11, htd, hw1, hw2, hw3, hw4, hlt, hep, hep1, hep2, hpl])
          | refine W2_block ?_
          | (refine W2_cond (by simp [go_sem, h3, h7, h11, htd, hw1, hw2, hw3, hw4, hlt, hep, hep1, hep2, hpl]; rfl) ?_; simp only [cond_true, cond_false])
          | (refine DCalls.mono (by first | exact hs _) ?_; rintro _ _ ⟨rfl, rfl⟩; simp [go_sem, h3, h7, h11, htd, hw1, hw2, hw3, hw4, hlt, hep, hep1, hep2, hpl])
          | (refine W2_draw T.hm ⟨[0, 1, 3, 7, 15, 31, 63, 127, 15, 15, 527, 1807, 3855, 7951, 16383, 32767, 65535], [14], [([0, 1, 2, 3, 4, 5, 6, 7, 8, 9, 10, 11, 12, 13], []), ([15, 16], [])]⟩ (by decide +kernel) ?_; simp [go_sem, h3, h7, h11, htd, hw1, hw2, hw3, hw4, hlt, hep, hep1, hep2, hpl])
        exact ⟨y1, y2, y3, y4, b, by rw [hdr]; exact hy, rfl, by simp [go_sem, h3], by simp [go_sem, h7], by simp [go_sem]⟩
      · rintro e s ⟨x1, x2, x3, x4, b, hx, rfl, h3, h7, h11⟩ K0
        have htd : ((es.length : Int)).tdiv 2 = ((k - 1 : Nat) : Int) := by
          have : (es.length : Int) = ((2 * k - 1 : Nat) : Int) := by rw [hel]
          rw [this]
          have h2 : ((2 * k - 1 : Nat) : Int).tdiv 2 = (((2 * k - 1) / 2 : Nat) : Int) := (Int.ofNat_tdiv (2 * k - 1) 2).symm
          rw [h2]; congr 1; omega
        obtain ⟨k1, hk1⟩ : ∃ k1, k1 = k - 1 := ⟨_, rfl⟩
        rw [← hk1] at htd h11
        have hw1 : IntKind.i64.wrap (k1 : Int) = k1 := T.wrap (by omega) (by omega)
        have hw2 : IntKind.i64.wrap ((k1 : Int) + 1) = (k1 : Int) + 1 := T.wrap (by omega) (by omega)
        repeat' first
          | refine W2_seq_c fun K hK => ?_
          | (refine W2_region (by decide) ?_; simp [go_sem, h3, h7, h11, htd, hw1, hw2])
          | refine K_use (by assumption) ?_
          | (refine W2_ret ?_; simp [go_sem, h3, h7, h11, htd, hw1, hw2])
          | (refine W2_skip ?_; simp [go_sem, h3, h7, h11, htd, hw1, hw2])
          | (refine W2_exit ?_; simp [go_sem, h3, h7, h11, htd, hw1, hw2])
          | refine W2_block ?_
          | (refine W2_cond (by simp [go_sem, h3, h7, h11, htd, hw1, hw2]; rfl) ?_; simp only [cond_true, cond_false])
        refine hrest2 _ _ ?_
        simp [go_sem, h3]
  clear hK1
  refine W2_indexT (fun i e s => ∃ (cs : List ByteArray) (S D : DVal), cs.length = i ∧ (∀ x ∈ cs, T.Nm x) ∧ e.get 0 = some (.f (.sl 1 xs)) ∧ e.get 5 = some (.f (T.I i)) ∧ e.get 3 = some S ∧ e.get 4 = some D ∧
      ((cs = [] ∧ S = .full 0 [] ∧ D = .full 0 [] ∧ s = ⟨[], []⟩) ∨ ∃ g, cs ≠ [] ∧ S = .arr 0 g ∧ D = .f (.sl 5 ((T.chn T.L cs.reverse).map T.op)) ∧ s = ⟨[], [⟨28, 5, (T.chn T.R cs).map T.op, g, 0⟩]⟩)) N 0 (Nat.zero_le _)
    ⟨[], _, _, rfl, by simp, by simp [go_sem], by simp [go_sem], by simp [go_sem], by simp [go_sem], .inl ⟨rfl, rfl, rfl, rfl⟩⟩ ?_ ?_
  · rintro i e s hi ⟨cs, S, D, hlen, hnm, h0, h5, h3, h4, hcase⟩ K0 hK0
    have hi1 : i < xs.length := by omega
    have hi2 : (i : Int) < 30 := by omega
    have hi3 : (i : Int) < xs.length := by omega
    obtain ⟨x, hx⟩ := hxg i hi1
    obtain ⟨_, hx2⟩ := T.ge hx
    obtain ⟨j, hj, hcut⟩ := T.cut x
    obtain ⟨c, hc, hlook⟩ := T.letter j hj
    have hnam := fun s σ => T.name s σ
    have hw : IntKind.i64.wrap ((i : Int) + 1) = (i : Int) + 1 := T.wrap (by omega) (by omega)
    simp only [T.op] at hnam
    rcases hcase with ⟨rfl, rfl, rfl, rfl⟩ | ⟨g, hne, rfl, rfl, rfl⟩
    · have hi0 : i = 0 := by simpa using hlen.symm
      subst hi0
      repeat' first
        | refine W2_seq_c fun K hK => ?_
        | (refine W2_region (by decide) ?_; simp [go_sem, h0, h5, h3, h4, hi1, hi3, hx, hx2, hlook, hw])
        | refine K_use (by assumption) ?_
        | (refine W2_ret ?_; simp [go_sem, h0, h5, h3, h4, hi1, hi3, hx, hx2, hlook, hw])
        | (refine W2_skip ?_; simp [go_sem, h0, h5, h3, h4, hi1, hi3, hx, hx2, hlook, hw])
        | (refine W2_exit ?_; simp [go_sem, h0, h5, h3, h4, hi1, hi3, hx, hx2, hlook, hw])
        | refine W2_block ?_
        | (refine W2_cond (by simp [go_sem, h0, h5, h3, h4, hi1, hi3, hx, hx2, hlook, hw]; rfl) ?_; simp only [cond_true, cond_false])
        | (refine DCalls.mono (by first | exact hcut _ | exact hnam _ _) ?_; rintro _ _ ⟨rfl, rfl⟩; simp [go_sem, h0, h5, h3, h4, hi1, hi3, hx, hx2, hlook, hw])
      obtain ⟨o, ho⟩ : ∃ o, T.op c = o := ⟨_, rfl⟩
      simp only [T.op] at ho
      rw [ho]
      refine hK0 _ _ [(0, .f (.sl 1 xs)), (3, .arr 0 0), (4, .f (.sl 5 [o])), (5, .f (T.I 1))] ⟨[], [⟨28, 5, [o], 0, 0⟩]⟩ (Turn.trans (Turn.fz 4 (d := .full 5 [o]) (d' := .f (.sl 5 [o])) ?_ rfl) (Turn.keep 0 rfl ?_)) ?_
      · simp [go_sem]
      · simp [keep1, go_sem, h0]
      · refine ⟨[c], .arr 0 0, .f (.sl 5 [o]), rfl, by simpa using hc, by simp [go_sem], by simp [go_sem], by simp [go_sem], by simp [go_sem], .inr ⟨0, by simp, rfl, ?_, ?_⟩⟩
        · rw [← ho]; rfl
        · rw [← ho]; rfl
    · obtain ⟨es, hes⟩ : ∃ es, (T.chn T.R cs).map T.op = es := ⟨_, rfl⟩
      obtain ⟨E2, hE2⟩ : ∃ E2, (T.chn T.L cs.reverse).map T.op = E2 := ⟨_, rfl⟩
      have hi0 : 0 < i := by cases cs with | nil => exact absurd rfl hne | cons a b => simp at hlen; omega
      have hel : es.length = 2 * i - 1 := by rw [← hes, List.length_map, T.chn_len _ _ hne, hlen]
      have hEl : E2.length = 2 * i - 1 := by rw [← hE2, List.length_map, T.chn_len _ _ (by simpa using hne), List.length_reverse, hlen]
      obtain ⟨y, ys, hys⟩ : ∃ y ys, E2 = y :: ys := by cases E2 with | nil => simp at hEl; omega | cons y ys => exact ⟨y, ys, rfl⟩
      have hyl : ys.length + 1 = 2 * i - 1 := by rw [← hEl, hys]; rfl
      rw [hE2, hys] at h4
      rw [hes]
      have hq1 : es.length ≤ 60 := by omega
      have hq2 : ys.length ≤ 60 := by omega
      clear hel hEl hyl hN
      obtain ⟨hb1, hb2, hb3, hb4, hb5, hb6⟩ := T.fits1 es.length hq1
      obtain ⟨hc1, hc2, hc3, hc4⟩ := T.fits2 ys.length hq2
      repeat' first
        | refine W2_seq_c fun K hK => ?_
        | (refine W2_region (by decide) ?_; simp [go_sem, h0, h5, h3, h4, hi0, hi1, hi2, hi3, hx, hx2, hlook, hw, hb1, hb2, hb3, hb4, hb5, hb6, hc1, hc2, hc3, hc4])
        | refine K_use (by assumption) ?_
        | (refine W2_ret ?_; simp [go_sem, h0, h5, h3, h4, hi0, hi1, hi2, hi3, hx, hx2, hlook, hw, hb1, hb2, hb3, hb4, hb5, hb6, hc1, hc2, hc3, hc4])
        | (refine W2_skip ?_; simp [go_sem, h0, h5, h3, h4, hi0, hi1, hi2, hi3, hx, hx2, hlook, hw, hb1, hb2, hb3, hb4, hb5, hb6, hc1, hc2, hc3, hc4])
        | (refine W2_exit ?_; simp [go_sem, h0, h5, h3, h4, hi0, hi1, hi2, hi3, hx, hx2, hlook, hw, hb1, hb2, hb3, hb4, hb5, hb6, hc1, hc2, hc3, hc4])
        | refine W2_block ?_
        | (refine W2_cond (by simp [go_sem, h0, h5, h3, h4, hi0, hi1, hi2, hi3, hx, hx2, hlook, hw, hb1, hb2, hb3, hb4, hb5, hb6, hc1, hc2, hc3, hc4]; rfl) ?_; simp only [cond_true, cond_false])
        | (refine DCalls.mono (by first | exact hcut _ | exact hnam _ _) ?_; rintro _ _ ⟨rfl, rfl⟩; simp [go_sem, h0, h5, h3, h4, hi0, hi1, hi2, hi3, hx, hx2, hlook, hw, hb1, hb2, hb3, hb4, hb5, hb6, hc1, hc2, hc3, hc4])
      have hne2 : cs.reverse ≠ [] := by simpa using hne
      refine hK0 _ _ [(0, .f (.sl 1 xs)), (3, .arr 0 (g + 1 + 1)), (4, .f (.sl 5 (T.op c :: T.op T.L :: y :: ys))), (5, .f (T.I ((i : Int) + 1)))] ⟨[], [⟨28, 5, es ++ [T.op T.R, T.op c], g + 1 + 1, 0⟩]⟩
        ?_ ?_
      · refine Turn.trans (Turn.fz 4 (d := .arr 2 0) (d' := .f (.sl 5 (T.op c :: T.op T.L :: y :: ys))) (by simp [go_sem]) rfl) (Turn.keep 0 rfl ?_)
        simp [keep1, go_sem, h0]
      · refine ⟨cs ++ [c], .arr 0 (g + 1 + 1), .f (.sl 5 (T.op c :: T.op T.L :: y :: ys)), by simp [hlen], ?_, by simp [go_sem], by simp [go_sem], by simp [go_sem], by simp [go_sem], .inr ⟨g + 1 + 1, by simp, rfl, ?_, ?_⟩⟩
        · intro z hz
          rcases List.mem_append.1 hz with hz | hz
          · exact hnm z hz
          · have : z = c := by simpa using hz
            rw [this]; exact hc
        · rw [List.reverse_append, List.reverse_singleton, List.singleton_append, T.chn_cons _ _ _ hne2, List.map_cons, List.map_cons, hE2, hys]
        · rw [T.chn_snoc _ _ _ hne, List.map_append, hes]; rfl
  · rintro e s ⟨cs, S, D, hlen, hnm, h0, h5, h3, h4, hcase⟩ K
    have hfin : ∀ e2, Env.get e2 3 = e.get 3 → Env.get e2 4 = e.get 4 → K1 e2 s := fun e2 he3 he4 => by
      refine hrest e2 s cs (by omega) hnm ?_
      rw [he3, he4]
      rcases hcase with ⟨h1, rfl, rfl, h2⟩ | ⟨g, h1, rfl, rfl, h2⟩
      · exact .inl ⟨h1, h3, h2⟩
      · exact .inr ⟨g, h1, h3, h4, h2⟩
    by_cases hl : N < xs.length
    · have hl1 : (N : Int) < xs.length := by omega
      have hl2 : ¬ ((N : Int) < 30) := by omega
      repeat' first
        | refine W2_seq_c fun K hK => ?_
        | (refine W2_region (by decide) ?_; simp [go_sem, h0, h5, hl1, hl2])
        | refine K_use (by assumption) ?_
        | (refine W2_ret ?_; simp [go_sem, h0, h5, hl1, hl2])
        | (refine W2_skip ?_; simp [go_sem, h0, h5, hl1, hl2])
        | (refine W2_exit ?_; simp [go_sem, h0, h5, hl1, hl2])
        | refine W2_block ?_
        | (refine W2_cond (by simp [go_sem, h0, h5, hl1, hl2]; rfl) ?_; simp only [cond_true, cond_false])
      exact hfin _ (by simp [go_sem]) (by simp [go_sem])
    · have hl1 : ¬ (N : Int) < xs.length := by omega
      repeat' first
        | refine W2_seq_c fun K hK => ?_
        | (refine W2_region (by decide) ?_; simp [go_sem, h0, h5, hl1])
        | refine K_use (by assumption) ?_
        | (refine W2_ret ?_; simp [go_sem, h0, h5, hl1])
        | (refine W2_skip ?_; simp [go_sem, h0, h5, hl1])
        | (refine W2_exit ?_; simp [go_sem, h0, h5, hl1])
        | refine W2_block ?_
        | (refine W2_cond (by simp [go_sem, h0, h5, hl1]; rfl) ?_; simp only [cond_true, cond_false])
      exact hfin _ (by simp [go_sem]) (by simp [go_sem])
end Go.Proofs
