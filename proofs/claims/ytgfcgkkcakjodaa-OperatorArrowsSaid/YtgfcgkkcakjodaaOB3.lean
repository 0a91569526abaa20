/-
  A part of the proof of OperatorArrows: resolver.binary of a chain with one kind of arrow gives the tree that groups to its side. No condition of its own.
-/
import Derived.Test.YtgfcgkkcakjodaaOB2
set_option linter.unusedVariables false
set_option linter.unusedSimpArgs false
namespace Go.Proofs
open Go Go.DL

/-- Names with an arrow between them. -/
def T.chn (q : ByteArray) : List ByteArray → List ByteArray
  | [] => []
  | [c] => [c]
  | c :: cs => c :: q :: T.chn q cs
/-- The tree that groups to the right. -/
def AT.r : List ByteArray → AT
  | [] => .leaf ⟨#[]⟩
  | [c] => .leaf c
  | c :: cs => .node (.leaf c) (AT.r cs)
/-- The tree that groups to the left, of '<-'. -/
def AT.l : AT → List ByteArray → AT
  | a, [] => a
  | a, c :: cs => AT.l (.node (.leaf c) a) cs
theorem AT.l_snoc : ∀ (xs : List ByteArray) (a : AT) (x : ByteArray), AT.l a (xs ++ [x]) = .node (.leaf x) (AT.l a xs)
  | [], a, x => rfl
  | y :: ys, a, x => AT.l_snoc ys _ x
def T.tree (q : ByteArray) : List ByteArray → AT
  | [] => .leaf ⟨#[]⟩
  | c :: cs => if q = ⟨#[45, 62]⟩ then AT.r (c :: cs) else AT.l (.leaf c) cs
def T.odds (k : Nat) : List FVal := (List.range k).map fun j : Nat => T.I ((2 * j + 1 : Nat) : Int)

theorem T.chn_even (q : ByteArray) : ∀ (cs : List ByteArray) (i : Nat), i < cs.length → (T.chn q cs)[2 * i]? = cs[i]?
  | [], i, h => by simp at h
  | [c], i, h => by
    have : i = 0 := by simpa using h
    subst this; rfl
  | c :: d :: cs, i, h => by
    cases i with
    | zero => rfl
    | succ i =>
      have := T.chn_even q (d :: cs) i (by simpa using h)
      show (c :: q :: T.chn q (d :: cs))[2 * (i + 1)]? = _
      rw [show 2 * (i + 1) = 2 * i + 1 + 1 by omega]
      simpa using this
theorem T.chn_odd (q : ByteArray) : ∀ (cs : List ByteArray) (i : Nat), i + 1 < cs.length → (T.chn q cs)[2 * i + 1]? = some q
  | [], i, h => by simp at h
  | [c], i, h => by simp at h
  | c :: d :: cs, i, h => by
    cases i with
    | zero => rfl
    | succ i =>
      have := T.chn_odd q (d :: cs) i (by simpa using h)
      show (c :: q :: T.chn q (d :: cs))[2 * (i + 1) + 1]? = _
      rw [show 2 * (i + 1) + 1 = 2 * i + 1 + 1 + 1 by omega]
      simpa using this
theorem T.chn_len (q : ByteArray) : ∀ (cs : List ByteArray), cs ≠ [] → (T.chn q cs).length = 2 * cs.length - 1
  | [], h => absurd rfl h
  | [c], _ => rfl
  | c :: d :: cs, _ => by
    have := T.chn_len q (d :: cs) (by simp)
    show (c :: q :: T.chn q (d :: cs)).length = _
    simp only [List.length_cons] at this ⊢
    omega

theorem T.odds_get {n i : Nat} (h : i < n) : (T.odds n)[i]? = some (T.I ((i : Int) * 2 + 1)) := by
  unfold T.odds
  rw [List.getElem?_map, List.getElem?_range h]
  simp only [Option.map_some, Option.some.injEq, T.I, FVal.lit.injEq, Value.int.injEq, true_and]
  omega
theorem T.odds_succ (n : Nat) : T.odds (n + 1) = T.odds n ++ [T.I ((2 * n + 1 : Nat) : Int)] := by
  simp [T.odds, List.range_succ]
def T.leaves (cs : List ByteArray) : List FVal := cs.map fun c => (AT.leaf c).f

set_option maxRecDepth 8000 in
set_option maxHeartbeats 16000000 in
/-- The parts between the operators, joined. -/
theorem T.binary {σ : St} {r m : Nat} {b : Int} (h : T.Rv σ r m b) (q : ByteArray) (hq : T.isArrow q = true) (c d : ByteArray) (ds : List ByteArray) (hn : ds.length ≤ 400) (hs : ∀ x ∈ c :: d :: ds, T.Nm x) :
    DCalls Try.prog 38 [.ptr r 0, .f (.sl 5 ((T.chn q (c :: d :: ds)).map T.op)), .f (.sl 1 (T.odds (ds.length + 1))), .f (T.I (T.fix q))] σ (isC (.ret (.tup [.f (T.tree q (c :: d :: ds)).f, .f (T.B true)])) σ) := by
  generalize hcs : c :: d :: ds = cs at *
  have hlen : cs.length = ds.length + 2 := by rw [← hcs]; simp
  generalize hes : (T.chn q cs).map T.op = es
  have hel : es.length = 2 * (ds.length + 1) + 1 := by rw [← hes, List.length_map, T.chn_len q cs (by rw [← hcs]; simp)]; omega
  obtain ⟨o1, hodds⟩ : ∃ o1, T.odds (ds.length + 1) = o1 := ⟨_, rfl⟩
  have hol : o1.length = ds.length + 1 := by rw [← hodds]; simp [T.odds]
  obtain ⟨y, ys, hys⟩ : ∃ y ys, o1 = y :: ys := by cases o1 with | nil => simp at hol | cons y ys => exact ⟨y, ys, rfl⟩
  have hyl : ys.length = ds.length := by rw [hys] at hol; simpa using hol
  rw [hodds, hys]
  have hcl := fun σ => T.clone49n y ys (by omega) σ
  refine DCalls.pure1 rfl ?_
  refine DCalls_args_of Try.func38 rfl (by simp [Try.ntmps38]) ?_
  simp only [Try.ntmps38]
  have hb1 : (ys.length + 1 + 1) * 8 ≤ 140737488355328 := by omega
  have hb2 : ys.length + 1 + 1 ≤ 140737488355328 := by omega
  have hb3 : ys.length + 1 ≤ 140737488355327 := by omega
  have hb4 : ys.length ≤ 140737488355326 := by omega
  repeat' first
    | refine W_seq_c fun K hK => ?_
    | (refine W_region (by decide) ?_; simp [go_sem, hb1, hb2, hb3, hb4])
    | refine K_use (by assumption) ?_
    | (refine W_ret ?_; simp [go_sem, hb1, hb2, hb3, hb4])
    | (refine W_skip ?_; simp [go_sem, hb1, hb2, hb3, hb4])
    | (refine W_exit ?_; simp [go_sem, hb1, hb2, hb3, hb4])
    | refine W_block ?_
    | (refine W_cond (by simp [go_sem, hb1, hb2, hb3, hb4]; rfl) ?_; simp only [cond_true, cond_false])
    | (refine DCalls.mono (by first | exact hcl _) ?_; rintro _ _ ⟨rfl, rfl⟩; simp [go_sem, hb1, hb2, hb3, hb4])
  have hEq : y :: (ys ++ [.lit (.int .i64 (es.length : Int))]) = T.odds (ds.length + 2) := by
    rw [T.odds_succ, hodds, hys, hel]; rfl
  simp only [hEq]
  obtain ⟨E, hE⟩ : ∃ E, T.odds (ds.length + 2) = E := ⟨_, rfl⟩
  have hEl : E.length = ds.length + 2 := by rw [← hE]; simp [T.odds]
  rw [hE]
  refine W_index (fun i e s => ∃ l m' D, s = ⟨σ.objs ++ .cells [.f (T.I 0), .f (T.S ⟨#[]⟩), .f (T.I 0), .full 0 []] :: l, σ.arrs ++ ⟨3, 1, E, 1, 0⟩ :: m'⟩ ∧ e.get 10 = some D ∧
      ((i = 0 ∧ D = .full 0 [] ∧ m' = []) ∨ ∃ g, 1 ≤ i ∧ D = .arr (σ.arrs.length + 1) g ∧ m' = [⟨26, 4, T.leaves (cs.take i), g, 0⟩]) ∧
      e.get 0 = some (.ptr r 0) ∧ e.get 1 = some (.f (.sl 5 es)) ∧ e.get 2 = some (.f (.sl 1 (y :: ys))) ∧ e.get 3 = some (.f (T.I (T.fix q))) ∧ e.get 8 = some (.ptr σ.objs.length 0) ∧ (∃ p : Nat, p = 2 * i ∧ e.get 11 = some (.f (T.I (p : Int)))) ∧ e.get 26 = some (.arr σ.arrs.length 1) ∧ e.get 27 = some (.f (T.I ((ds.length : Int) + 1 + 1))) ∧ e.get 28 = some (.f (T.I i))) (ds.length + 2) 0 (Nat.zero_le _)
    ⟨[], [], _, by simp, by simp [go_sem], .inl ⟨rfl, rfl, rfl⟩, by simp [go_sem, hyl]⟩ ?_ ?_
  · rintro i e s hi ⟨l, m', D, rfl, h10, hD, h0, h1, h2, h3, h8, ⟨p, hp, h11⟩, h26, h27, h28⟩ K hK
    have hi1 : (i : Int) < (ds.length : Int) + 1 + 1 := by omega
    have hi2 : (i : Int) < (ds.length : Int) + 2 := by omega
    have hw : IntKind.i64.wrap ((i : Int) + 1) = (i : Int) + 1 := T.wrap (by omega) (by omega)
    have hw2 : IntKind.i64.wrap ((p : Int) + 1 + 1) = (p : Int) + 1 + 1 := T.wrap (by omega) (by omega)
    have hEi : E[i]? = some (T.I ((p : Int) + 1)) := by rw [← hE, T.odds_get hi]; congr 4; omega
    obtain ⟨ci, hci⟩ : ∃ ci, cs[i]? = some ci := ⟨_, List.getElem?_eq_getElem (by omega)⟩
    have hci2 : T.Nm ci := hs ci (List.mem_of_getElem? hci)
    have hep : es[p]? = some (T.op ci) := by rw [← hes, List.getElem?_map, hp, T.chn_even q cs i (by omega), hci]; rfl
    have hcut : (es.take (p + 1)).drop p = [T.op ci] := by
      rw [List.take_add_one, hep]
      have : p ≤ es.length := by omega
      rw [List.drop_append_of_le_length (by simp; omega)]
      simp
    have hple : p + 1 ≤ es.length := by omega
    have hple2 : (p : Int) + 1 ≤ es.length := by omega
    have hpp : (p : Int) ≤ (p : Int) + 1 := by omega
    have hres := fun l a => T.resolve1 (h.app l a) hci2
    obtain ⟨z1, z2, z3, z4, hz⟩ := (AT.leaf ci).f_agg
    rw [hz] at hres
    rcases hD with ⟨hi0, rfl, rfl⟩ | ⟨g, hg, rfl, rfl⟩
    · skip
      repeat' first
        | refine W_seq_c fun K hK => ?_
        | (refine W_region (by decide) ?_; simp [go_sem, h0, h1, h2, h3, h8, h10, h11, h26, h27, h28, hi1, hi2, hw, hw2, hEi, hEl, hcut, hple, hple2, hpp])
        | refine K_use (by assumption) ?_
        | (refine W_ret ?_; simp [go_sem, h0, h1, h2, h3, h8, h10, h11, h26, h27, h28, hi1, hi2, hw, hw2, hEi, hEl, hcut, hple, hple2, hpp])
        | (refine W_skip ?_; simp [go_sem, h0, h1, h2, h3, h8, h10, h11, h26, h27, h28, hi1, hi2, hw, hw2, hEi, hEl, hcut, hple, hple2, hpp])
        | (refine W_exit ?_; simp [go_sem, h0, h1, h2, h3, h8, h10, h11, h26, h27, h28, hi1, hi2, hw, hw2, hEi, hEl, hcut, hple, hple2, hpp])
        | refine W_block ?_
        | (refine W_cond (by simp [go_sem, h0, h1, h2, h3, h8, h10, h11, h26, h27, h28, hi1, hi2, hw, hw2, hEi, hEl, hcut, hple, hple2, hpp]; rfl) ?_; simp only [cond_true, cond_false])
        | (refine DCalls.mono (by first | exact hres _ _) ?_; rintro _ _ ⟨rfl, rfl⟩; simp [go_sem, h0, h1, h2, h3, h8, h10, h11, h26, h27, h28, hi1, hi2, hw, hw2, hEi, hEl, hcut, hple, hple2, hpp])
      have ht : T.leaves (cs.take (i + 1)) = [.agg [z1, z2, z3, z4]] := by
        subst hi0
        rw [List.take_add_one, hci]
        simp [T.leaves, hz]
      refine ⟨_, _, .arr (σ.arrs.length + 1) 0, rfl, by simp [go_sem], .inr ⟨0, by omega, rfl, by rw [ht]⟩, by simp [go_sem, h0], by simp [go_sem, h1], by simp [go_sem, h2], by simp [go_sem, h3], by simp [go_sem, h8], ⟨p + 2, by omega, by simp [go_sem]; omega⟩, by simp [go_sem, h26], by simp [go_sem, h27], by simp [go_sem]⟩
    · have hll : (T.leaves (cs.take i)).length = i := by simp [T.leaves]; omega
      obtain ⟨L, hL⟩ : ∃ L, T.leaves (cs.take i) = L := ⟨_, rfl⟩
      rw [hL] at hll ⊢
      have hc1 : (i + 1) * 56 ≤ 140737488355328 := by omega
      have hc2 : i + 1 ≤ 140737488355328 := by omega
      have hc3 : i ≤ 140737488355327 := by omega
      repeat' first
        | refine W_seq_c fun K hK => ?_
        | (refine W_region (by decide) ?_; simp [go_sem, h0, h1, h2, h3, h8, h10, h11, h26, h27, h28, hi1, hi2, hw, hw2, hEi, hEl, hcut, hple, hple2, hpp, hll, hc1, hc2, hc3])
        | refine K_use (by assumption) ?_
        | (refine W_ret ?_; simp [go_sem, h0, h1, h2, h3, h8, h10, h11, h26, h27, h28, hi1, hi2, hw, hw2, hEi, hEl, hcut, hple, hple2, hpp, hll, hc1, hc2, hc3])
        | (refine W_skip ?_; simp [go_sem, h0, h1, h2, h3, h8, h10, h11, h26, h27, h28, hi1, hi2, hw, hw2, hEi, hEl, hcut, hple, hple2, hpp, hll, hc1, hc2, hc3])
        | (refine W_exit ?_; simp [go_sem, h0, h1, h2, h3, h8, h10, h11, h26, h27, h28, hi1, hi2, hw, hw2, hEi, hEl, hcut, hple, hple2, hpp, hll, hc1, hc2, hc3])
        | refine W_block ?_
        | (refine W_cond (by simp [go_sem, h0, h1, h2, h3, h8, h10, h11, h26, h27, h28, hi1, hi2, hw, hw2, hEi, hEl, hcut, hple, hple2, hpp, hll, hc1, hc2, hc3]; rfl) ?_; simp only [cond_true, cond_false])
        | (refine DCalls.mono (by first | exact hres _ _) ?_; rintro _ _ ⟨rfl, rfl⟩; simp [go_sem, h0, h1, h2, h3, h8, h10, h11, h26, h27, h28, hi1, hi2, hw, hw2, hEi, hEl, hcut, hple, hple2, hpp, hll, hc1, hc2, hc3])
      have ht : T.leaves (cs.take (i + 1)) = L ++ [.agg [z1, z2, z3, z4]] := by
        rw [List.take_add_one, hci]
        simp only [T.leaves, List.map_append] at hL ⊢
        rw [hL]; simp [hz]
      refine ⟨_, _, .arr (σ.arrs.length + 1) (g + 1), rfl, by simp [go_sem], .inr ⟨g + 1, by omega, rfl, by rw [ht]⟩, by simp [go_sem, h0], by simp [go_sem, h1], by simp [go_sem, h2], by simp [go_sem, h3], by simp [go_sem, h8], ⟨p + 2, by omega, by simp [go_sem]; omega⟩, by simp [go_sem, h26], by simp [go_sem, h27], by simp [go_sem]⟩
  · rintro e s ⟨l, m', D, rfl, h10, hD, h0, h1, h2, h3, h8, ⟨p, hp, h11⟩, h26, h27, h28⟩ K
    rcases hD with ⟨hi0, _⟩ | ⟨g, hg, rfl, rfl⟩
    · omega
    have htk : cs.take (ds.length + 2) = cs := List.take_of_length_le (by omega)
    rw [htk]
    obtain ⟨L, hL⟩ : ∃ L, T.leaves cs = L := ⟨_, rfl⟩
    have hLl : L.length = ds.length + 2 := by rw [← hL]; simp [T.leaves, hlen]
    rw [hL]
    have hLg : ∀ (j : Nat) (cj : ByteArray), cs[j]? = some cj → L[j]? = some (AT.leaf cj).f := fun j cj hj => by rw [← hL]; unfold T.leaves; rw [List.getElem?_map, hj]; rfl
    by_cases hq1 : q = ⟨#[45, 62]⟩
    · have hfx : T.fix q = 5 := by simp [T.fix, hq1]
      rw [hfx] at h3
      obtain ⟨cl, hcl2⟩ : ∃ cl, cs[ds.length + 1]? = some cl := ⟨_, List.getElem?_eq_getElem (by omega)⟩
      have hlast := hLg _ _ hcl2
      have hi1 : ¬ ((ds.length : Int) + 2 < (ds.length : Int) + 1 + 1) := by omega
      have hw1 : IntKind.i64.wrap ((ds.length : Int) + 2 - 1) = ((ds.length + 1 : Nat) : Int) := by rw [T.wrap (by omega) (by omega)]; omega
      have hw3 : IntKind.i64.wrap ((ds.length : Int) + 1 - 1) = (ds.length : Int) := by rw [T.wrap (by omega) (by omega)]; omega
      have hlt1 : (ds.length : Int) + 1 < (ds.length : Int) + 2 := by omega
      have hlt2 : (0 : Int) ≤ (ds.length : Int) + 1 := by omega
      obtain ⟨z1, z2, z3, z4, hz⟩ := (AT.leaf cl).f_agg
      rw [hz] at hlast
      obtain ⟨hlx, hlast2⟩ := T.ge hlast
      repeat' first
        | refine W_seq_c fun K hK => ?_
        | (refine W_region (by decide) ?_; simp [go_sem, h0, h1, h2, h3, h8, h10, h11, h26, h27, h28, hi1, hLl, hw1, hw3, hyl, hlast2, hlt1, hlt2])
        | refine K_use (by assumption) ?_
        | (refine W_ret ?_; simp [go_sem, h0, h1, h2, h3, h8, h10, h11, h26, h27, h28, hi1, hLl, hw1, hw3, hyl, hlast2, hlt1, hlt2])
        | (refine W_skip ?_; simp [go_sem, h0, h1, h2, h3, h8, h10, h11, h26, h27, h28, hi1, hLl, hw1, hw3, hyl, hlast2, hlt1, hlt2])
        | (refine W_exit ?_; simp [go_sem, h0, h1, h2, h3, h8, h10, h11, h26, h27, h28, hi1, hLl, hw1, hw3, hyl, hlast2, hlt1, hlt2])
        | refine W_block ?_
        | (refine W_cond (by simp [go_sem, h0, h1, h2, h3, h8, h10, h11, h26, h27, h28, hi1, hLl, hw1, hw3, hyl, hlast2, hlt1, hlt2]; rfl) ?_; simp only [cond_true, cond_false])
      have hw0 : IntKind.i64.wrap (ds.length : Int) = (ds.length : Int) := T.wrap (by omega) (by omega)
      have hdl : cs.drop (ds.length + 1) = [cl] := by
        have h1 : ds.length + 1 < cs.length := by omega
        rw [List.drop_eq_getElem_cons h1, List.drop_of_length_le (by omega)]
        rw [List.getElem?_eq_getElem h1] at hcl2
        rw [Option.some.inj hcl2]
      refine W_index (fun j e s => ∃ x1 x2 x3 x4, (AT.r (cs.drop (ds.length + 1 - j))).f = .agg [x1, x2, x3, x4] ∧
          s = ⟨σ.objs ++ .cells [.f (T.I 0), .f (T.S ⟨#[]⟩), .f (T.I 0), .full 0 []] :: (l ++ [.cells [.f x1, .f x2, .f x3, .f x4]]), σ.arrs ++ [⟨3, 1, E, 1, 0⟩, ⟨26, 4, L, g, 0⟩]⟩ ∧
          e.get 1 = some (.f (.sl 5 es)) ∧ e.get 2 = some (.f (.sl 1 (y :: ys))) ∧ e.get 8 = some (.ptr σ.objs.length 0) ∧ e.get 10 = some (.arr (σ.arrs.length + 1) g) ∧ e.get 16 = some (.ptr (σ.objs.length + (l.length + 1)) 0) ∧ e.get 17 = some (.f (T.I ((ds.length : Int) - j)))) (ds.length + 1) 0 (Nat.zero_le _)
        ⟨z1, z2, z3, z4, by rw [Nat.sub_zero, hdl]; exact hz, rfl, by simp [go_sem, h1], by simp [go_sem, h2], by simp [go_sem, h8], by simp [go_sem, h10], by simp [go_sem], by simp [go_sem, hw0]⟩ ?_ ?_
      · rintro j e s hj ⟨x1, x2, x3, x4, hx, rfl, h1, h2, h8, h10, h16, h17⟩ K hK
        obtain ⟨i, hi⟩ : ∃ i, i + j = ds.length := ⟨ds.length - j, by omega⟩
        have hij : (ds.length : Int) - j = (i : Int) := by omega
        rw [hij] at h17
        obtain ⟨O, hO⟩ : ∃ O, y :: ys = O := ⟨_, rfl⟩
        rw [hO] at h2
        have hOo : O = T.odds (ds.length + 1) := by rw [← hO, hodds, hys]
        have hOl : O.length = ds.length + 1 := by rw [hOo]; simp [T.odds]
        obtain ⟨p, hp⟩ : ∃ p, p = 2 * i + 1 := ⟨_, rfl⟩
        have hOi : O[i]? = some (T.I (p : Int)) := by rw [hOo, T.odds_get (by omega)]; congr 4; omega
        obtain ⟨_, hOg⟩ := T.ge hOi
        have hep : es[p]? = some (T.op q) := by rw [← hes, List.getElem?_map, hp, T.chn_odd q cs i (by omega)]; rfl
        obtain ⟨hepl, hepg⟩ := T.ge hep
        have hepi : (p : Int) < es.length := by omega
        obtain ⟨ci, hci⟩ : ∃ ci, cs[i]? = some ci := ⟨_, List.getElem?_eq_getElem (by omega)⟩
        have hLi := hLg _ _ hci
        obtain ⟨w1, w2, w3, w4, hz2⟩ := (AT.leaf ci).f_agg
        rw [hz2] at hLi
        obtain ⟨hLil, hLig⟩ := T.ge hLi
        obtain ⟨u1, u2, u3, u4, hu⟩ := (AT.node (.leaf ci) (AT.r (cs.drop (ds.length + 1 - j)))).f_agg
        have hjoin := fun σ => T.join q hq (.leaf ci) (AT.r (cs.drop (ds.length + 1 - j))) σ
        simp only [hq1, if_true, hz2, hx, hu] at hjoin
        rw [← hq1] at hjoin
        have hge : (0 : Int) ≤ (i : Int) := by omega
        have hiN : i < ds.length + 1 := by omega
        have hiN2 : i < ds.length + 2 := by omega
        have hep' : es[p]? = some (.agg [T.I 1, T.S q, T.I 0, .sl 0 [], T.B false]) := hep
        have hii : (i : Int) < (ds.length : Int) + 1 := by omega
        have hii2 : (i : Int) < (ds.length : Int) + 2 := by omega
        simp only [AT.f] at hjoin
        repeat' first
          | refine W_seq_c fun K hK => ?_
          | (refine W_region (by decide) ?_; simp [go_sem, h1, h2, h8, h10, h16, h17, hOl, hOg, hepl, hepg, hepi, hLl, hLig, hge, hii, hii2, hiN, hiN2, hOi, hLi, hep', T.op])
          | refine K_use (by assumption) ?_
          | (refine W_ret ?_; simp [go_sem, h1, h2, h8, h10, h16, h17, hOl, hOg, hepl, hepg, hepi, hLl, hLig, hge, hii, hii2, hiN, hiN2, hOi, hLi, hep', T.op])
          | (refine W_skip ?_; simp [go_sem, h1, h2, h8, h10, h16, h17, hOl, hOg, hepl, hepg, hepi, hLl, hLig, hge, hii, hii2, hiN, hiN2, hOi, hLi, hep', T.op])
          | (refine W_exit ?_; simp [go_sem, h1, h2, h8, h10, h16, h17, hOl, hOg, hepl, hepg, hepi, hLl, hLig, hge, hii, hii2, hiN, hiN2, hOi, hLi, hep', T.op])
          | refine W_block ?_
          | (refine W_cond (by simp [go_sem, h1, h2, h8, h10, h16, h17, hOl, hOg, hepl, hepg, hepi, hLl, hLig, hge, hii, hii2, hiN, hiN2, hOi, hLi, hep', T.op]; rfl) ?_; simp only [cond_true, cond_false])
          | (refine DCalls.mono (by first | exact hjoin _) ?_; rintro _ _ ⟨rfl, rfl⟩; simp [go_sem, h1, h2, h8, h10, h16, h17, hOl, hOg, hepl, hepg, hepi, hLl, hLig, hge, hii, hii2, hiN, hiN2, hOi, hLi, hep', T.op])
          | (refine W_draw T.hm ⟨[0, 0, 0, 6, 14, 31, 63, 127, 0, 0, 768, 1792, 0, 8191, 16383], [13, 14], [([0, 1, 2, 3, 4, 5, 6, 7, 8, 9, 10, 11, 12], []), ([], []), ([], [])]⟩ (by decide +kernel) ?_; simp [go_sem, h1, h2, h8, h10, h16, h17, hOl, hOg, hepl, hepg, hepi, hLl, hLig, hge, hii, hii2, hiN, hiN2, hOi, hLi, hep', T.op])
          | (refine W_draw T.hm ⟨[0, 0, 3, 7, 15, 0, 0, 0, 128, 448, 960, 2047, 4095], [11, 12], [([0, 1, 2, 3, 4, 5, 6, 7, 8, 9, 10], []), ([], []), ([], [])]⟩ (by decide +kernel) ?_; simp [go_sem, h1, h2, h8, h10, h16, h17, hOl, hOg, hepl, hepg, hepi, hLl, hLig, hge, hii, hii2, hiN, hiN2, hOi, hLi, hep', T.op])
        have hw9 : IntKind.i64.wrap ((i : Int) - 1) = (i : Int) - 1 := T.wrap (by omega) (by omega)
        have hil : i < cs.length := by omega
        have htr : AT.r (cs.drop (ds.length + 1 - (j + 1))) = .node (.leaf ci) (AT.r (cs.drop (ds.length + 1 - j))) := by
          have e1 : ds.length + 1 - (j + 1) = i := by omega
          have e2 : ds.length + 1 - j = i + 1 := by omega
          rw [e1, e2, List.drop_eq_getElem_cons hil, List.drop_eq_getElem_cons (show i + 1 < cs.length by omega)]
          rw [List.getElem?_eq_getElem hil] at hci
          rw [Option.some.inj hci]
          rfl
        refine ⟨u1, u2, u3, u4, by rw [htr]; exact hu, rfl, by simp [go_sem, h1], by simp [go_sem, h2, hO], by simp [go_sem, h8], by simp [go_sem, h10], by simp [go_sem, h16], by simp [go_sem, hw9]; omega⟩
      · rintro e s ⟨x1, x2, x3, x4, hx, rfl, h1, h2, h8, h10, h16, h17⟩ K
        have hm1 : (ds.length : Int) - ((ds.length + 1 : Nat) : Int) = -1 := by omega
        rw [hm1] at h17
        have htr : (T.tree q cs).f = .agg [x1, x2, x3, x4] := by
          rw [← hx, Nat.sub_self, List.drop_zero, ← hcs]
          simp [T.tree, hq1]
        rw [htr]
        repeat' first
          | refine W_seq_c fun K hK => ?_
          | (refine W_region (by decide) ?_; simp [go_sem, h8, h16, h17])
          | refine K_use (by assumption) ?_
          | (refine W_ret ?_; simp [go_sem, h8, h16, h17])
          | (refine W_skip ?_; simp [go_sem, h8, h16, h17])
          | (refine W_exit ?_; simp [go_sem, h8, h16, h17])
          | refine W_block ?_
          | (refine W_cond (by simp [go_sem, h8, h16, h17]; rfl) ?_; simp only [cond_true, cond_false])
        exact ⟨_, by rw [htr]; rfl, Pre.mk _ _ rfl rfl⟩
    · have hfx : T.fix q = 4 := by
        have h2 : q = ⟨#[60, 45]⟩ := by simpa [T.isArrow, hq1] using hq
        simp [T.fix, h2]
      rw [hfx] at h3
      have hq2 : ¬ (q = ⟨#[45, 62]⟩) := hq1
      obtain ⟨z1, z2, z3, z4, hz⟩ := (AT.leaf c).f_agg
      have hc0 := hLg 0 c (by rw [← hcs]; rfl)
      rw [hz] at hc0
      obtain ⟨hlx, hc1⟩ := T.ge hc0
      have hi1 : ¬ ((ds.length : Int) + 2 < (ds.length : Int) + 1 + 1) := by omega
      repeat' first
        | refine W_seq_c fun K hK => ?_
        | (refine W_region (by decide) ?_; simp [go_sem, h0, h1, h2, h3, h8, h10, h11, h26, h27, h28, hi1, hLl, hyl, hc0, hc1, hlx])
        | refine K_use (by assumption) ?_
        | (refine W_ret ?_; simp [go_sem, h0, h1, h2, h3, h8, h10, h11, h26, h27, h28, hi1, hLl, hyl, hc0, hc1, hlx])
        | (refine W_skip ?_; simp [go_sem, h0, h1, h2, h3, h8, h10, h11, h26, h27, h28, hi1, hLl, hyl, hc0, hc1, hlx])
        | (refine W_exit ?_; simp [go_sem, h0, h1, h2, h3, h8, h10, h11, h26, h27, h28, hi1, hLl, hyl, hc0, hc1, hlx])
        | refine W_block ?_
        | (refine W_cond (by simp [go_sem, h0, h1, h2, h3, h8, h10, h11, h26, h27, h28, hi1, hLl, hyl, hc0, hc1, hlx]; rfl) ?_; simp only [cond_true, cond_false])
      refine W_index (fun i e s => ∃ x1 x2 x3 x4, (AT.l (.leaf c) ((d :: ds).take i)).f = .agg [x1, x2, x3, x4] ∧
          s = ⟨σ.objs ++ .cells [.f (T.I 0), .f (T.S ⟨#[]⟩), .f (T.I 0), .full 0 []] :: (l ++ [.cells [.f x1, .f x2, .f x3, .f x4]]), σ.arrs ++ [⟨3, 1, E, 1, 0⟩, ⟨26, 4, L, g, 0⟩]⟩ ∧
          e.get 1 = some (.f (.sl 5 es)) ∧ e.get 84 = some (.f (.sl 1 (y :: ys))) ∧ e.get 8 = some (.ptr σ.objs.length 0) ∧ e.get 10 = some (.arr (σ.arrs.length + 1) g) ∧ e.get 18 = some (.ptr (σ.objs.length + (l.length + 1)) 0) ∧ e.get 85 = some (.f (T.I ((ds.length : Int) + 1))) ∧ e.get 86 = some (.f (T.I i))) (ds.length + 1) 0 (Nat.zero_le _)
        ⟨z1, z2, z3, z4, hz, rfl, by simp [go_sem, h1], by simp [go_sem, h2], by simp [go_sem, h8], by simp [go_sem, h10], by simp [go_sem], by simp [go_sem, hyl], by simp [go_sem]⟩ ?_ ?_
      · rintro i e s hi ⟨x1, x2, x3, x4, hx, rfl, h1, h84, h8, h10, h18, h85, h86⟩ K hK
        obtain ⟨O, hO⟩ : ∃ O, y :: ys = O := ⟨_, rfl⟩
        rw [hO] at h84
        have hOo : O = T.odds (ds.length + 1) := by rw [← hO, hodds, hys]
        have hOl : O.length = ds.length + 1 := by rw [hOo]; simp [T.odds]
        obtain ⟨p, hp⟩ : ∃ p, p = 2 * i + 1 := ⟨_, rfl⟩
        have hOi : O[i]? = some (T.I (p : Int)) := by rw [hOo, T.odds_get (by omega)]; congr 4; omega
        obtain ⟨_, hOg⟩ := T.ge hOi
        have hep : es[p]? = some (T.op q) := by rw [← hes, List.getElem?_map, hp, T.chn_odd q cs i (by omega)]; rfl
        obtain ⟨hepl, hepg⟩ := T.ge hep
        have hepi : (p : Int) < es.length := by omega
        obtain ⟨i1, hi1⟩ : ∃ i1, i1 = i + 1 := ⟨_, rfl⟩
        obtain ⟨ci, hci⟩ : ∃ ci, cs[i1]? = some ci := ⟨_, List.getElem?_eq_getElem (by omega)⟩
        have hLi := hLg _ _ hci
        obtain ⟨w1, w2, w3, w4, hz2⟩ := (AT.leaf ci).f_agg
        rw [hz2] at hLi
        obtain ⟨hLil, hLig⟩ := T.ge hLi
        obtain ⟨u1, u2, u3, u4, hu⟩ := (AT.node (.leaf ci) (AT.l (.leaf c) ((d :: ds).take i))).f_agg
        have hjoin := fun σ => T.join q hq (AT.l (.leaf c) ((d :: ds).take i)) (.leaf ci) σ
        simp only [hq2, if_false, hz2, hx, hu] at hjoin
        have hiN : i < ds.length + 1 := by omega
        have hiN2 : i1 < ds.length + 2 := by omega
        have hep' : es[p]? = some (.agg [T.I 1, T.S q, T.I 0, .sl 0 [], T.B false]) := hep
        have hii : (i : Int) < (ds.length : Int) + 1 := by omega
        have hii2 : (i1 : Int) < (ds.length : Int) + 2 := by omega
        have hw9 : IntKind.i64.wrap ((i : Int) + 1) = (i1 : Int) := by rw [T.wrap (by omega) (by omega)]; omega
        simp only [AT.f] at hjoin
        repeat' first
          | refine W_seq_c fun K hK => ?_
          | (refine W_region (by decide) ?_; simp [go_sem, h1, h84, h8, h10, h18, h85, h86, hOl, hOg, hepl, hepg, hepi, hLl, hLig, hii, hii2, hiN, hiN2, hOi, hLi, hep', hw9, T.op])
          | refine K_use (by assumption) ?_
          | (refine W_ret ?_; simp [go_sem, h1, h84, h8, h10, h18, h85, h86, hOl, hOg, hepl, hepg, hepi, hLl, hLig, hii, hii2, hiN, hiN2, hOi, hLi, hep', hw9, T.op])
          | (refine W_skip ?_; simp [go_sem, h1, h84, h8, h10, h18, h85, h86, hOl, hOg, hepl, hepg, hepi, hLl, hLig, hii, hii2, hiN, hiN2, hOi, hLi, hep', hw9, T.op])
          | (refine W_exit ?_; simp [go_sem, h1, h84, h8, h10, h18, h85, h86, hOl, hOg, hepl, hepg, hepi, hLl, hLig, hii, hii2, hiN, hiN2, hOi, hLi, hep', hw9, T.op])
          | refine W_block ?_
          | (refine W_cond (by simp [go_sem, h1, h84, h8, h10, h18, h85, h86, hOl, hOg, hepl, hepg, hepi, hLl, hLig, hii, hii2, hiN, hiN2, hOi, hLi, hep', hw9, T.op]; rfl) ?_; simp only [cond_true, cond_false])
          | (refine DCalls.mono (by first | exact hjoin _) ?_; rintro _ _ ⟨rfl, rfl⟩; simp [go_sem, h1, h84, h8, h10, h18, h85, h86, hOl, hOg, hepl, hepg, hepi, hLl, hLig, hii, hii2, hiN, hiN2, hOi, hLi, hep', hw9, T.op])
          | (refine W_draw T.hm ⟨[0, 0, 0, 6, 14, 31, 63, 127, 0, 0, 768, 1792, 0, 8191, 16383], [13, 14], [([0, 1, 2, 3, 4, 5, 6, 7, 8, 9, 10, 11, 12], []), ([], []), ([], [])]⟩ (by decide +kernel) ?_; simp [go_sem, h1, h84, h8, h10, h18, h85, h86, hOl, hOg, hepl, hepg, hepi, hLl, hLig, hii, hii2, hiN, hiN2, hOi, hLi, hep', hw9, T.op])
          | (refine W_draw T.hm ⟨[0, 0, 3, 7, 15, 0, 0, 0, 128, 448, 960, 2047, 4095], [11, 12], [([0, 1, 2, 3, 4, 5, 6, 7, 8, 9, 10], []), ([], []), ([], [])]⟩ (by decide +kernel) ?_; simp [go_sem, h1, h84, h8, h10, h18, h85, h86, hOl, hOg, hepl, hepg, hepi, hLl, hLig, hii, hii2, hiN, hiN2, hOi, hLi, hep', hw9, T.op])
        have hil : i < (d :: ds).length := by simp; omega
        have htr : AT.l (.leaf c) ((d :: ds).take (i + 1)) = .node (.leaf ci) (AT.l (.leaf c) ((d :: ds).take i)) := by
          rw [List.take_add_one]
          have : (d :: ds)[i]? = some ci := by rw [← hci, ← hcs, hi1]; rfl
          rw [this]
          exact AT.l_snoc _ _ _
        refine ⟨u1, u2, u3, u4, by rw [htr]; exact hu, rfl, by simp [go_sem, h1], by simp [go_sem, h84, hO], by simp [go_sem, h8], by simp [go_sem, h10], by simp [go_sem, h18], by simp [go_sem, h85], by simp [go_sem]; omega⟩
      · rintro e s ⟨x1, x2, x3, x4, hx, rfl, h1, h84, h8, h10, h18, h85, h86⟩ K
        have htr : (T.tree q cs).f = .agg [x1, x2, x3, x4] := by
          rw [← hx, List.take_of_length_le (by simp), ← hcs]
          simp [T.tree, hq1]
        rw [htr]
        have hnl : ¬ ((ds.length : Int) + 1 < (ds.length : Int) + 1) := by omega
        repeat' first
          | refine W_seq_c fun K hK => ?_
          | (refine W_region (by decide) ?_; simp [go_sem, h8, h18, h85, h86, hnl])
          | refine K_use (by assumption) ?_
          | (refine W_ret ?_; simp [go_sem, h8, h18, h85, h86, hnl])
          | (refine W_skip ?_; simp [go_sem, h8, h18, h85, h86, hnl])
          | (refine W_exit ?_; simp [go_sem, h8, h18, h85, h86, hnl])
          | refine W_block ?_
          | (refine W_cond (by simp [go_sem, h8, h18, h85, h86, hnl]; rfl) ?_; simp only [cond_true, cond_false])
        exact ⟨_, by rw [htr]; rfl, Pre.mk _ _ rfl rfl⟩
end Go.Proofs
