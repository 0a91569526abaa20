/-
  A part of the proof of DisplayFresh: the call of DisplayFresh answers true at every text and list of numbers. No condition of its own.
-/
import Derived.Test.YtgfcgkkcakjodaaDoorFE
set_option linter.unusedVariables false
set_option linter.unusedSimpArgs false
namespace Go.Proofs
open Go Go.DL

theorem F.sz42 : sizeT Tryd.prog 42 = some 1 := by kernel_rfl
theorem F.ag42 : aggT Tryd.prog 42 = some false := by kernel_rfl
theorem F.un42 : Tryd.prog.underlying 42 = some (.int .u64) := by kernel_rfl
theorem F.zr9 : zeroC Tryd.prog 9 = some [.f (vS ⟨#[]⟩)] := by kernel_rfl
attribute [go_sem] F.zr9 F.sz42 F.ag42 F.un42

theorem F.cut (x : Int) : ∃ j : Nat, j < 8 ∧ ∀ σ, DCalls Tryd.prog 5 [.f (vI x), .f (vI 8)] σ (isC (.ret (.f (vI j))) σ) := by
  obtain ⟨m, hm⟩ : ∃ m : Nat, IntKind.u64.wrap x = (m : Int) := by
    have : 0 ≤ IntKind.u64.wrap x := by simp [IntKind.wrap, IntKind.bits, IntKind.signed]; omega
    exact ⟨(IntKind.u64.wrap x).toNat, by omega⟩
  have w4 : IntKind.u64.wrap 8 = 8 := by decide
  obtain ⟨j, hj⟩ : ∃ j, j = m % 8 := ⟨_, rfl⟩
  have htm : (m : Int).tmod 8 = (j : Int) := by rw [hj]; exact (Int.ofNat_tmod m 8).symm
  have hw : IntKind.i64.wrap (j : Int) = (j : Int) := gwrap (by omega) (by omega)
  have hw2 : IntKind.u64.wrap (j : Int) = (j : Int) := by simp [IntKind.wrap, IntKind.bits, IntKind.signed]; omega
  refine ⟨j, by omega, fun σ => ?_⟩
  refine DCalls.pure1 rfl ?_
  refine DCalls_args_of Tryd.func5 rfl (by simp [Tryd.ntmps5]) ?_
  simp only [Tryd.ntmps5]
  repeat' first
    | refine W_seq_c fun K hK => ?_
    | (refine W_region (by decide) ?_; simp [go_sem, hm, w4, htm, hw, hw2])
    | refine K_use (by assumption) ?_
    | (refine W_ret ?_; simp [go_sem, hm, w4, htm, hw, hw2])
    | (refine W_skip ?_; simp [go_sem, hm, w4, htm, hw, hw2])
    | (refine W_exit ?_; simp [go_sem, hm, w4, htm, hw, hw2])
    | refine W_block ?_
    | refine W_of_WL ?_
    | refine WL_of_k fun K hK => ?_
    | (refine W_cond (by simp [go_sem, hm, w4, htm, hw, hw2]; rfl) ?_; simp only [cond_true, cond_false])
  exact ⟨_, rfl, Pre.mk _ [] (List.append_nil _).symm (List.append_nil _).symm⟩

theorem F.word (a b : ByteArray) (j : Nat) (hj : j < 8) : ∃ s, ([.lit (.string ⟨#[120]⟩), .lit (.string ⟨#[120, 49]⟩), .lit (.string ⟨#[120, 50]⟩), .lit (.string ⟨#[120, 52]⟩), .lit (.string ⟨#[78]⟩), .lit (.string ⟨#[78, 49]⟩), .lit (.string a), .lit (.string b)] : List FVal)[j]? = some (vS s) := by
  have : j = 0 ∨ j = 1 ∨ j = 2 ∨ j = 3 ∨ j = 4 ∨ j = 5 ∨ j = 6 ∨ j = 7 := by omega
  rcases this with rfl | rfl | rfl | rfl | rfl | rfl | rfl | rfl <;> exact ⟨_, rfl⟩

theorem F.hints (hint : ByteArray) (hh : hint.size < 4611686018427387904) : ∀ i, i < 5 → ∃ h : ByteArray, h.size < 4611686018427387904 ∧ ([vS hint, .lit (.string ⟨#[78]⟩), .lit (.string ⟨#[95]⟩), .lit (.string ⟨#[]⟩), .lit (.string ⟨#[97, 97, 97, 97, 97, 97, 97, 97, 97, 97, 97, 97, 97, 97, 97, 97, 97, 97, 97, 97, 97, 97, 97, 97, 97, 97, 97, 97, 97, 97, 97, 97, 97, 97, 97, 97, 97, 97, 97, 97, 97, 97, 97, 97, 97, 97, 97, 97, 97, 97, 97]⟩)] : List FVal)[i]? = some (vS h) := by
  intro i hi
  have : i = 0 ∨ i = 1 ∨ i = 2 ∨ i = 3 ∨ i = 4 := by omega
  rcases this with rfl | rfl | rfl | rfl | rfl
  · exact ⟨_, hh, rfl⟩
  all_goals exact ⟨_, by decide, rfl⟩

theorem F.fits (n : Nat) (h : n ≤ 60) : (n + 1) * 16 ≤ 140737488355328 ∧ n + 1 ≤ 140737488355328 ∧ n ≤ 140737488355327 := by
  refine ⟨?_, ?_, ?_⟩ <;> omega

theorem F.frozen {n : Nat} {C : Code} {Q : Out → Env → St → Prop} {e : Env} {s : St} {us : List ByteArray} {hint : ByteArray} (h0 : e.get 0 = some (.f (vS hint)))
    (hcase : (us = [] ∧ e.get 5 = some (.full 0 []) ∧ s = ⟨[], []⟩) ∨ ∃ g, us ≠ [] ∧ e.get 5 = some (.arr 0 g) ∧ s = ⟨[], [⟨9, 1, us.map vS, g, 0⟩]⟩)
    (h : ∀ kk e2, (us = [] ∨ kk = 1) → Env.get e2 0 = some (.f (vS hint)) → Env.get e2 5 = some (.f (.sl kk (us.map vS))) → W2 Tryd.prog n C e2 ⟨[], []⟩ Q) : W2 Tryd.prog n C e s Q := by
  rcases hcase with ⟨rfl, h5, rfl⟩ | ⟨g, hne, h5, rfl⟩
  · refine W2_turn (Turn.trans (Turn.fz 5 (d' := .f (.sl 0 [])) h5 rfl) (Turn.keep0 (env2 := [(0, .f (vS hint)), (5, .f (.sl 0 []))]) ?_)) (h 0 _ (.inl rfl) (by simp [go_sem]) (by simp [go_sem]))
    simp [Go.DL.keep0, go_sem, h0]
  · refine W2_turn (Turn.trans (Turn.fz 5 (d' := .f (.sl 1 (us.map vS))) (σ' := ⟨[], [⟨9, 1, us.map vS, g, (us.map vS).length⟩]⟩) h5 ?_) (Turn.keep0 (env2 := [(0, .f (vS hint)), (5, .f (.sl 1 (us.map vS)))]) ?_)) (h 1 _ (.inr rfl) (by simp [go_sem]) (by simp [go_sem]))
    · simp [fzX, fzA, fz, go_sem]
    · simp [Go.DL.keep0, go_sem, h0]

set_option maxRecDepth 8000 in
set_option maxHeartbeats 16000000 in
theorem F.law (hint : ByteArray) (ls : List Int) : DCalls2 Tryd.prog 3 [.f (vS hint), .f (.sl 1 (ls.map vI))] ⟨[], []⟩ (fun r _ => r = .ret (.f (vB true))) := by
  obtain ⟨xs, hxs⟩ : ∃ xs, ls.map vI = xs := ⟨_, rfl⟩
  have hxl : xs.length = ls.length := by rw [← hxs, List.length_map]
  have hxg : ∀ i, i < xs.length → ∃ x : Int, xs[i]? = some (vI x) := fun i hi => by
    rw [← hxs, List.getElem?_map]
    exact ⟨ls[i]'(by omega), by rw [List.getElem?_eq_getElem (by omega)]; rfl⟩
  rw [hxs]
  clear hxl hxs
  refine DCalls2_args_of Tryd.func3 rfl (by simp [Tryd.ntmps3]) ?_
  simp only [Tryd.ntmps3]
  by_cases hsz : 200 < hint.size
  · have hsz2 : (200 : Int) < hint.size := by omega
    repeat' first
      | refine W2_seq_c fun K hK => ?_
      | (refine W2_region (by decide) ?_; simp [go_sem, hsz, hsz2])
      | refine K_use (by assumption) ?_
      | (refine W2_ret ?_; simp [go_sem, hsz, hsz2])
      | (refine W2_skip ?_; simp [go_sem, hsz, hsz2])
      | (refine W2_exit ?_; simp [go_sem, hsz, hsz2])
      | refine W2_block ?_
      | (refine W2_cond (by simp [go_sem, hsz, hsz2]; rfl) ?_; simp only [cond_true, cond_false])
      | (refine DCalls.mono (by first | exact F.awake _) ?_; rintro _ _ ⟨rfl, hst⟩; obtain rfl := hst.symm; simp [go_sem, hsz, hsz2])
  have hsz2 : ¬ (200 : Int) < hint.size := by omega
  repeat' first
    | refine W2_seq_c fun K hK => ?_
    | (refine W2_region (by decide) ?_; simp [go_sem, hsz, hsz2])
    | refine K_use (by assumption) ?_
    | (refine W2_ret ?_; simp [go_sem, hsz, hsz2])
    | (refine W2_skip ?_; simp [go_sem, hsz, hsz2])
    | (refine W2_exit ?_; simp [go_sem, hsz, hsz2])
    | refine W2_block ?_
    | (refine W2_cond (by simp [go_sem, hsz, hsz2]; rfl) ?_; simp only [cond_true, cond_false])
  rename_i K1 hK1
  obtain ⟨N, hN⟩ : ∃ N, N = min xs.length 30 := ⟨_, rfl⟩
  have hrest : ∀ (e : Env) (s : St) (us : List ByteArray), us.length ≤ 30 → e.get 0 = some (.f (vS hint)) → ((us = [] ∧ e.get 5 = some (.full 0 []) ∧ s = ⟨[], []⟩) ∨ ∃ g, us ≠ [] ∧ e.get 5 = some (.arr 0 g) ∧ s = ⟨[], [⟨9, 1, us.map vS, g, 0⟩]⟩) → K1 e s := by
    intro e s us hlen h0 hcase
    refine hK1 e s ?_
    clear hK1
    refine F.frozen h0 hcase fun kk e2 hkk h0 h5 => ?_
    clear hcase
    have hIn := fun s σ => F.isIn us (by omega) kk hkk s σ
    have hFr := fun h hs => F.fresh h hs us hlen kk hkk
    generalize us.map vS = es at *
    repeat' first
      | refine W2_seq_c fun K hK => ?_
      | (refine W2_region (by decide) ?_; simp [go_sem, h0, h5])
      | refine K_use (by assumption) ?_
      | (refine W2_ret ?_; simp [go_sem, h0, h5])
      | (refine W2_skip ?_; simp [go_sem, h0, h5])
      | (refine W2_exit ?_; simp [go_sem, h0, h5])
      | refine W2_block ?_
      | (refine W2_cond (by simp [go_sem, h0, h5]; rfl) ?_; simp only [cond_true, cond_false])
    obtain ⟨L, hL⟩ : ∃ L : List FVal, [vS hint, .lit (.string ⟨#[78]⟩), .lit (.string ⟨#[95]⟩), .lit (.string ⟨#[]⟩), .lit (.string ⟨#[97, 97, 97, 97, 97, 97, 97, 97, 97, 97, 97, 97, 97, 97, 97, 97, 97, 97, 97, 97, 97, 97, 97, 97, 97, 97, 97, 97, 97, 97, 97, 97, 97, 97, 97, 97, 97, 97, 97, 97, 97, 97, 97, 97, 97, 97, 97, 97, 97, 97, 97]⟩)] = L := ⟨_, rfl⟩
    have hLl : L.length = 5 := by rw [← hL]; rfl
    have hLg : ∀ i, i < 5 → ∃ h : ByteArray, h.size < 4611686018427387904 ∧ L[i]? = some (vS h) := by
      rw [← hL]; exact F.hints hint (by omega)
    refine W2_index (fun i e s => s = ⟨[], []⟩ ∧ e.get 38 = some (.full 1 L) ∧ e.get 39 = some (.f (vI 5)) ∧ e.get 5 = some (.f (.sl kk es)) ∧ e.get 40 = some (.f (vI i))) 5 0 (by omega) ⟨rfl, by rw [← hL]; simp [go_sem], by simp [go_sem], by simp [go_sem, h5], by simp [go_sem]⟩ ?_ ?_
    · rintro i e s hi ⟨rfl, h38, h39, h5, h40⟩ K0 hK0
      obtain ⟨h, hh, hg⟩ := hLg i hi
      obtain ⟨hlt, hge⟩ := gge hg
      obtain ⟨r, hr1, hr2, hr3⟩ := hFr h hh
      have hIr := fun σ => hIn r σ
      rw [hr1] at hIr
      have hi2 : (i : Int) < 5 := by omega
      have hi3 : (i : Int) < L.length := by omega
      have hw : IntKind.i64.wrap ((i : Int) + 1) = (i : Int) + 1 := gwrap (by omega) (by omega)
      repeat' first
        | refine W2_seq_c fun K hK => ?_
        | (refine W2_region (by decide) ?_; simp [go_sem, h38, h39, h5, h40, hg, hlt, hge, hi2, hi3, hi, hLl, hw])
        | refine K_use (by assumption) ?_
        | (refine W2_ret ?_; simp [go_sem, h38, h39, h5, h40, hg, hlt, hge, hi2, hi3, hi, hLl, hw])
        | (refine W2_skip ?_; simp [go_sem, h38, h39, h5, h40, hg, hlt, hge, hi2, hi3, hi, hLl, hw])
        | (refine W2_exit ?_; simp [go_sem, h38, h39, h5, h40, hg, hlt, hge, hi2, hi3, hi, hLl, hw])
        | refine W2_block ?_
        | (refine W2_cond (by simp [go_sem, h38, h39, h5, h40, hg, hlt, hge, hi2, hi3, hi, hLl, hw]; rfl) ?_; simp only [cond_true, cond_false])
        | (refine DCalls.mono (by first | exact hr2 _ | exact hr3 _ | exact hIr _) ?_; rintro _ _ ⟨rfl, hst⟩; obtain rfl := hst.symm; simp [go_sem, h38, h39, h5, h40, hg, hlt, hge, hi2, hi3, hi, hLl, hw])
      simp [go_sem, h38, h39, h5]
    · rintro e s ⟨rfl, h38, h39, h5, h40⟩ K0
      repeat' first
        | refine W2_seq_c fun K hK => ?_
        | (refine W2_region (by decide) ?_; simp [go_sem, h38, h39, h5, h40])
        | refine K_use (by assumption) ?_
        | (refine W2_ret ?_; simp [go_sem, h38, h39, h5, h40])
        | (refine W2_skip ?_; simp [go_sem, h38, h39, h5, h40])
        | (refine W2_exit ?_; simp [go_sem, h38, h39, h5, h40])
        | refine W2_block ?_
        | (refine W2_cond (by simp [go_sem, h38, h39, h5, h40]; rfl) ?_; simp only [cond_true, cond_false])
        | (refine DCalls.mono (by first | exact F.awake _) ?_; rintro _ _ ⟨rfl, hst⟩; obtain rfl := hst.symm; simp [go_sem, h38, h39, h5, h40])
  clear hK1
  refine W2_indexT (fun i e s => ∃ (us : List ByteArray) (S : DVal), us.length = i ∧ e.get 0 = some (.f (vS hint)) ∧ e.get 1 = some (.f (.sl 1 xs)) ∧ e.get 6 = some (.f (vI i)) ∧ e.get 5 = some S ∧
      ((us = [] ∧ S = .full 0 [] ∧ s = ⟨[], []⟩) ∨ ∃ g, us ≠ [] ∧ S = .arr 0 g ∧ s = ⟨[], [⟨9, 1, us.map vS, g, 0⟩]⟩)) N 0 (Nat.zero_le _)
    ⟨[], _, rfl, by simp [go_sem], by simp [go_sem], by simp [go_sem], by simp [go_sem], .inl ⟨rfl, rfl, rfl⟩⟩ ?_ ?_
  · rintro i e s hi ⟨us, S, hlen, h0, h1, h6, h5, hcase⟩ K0 hK0
    have hi1 : i < xs.length := by omega
    have hi2 : (i : Int) < 30 := by omega
    have hi3 : (i : Int) < xs.length := by omega
    obtain ⟨x, hx⟩ := hxg i hi1
    obtain ⟨_, hx2⟩ := gge hx
    obtain ⟨j, hj, hcut⟩ := F.cut x
    obtain ⟨c, hlook⟩ := F.word hint (hint ++ ⟨#[49]⟩) j hj
    have hw : IntKind.i64.wrap ((i : Int) + 1) = (i : Int) + 1 := gwrap (by omega) (by omega)
    have hf1 : hint.size + 1 ≤ 4611686018427387904 := by omega
    have hf2 : hint.size + (⟨#[49]⟩ : ByteArray).size ≤ 4611686018427387904 := hf1
    rcases hcase with ⟨rfl, rfl, rfl⟩ | ⟨g, hne, rfl, rfl⟩
    · have hi0 : i = 0 := by simpa using hlen.symm
      subst hi0
      repeat' first
        | refine W2_seq_c fun K hK => ?_
        | (refine W2_region (by decide) ?_; simp [go_sem, h0, h1, h6, h5, hi1, hi3, hx, hx2, hlook, hw, hf1, hf2])
        | refine K_use (by assumption) ?_
        | (refine W2_ret ?_; simp [go_sem, h0, h1, h6, h5, hi1, hi3, hx, hx2, hlook, hw, hf1, hf2])
        | (refine W2_skip ?_; simp [go_sem, h0, h1, h6, h5, hi1, hi3, hx, hx2, hlook, hw, hf1, hf2])
        | (refine W2_exit ?_; simp [go_sem, h0, h1, h6, h5, hi1, hi3, hx, hx2, hlook, hw, hf1, hf2])
        | refine W2_block ?_
        | (refine W2_cond (by simp [go_sem, h0, h1, h6, h5, hi1, hi3, hx, hx2, hlook, hw, hf1, hf2]; rfl) ?_; simp only [cond_true, cond_false])
        | (refine DCalls.mono (by first | exact hcut _) ?_; rintro _ _ ⟨rfl, hst⟩; obtain rfl := hst.symm; simp [go_sem, h0, h1, h6, h5, hi1, hi3, hx, hx2, hlook, hw, hf1, hf2])
      refine hK0 _ _ [(0, .f (vS hint)), (1, .f (.sl 1 xs)), (5, .arr 0 0), (6, .f (vI 1))] ⟨[], [⟨9, 1, [vS c], 0, 0⟩]⟩ (Turn.keep 0 rfl ?_) ?_
      · simp [keep1, go_sem, h0, h1]
      · exact ⟨[c], .arr 0 0, rfl, by simp [go_sem], by simp [go_sem], by simp [go_sem], by simp [go_sem], .inr ⟨0, by simp, rfl, rfl⟩⟩
    · obtain ⟨es, hes⟩ : ∃ es, us.map vS = es := ⟨_, rfl⟩
      have hi0 : 0 < i := by cases us with | nil => exact absurd rfl hne | cons a b => simp at hlen; omega
      have hel : es.length = i := by rw [← hes, List.length_map, hlen]
      rw [hes]
      have hq1 : es.length ≤ 60 := by omega
      obtain ⟨hb1, hb2, hb3⟩ := F.fits es.length hq1
      repeat' first
        | refine W2_seq_c fun K hK => ?_
        | (refine W2_region (by decide) ?_; simp [go_sem, h0, h1, h6, h5, hi0, hi1, hi2, hi3, hx, hx2, hlook, hw, hf1, hf2, hb1, hb2, hb3])
        | refine K_use (by assumption) ?_
        | (refine W2_ret ?_; simp [go_sem, h0, h1, h6, h5, hi0, hi1, hi2, hi3, hx, hx2, hlook, hw, hf1, hf2, hb1, hb2, hb3])
        | (refine W2_skip ?_; simp [go_sem, h0, h1, h6, h5, hi0, hi1, hi2, hi3, hx, hx2, hlook, hw, hf1, hf2, hb1, hb2, hb3])
        | (refine W2_exit ?_; simp [go_sem, h0, h1, h6, h5, hi0, hi1, hi2, hi3, hx, hx2, hlook, hw, hf1, hf2, hb1, hb2, hb3])
        | refine W2_block ?_
        | (refine W2_cond (by simp [go_sem, h0, h1, h6, h5, hi0, hi1, hi2, hi3, hx, hx2, hlook, hw, hf1, hf2, hb1, hb2, hb3]; rfl) ?_; simp only [cond_true, cond_false])
        | (refine DCalls.mono (by first | exact hcut _) ?_; rintro _ _ ⟨rfl, hst⟩; obtain rfl := hst.symm; simp [go_sem, h0, h1, h6, h5, hi0, hi1, hi2, hi3, hx, hx2, hlook, hw, hf1, hf2, hb1, hb2, hb3])
      refine hK0 _ _ [(0, .f (vS hint)), (1, .f (.sl 1 xs)), (5, .arr 0 (g + 1)), (6, .f (vI ((i : Int) + 1)))] ⟨[], [⟨9, 1, es ++ [vS c], g + 1, 0⟩]⟩ (Turn.keep 0 rfl ?_) ?_
      · simp [keep1, go_sem, h0, h1]
      · exact ⟨us ++ [c], .arr 0 (g + 1), by simp [hlen], by simp [go_sem], by simp [go_sem], by simp [go_sem], by simp [go_sem], .inr ⟨g + 1, by simp, rfl, by rw [List.map_append, hes]; rfl⟩⟩
  · rintro e s ⟨us, S, hlen, h0, h1, h6, h5, hcase⟩ K
    have hfin : ∀ e2, Env.get e2 0 = e.get 0 → Env.get e2 5 = e.get 5 → K1 e2 s := fun e2 he0 he5 => by
      refine hrest e2 s us (by omega) (by rw [he0, h0]) ?_
      rw [he5]
      rcases hcase with ⟨h1, rfl, h2⟩ | ⟨g, h1, rfl, h2⟩
      · exact .inl ⟨h1, h5, h2⟩
      · exact .inr ⟨g, h1, h5, h2⟩
    by_cases hl : N < xs.length
    · have hl1 : (N : Int) < xs.length := by omega
      have hl2 : ¬ ((N : Int) < 30) := by omega
      repeat' first
        | refine W2_seq_c fun K hK => ?_
        | (refine W2_region (by decide) ?_; simp [go_sem, h1, h6, hl1, hl2])
        | refine K_use (by assumption) ?_
        | (refine W2_ret ?_; simp [go_sem, h1, h6, hl1, hl2])
        | (refine W2_skip ?_; simp [go_sem, h1, h6, hl1, hl2])
        | (refine W2_exit ?_; simp [go_sem, h1, h6, hl1, hl2])
        | refine W2_block ?_
        | (refine W2_cond (by simp [go_sem, h1, h6, hl1, hl2]; rfl) ?_; simp only [cond_true, cond_false])
      exact hfin _ (by simp [go_sem]) (by simp [go_sem])
    · have hl1 : ¬ (N : Int) < xs.length := by omega
      repeat' first
        | refine W2_seq_c fun K hK => ?_
        | (refine W2_region (by decide) ?_; simp [go_sem, h1, h6, hl1])
        | refine K_use (by assumption) ?_
        | (refine W2_ret ?_; simp [go_sem, h1, h6, hl1])
        | (refine W2_skip ?_; simp [go_sem, h1, h6, hl1])
        | (refine W2_exit ?_; simp [go_sem, h1, h6, hl1])
        | refine W2_block ?_
        | (refine W2_cond (by simp [go_sem, h1, h6, hl1]; rfl) ?_; simp only [cond_true, cond_false])
      exact hfin _ (by simp [go_sem]) (by simp [go_sem])
end Go.Proofs
