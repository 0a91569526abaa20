/-
  A part of the proof of DisplayFresh: both forms of Fresh answer the same name, and the name is not in use. No condition of its own.
-/
import Derived.Test.YtgfcgkkcakjodaaDoorFD
import Derived.Test.YtgfcgkkcakjodaaDoorFC
set_option linter.unusedVariables false
set_option linter.unusedSimpArgs false
namespace Go.Proofs
open Go Go.DL

/-! ### The candidates -/
def cand (b : ByteArray) : Nat → ByteArray
  | 0 => b
  | n + 1 => b ++ dig (n + 1)
def tl : Nat → List UInt8
  | 0 => []
  | n + 1 => (dig (n + 1)).data.toList
def und : List UInt8 → Nat
  | [] => 0
  | [a] => a.toNat - 48
  | a :: b :: _ => (a.toNat - 48) * 10 + (b.toNat - 48)
theorem und_tl : (List.range 40).all (fun n : Nat => decide (und (tl n) = n)) = true := by kernel_rfl
theorem cand_data (b : ByteArray) (n : Nat) : (cand b n).data.toList = b.data.toList ++ tl n := by
  cases n with
  | zero => simp [cand, tl]
  | succ n => simp [cand, tl, ByteArray.data_append]
theorem cand_inj (b : ByteArray) {i j : Nat} (hi : i < 40) (hj : j < 40) (h : cand b i = cand b j) : i = j := by
  have h1 := congrArg (fun s => s.data.toList) h
  simp only [cand_data] at h1
  have h2 := congrArg und (List.append_cancel_left h1)
  rwa [of_decide_eq_true (List.all_eq_true.1 und_tl i (List.mem_range.2 hi)), of_decide_eq_true (List.all_eq_true.1 und_tl j (List.mem_range.2 hj))] at h2
theorem inB_mem {us : List ByteArray} {s : ByteArray} (h : inB us s = true) : s ∈ us := by
  obtain ⟨x, hx, he⟩ := List.any_eq_true.1 h
  exact of_decide_eq_true he ▸ hx
theorem nodup_cands (b : ByteArray) (n : Nat) (hn : n ≤ 40) : ((List.range n).map (cand b)).Nodup := by
  unfold List.Nodup
  rw [List.pairwise_map]
  have h := List.nodup_range (n := n)
  unfold List.Nodup at h
  refine List.Pairwise.imp_of_mem ?_ h
  intro i j hi hj hne he
  exact hne (cand_inj b (by have := List.mem_range.1 hi; omega) (by have := List.mem_range.1 hj; omega) he)
theorem fresh_exists (us : List ByteArray) (hu : us.length ≤ 30) (b : ByteArray) : ∃ k, k ≤ us.length ∧ (∀ i, i < k → inB us (cand b i) = true) ∧ inB us (cand b k) = false := by
  have least : ∀ n, (∃ k, k ≤ n ∧ (∀ i, i < k → inB us (cand b i) = true) ∧ inB us (cand b k) = false) ∨ (∀ i, i ≤ n → inB us (cand b i) = true) := by
    intro n
    induction n with
    | zero =>
      cases h : inB us (cand b 0) with
      | false => exact .inl ⟨0, Nat.le_refl _, fun i hi => absurd hi (by omega), h⟩
      | true => exact .inr fun i hi => by obtain rfl : i = 0 := by omega
                                          exact h
    | succ n ih =>
      rcases ih with ⟨k, h1, h2, h3⟩ | ih
      · exact .inl ⟨k, by omega, h2, h3⟩
      · cases h : inB us (cand b (n + 1)) with
        | false => exact .inl ⟨n + 1, Nat.le_refl _, fun i hi => ih i (by omega), h⟩
        | true =>
          refine .inr fun i hi => ?_
          by_cases hin : i = n + 1
          · rw [hin]; exact h
          · exact ih i (by omega)
  rcases least us.length with h | h
  · exact h
  · exfalso
    have hnd := nodup_cands b (us.length + 1) (by omega)
    have hsub : (List.range (us.length + 1)).map (cand b) ⊆ us := by
      intro x hx
      obtain ⟨i, hi, rfl⟩ := List.mem_map.1 hx
      exact inB_mem (h i (by have := List.mem_range.1 hi; omega))
    have := hnd.length_le_of_subset hsub
    simp at this
    omega
theorem dig_size (n : Nat) : (dig n).size ≤ 2 := by
  unfold dig; split
  · exact (by decide : 1 ≤ 2)
  · exact Nat.le_refl 2

def fb (hint : ByteArray) : ByteArray := if IsN hint = true ∧ hint.size ≤ 50 then hint else ⟨#[120]⟩
theorem fb_size (hint : ByteArray) : (fb hint).size ≤ 50 := by
  unfold fb; split
  · rename_i h; exact h.2
  · decide
theorem fb_cases (hint : ByteArray) : (IsN hint = false ∧ fb hint = ⟨#[120]⟩) ∨ (IsN hint = true ∧ 50 < hint.size ∧ fb hint = ⟨#[120]⟩) ∨ (IsN hint = true ∧ hint.size ≤ 50 ∧ fb hint = hint) := by
  cases h : IsN hint with
  | false => exact .inl ⟨rfl, by simp [fb, h]⟩
  | true =>
    by_cases h2 : hint.size ≤ 50
    · exact .inr (.inr ⟨rfl, h2, by simp [fb, h, h2]⟩)
    · exact .inr (.inl ⟨rfl, by omega, by simp [fb, h, h2]⟩)
theorem cat_fits (b : ByteArray) (n : Nat) (h : b.size ≤ 50) : b.size + (dig n).size ≤ 4611686018427387904 := by
  have := dig_size n; omega

/-! ### The two walks -/
set_option maxHeartbeats 16000000 in
theorem F.fresh1 (hint : ByteArray) (hs : hint.size < 4611686018427387904) (us : List ByteArray) (hu : us.length ≤ 30) (kk : Nat) (hkk : us = [] ∨ kk = 1) (k : Nat) (hk : k ≤ us.length) (h1 : ∀ i, i < k → inB us (cand (fb hint) i) = true) (h2 : inB us (cand (fb hint) k) = false) (σ : St) :
    DCalls Tryd.prog 6 [.f (vS hint), .f (.sl kk (us.map vS))] σ (isC (.ret (.f (vS (cand (fb hint) k)))) σ) := by
  have hN := fun σ => F.isName hint hs σ
  have hC := fun s σ => F.contains us (by omega) kk hkk s σ
  have hbs := fb_size hint
  have hca := fb_cases hint
  obtain ⟨b, hb⟩ : ∃ b, fb hint = b := ⟨_, rfl⟩
  rw [hb] at h1 h2 hbs hca ⊢
  clear hb
  generalize us.map vS = es at *
  refine DCalls.pure1 rfl ?_
  refine DCalls_args_of Tryd.func6 rfl (by simp [Tryd.ntmps6]) ?_
  simp only [Tryd.ntmps6]
  rcases hca with ⟨c1, hb⟩ | ⟨c1, c2, hb⟩ | ⟨c1, c2, hb⟩
  case' inl => (
    rw [c1] at hN
    repeat' first
      | refine W_seq_c fun K hK => ?_
      | (refine W_region (by decide) ?_; simp [go_sem])
      | refine K_use (by assumption) ?_
      | (refine W_ret ?_; simp [go_sem])
      | (refine W_skip ?_; simp [go_sem])
      | (refine W_exit ?_; simp [go_sem])
      | refine W_block ?_
      | (refine W_cond (by simp [go_sem]; rfl) ?_; simp only [cond_true, cond_false])
      | (refine DCalls.mono (by first | exact hN _) ?_; rintro _ _ ⟨rfl, hst⟩; obtain rfl := hst.symm; simp [go_sem])
    )
  case' inr.inl => (
    rw [c1] at hN
    have c3 : (50 : Int) < hint.size := by omega
    repeat' first
      | refine W_seq_c fun K hK => ?_
      | (refine W_region (by decide) ?_; simp [go_sem, c2, c3])
      | refine K_use (by assumption) ?_
      | (refine W_ret ?_; simp [go_sem, c2, c3])
      | (refine W_skip ?_; simp [go_sem, c2, c3])
      | (refine W_exit ?_; simp [go_sem, c2, c3])
      | refine W_block ?_
      | (refine W_cond (by simp [go_sem, c2, c3]; rfl) ?_; simp only [cond_true, cond_false])
      | (refine DCalls.mono (by first | exact hN _) ?_; rintro _ _ ⟨rfl, hst⟩; obtain rfl := hst.symm; simp [go_sem, c2, c3])
    )
  case' inr.inr => (
    rw [c1] at hN
    have c3 : ¬ (50 : Int) < hint.size := by omega
    repeat' first
      | refine W_seq_c fun K hK => ?_
      | (refine W_region (by decide) ?_; simp [go_sem, c2, c3])
      | refine K_use (by assumption) ?_
      | (refine W_ret ?_; simp [go_sem, c2, c3])
      | (refine W_skip ?_; simp [go_sem, c2, c3])
      | (refine W_exit ?_; simp [go_sem, c2, c3])
      | refine W_block ?_
      | (refine W_cond (by simp [go_sem, c2, c3]; rfl) ?_; simp only [cond_true, cond_false])
      | (refine DCalls.mono (by first | exact hN _) ?_; rintro _ _ ⟨rfl, hst⟩; obtain rfl := hst.symm; simp [go_sem, c2, c3])
    )
  all_goals
    refine W_index (fun i e s' => s' = σ ∧ e.get 0 = some (.f (vS b)) ∧ e.get 1 = some (.f (.sl kk es)) ∧ e.get 5 = some (.f (vS (cand b i))) ∧ e.get 6 = some (.f (vI ((i + 1 : Nat) : Int)))) k 0 (Nat.zero_le _) (by simp [go_sem, hb, cand]) ?_ ?_
    · rintro i e s' hi ⟨rfl, h0, h3, h4, h5⟩ K hK
      have hc := fun σ => hC (cand b i) σ
      rw [h1 i hi] at hc
      have hi40 : i + 1 < 40 := by omega
      have hd := fun σ => F.itoa (i + 1) hi40 σ
      have hf := cat_fits b (i + 1) hbs
      have hnx : cand b (i + 1) = b ++ dig (i + 1) := rfl
      have hw : IntKind.i64.wrap (((i + 1 : Nat) : Int) + 1) = ((i + 1 + 1 : Nat) : Int) := gwrap (by omega) (by omega)
      rw [hnx] at hK
      generalize i + 1 = m at *
      generalize cand b i = c at *
      repeat' first
        | refine W_seq_c fun K hK => ?_
        | (refine W_region (by decide) ?_; simp [go_sem, h0, h3, h4, h5, hf, hw])
        | refine K_use (by assumption) ?_
        | (refine W_ret ?_; simp [go_sem, h0, h3, h4, h5, hf, hw])
        | (refine W_skip ?_; simp [go_sem, h0, h3, h4, h5, hf, hw])
        | (refine W_exit ?_; simp [go_sem, h0, h3, h4, h5, hf, hw])
        | refine W_block ?_
        | (refine W_cond (by simp [go_sem, h0, h3, h4, h5, hf, hw]; rfl) ?_; simp only [cond_true, cond_false])
        | (refine DCalls.mono (by first | exact hc _ | exact hd _) ?_; rintro _ _ ⟨rfl, hst⟩; obtain rfl := hst.symm; simp [go_sem, h0, h3, h4, h5, hf, hw])
      simp [go_sem, h0, h3]
    · rintro e s' ⟨rfl, h0, h3, h4, h5⟩ K
      have hc := fun σ => hC (cand b k) σ
      rw [h2] at hc
      generalize cand b k = c at *
      repeat' first
        | refine W_seq_c fun K hK => ?_
        | (refine W_region (by decide) ?_; simp [go_sem, h0, h3, h4, h5])
        | refine K_use (by assumption) ?_
        | (refine W_ret ?_; simp [go_sem, h0, h3, h4, h5])
        | (refine W_skip ?_; simp [go_sem, h0, h3, h4, h5])
        | (refine W_exit ?_; simp [go_sem, h0, h3, h4, h5])
        | refine W_block ?_
        | (refine W_cond (by simp [go_sem, h0, h3, h4, h5]; rfl) ?_; simp only [cond_true, cond_false])
        | (refine DCalls.mono (by first | exact hc _) ?_; rintro _ _ ⟨rfl, hst⟩; obtain rfl := hst.symm; simp [go_sem, h0, h3, h4, h5])
      exact ⟨_, rfl, Pre.refl _⟩

set_option maxHeartbeats 16000000 in
theorem F.fresh2 (hint : ByteArray) (hs : hint.size < 4611686018427387904) (us : List ByteArray) (hu : us.length ≤ 30) (kk : Nat) (hkk : us = [] ∨ kk = 1) (k : Nat) (hk : k ≤ us.length) (h1 : ∀ i, i < k → inB us (cand (fb hint) i) = true) (h2 : inB us (cand (fb hint) k) = false) (σ : St) :
    DCalls Tryd.prog 7 [.f (vS hint), .f (.sl kk (us.map vS))] σ (isC (.ret (.f (vS (cand (fb hint) k)))) σ) := by
  have hN := fun σ => F.isName2 hint hs σ
  have hC := fun s σ => F.isIn us (by omega) kk hkk s σ
  have hbs := fb_size hint
  have hca := fb_cases hint
  obtain ⟨b, hb⟩ : ∃ b, fb hint = b := ⟨_, rfl⟩
  rw [hb] at h1 h2 hbs hca ⊢
  clear hb
  obtain ⟨es, hes⟩ : ∃ es : List FVal, us.map vS = es := ⟨_, rfl⟩
  have hel : es.length = us.length := by rw [← hes, List.length_map]
  rw [hes] at hC ⊢
  cases k with
  | zero =>
    have hc := fun σ => hC b σ
    rw [show inB us b = false from h2] at hc
    refine DCalls.pure1 rfl ?_
    refine DCalls_args_of Tryd.func7 rfl (by simp [Tryd.ntmps7]) ?_
    simp only [Tryd.ntmps7]
    rcases hca with ⟨c1, hb⟩ | ⟨c1, c2, hb⟩ | ⟨c1, c2, hb⟩
    · rw [c1] at hN
      subst hb
      repeat' first
        | refine W_seq_c fun K hK => ?_
        | (refine W_region (by decide) ?_; simp [go_sem])
        | refine K_use (by assumption) ?_
        | (refine W_ret ?_; simp [go_sem])
        | (refine W_skip ?_; simp [go_sem])
        | (refine W_exit ?_; simp [go_sem])
        | refine W_block ?_
        | (refine W_cond (by simp [go_sem]; rfl) ?_; simp only [cond_true, cond_false])
        | (refine DCalls.mono (by first | exact hN _ | exact hc _) ?_; rintro _ _ ⟨rfl, hst⟩; obtain rfl := hst.symm; simp [go_sem])
      exact ⟨_, rfl, Pre.refl _⟩
    · rw [c1] at hN
      subst hb
      have c3 : ¬ (hint.size : Int) ≤ 50 := by omega
      have c4 : ¬ hint.size ≤ 50 := by omega
      repeat' first
        | refine W_seq_c fun K hK => ?_
        | (refine W_region (by decide) ?_; simp [go_sem, c3, c4])
        | refine K_use (by assumption) ?_
        | (refine W_ret ?_; simp [go_sem, c3, c4])
        | (refine W_skip ?_; simp [go_sem, c3, c4])
        | (refine W_exit ?_; simp [go_sem, c3, c4])
        | refine W_block ?_
        | (refine W_cond (by simp [go_sem, c3, c4]; rfl) ?_; simp only [cond_true, cond_false])
        | (refine DCalls.mono (by first | exact hN _ | exact hc _) ?_; rintro _ _ ⟨rfl, hst⟩; obtain rfl := hst.symm; simp [go_sem, c3, c4])
      exact ⟨_, rfl, Pre.refl _⟩
    · rw [c1] at hN
      have c3 : (hint.size : Int) ≤ 50 := by omega
      subst hb
      repeat' first
        | refine W_seq_c fun K hK => ?_
        | (refine W_region (by decide) ?_; simp [go_sem, c2, c3])
        | refine K_use (by assumption) ?_
        | (refine W_ret ?_; simp [go_sem, c2, c3])
        | (refine W_skip ?_; simp [go_sem, c2, c3])
        | (refine W_exit ?_; simp [go_sem, c2, c3])
        | refine W_block ?_
        | (refine W_cond (by simp [go_sem, c2, c3]; rfl) ?_; simp only [cond_true, cond_false])
        | (refine DCalls.mono (by first | exact hN _ | exact hc _) ?_; rintro _ _ ⟨rfl, hst⟩; obtain rfl := hst.symm; simp [go_sem, c2, c3])
      exact ⟨_, rfl, Pre.refl _⟩
  | succ j =>
    have hb0 := fun σ => hC b σ
    rw [show inB us b = true from h1 0 (by omega)] at hb0
    refine DCalls.pure1 rfl ?_
    refine DCalls_args_of Tryd.func7 rfl (by simp [Tryd.ntmps7]) ?_
    simp only [Tryd.ntmps7]
    rcases hca with ⟨c1, hb⟩ | ⟨c1, c2, hb⟩ | ⟨c1, c2, hb⟩
    case' inl => (
      rw [c1] at hN
      subst hb
      repeat' first
        | refine W_seq_c fun K hK => ?_
        | (refine W_region (by decide) ?_; simp [go_sem])
        | refine K_use (by assumption) ?_
        | (refine W_ret ?_; simp [go_sem])
        | (refine W_skip ?_; simp [go_sem])
        | (refine W_exit ?_; simp [go_sem])
        | refine W_block ?_
        | (refine W_cond (by simp [go_sem]; rfl) ?_; simp only [cond_true, cond_false])
        | (refine DCalls.mono (by first | exact hN _ | exact hb0 _) ?_; rintro _ _ ⟨rfl, hst⟩; obtain rfl := hst.symm; simp [go_sem])
      generalize (⟨#[120]⟩ : ByteArray) = b at *
      )
    case' inr.inl => (
      rw [c1] at hN
      subst hb
      have c3 : ¬ (hint.size : Int) ≤ 50 := by omega
      have c4 : ¬ hint.size ≤ 50 := by omega
      repeat' first
        | refine W_seq_c fun K hK => ?_
        | (refine W_region (by decide) ?_; simp [go_sem, c3, c4])
        | refine K_use (by assumption) ?_
        | (refine W_ret ?_; simp [go_sem, c3, c4])
        | (refine W_skip ?_; simp [go_sem, c3, c4])
        | (refine W_exit ?_; simp [go_sem, c3, c4])
        | refine W_block ?_
        | (refine W_cond (by simp [go_sem, c3, c4]; rfl) ?_; simp only [cond_true, cond_false])
        | (refine DCalls.mono (by first | exact hN _ | exact hb0 _) ?_; rintro _ _ ⟨rfl, hst⟩; obtain rfl := hst.symm; simp [go_sem, c3, c4])
      generalize (⟨#[120]⟩ : ByteArray) = b at *
      )
    case' inr.inr => (
      rw [c1] at hN
      have c3 : (hint.size : Int) ≤ 50 := by omega
      subst hb
      repeat' first
        | refine W_seq_c fun K hK => ?_
        | (refine W_region (by decide) ?_; simp [go_sem, c2, c3])
        | refine K_use (by assumption) ?_
        | (refine W_ret ?_; simp [go_sem, c2, c3])
        | (refine W_skip ?_; simp [go_sem, c2, c3])
        | (refine W_exit ?_; simp [go_sem, c2, c3])
        | refine W_block ?_
        | (refine W_cond (by simp [go_sem, c2, c3]; rfl) ?_; simp only [cond_true, cond_false])
        | (refine DCalls.mono (by first | exact hN _ | exact hb0 _) ?_; rintro _ _ ⟨rfl, hst⟩; obtain rfl := hst.symm; simp [go_sem, c2, c3])
      )
    all_goals
      refine W_index (fun i e s' => s' = σ ∧ e.get 1 = some (.f (.sl kk es)) ∧ e.get 5 = some (.f (vS b)) ∧ e.get 6 = some (.f (vI ((i + 1 : Nat) : Int)))) j 0 (Nat.zero_le _) (by simp [go_sem]) ?_ ?_
      · rintro i e s' hi ⟨rfl, h3, h4, h5⟩ K hK
        have hc := fun σ => hC (cand b (i + 1)) σ
        rw [h1 (i + 1) (by omega)] at hc
        have hi40 : i + 1 < 40 := by omega
        have hd := fun σ => F.digits (i + 1) hi40 σ
        have hf := cat_fits b (i + 1) hbs
        have hnx : cand b (i + 1) = b ++ dig (i + 1) := rfl
        have hw : IntKind.i64.wrap (((i + 1 : Nat) : Int) + 1) = ((i + 1 + 1 : Nat) : Int) := gwrap (by omega) (by omega)
        have hle : ((i + 1 : Nat) : Int) ≤ es.length := by omega
        have hle2 : i + 1 ≤ es.length := by omega
        rw [hnx] at hc
        generalize i + 1 = m at *
        repeat' first
          | refine W_seq_c fun K hK => ?_
          | (refine W_region (by decide) ?_; simp [go_sem, h3, h4, h5, hf, hw, hle, hle2])
          | refine K_use (by assumption) ?_
          | (refine W_ret ?_; simp [go_sem, h3, h4, h5, hf, hw, hle, hle2])
          | (refine W_skip ?_; simp [go_sem, h3, h4, h5, hf, hw, hle, hle2])
          | (refine W_exit ?_; simp [go_sem, h3, h4, h5, hf, hw, hle, hle2])
          | refine W_block ?_
          | (refine W_cond (by simp [go_sem, h3, h4, h5, hf, hw, hle, hle2]; rfl) ?_; simp only [cond_true, cond_false])
          | (refine DCalls.mono (by first | exact hc _ | exact hd _) ?_; rintro _ _ ⟨rfl, hst⟩; obtain rfl := hst.symm; simp [go_sem, h3, h4, h5, hf, hw, hle, hle2])
        simp [go_sem, h4, h3]
      · rintro e s' ⟨rfl, h3, h4, h5⟩ K
        have hc := fun σ => hC (cand b (j + 1)) σ
        rw [h2] at hc
        have hi40 : j + 1 < 40 := by omega
        have hd := fun σ => F.digits (j + 1) hi40 σ
        have hf := cat_fits b (j + 1) hbs
        have hnx : cand b (j + 1) = b ++ dig (j + 1) := rfl
        have hle : ((j + 1 : Nat) : Int) ≤ es.length := by omega
        have hle2 : j + 1 ≤ es.length := by omega
        rw [hnx] at hc ⊢
        generalize j + 1 = m at *
        repeat' first
          | refine W_seq_c fun K hK => ?_
          | (refine W_region (by decide) ?_; simp [go_sem, h3, h4, h5, hf, hle, hle2])
          | refine K_use (by assumption) ?_
          | (refine W_ret ?_; simp [go_sem, h3, h4, h5, hf, hle, hle2])
          | (refine W_skip ?_; simp [go_sem, h3, h4, h5, hf, hle, hle2])
          | (refine W_exit ?_; simp [go_sem, h3, h4, h5, hf, hle, hle2])
          | refine W_block ?_
          | (refine W_cond (by simp [go_sem, h3, h4, h5, hf, hle, hle2]; rfl) ?_; simp only [cond_true, cond_false])
          | (refine DCalls.mono (by first | exact hc _ | exact hd _) ?_; rintro _ _ ⟨rfl, hst⟩; obtain rfl := hst.symm; simp [go_sem, h3, h4, h5, hf, hle, hle2])
        exact ⟨_, rfl, Pre.refl _⟩

theorem F.fresh (hint : ByteArray) (hs : hint.size < 4611686018427387904) (us : List ByteArray) (hu : us.length ≤ 30) (kk : Nat) (hkk : us = [] ∨ kk = 1) : ∃ s, inB us s = false ∧
    (∀ σ, DCalls Tryd.prog 6 [.f (vS hint), .f (.sl kk (us.map vS))] σ (isC (.ret (.f (vS s))) σ)) ∧
    (∀ σ, DCalls Tryd.prog 7 [.f (vS hint), .f (.sl kk (us.map vS))] σ (isC (.ret (.f (vS s))) σ)) := by
  obtain ⟨k, hk, h1, h2⟩ := fresh_exists us hu (fb hint)
  exact ⟨_, h2, fun σ => F.fresh1 hint hs us hu kk hkk k hk h1 h2 σ, fun σ => F.fresh2 hint hs us hu kk hkk k hk h1 h2 σ⟩
end Go.Proofs
