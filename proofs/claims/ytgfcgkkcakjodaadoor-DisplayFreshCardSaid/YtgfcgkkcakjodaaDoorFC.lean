/-
  A part of the proof of DisplayFresh: token.IsName and its reference answer alike at every text. No condition of its own.
-/
import Derived.Test.YtgfcgkkcakjodaaDoorFB
set_option linter.unusedVariables false
set_option linter.unusedSimpArgs false
namespace Go.Proofs
open Go Go.DL

theorem size_pos {s : ByteArray} (h : ¬ s = ⟨#[]⟩) : 0 < s.size := by
  rcases Nat.eq_zero_or_pos s.size with h0 | h0
  · exfalso; apply h
    cases s with
    | mk d =>
      have : d.size = 0 := h0
      rw [Array.size_eq_zero_iff] at this
      rw [this]
  · exact h0

set_option maxHeartbeats 16000000 in
theorem F.isName (s : ByteArray) (hs : s.size < 4611686018427387904) (σ : St) : DCalls Tryd.prog 11 [.f (vS s)] σ (isC (.ret (.f (vB (IsN s)))) σ) := by
  obtain ⟨k, hk, h1, h2, h3⟩ := nb_prefix s
  have hrun := fun σ => F.run s hs k hk h1 h2 σ
  have hres := fun σ => F.reserved s σ
  have hkk : ((k : Int) = (s.size : Int)) ↔ k = s.size := by omega
  by_cases c1 : s = ⟨#[]⟩
  · subst c1
    exact runB_sound F.hm (k := 1000) rfl (by kernel_rfl) σ
  have hp := size_pos c1
  by_cases c2 : s.size ≤ 64
  rotate_left
  · have hv : IsN s = false := by simp [IsN, c2]
    rw [hv]
    have c2' : ¬ (s.size : Int) ≤ 64 := by omega
    refine DCalls.pure1 rfl ?_
    refine DCalls_args_of Tryd.func11 rfl (by simp [Tryd.ntmps11]) ?_
    simp only [Tryd.ntmps11]
    repeat' first
      | refine W_seq_c fun K hK => ?_
      | (refine W_region (by decide) ?_; simp [go_sem, c1, c2, c2'])
      | refine K_use (by assumption) ?_
      | (refine W_ret ?_; simp [go_sem, c1, c2, c2'])
      | (refine W_skip ?_; simp [go_sem, c1, c2, c2'])
      | (refine W_exit ?_; simp [go_sem, c1, c2, c2'])
      | refine W_block ?_
      | refine W_of_WL ?_
      | refine WL_of_k fun K hK => ?_
      | (refine W_cond (by simp [go_sem, c1, c2, c2']; rfl) ?_; simp only [cond_true, cond_false])
    exact ⟨_, rfl, Pre.refl _⟩
  have c2' : (s.size : Int) ≤ 64 := by omega
  by_cases c3 : k = s.size
  rotate_left
  · have hv : IsN s = false := by simp [IsN, ← h3, c3]
    rw [hv]
    have c3' : ¬ (k : Int) = s.size := by omega
    refine DCalls.pure1 rfl ?_
    refine DCalls_args_of Tryd.func11 rfl (by simp [Tryd.ntmps11]) ?_
    simp only [Tryd.ntmps11]
    repeat' first
      | refine W_seq_c fun K hK => ?_
      | (refine W_region (by decide) ?_; simp [go_sem, c1, c2, c2', c3, c3'])
      | refine K_use (by assumption) ?_
      | (refine W_ret ?_; simp [go_sem, c1, c2, c2', c3, c3'])
      | (refine W_skip ?_; simp [go_sem, c1, c2, c2', c3, c3'])
      | (refine W_exit ?_; simp [go_sem, c1, c2, c2', c3, c3'])
      | refine W_block ?_
      | refine W_of_WL ?_
      | refine WL_of_k fun K hK => ?_
      | (refine W_cond (by simp [go_sem, c1, c2, c2', c3, c3']; rfl) ?_; simp only [cond_true, cond_false])
      | (refine DCalls.mono (by first | exact hrun _) ?_; rintro _ _ ⟨rfl, hst⟩; obtain rfl := hst.symm; simp [go_sem, c1, c2, c2', c3, c3'])
    exact ⟨_, rfl, Pre.refl _⟩
  have ha : AllNB s = true := by rw [← h3]; simp [c3]
  subst c3
  cases c4 : RW s with
  | true =>
    have hv : IsN s = false := by simp [IsN, c4]
    rw [hv]
    rw [c4] at hres
    refine DCalls.pure1 rfl ?_
    refine DCalls_args_of Tryd.func11 rfl (by simp [Tryd.ntmps11]) ?_
    simp only [Tryd.ntmps11]
    repeat' first
      | refine W_seq_c fun K hK => ?_
      | (refine W_region (by decide) ?_; simp [go_sem, c1, c2, c2'])
      | refine K_use (by assumption) ?_
      | (refine W_ret ?_; simp [go_sem, c1, c2, c2'])
      | (refine W_skip ?_; simp [go_sem, c1, c2, c2'])
      | (refine W_exit ?_; simp [go_sem, c1, c2, c2'])
      | refine W_block ?_
      | refine W_of_WL ?_
      | refine WL_of_k fun K hK => ?_
      | (refine W_cond (by simp [go_sem, c1, c2, c2']; rfl) ?_; simp only [cond_true, cond_false])
      | (refine DCalls.mono (by first | exact hrun _ | exact hres _) ?_; rintro _ _ ⟨rfl, hst⟩; obtain rfl := hst.symm; simp [go_sem, c1, c2, c2'])
    exact ⟨_, rfl, Pre.refl _⟩
  | false =>
    have hv : IsN s = decide (¬ (bt s 0 : Int) = 64) := by
      have : ((bt s 0 : Int) = 64) ↔ bt s 0 = 64 := by omega
      simp [IsN, c1, c2, c4, ha, this]
    rw [hv]
    rw [c4] at hres
    have hb : byteAt s 0 = (bt s 0 : Int) := byteAt_bt s 0
    generalize bt s 0 = b0 at *
    refine DCalls.pure1 rfl ?_
    refine DCalls_args_of Tryd.func11 rfl (by simp [Tryd.ntmps11]) ?_
    simp only [Tryd.ntmps11]
    repeat' first
      | refine W_seq_c fun K hK => ?_
      | (refine W_region (by decide) ?_; simp [go_sem, c1, c2, c2', hp, hb])
      | refine K_use (by assumption) ?_
      | (refine W_ret ?_; simp [go_sem, c1, c2, c2', hp, hb])
      | (refine W_skip ?_; simp [go_sem, c1, c2, c2', hp, hb])
      | (refine W_exit ?_; simp [go_sem, c1, c2, c2', hp, hb])
      | refine W_block ?_
      | refine W_of_WL ?_
      | refine WL_of_k fun K hK => ?_
      | (refine W_cond (by simp [go_sem, c1, c2, c2', hp, hb]; rfl) ?_; simp only [cond_true, cond_false])
      | (refine DCalls.mono (by first | exact hrun _ | exact hres _) ?_; rintro _ _ ⟨rfl, hst⟩; obtain rfl := hst.symm; simp [go_sem, c1, c2, c2', hp, hb])
    exact ⟨_, rfl, Pre.refl _⟩

set_option maxHeartbeats 16000000 in
theorem F.isName2 (s : ByteArray) (hs : s.size < 4611686018427387904) (σ : St) : DCalls Tryd.prog 14 [.f (vS s)] σ (isC (.ret (.f (vB (IsN s)))) σ) := by
  obtain ⟨k, hk, h1, h2, h3⟩ := nb_prefix s
  have hres := fun σ => F.reserved2 s σ
  by_cases c1 : s = ⟨#[]⟩
  · subst c1
    exact runB_sound F.hm (k := 1000) rfl (by kernel_rfl) σ
  have hp := size_pos c1
  have hp2 : ¬ ((s.size : Int) = 0) := by omega
  have hp3 : ¬ (s.size = 0) := by omega
  by_cases c2 : s.size ≤ 64
  rotate_left
  · have hv : IsN s = false := by simp [IsN, c2]
    rw [hv]
    have c2' : (64 : Int) < s.size := by omega
    have c2'' : 64 < s.size := by omega
    refine DCalls.pure1 rfl ?_
    refine DCalls_args_of Tryd.func14 rfl (by simp [Tryd.ntmps14]) ?_
    simp only [Tryd.ntmps14]
    repeat' first
      | refine W_seq_c fun K hK => ?_
      | (refine W_region (by decide) ?_; simp [go_sem, c1, c2', c2'', hp2, hp3])
      | refine K_use (by assumption) ?_
      | (refine W_ret ?_; simp [go_sem, c1, c2', c2'', hp2, hp3])
      | (refine W_skip ?_; simp [go_sem, c1, c2', c2'', hp2, hp3])
      | (refine W_exit ?_; simp [go_sem, c1, c2', c2'', hp2, hp3])
      | refine W_block ?_
      | refine W_of_WL ?_
      | refine WL_of_k fun K hK => ?_
      | (refine W_cond (by simp [go_sem, c1, c2', c2'', hp2, hp3]; rfl) ?_; simp only [cond_true, cond_false])
    exact ⟨_, rfl, Pre.refl _⟩
  have c2' : ¬ (64 : Int) < s.size := by omega
  have c2'' : ¬ 64 < s.size := by omega
  cases c4 : RW s with
  | true =>
    have hv : IsN s = false := by simp [IsN, c4]
    rw [hv]
    rw [c4] at hres
    refine DCalls.pure1 rfl ?_
    refine DCalls_args_of Tryd.func14 rfl (by simp [Tryd.ntmps14]) ?_
    simp only [Tryd.ntmps14]
    repeat' first
      | refine W_seq_c fun K hK => ?_
      | (refine W_region (by decide) ?_; simp [go_sem, c1, c2', c2'', hp2, hp3])
      | refine K_use (by assumption) ?_
      | (refine W_ret ?_; simp [go_sem, c1, c2', c2'', hp2, hp3])
      | (refine W_skip ?_; simp [go_sem, c1, c2', c2'', hp2, hp3])
      | (refine W_exit ?_; simp [go_sem, c1, c2', c2'', hp2, hp3])
      | refine W_block ?_
      | refine W_of_WL ?_
      | refine WL_of_k fun K hK => ?_
      | (refine W_cond (by simp [go_sem, c1, c2', c2'', hp2, hp3]; rfl) ?_; simp only [cond_true, cond_false])
      | (refine DCalls.mono (by first | exact hres _) ?_; rintro _ _ ⟨rfl, hst⟩; obtain rfl := hst.symm; simp [go_sem, c1, c2', c2'', hp2, hp3])
    exact ⟨_, rfl, Pre.refl _⟩
  | false =>
    rw [c4] at hres
    have hb : byteAt s 0 = (bt s 0 : Int) := byteAt_bt s 0
    by_cases c5 : bt s 0 = 64
    · have hv : IsN s = false := by simp [IsN, c5]
      rw [hv]
      have c5' : (bt s 0 : Int) = 64 := by omega
      refine DCalls.pure1 rfl ?_
      refine DCalls_args_of Tryd.func14 rfl (by simp [Tryd.ntmps14]) ?_
      simp only [Tryd.ntmps14]
      repeat' first
        | refine W_seq_c fun K hK => ?_
        | (refine W_region (by decide) ?_; simp [go_sem, c1, c2', c2'', hp2, hp3, hp, hb, c5'])
        | refine K_use (by assumption) ?_
        | (refine W_ret ?_; simp [go_sem, c1, c2', c2'', hp2, hp3, hp, hb, c5'])
        | (refine W_skip ?_; simp [go_sem, c1, c2', c2'', hp2, hp3, hp, hb, c5'])
        | (refine W_exit ?_; simp [go_sem, c1, c2', c2'', hp2, hp3, hp, hb, c5'])
        | refine W_block ?_
        | refine W_of_WL ?_
        | refine WL_of_k fun K hK => ?_
        | (refine W_cond (by simp [go_sem, c1, c2', c2'', hp2, hp3, hp, hb, c5']; rfl) ?_; simp only [cond_true, cond_false])
        | (refine DCalls.mono (by first | exact hres _) ?_; rintro _ _ ⟨rfl, hst⟩; obtain rfl := hst.symm; simp [go_sem, c1, c2', c2'', hp2, hp3, hp, hb, c5'])
      exact ⟨_, rfl, Pre.refl _⟩
    · have hv : IsN s = decide (k = s.size) := by simp [IsN, c1, c2, c4, c5, h3]
      rw [hv]
      have c5' : ¬ (bt s 0 : Int) = 64 := by omega
      refine DCalls.pure1 rfl ?_
      refine DCalls_args_of Tryd.func14 rfl (by simp [Tryd.ntmps14]) ?_
      simp only [Tryd.ntmps14]
      repeat' first
        | refine W_seq_c fun K hK => ?_
        | (refine W_region (by decide) ?_; simp [go_sem, c1, c2', c2'', hp2, hp3, hp, hb, c5'])
        | refine K_use (by assumption) ?_
        | (refine W_ret ?_; simp [go_sem, c1, c2', c2'', hp2, hp3, hp, hb, c5'])
        | (refine W_skip ?_; simp [go_sem, c1, c2', c2'', hp2, hp3, hp, hb, c5'])
        | (refine W_exit ?_; simp [go_sem, c1, c2', c2'', hp2, hp3, hp, hb, c5'])
        | refine W_block ?_
        | (refine W_cond (by simp [go_sem, c1, c2', c2'', hp2, hp3, hp, hb, c5']; rfl) ?_; simp only [cond_true, cond_false])
        | (refine DCalls.mono (by first | exact hres _) ?_; rintro _ _ ⟨rfl, hst⟩; obtain rfl := hst.symm; simp [go_sem, c1, c2', c2'', hp2, hp3, hp, hb, c5'])
      refine W_index (fun i e s' => s' = σ ∧ e.get 0 = some (.f (vS s)) ∧ e.get 3 = some (.f (vI i))) k 0 (Nat.zero_le _) (by simp [go_sem]) ?_ ?_
      · rintro i e s' hi ⟨rfl, h0, h4⟩ K hK
        have hlt : i < s.size := by omega
        have hlt2 : (i : Int) < s.size := by omega
        have hb := byteAt_bt s i
        have hc := fun σ => F.nameByte2 (bt s i) (bt_lt s i) σ
        rw [h1 i hi] at hc
        have hw : IntKind.i64.wrap ((i : Int) + 1) = (i : Int) + 1 := gwrap (by omega) (by omega)
        repeat' first
          | refine W_seq_c fun K hK => ?_
          | (refine W_region (by decide) ?_; simp [go_sem, h0, h4, hlt, hlt2, hb, hw])
          | refine K_use (by assumption) ?_
          | (refine W_ret ?_; simp [go_sem, h0, h4, hlt, hlt2, hb, hw])
          | (refine W_skip ?_; simp [go_sem, h0, h4, hlt, hlt2, hb, hw])
          | (refine W_exit ?_; simp [go_sem, h0, h4, hlt, hlt2, hb, hw])
          | refine W_block ?_
          | (refine W_cond (by simp [go_sem, h0, h4, hlt, hlt2, hb, hw]; rfl) ?_; simp only [cond_true, cond_false])
          | (refine DCalls.mono (by first | exact hc _) ?_; rintro _ _ ⟨rfl, hst⟩; obtain rfl := hst.symm; simp [go_sem, h0, h4, hlt, hlt2, hb, hw])
        simp [go_sem, h0, h4]
      · rintro e s' ⟨rfl, h0, h4⟩ K
        rcases h2 with h2 | ⟨h2, h5⟩
        · have hlt2 : ¬ (k : Int) < s.size := by omega
          have hlt3 : ¬ k < s.size := by omega
          repeat' first
            | refine W_seq_c fun K hK => ?_
            | (refine W_region (by decide) ?_; simp [go_sem, h0, h4, hlt2, hlt3])
            | refine K_use (by assumption) ?_
            | (refine W_ret ?_; simp [go_sem, h0, h4, hlt2, hlt3])
            | (refine W_skip ?_; simp [go_sem, h0, h4, hlt2, hlt3])
            | (refine W_exit ?_; simp [go_sem, h0, h4, hlt2, hlt3])
            | refine W_block ?_
            | (refine W_cond (by simp [go_sem, h0, h4, hlt2, hlt3]; rfl) ?_; simp only [cond_true, cond_false])
          exact ⟨_, by simp [h2]; rfl, Pre.refl _⟩
        · have hlt2 : (k : Int) < s.size := by omega
          have hb := byteAt_bt s k
          have hc := fun σ => F.nameByte2 (bt s k) (bt_lt s k) σ
          rw [h5] at hc
          have hne : ¬ k = s.size := by omega
          repeat' first
            | refine W_seq_c fun K hK => ?_
            | (refine W_region (by decide) ?_; simp [go_sem, h0, h4, hlt2, h2, hb])
            | refine K_use (by assumption) ?_
            | (refine W_ret ?_; simp [go_sem, h0, h4, hlt2, h2, hb])
            | (refine W_skip ?_; simp [go_sem, h0, h4, hlt2, h2, hb])
            | (refine W_exit ?_; simp [go_sem, h0, h4, hlt2, h2, hb])
            | refine W_block ?_
            | (refine W_cond (by simp [go_sem, h0, h4, hlt2, h2, hb]; rfl) ?_; simp only [cond_true, cond_false])
            | (refine DCalls.mono (by first | exact hc _) ?_; rintro _ _ ⟨rfl, hst⟩; obtain rfl := hst.symm; simp [go_sem, h0, h4, hlt2, h2, hb])
          exact ⟨_, by simp [hne]; rfl, Pre.refl _⟩
end Go.Proofs
