/-
  A part of the proof of DisplayFresh: both forms of IsName answer alike at every text. No condition of its own.
-/
import Derived.Test.YtgfcgkkcakjodaaDoorFA
set_option linter.unusedVariables false
set_option linter.unusedSimpArgs false
namespace Go.Proofs
open Go Go.DL

def RW (s : ByteArray) : Bool := decide (s = ⟨#[45, 62]⟩) || decide (s = ⟨#[60, 45]⟩) || decide (s = ⟨#[61]⟩) || decide (s = ⟨#[95]⟩) || decide (s = ⟨#[116, 121, 112, 101]⟩)
theorem RW_cases (s : ByteArray) : s = ⟨#[45, 62]⟩ ∨ s = ⟨#[60, 45]⟩ ∨ s = ⟨#[61]⟩ ∨ s = ⟨#[95]⟩ ∨ s = ⟨#[116, 121, 112, 101]⟩ ∨ (¬ s = ⟨#[45, 62]⟩ ∧ ¬ s = ⟨#[60, 45]⟩ ∧ ¬ s = ⟨#[61]⟩ ∧ ¬ s = ⟨#[95]⟩ ∧ ¬ s = ⟨#[116, 121, 112, 101]⟩) := by
  by_cases h1 : s = ⟨#[45, 62]⟩
  · exact .inl h1
  by_cases h2 : s = ⟨#[60, 45]⟩
  · exact .inr (.inl h2)
  by_cases h3 : s = ⟨#[61]⟩
  · exact .inr (.inr (.inl h3))
  by_cases h4 : s = ⟨#[95]⟩
  · exact .inr (.inr (.inr (.inl h4)))
  by_cases h5 : s = ⟨#[116, 121, 112, 101]⟩
  · exact .inr (.inr (.inr (.inr (.inl h5))))
  exact .inr (.inr (.inr (.inr (.inr ⟨h1, h2, h3, h4, h5⟩))))

set_option maxHeartbeats 8000000 in
theorem F.reserved (s : ByteArray) (σ : St) : DCalls Tryd.prog 23 [.f (vS s)] σ (isC (.ret (.f (vB (RW s)))) σ) := by
  rcases RW_cases s with rfl | rfl | rfl | rfl | rfl | ⟨h1, h2, h3, h4, h5⟩
  iterate 5 exact runB_sound F.hm (k := 1000) rfl (by kernel_rfl) σ
  have hr : RW s = false := by simp [RW, h1, h2, h3, h4, h5]
  rw [hr]
  refine DCalls.pure1 rfl ?_
  refine DCalls_args_of Tryd.func23 rfl (by simp [Tryd.ntmps23]) ?_
  simp only [Tryd.ntmps23]
  repeat' first
    | refine W_seq_c fun K hK => ?_
    | (refine W_region (by decide) ?_; simp [go_sem, h1, h2, h3, h4, h5])
    | refine K_use (by assumption) ?_
    | (refine W_ret ?_; simp [go_sem, h1, h2, h3, h4, h5])
    | (refine W_skip ?_; simp [go_sem, h1, h2, h3, h4, h5])
    | (refine W_exit ?_; simp [go_sem, h1, h2, h3, h4, h5])
    | refine W_block ?_
    | refine W_of_WL ?_
    | refine WL_of_k fun K hK => ?_
    | (refine W_cond (by simp [go_sem, h1, h2, h3, h4, h5]; rfl) ?_; simp only [cond_true, cond_false])
  exact ⟨_, rfl, Pre.refl _⟩
set_option maxHeartbeats 8000000 in
theorem F.reserved2 (s : ByteArray) (σ : St) : DCalls Tryd.prog 26 [.f (vS s)] σ (isC (.ret (.f (vB (RW s)))) σ) := by
  rcases RW_cases s with rfl | rfl | rfl | rfl | rfl | ⟨h1, h2, h3, h4, h5⟩
  iterate 5 exact runB_sound F.hm (k := 1000) rfl (by kernel_rfl) σ
  have hr : RW s = false := by simp [RW, h1, h2, h3, h4, h5]
  rw [hr]
  refine DCalls.pure1 rfl ?_
  refine DCalls_args_of Tryd.func26 rfl (by simp [Tryd.ntmps26]) ?_
  simp only [Tryd.ntmps26]
  repeat' first
    | refine W_seq_c fun K hK => ?_
    | (refine W_region (by decide) ?_; simp [go_sem, h1, h2, h3, h4, h5])
    | refine K_use (by assumption) ?_
    | (refine W_ret ?_; simp [go_sem, h1, h2, h3, h4, h5])
    | (refine W_skip ?_; simp [go_sem, h1, h2, h3, h4, h5])
    | (refine W_exit ?_; simp [go_sem, h1, h2, h3, h4, h5])
    | refine W_block ?_
    | refine W_of_WL ?_
    | refine WL_of_k fun K hK => ?_
    | (refine W_cond (by simp [go_sem, h1, h2, h3, h4, h5]; rfl) ?_; simp only [cond_true, cond_false])
  exact ⟨_, rfl, Pre.refl _⟩

/-! ### The bytes of a text -/
def bt (s : ByteArray) (i : Nat) : Nat := ((s.data.toList[i]?).getD 0).toNat
theorem bt_lt (s : ByteArray) (i : Nat) : bt s i < 256 := UInt8.toNat_lt _
theorem byteAt_bt (s : ByteArray) (i : Nat) : byteAt s (i : Int) = (bt s i : Int) := rfl
def AllNB (s : ByteArray) : Bool := s.data.toList.all fun b => NB b.toNat
def IsN (s : ByteArray) : Bool := decide (¬ s = ⟨#[]⟩) && decide (s.size ≤ 64) && AllNB s && !RW s && decide (¬ bt s 0 = 64)
theorem nb_prefix (s : ByteArray) : ∃ k, k ≤ s.size ∧ (∀ i, i < k → NB (bt s i) = true) ∧ (k = s.size ∨ (k < s.size ∧ NB (bt s k) = false)) ∧ decide (k = s.size) = AllNB s := by
  have key : ∀ l : List UInt8, ∃ k, k ≤ l.length ∧ (∀ i, i < k → NB ((l[i]?).getD 0).toNat = true) ∧ (k = l.length ∨ (k < l.length ∧ NB ((l[k]?).getD 0).toNat = false)) ∧ decide (k = l.length) = l.all fun b => NB b.toNat := by
    intro l
    induction l with
    | nil => exact ⟨0, by simp, by simp, .inl rfl, by simp⟩
    | cons b l ih =>
      cases hb : NB b.toNat with
      | false => exact ⟨0, by simp, by simp, .inr ⟨by simp, by simpa using hb⟩, by simp [hb]⟩
      | true =>
        obtain ⟨k, h1, h2, h3, h4⟩ := ih
        refine ⟨k + 1, by simpa using h1, fun i hi => ?_, ?_, ?_⟩
        · cases i with
          | zero => simpa using hb
          | succ i => simpa using h2 i (by omega)
        · rcases h3 with h3 | ⟨h3, h5⟩
          · exact .inl (by simp [h3])
          · exact .inr ⟨by simpa using h3, by simpa using h5⟩
        · simp [hb, ← h4]
  have hs : s.size = s.data.toList.length := rfl
  rw [hs]
  exact key s.data.toList

set_option maxHeartbeats 8000000 in
theorem F.run (s : ByteArray) (hs : s.size < 4611686018427387904) (k : Nat) (hk : k ≤ s.size) (h1 : ∀ i, i < k → NB (bt s i) = true) (h2 : k = s.size ∨ (k < s.size ∧ NB (bt s k) = false)) (σ : St) :
    DCalls Tryd.prog 21 [.f (vS s), .f (vI 0), .fn (.func 22) []] σ (isC (.ret (.f (vI k))) σ) := by
  refine DCalls.pure1 rfl ?_
  refine DCalls_args_of Tryd.func21 rfl (by simp [Tryd.ntmps21]) ?_
  simp only [Tryd.ntmps21]
  repeat' first
    | refine W_seq_c fun K hK => ?_
    | (refine W_region (by decide) ?_; simp [go_sem])
    | refine K_use (by assumption) ?_
    | (refine W_ret ?_; simp [go_sem])
    | (refine W_skip ?_; simp [go_sem])
    | (refine W_exit ?_; simp [go_sem])
    | refine W_block ?_
    | (refine W_cond (by simp [go_sem]; rfl) ?_; simp only [cond_true, cond_false])
  refine W_index (fun i e s' => s' = σ ∧ e.get 0 = some (.f (vS s)) ∧ e.get 1 = some (.f (vI i)) ∧ e.get 2 = some (.fn (.func 22) [])) k 0 (Nat.zero_le _) (by simp [go_sem]) ?_ ?_
  · rintro i e s' hi ⟨rfl, h0, h3, h4⟩ K hK
    have hlt : i < s.size := by omega
    have hlt2 : (i : Int) < s.size := by omega
    have hb := byteAt_bt s i
    have hc := fun σ => F.nameByte (bt s i) (bt_lt s i) σ
    rw [h1 i hi] at hc
    have hw : IntKind.i64.wrap ((i : Int) + 1) = (i : Int) + 1 := gwrap (by omega) (by omega)
    repeat' first
      | refine W_seq_c fun K hK => ?_
      | (refine W_region (by decide) ?_; simp [go_sem, h0, h3, h4, hlt, hlt2, hb, hw])
      | refine K_use (by assumption) ?_
      | (refine W_ret ?_; simp [go_sem, h0, h3, h4, hlt, hlt2, hb, hw])
      | (refine W_skip ?_; simp [go_sem, h0, h3, h4, hlt, hlt2, hb, hw])
      | (refine W_exit ?_; simp [go_sem, h0, h3, h4, hlt, hlt2, hb, hw])
      | refine W_block ?_
      | (refine W_cond (by simp [go_sem, h0, h3, h4, hlt, hlt2, hb, hw]; rfl) ?_; simp only [cond_true, cond_false])
      | (refine DCalls.mono (by first | exact hc _) ?_; rintro _ _ ⟨rfl, rfl⟩; simp [go_sem, h0, h3, h4, hlt, hlt2, hb, hw])
    simp [go_sem, h0, h4]
  · rintro e s' ⟨rfl, h0, h3, h4⟩ K
    rcases h2 with h2 | ⟨h2, h5⟩
    · have hlt2 : ¬ (k : Int) < s.size := by omega
      have hlt3 : ¬ k < s.size := by omega
      repeat' first
        | refine W_seq_c fun K hK => ?_
        | (refine W_region (by decide) ?_; simp [go_sem, h0, h3, h4, hlt2, hlt3])
        | refine K_use (by assumption) ?_
        | (refine W_ret ?_; simp [go_sem, h0, h3, h4, hlt2, hlt3])
        | (refine W_skip ?_; simp [go_sem, h0, h3, h4, hlt2, hlt3])
        | (refine W_exit ?_; simp [go_sem, h0, h3, h4, hlt2, hlt3])
        | refine W_block ?_
        | (refine W_cond (by simp [go_sem, h0, h3, h4, hlt2, hlt3]; rfl) ?_; simp only [cond_true, cond_false])
      exact ⟨_, rfl, Pre.refl _⟩
    · have hlt2 : (k : Int) < s.size := by omega
      have hb := byteAt_bt s k
      have hc := fun σ => F.nameByte (bt s k) (bt_lt s k) σ
      rw [h5] at hc
      repeat' first
        | refine W_seq_c fun K hK => ?_
        | (refine W_region (by decide) ?_; simp [go_sem, h0, h3, h4, hlt2, h2, hb])
        | refine K_use (by assumption) ?_
        | (refine W_ret ?_; simp [go_sem, h0, h3, h4, hlt2, h2, hb])
        | (refine W_skip ?_; simp [go_sem, h0, h3, h4, hlt2, h2, hb])
        | (refine W_exit ?_; simp [go_sem, h0, h3, h4, hlt2, h2, hb])
        | refine W_block ?_
        | (refine W_cond (by simp [go_sem, h0, h3, h4, hlt2, h2, hb]; rfl) ?_; simp only [cond_true, cond_false])
        | (refine DCalls.mono (by first | exact hc _) ?_; rintro _ _ ⟨rfl, rfl⟩; simp [go_sem, h0, h3, h4, hlt2, h2, hb])
      exact ⟨_, rfl, Pre.refl _⟩
end Go.Proofs
