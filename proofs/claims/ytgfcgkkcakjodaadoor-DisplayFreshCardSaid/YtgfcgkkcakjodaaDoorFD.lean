/-
  A part of the proof of DisplayFresh: whether a text is an element of a list, by slices.Contains and by its reference. No condition of its own.
-/
import Derived.Test.YtgfcgkkcakjodaaDoorFC
set_option linter.unusedVariables false
set_option linter.unusedSimpArgs false
namespace Go.Proofs
open Go Go.DL

def inB (us : List ByteArray) (s : ByteArray) : Bool := us.any fun x => decide (x = s)
theorem first_at (us : List ByteArray) (s : ByteArray) : ∃ k, k ≤ us.length ∧ (∀ i, i < k → ∃ x, us[i]? = some x ∧ ¬ x = s) ∧ ((k = us.length ∧ inB us s = false) ∨ (us[k]? = some s ∧ inB us s = true)) := by
  induction us with
  | nil => exact ⟨0, by simp, by simp, .inl (by simp [inB])⟩
  | cons u us ih =>
    by_cases h : u = s
    · exact ⟨0, by simp, by simp, .inr (by simp [h, inB])⟩
    · obtain ⟨k, h1, h2, h3⟩ := ih
      refine ⟨k + 1, by simpa using h1, fun i hi => ?_, ?_⟩
      · cases i with
        | zero => exact ⟨u, rfl, h⟩
        | succ i => simpa using h2 i (by omega)
      · rcases h3 with ⟨h3, h4⟩ | ⟨h3, h4⟩
        · exact .inl ⟨by simp [h3], by simpa [inB, h] using h4⟩
        · exact .inr ⟨by simpa using h3, by simp only [inB, List.any_cons]; rw [show us.any (fun x => decide (x = s)) = true from h4]; simp⟩

set_option maxHeartbeats 16000000 in
theorem F.isIn (us : List ByteArray) (hu : us.length < 4611686018427387904) (kk : Nat) (hkk : us = [] ∨ kk = 1) (s : ByteArray) (σ : St) : DCalls Tryd.prog 8 [.f (.sl kk (us.map vS)), .f (vS s)] σ (isC (.ret (.f (vB (inB us s)))) σ) := by
  obtain ⟨k, h1, h2, h3⟩ := first_at us s
  obtain ⟨es, hes⟩ : ∃ es : List FVal, us.map vS = es := ⟨_, rfl⟩
  have hel : es.length = us.length := by rw [← hes, List.length_map]
  have hget : ∀ i x, us[i]? = some x → es[i]? = some (FVal.lit (.string x)) := fun i x hx => by rw [← hes, List.getElem?_map, hx]; rfl
  have hk1 : 0 < es.length → kk = 1 := fun h => hkk.resolve_left (by intro e; rw [e] at hel; rw [hel] at h; simp at h)
  rw [hes]
  refine DCalls.pure1 rfl ?_
  refine DCalls_args_of Tryd.func8 rfl (by simp [Tryd.ntmps8]) ?_
  simp only [Tryd.ntmps8]
  repeat' first
    | refine W_seq_c fun K hK => ?_
    | (refine W_region (by decide) ?_; simp [go_sem])
    | refine K_use (by assumption) ?_
    | (refine W_ret ?_; simp [go_sem])
    | (refine W_skip ?_; simp [go_sem])
    | (refine W_exit ?_; simp [go_sem])
    | refine W_block ?_
    | (refine W_cond (by simp [go_sem]; rfl) ?_; simp only [cond_true, cond_false])
  refine W_index (fun i e s' => s' = σ ∧ e.get 0 = some (.f (.sl kk es)) ∧ e.get 1 = some (.f (vS s)) ∧ e.get 5 = some (.f (vI i))) k 0 (Nat.zero_le _) (by simp [go_sem]) ?_ ?_
  · rintro i e s' hi ⟨rfl, h0, h4, h5⟩ K hK
    obtain ⟨x, hx, hxs⟩ := h2 i hi
    have he := hget i x hx
    obtain ⟨hlt, hge⟩ := gge he
    have hlt2 : (i : Int) < es.length := by omega
    have hkk1 := hk1 (by omega)
    have hw : IntKind.i64.wrap ((i : Int) + 1) = (i : Int) + 1 := gwrap (by omega) (by omega)
    repeat' first
      | refine W_seq_c fun K hK => ?_
      | (refine W_region (by decide) ?_; simp [go_sem, h0, h4, h5, hlt, hlt2, he, hge, hxs, hkk1, hw])
      | refine K_use (by assumption) ?_
      | (refine W_ret ?_; simp [go_sem, h0, h4, h5, hlt, hlt2, he, hge, hxs, hkk1, hw])
      | (refine W_skip ?_; simp [go_sem, h0, h4, h5, hlt, hlt2, he, hge, hxs, hkk1, hw])
      | (refine W_exit ?_; simp [go_sem, h0, h4, h5, hlt, hlt2, he, hge, hxs, hkk1, hw])
      | refine W_block ?_
      | (refine W_cond (by simp [go_sem, h0, h4, h5, hlt, hlt2, he, hge, hxs, hkk1, hw]; rfl) ?_; simp only [cond_true, cond_false])
    simp [go_sem, h0, h4, hkk1]
  · rintro e s' ⟨rfl, h0, h4, h5⟩ K
    rcases h3 with ⟨h3, h6⟩ | ⟨h3, h6⟩
    · have hlt2 : ¬ (k : Int) < es.length := by omega
      have hlt3 : ¬ k < es.length := by omega
      repeat' first
        | refine W_seq_c fun K hK => ?_
        | (refine W_region (by decide) ?_; simp [go_sem, h0, h4, h5, hlt2, hlt3])
        | refine K_use (by assumption) ?_
        | (refine W_ret ?_; simp [go_sem, h0, h4, h5, hlt2, hlt3])
        | (refine W_skip ?_; simp [go_sem, h0, h4, h5, hlt2, hlt3])
        | (refine W_exit ?_; simp [go_sem, h0, h4, h5, hlt2, hlt3])
        | refine W_block ?_
        | (refine W_cond (by simp [go_sem, h0, h4, h5, hlt2, hlt3]; rfl) ?_; simp only [cond_true, cond_false])
      exact ⟨_, by simp [h6]; rfl, Pre.refl _⟩
    · have he := hget k s h3
      obtain ⟨hlt, hge⟩ := gge he
      have hlt2 : (k : Int) < es.length := by omega
      have hkk1 := hk1 (by omega)
      repeat' first
        | refine W_seq_c fun K hK => ?_
        | (refine W_region (by decide) ?_; simp [go_sem, h0, h4, h5, hlt, hlt2, he, hge, hkk1])
        | refine K_use (by assumption) ?_
        | (refine W_ret ?_; simp [go_sem, h0, h4, h5, hlt, hlt2, he, hge, hkk1])
        | (refine W_skip ?_; simp [go_sem, h0, h4, h5, hlt, hlt2, he, hge, hkk1])
        | (refine W_exit ?_; simp [go_sem, h0, h4, h5, hlt, hlt2, he, hge, hkk1])
        | refine W_block ?_
        | (refine W_cond (by simp [go_sem, h0, h4, h5, hlt, hlt2, he, hge, hkk1]; rfl) ?_; simp only [cond_true, cond_false])
      exact ⟨_, by simp [h6]; rfl, Pre.refl _⟩

set_option maxHeartbeats 16000000 in
theorem F.index (us : List ByteArray) (hu : us.length < 4611686018427387904) (kk : Nat) (hkk : us = [] ∨ kk = 1) (s : ByteArray) : ∃ r : Int, decide (0 ≤ r) = inB us s ∧ ∀ σ, DCalls Tryd.prog 24 [.f (.sl kk (us.map vS)), .f (vS s)] σ (isC (.ret (.f (vI r))) σ) := by
  obtain ⟨k, h1, h2, h3⟩ := first_at us s
  refine ⟨if inB us s = true then k else -1, by cases hm : inB us s <;> simp, fun σ => ?_⟩
  obtain ⟨es, hes⟩ : ∃ es : List FVal, us.map vS = es := ⟨_, rfl⟩
  have hel : es.length = us.length := by rw [← hes, List.length_map]
  have hget : ∀ i x, us[i]? = some x → es[i]? = some (FVal.lit (.string x)) := fun i x hx => by rw [← hes, List.getElem?_map, hx]; rfl
  have hk1 : 0 < es.length → kk = 1 := fun h => hkk.resolve_left (by intro e; rw [e] at hel; rw [hel] at h; simp at h)
  rw [hes]
  refine DCalls.pure1 rfl ?_
  refine DCalls_args_of Tryd.func24 rfl (by simp [Tryd.ntmps24]) ?_
  simp only [Tryd.ntmps24]
  repeat' first
    | refine W_seq_c fun K hK => ?_
    | (refine W_region (by decide) ?_; simp [go_sem])
    | refine K_use (by assumption) ?_
    | (refine W_ret ?_; simp [go_sem])
    | (refine W_skip ?_; simp [go_sem])
    | (refine W_exit ?_; simp [go_sem])
    | refine W_block ?_
    | (refine W_cond (by simp [go_sem]; rfl) ?_; simp only [cond_true, cond_false])
  refine W_index (fun i e s' => s' = σ ∧ e.get 0 = some (.f (.sl kk es)) ∧ e.get 1 = some (.f (vS s)) ∧ e.get 7 = some (.f (vI es.length)) ∧ e.get 8 = some (.f (vI i))) k 0 (Nat.zero_le _) (by simp [go_sem]) ?_ ?_
  · rintro i e s' hi ⟨rfl, h0, h4, h7, h5⟩ K hK
    obtain ⟨x, hx, hxs⟩ := h2 i hi
    have hxs' : ¬ s = x := fun e => hxs e.symm
    have he := hget i x hx
    obtain ⟨hlt, hge⟩ := gge he
    have hlt2 : (i : Int) < es.length := by omega
    have hkk1 := hk1 (by omega)
    have hw : IntKind.i64.wrap ((i : Int) + 1) = (i : Int) + 1 := gwrap (by omega) (by omega)
    repeat' first
      | refine W_seq_c fun K hK => ?_
      | (refine W_region (by decide) ?_; simp [go_sem, h0, h4, h5, h7, hlt, hlt2, he, hge, hxs, hxs', hkk1, hw])
      | refine K_use (by assumption) ?_
      | (refine W_ret ?_; simp [go_sem, h0, h4, h5, h7, hlt, hlt2, he, hge, hxs, hxs', hkk1, hw])
      | (refine W_skip ?_; simp [go_sem, h0, h4, h5, h7, hlt, hlt2, he, hge, hxs, hxs', hkk1, hw])
      | (refine W_exit ?_; simp [go_sem, h0, h4, h5, h7, hlt, hlt2, he, hge, hxs, hxs', hkk1, hw])
      | refine W_block ?_
      | (refine W_cond (by simp [go_sem, h0, h4, h5, h7, hlt, hlt2, he, hge, hxs, hxs', hkk1, hw]; rfl) ?_; simp only [cond_true, cond_false])
    simp [go_sem, h0, h4, h7, hkk1]
  · rintro e s' ⟨rfl, h0, h4, h7, h5⟩ K
    rcases h3 with ⟨h3, h6⟩ | ⟨h3, h6⟩
    · have hlt2 : ¬ (k : Int) < es.length := by omega
      have hlt3 : ¬ k < es.length := by omega
      repeat' first
        | refine W_seq_c fun K hK => ?_
        | (refine W_region (by decide) ?_; simp [go_sem, h0, h4, h5, h7, hlt2, hlt3])
        | refine K_use (by assumption) ?_
        | (refine W_ret ?_; simp [go_sem, h0, h4, h5, h7, hlt2, hlt3])
        | (refine W_skip ?_; simp [go_sem, h0, h4, h5, h7, hlt2, hlt3])
        | (refine W_exit ?_; simp [go_sem, h0, h4, h5, h7, hlt2, hlt3])
        | refine W_block ?_
        | (refine W_cond (by simp [go_sem, h0, h4, h5, h7, hlt2, hlt3]; rfl) ?_; simp only [cond_true, cond_false])
      exact ⟨_, by simp [h6]; rfl, Pre.refl _⟩
    · have he := hget k s h3
      obtain ⟨hlt, hge⟩ := gge he
      have hlt2 : (k : Int) < es.length := by omega
      have hkk1 := hk1 (by omega)
      repeat' first
        | refine W_seq_c fun K hK => ?_
        | (refine W_region (by decide) ?_; simp [go_sem, h0, h4, h5, h7, hlt, hlt2, he, hge, hkk1])
        | refine K_use (by assumption) ?_
        | (refine W_ret ?_; simp [go_sem, h0, h4, h5, h7, hlt, hlt2, he, hge, hkk1])
        | (refine W_skip ?_; simp [go_sem, h0, h4, h5, h7, hlt, hlt2, he, hge, hkk1])
        | (refine W_exit ?_; simp [go_sem, h0, h4, h5, h7, hlt, hlt2, he, hge, hkk1])
        | refine W_block ?_
        | (refine W_cond (by simp [go_sem, h0, h4, h5, h7, hlt, hlt2, he, hge, hkk1]; rfl) ?_; simp only [cond_true, cond_false])
      exact ⟨_, by simp [h6]; rfl, Pre.refl _⟩

set_option maxHeartbeats 16000000 in
theorem F.contains (us : List ByteArray) (hu : us.length < 4611686018427387904) (kk : Nat) (hkk : us = [] ∨ kk = 1) (s : ByteArray) (σ : St) : DCalls Tryd.prog 12 [.f (.sl kk (us.map vS)), .f (vS s)] σ (isC (.ret (.f (vB (inB us s)))) σ) := by
  obtain ⟨r, hr, hi⟩ := F.index us hu kk hkk s
  rw [← hr]
  generalize us.map vS = es at *
  refine DCalls.pure1 rfl ?_
  refine DCalls_args_of Tryd.func12 rfl (by simp [Tryd.ntmps12]) ?_
  simp only [Tryd.ntmps12]
  repeat' first
    | refine W_seq_c fun K hK => ?_
    | (refine W_region (by decide) ?_; simp [go_sem])
    | refine K_use (by assumption) ?_
    | (refine W_ret ?_; simp [go_sem])
    | (refine W_skip ?_; simp [go_sem])
    | (refine W_exit ?_; simp [go_sem])
    | refine W_block ?_
    | refine W_of_WL ?_
    | refine WL_of_k fun K hK => ?_
    | (refine W_cond (by simp [go_sem]; rfl) ?_; simp only [cond_true, cond_false])
    | (refine DCalls.mono (by first | exact hi _) ?_; rintro _ _ ⟨rfl, hst⟩; obtain rfl := hst.symm; simp [go_sem])
  exact ⟨_, rfl, Pre.refl _⟩
end Go.Proofs
