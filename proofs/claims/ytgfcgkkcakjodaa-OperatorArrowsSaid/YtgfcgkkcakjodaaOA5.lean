/-
  A part of the proof of OperatorArrows: raw.WellFormed answers OK at trees of arrows over names that are not too large. No condition of its own.
-/
import Derived.Test.YtgfcgkkcakjodaaOA4
set_option linter.unusedVariables false
set_option linter.unusedSimpArgs false
namespace Go.Proofs
open Go Go.DL

def T.Nm (s : ByteArray) : Prop := s = ⟨#[97]⟩ ∨ s = ⟨#[98]⟩ ∨ s = ⟨#[99]⟩ ∨ s = ⟨#[100]⟩
theorem T.isName {s : ByteArray} (h : T.Nm s) (σ : St) : DCalls Try.prog 25 [.f (T.S s)] σ (isC (.ret (.f (T.B true))) σ) := by
  rcases h with rfl | rfl | rfl | rfl
  all_goals exact DCalls_closed T.hm T.ext_ok 10000 rfl rfl (by kernel_rfl)
def AT.ok : AT → Prop
  | .leaf s => T.Nm s
  | .node a b => a.ok ∧ b.ok

set_option maxHeartbeats 8000000 in
theorem T.formed (a : AT) (h : a.ok) (σ : St) : DCalls Try.prog 28 [.f a.f] σ (isC (.ret (.f (T.B true))) σ) := by
  cases a with
  | leaf s =>
    refine DCalls.pure1 rfl ?_
    refine DCalls_args_of Try.func28 rfl (by simp [Try.ntmps28]) ?_
    simp only [Try.ntmps28]
    repeat' first
      | refine W_seq_c fun K hK => ?_
      | (refine W_region (by decide) ?_; simp [go_sem, AT.f])
      | refine K_use (by assumption) ?_
      | (refine W_ret ?_; simp [go_sem, AT.f])
      | (refine W_skip ?_; simp [go_sem, AT.f])
      | (refine W_exit ?_; simp [go_sem, AT.f])
      | refine W_block ?_
      | refine W_of_WL ?_
      | refine WL_of_k fun K hK => ?_
      | (refine W_cond (by simp [go_sem, AT.f]; rfl) ?_; simp only [cond_true, cond_false])
      | (refine DCalls.mono (by first | exact T.isName h _) ?_; rintro _ _ ⟨rfl, rfl⟩; simp [go_sem, AT.f])
    exact ⟨_, rfl, Pre.mk _ [] rfl (List.append_nil _).symm⟩
  | node a b =>
    refine DCalls.pure1 rfl ?_
    refine DCalls_args_of Try.func28 rfl (by simp [Try.ntmps28]) ?_
    simp only [Try.ntmps28, AT.f]
    obtain ⟨x1, x2, x3, x4, ha⟩ := a.f_agg
    obtain ⟨y1, y2, y3, y4, hb'⟩ := b.f_agg
    rw [ha, hb']
    repeat' first
      | refine W_seq_c fun K hK => ?_
      | (refine W_region (by decide) ?_; simp [go_sem])
      | refine K_use (by assumption) ?_
      | (refine W_ret ?_; simp [go_sem])
      | (refine W_skip ?_; simp [go_sem])
      | (refine W_exit ?_; simp [go_sem])
      | refine W_block ?_
      | refine W_of_WL ?_
      | refine WL_of_k fun K hK => ?_
      | (refine W_cond (by simp [go_sem]; rfl) ?_; simp only [cond_true, cond_false])
    exact ⟨_, rfl, Pre.mk _ [] rfl (List.append_nil _).symm⟩

/-- The state has the box of the function that calls itself. -/
def T.Whole (σ : St) (o : Nat) : Prop := σ.objs[o]? = some (.cells [.fn (.func 27) [.ptr o 0]])
theorem T.Whole.mono {σ : St} {o : Nat} {l : List Ob} {m : List Ar} (h : T.Whole σ o) : T.Whole { objs := σ.objs ++ l, arrs := m } o := by
  unfold T.Whole at *
  rw [List.getElem?_append_left (List.getElem?_eq_some_iff.1 h).1]; exact h
theorem T.ge {α : Type} {l : List α} {i : Nat} {a : α} (h : l[i]? = some a) : ∃ hlt : i < l.length, l[i]'hlt = a := List.getElem?_eq_some_iff.1 h
theorem T.Whole.lt {σ : St} {o : Nat} (h : T.Whole σ o) : o < σ.objs.length := (List.getElem?_eq_some_iff.1 h).1

set_option maxHeartbeats 8000000 in
theorem T.whole11 {x : FVal} {x1 x2 x3 x4 : FVal} (hx : x = .agg [x1, x2, x3, x4]) {σ : St} {o : Nat} (ho : T.Whole σ o) (h : ∀ σ, T.Whole σ o → DCalls Try.prog 27 [.f x, .ptr o 0] σ (isC (.ret (.f (T.B true))) σ)) :
    DCalls Try.prog 30 [.f x, .ptr o 0] σ (isC (.ret (.f (T.B false))) σ) := by
  subst hx
  obtain ⟨hlt, hge⟩ := T.ge ho
  refine DCalls.pure1 rfl ?_
  refine DCalls_args_of Try.func30 rfl (by simp [Try.ntmps30]) ?_
  simp only [Try.ntmps30]
  repeat' first
    | refine W_seq_c fun K hK => ?_
    | (refine W_region (by decide) ?_; simp [go_sem, hlt, hge])
    | refine K_use (by assumption) ?_
    | (refine W_ret ?_; simp [go_sem, hlt, hge])
    | (refine W_skip ?_; simp [go_sem, hlt, hge])
    | (refine W_exit ?_; simp [go_sem, hlt, hge])
    | refine W_block ?_
    | refine W_of_WL ?_
    | refine WL_of_k fun K hK => ?_
    | (refine W_cond (by simp [go_sem, hlt, hge]; rfl) ?_; simp only [cond_true, cond_false])
    | (refine DCalls.mono (by first | exact h _ ho.mono) ?_; rintro _ _ ⟨rfl, rfl⟩; simp [go_sem, hlt, hge])
  exact ⟨_, rfl, Pre.mk _ [] rfl (List.append_nil _).symm⟩

set_option maxHeartbeats 8000000 in
theorem T.index0 (j : Nat) (c : DVal) (σ : St) : DCalls Try.prog 47 [.f (.sl j []), c] σ (isC (.ret (.f (T.I (-1)))) σ) := by
  refine DCalls.pure1 rfl ?_
  refine DCalls_args_of Try.func47 rfl (by simp [Try.ntmps47]) ?_
  simp only [Try.ntmps47]
  repeat' first
    | refine W_seq_c fun K hK => ?_
    | (refine W_region (by decide) ?_; simp [go_sem])
    | refine K_use (by assumption) ?_
    | (refine W_ret ?_; simp [go_sem])
    | (refine W_skip ?_; simp [go_sem])
    | (refine W_exit ?_; simp [go_sem])
    | refine W_block ?_
    | refine W_of_WL ?_
    | refine WL_of_k fun K hK => ?_
    | (refine W_cond (by simp [go_sem]; rfl) ?_; simp only [cond_true, cond_false])
  exact ⟨_, rfl, Pre.refl _⟩
set_option maxHeartbeats 8000000 in
theorem T.index2 {x1 x2 x3 x4 y1 y2 y3 y4 : FVal} {σ : St} {o : Nat} (ho : T.Whole σ o) (hx : ∀ σ, T.Whole σ o → DCalls Try.prog 27 [.f (.agg [x1, x2, x3, x4]), .ptr o 0] σ (isC (.ret (.f (T.B true))) σ))
    (hy : ∀ σ, T.Whole σ o → DCalls Try.prog 27 [.f (.agg [y1, y2, y3, y4]), .ptr o 0] σ (isC (.ret (.f (T.B true))) σ)) : DCalls Try.prog 47 [.f (.sl 4 [.agg [x1, x2, x3, x4], .agg [y1, y2, y3, y4]]), .fn (.func 30) [.ptr o 0]] σ (isC (.ret (.f (T.I (-1)))) σ) := by
  refine DCalls.pure1 rfl ?_
  refine DCalls_args_of Try.func47 rfl (by simp [Try.ntmps47]) ?_
  simp only [Try.ntmps47]
  repeat' first
    | refine W_seq_c fun K hK => ?_
    | (refine W_region (by decide) ?_; simp [go_sem])
    | refine K_use (by assumption) ?_
    | (refine W_ret ?_; simp [go_sem])
    | (refine W_skip ?_; simp [go_sem])
    | (refine W_exit ?_; simp [go_sem])
    | refine W_block ?_
    | refine W_of_WL ?_
    | refine WL_of_k fun K hK => ?_
    | (refine W_cond (by simp [go_sem]; rfl) ?_; simp only [cond_true, cond_false])
    | (refine DCalls.mono (by first | exact T.whole11 rfl ho hx | exact T.whole11 rfl ho hy) ?_; rintro _ _ ⟨rfl, rfl⟩; simp [go_sem])
  exact ⟨_, rfl, Pre.refl _⟩
set_option maxHeartbeats 8000000 in
theorem T.contains {l : FVal} {c : DVal} {σ : St} (h : DCalls Try.prog 47 [.f l, c] σ (isC (.ret (.f (T.I (-1)))) σ)) : DCalls Try.prog 29 [.f l, c] σ (isC (.ret (.f (T.B false))) σ) := by
  refine DCalls.pure1 rfl ?_
  refine DCalls_args_of Try.func29 rfl (by simp [Try.ntmps29]) ?_
  simp only [Try.ntmps29]
  repeat' first
    | refine W_seq_c fun K hK => ?_
    | (refine W_region (by decide) ?_; simp [go_sem])
    | refine K_use (by assumption) ?_
    | (refine W_ret ?_; simp [go_sem])
    | (refine W_skip ?_; simp [go_sem])
    | (refine W_exit ?_; simp [go_sem])
    | refine W_block ?_
    | refine W_of_WL ?_
    | refine WL_of_k fun K hK => ?_
    | (refine W_cond (by simp [go_sem]; rfl) ?_; simp only [cond_true, cond_false])
    | (refine DCalls.mono (by first | exact h) ?_; rintro _ _ ⟨rfl, rfl⟩; simp [go_sem])
  exact ⟨_, rfl, Pre.refl _⟩
set_option maxHeartbeats 8000000 in
theorem T.whole (a : AT) (h : a.ok) (o : Nat) : ∀ σ, T.Whole σ o → DCalls Try.prog 27 [.f a.f, .ptr o 0] σ (isC (.ret (.f (T.B true))) σ) := by
  induction a with
  | leaf s =>
    intro σ ho
    have hf := T.formed (.leaf s) h
    simp only [AT.f] at hf ⊢
    obtain ⟨hlt, hge⟩ := T.ge ho
    refine DCalls.pure1 rfl ?_
    refine DCalls_args_of Try.func27 rfl (by simp [Try.ntmps27]) ?_
    simp only [Try.ntmps27]
    repeat' first
      | refine W_seq_c fun K hK => ?_
      | (refine W_region (by decide) ?_; simp [go_sem, hlt, hge])
      | refine K_use (by assumption) ?_
      | (refine W_ret ?_; simp [go_sem, hlt, hge])
      | (refine W_skip ?_; simp [go_sem, hlt, hge])
      | (refine W_exit ?_; simp [go_sem, hlt, hge])
      | refine W_block ?_
      | refine W_of_WL ?_
      | refine WL_of_k fun K hK => ?_
      | (refine W_cond (by simp [go_sem, hlt, hge]; rfl) ?_; simp only [cond_true, cond_false])
      | (refine DCalls.mono (by first | exact hf _ | exact T.contains (T.index0 _ _ _)) ?_; rintro _ _ ⟨rfl, rfl⟩; simp [go_sem, hlt, hge])
    exact ⟨_, rfl, Pre.mk _ [] rfl (List.append_nil _).symm⟩
  | node a b iha ihb =>
    intro σ ho
    have hf := T.formed (.node a b) h
    have iha := iha h.1
    have ihb := ihb h.2
    obtain ⟨x1, x2, x3, x4, ha⟩ := a.f_agg
    obtain ⟨y1, y2, y3, y4, hb'⟩ := b.f_agg
    simp only [AT.f, ha, hb'] at hf iha ihb ⊢
    obtain ⟨hlt, hge⟩ := T.ge ho
    refine DCalls.pure1 rfl ?_
    refine DCalls_args_of Try.func27 rfl (by simp [Try.ntmps27]) ?_
    simp only [Try.ntmps27]
    repeat' first
      | refine W_seq_c fun K hK => ?_
      | (refine W_region (by decide) ?_; simp [go_sem, hlt, hge])
      | refine K_use (by assumption) ?_
      | (refine W_ret ?_; simp [go_sem, hlt, hge])
      | (refine W_skip ?_; simp [go_sem, hlt, hge])
      | (refine W_exit ?_; simp [go_sem, hlt, hge])
      | refine W_block ?_
      | refine W_of_WL ?_
      | refine WL_of_k fun K hK => ?_
      | (refine W_cond (by simp [go_sem, hlt, hge]; rfl) ?_; simp only [cond_true, cond_false])
      | (refine DCalls.mono (by first | exact hf _ | exact T.contains (T.index2 ho.mono iha ihb)) ?_; rintro _ _ ⟨rfl, rfl⟩; simp [go_sem, hlt, hge])
    exact ⟨_, rfl, Pre.mk _ [] rfl (List.append_nil _).symm⟩

set_option maxHeartbeats 8000000 in
theorem T.wellFormed (a : AT) (h : a.ok) (hs : a.size ≤ 4096) (hd : a.depth ≤ 128) (σ : St) : DCalls Try.prog 17 [.f a.f] σ (isC (.ret (.f (T.I 0))) σ) := by
  have hw := T.whole a h
  have h1 := fun σ => T.size a σ (by omega)
  have h2 := fun σ => T.depth a σ (by omega)
  obtain ⟨x1, x2, x3, x4, ha⟩ := a.f_agg
  simp only [ha] at hw h1 h2 ⊢
  have c1 : ¬ 4096 < a.size := by omega
  have c2 : ¬ 128 < a.depth := by omega
  have c1' : ¬ (4096 : Int) < a.size := by omega
  have c2' : ¬ (128 : Int) < a.depth := by omega
  refine DCalls.pure1 rfl ?_
  refine DCalls_args_of Try.func17 rfl (by simp [Try.ntmps17]) ?_
  simp only [Try.ntmps17]
  repeat' first
    | refine W_seq_c fun K hK => ?_
    | (refine W_region (by decide) ?_; simp [go_sem, c1, c2, c1', c2'])
    | refine K_use (by assumption) ?_
    | (refine W_ret ?_; simp [go_sem, c1, c2, c1', c2'])
    | (refine W_skip ?_; simp [go_sem, c1, c2, c1', c2'])
    | (refine W_exit ?_; simp [go_sem, c1, c2, c1', c2'])
    | refine W_block ?_
    | refine W_of_WL ?_
    | refine WL_of_k fun K hK => ?_
    | (refine W_cond (by simp [go_sem, c1, c2, c1', c2']; rfl) ?_; simp only [cond_true, cond_false])
    | (refine DCalls.mono (by first | exact h1 _ | exact h2 _ | exact hw _ _ (by simp [T.Whole])) ?_; rintro _ _ ⟨rfl, rfl⟩; simp [go_sem, c1, c2, c1', c2'])
  exact ⟨_, rfl, Pre.mk _ [] rfl (List.append_nil _).symm⟩
end Go.Proofs
