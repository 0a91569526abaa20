/-
  D-LOGIC, part S: arguments and results, frozen.
-/
import Derived.Test.YtgfcgkkcakjodaaDoorER
set_option linter.unusedVariables false
set_option linter.unusedSimpArgs false
namespace Go.DL
open Go.RowKit

/-- Data is frozen, the rest stays. -/
def fzX (σ : St) (d : DVal) : Option (DVal × St) := match d with
  | .ptr _ _ | .fn _ _ | .map _ | .ep _ => some (d, σ)
  | _ => (fzA σ d).map fun r => (.f r.1, r.2)
def fzXs (σ : St) : List DVal → Option (List DVal × St)
  | [] => some ([], σ)
  | d :: ds => (fzX σ d).bind fun r => (fzXs r.2 ds).bind fun q => some (r.1 :: q.1, q.2)
section
variable {B : Nat} {w : World}
theorem fzX_sound {σ : St} {κ : Kap} (hI : Inv B σ κ w) {d e : DVal} {v : Value} {σ' : St} (h : Rep1 σ κ w d v) (hf : fzX σ d = some (e, σ')) : ∃ κ', Inv B σ' κ' w ∧ Ext B σ κ w σ' κ' w ∧ Rep1 σ' κ' w e v := by
  have same : (some (d, σ) = some (e, σ')) → ∃ κ', Inv B σ' κ' w ∧ Ext B σ κ w σ' κ' w ∧ Rep1 σ' κ' w e v := fun hf => by
    simp only [Option.some.injEq, Prod.mk.injEq] at hf
    obtain ⟨rfl, rfl⟩ := hf
    exact ⟨κ, hI, Ext.refl _ _ _ _, h⟩
  unfold fzX at hf
  split at hf
  · exact same hf
  · exact same hf
  · exact same hf
  · exact same hf
  · simp only [Option.map_eq_some_iff, Prod.mk.injEq] at hf
    obtain ⟨⟨x, σ1⟩, h1, rfl, rfl⟩ := hf
    obtain ⟨κ', i, xx, r⟩ := fzA_sound hI h h1
    exact ⟨κ', i, xx, .f r .nil⟩
theorem fzXs_sound : ∀ {ds : List DVal} {σ : St} {κ : Kap} {vs : List Value} {es : List DVal} {σ' : St}, Inv B σ κ w → RepD σ κ w ds vs → fzXs σ ds = some (es, σ') → ∃ κ', Inv B σ' κ' w ∧ Ext B σ κ w σ' κ' w ∧ RepD σ' κ' w es vs
  | [], σ, κ, vs, es, σ', hI, h, hf => by
    simp only [fzXs, Option.some.injEq, Prod.mk.injEq] at hf
    obtain ⟨rfl, rfl⟩ := hf
    have := h.nil_inv; subst this
    exact ⟨κ, hI, Ext.refl _ _ _ _, .nil⟩
  | d :: ds, σ, κ, vs, es, σ', hI, h, hf => by
    obtain ⟨v, vs', rfl, h0, ht⟩ := h.cons_inv
    simp only [fzXs, Option.bind_eq_some_iff, Option.some.injEq, Prod.mk.injEq] at hf
    obtain ⟨⟨e, σ1⟩, h1, ⟨es', σ2⟩, h2, rfl, rfl⟩ := hf
    obtain ⟨κ1, i1, x1, r1⟩ := fzX_sound hI h0 h1
    obtain ⟨κ2, i2, x2, r2⟩ := fzXs_sound i1 (ht.ext x1) h2
    exact ⟨κ2, i2, x1.trans x2, RepD.cons (r1.ext x2) r2⟩
end

/-- Arguments, frozen. -/
theorem DCalls.args {P : Program} {f : FuncId} {ds es : List DVal} {σ σ' : St} {R : Res → St → Prop} (hf : fzXs σ ds = some (es, σ')) (h : DCalls P f es σ' R) : DCalls P f ds σ R := by
  intro B κ w args hI hd
  obtain ⟨κ', hI', hE, hr⟩ := fzXs_sound hI hd hf
  exact (h B κ' w args hI' hr).mono fun e w' ⟨r, s, κ2, h1, h2, h3, h4⟩ => ⟨r, s, κ2, h1, h2, hE.trans h3, h4⟩

def fzR (σ : St) : Res → Option (Res × St)
  | .ret (.tup ds) => (fzXs σ ds).map fun r => (.ret (.tup r.1), r.2)
  | .ret d => (fzX σ d).map fun r => (.ret r.1, r.2)
  | .pan d => some (.pan d, σ)
theorem DCalls.results {P : Program} {f : FuncId} {ds : List DVal} {σ : St} {R R' : Res → St → Prop} (h : DCalls P f ds σ R) (hr : ∀ r s, R r s → ∃ r' s', fzR s r = some (r', s') ∧ R' r' s') : DCalls P f ds σ R' := by
  intro B κ w args hI hd
  refine (h B κ w args hI hd).mono fun e w' ⟨r, s, κ1, h1, h2, h3, h4⟩ => ?_
  obtain ⟨r', s', hf, hR⟩ := hr r s h1
  cases r with
  | pan d =>
    simp only [fzR, Option.some.injEq, Prod.mk.injEq] at hf
    obtain ⟨rfl, rfl⟩ := hf
    exact ⟨_, _, κ1, hR, h2, h3, h4⟩
  | ret d =>
    cases e with
    | returned v =>
      simp only at h4
      have one : (fzX s d).map (fun r => (Res.ret r.1, r.2)) = some (r', s') → liftR B σ κ w R' (.returned v) w' := fun hf => by
        simp only [Option.map_eq_some_iff, Prod.mk.injEq] at hf
        obtain ⟨⟨e, s2⟩, h5, rfl, rfl⟩ := hf
        obtain ⟨κ2, i2, x2, r2⟩ := fzX_sound h2 h4 h5
        exact ⟨.ret e, s2, κ2, hR, i2, h3.trans x2, r2⟩
      cases d with
      | tup ds =>
        simp only [fzR, Option.map_eq_some_iff, Prod.mk.injEq] at hf
        obtain ⟨⟨es, s2⟩, h5, rfl, rfl⟩ := hf
        cases h4 with
        | tup r _ =>
          obtain ⟨κ2, i2, x2, r2⟩ := fzXs_sound h2 r h5
          exact ⟨.ret (.tup es), s2, κ2, hR, i2, h3.trans x2, .tup r2 .nil⟩
      | _ => exact one hf
    | _ => exact h4.elim

/-- A function whose result is data, and which leaves the state: what it made is forgotten. -/
theorem DCalls.pure {P : Program} {f : FuncId} {ds : List DVal} {σ : St} {R : Res → St → Prop} {Q : Res → Prop} (h : DCalls P f ds σ R) (hr : ∀ r s, R r s → ∃ r' s', fzR s r = some (r', s') ∧ Q r' ∧ Pre σ s' ∧ closedR r' = true) : DCalls P f ds σ fun r s => Q r ∧ s = σ :=
  (h.results (R' := fun r s => Q r ∧ Pre σ s ∧ closedR r = true) hr).trunc fun r s h => h

/-- The same, of one result. -/
theorem DCalls.pure1 {P : Program} {f : FuncId} {ds : List DVal} {σ : St} {r0 : Res} (hc : closedR r0 = true) (h : DCalls P f ds σ fun r s => ∃ s', fzR s r = some (r0, s') ∧ Pre σ s') : DCalls P f ds σ (isC r0 σ) :=
  (h.pure (Q := fun r => r = r0) fun r s ⟨s', h1, h2⟩ => ⟨r0, s', h1, rfl, h2, hc⟩).mono fun r s h => h

theorem Pre.objs {σ : St} {l : List Ob} : Pre σ { σ with objs := σ.objs ++ l } := ⟨⟨l, rfl⟩, ⟨[], by simp⟩⟩
theorem Pre.mk {σ σ' : St} (l : List Ob) (m : List Ar) (h1 : σ'.objs = σ.objs ++ l) (h2 : σ'.arrs = σ.arrs ++ m) : Pre σ σ' := ⟨⟨l, h1⟩, ⟨m, h2⟩⟩
end Go.DL
