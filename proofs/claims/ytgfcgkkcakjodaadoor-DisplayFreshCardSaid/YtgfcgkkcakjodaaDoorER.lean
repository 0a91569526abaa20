/-
  D-LOGIC, part R: a run from the empty state is a run from any state.
-/
import Derived.Test.YtgfcgkkcakjodaaDoorEQ
set_option linter.unusedVariables false
set_option linter.unusedSimpArgs false
namespace Go.DL
open Go.RowKit

def lit1 : DVal → Bool
  | .f (.lit _) => true
  | _ => false
def litR : Res → Bool
  | .ret (.tup ds) => ds.all lit1
  | .ret d => lit1 d
  | .pan d => lit1 d
theorem lit1_rep {σ σ' : St} {κ κ' : Kap} {w w' : World} : ∀ {ds vs}, ds.all lit1 = true → RepD σ' κ' w' ds vs → RepD σ κ w ds vs
  | [], vs, _, h => by have := h.nil_inv; subst this; exact .nil
  | d :: ds, vs, hc, h => by
    simp only [List.all_cons, Bool.and_eq_true] at hc
    obtain ⟨v, vs', rfl, h0, ht⟩ := h.cons_inv
    have ih := lit1_rep (σ := σ) (κ := κ) (w := w) hc.2 ht
    cases h0 with
    | @f fv _ _ _ h0 _ =>
      cases fv with
      | lit x =>
        obtain ⟨rfl, hp⟩ := h0.of_lit
        exact .f (.mk_lit hp) ih
      | _ => simp [lit1] at hc
    | _ => simp [lit1] at hc

/-- Data, or a function without captures. -/
def data1 : DVal → Bool
  | .f _ => true
  | .full _ _ => true
  | .ep _ => true
  | .fn _ [] => true
  | _ => false
theorem data_rep {σ σ' : St} {κ κ' : Kap} {w : World} (hS : ∀ p, κ.S p → κ'.S p) : ∀ {ds vs}, ds.all data1 = true → RepD σ κ w ds vs → RepD σ' κ' w ds vs
  | [], vs, _, h => by have := h.nil_inv; subst this; exact .nil
  | d :: ds, vs, hc, h => by
    simp only [List.all_cons, Bool.and_eq_true] at hc
    obtain ⟨v, vs', rfl, h0, ht⟩ := h.cons_inv
    have ih := data_rep (σ' := σ') hS hc.2 ht
    cases h0 with
    | f h0 _ => exact .f (h0.ext hS fun _ _ => rfl) ih
    | fnil _ => exact .fnil ih
    | full r hk hm _ => exact .full (r.ext hS fun _ _ => rfl) hk (fun j u hu => ⟨(hm j u hu).1, hS _ (hm j u hu).2⟩) ih
    | ep r h1 hm _ => exact .ep (r.ext hS fun _ _ => rfl) h1 (fun j u hu => ⟨(hm j u hu).1, hS _ (hm j u hu).2⟩) ih
    | @fn f caps us _ _ r _ =>
      cases caps with
      | nil =>
        have := r.nil_inv; subst this
        exact .fn (us := []) .nil ih
      | cons c cs => simp [data1] at hc
    | _ => simp [data1] at hc

def emptyK (n : Nat) (κ : Kap) : Kap := { ob := fun _ => 0, ab := fun _ => 0, av := fun _ => .nilIface, S := fun p => p.block < n, T := fun _ => False }

theorem DCalls.frame {P : Program} {f : FuncId} {ds : List DVal} {σ : St} {R : Res → St → Prop} (hds : ds.all data1 = true) (h : DCalls P f ds ⟨[], []⟩ R) (hr : ∀ r s, R r s → litR r = true) :
    DCalls P f ds σ fun r s => s = σ ∧ ∃ s', R r s' := by
  intro B κ w args hI hd
  have hSl : ∀ p, κ.S p → (emptyK w.heap.size κ).S p := fun p hp => hI.sLt p hp
  have hI0 : Inv w.heap.size ⟨[], []⟩ (emptyK w.heap.size κ) w := by
    refine ⟨Nat.le_refl _, ?_, ?_, ?_, ?_, ?_, ?_, ?_, ?_, fun p hp => hp, ?_, fun p hp => hp, ?_, ?_, ?_⟩
    all_goals simp [emptyK]
  refine (h w.heap.size (emptyK w.heap.size κ) w args hI0 (data_rep hSl hds hd)).mono fun e w' ⟨r, σ', κ', hR, hI', hE, hm⟩ => ?_
  obtain ⟨hI2, hE2⟩ := hI.grow_same hE.below
  refine ⟨r, σ, κ, ⟨rfl, σ', hR⟩, hI2, hE2, ?_⟩
  have hl := hr _ _ hR
  have one : ∀ d v, lit1 d = true → Rep1 σ' κ' w' d v → Rep1 σ κ w' d v := fun d v hd h => lit1_rep (ds := [d]) (by simpa using hd) h
  cases r with
  | ret d =>
    cases e with
    | returned v =>
      simp only at hm ⊢
      cases d with
      | tup ds =>
        cases hm with
        | tup r _ => exact .tup (lit1_rep hl r) .nil
      | f v' => exact one _ _ hl hm
      | _ => simp [litR, lit1] at hl
    | _ => exact hm.elim
  | pan d =>
    cases e with
    | panicked ch =>
      obtain ⟨v, h1, h2⟩ := hm
      exact ⟨v, h1, one _ _ hl h2⟩
    | _ => exact hm.elim

/-- A closed run, from any state. -/
theorem DCalls_closed {P : Program} {ext : CallE} (hm : P.follows .mixedOrders = true) (hx : CallOk P ext) (k : Nat) {f : FuncId} {ds : List DVal} {σ : St} {r : Res} (hds : ds.all data1 = true) (hl : litR r = true)
    (h : (match fnE P ext (runE P ext k) f ds ⟨[], []⟩ with | some (r, _) => some r | none => none) = some r) : DCalls P f ds σ (isC r σ) := by
  split at h
  · rename_i r' s heq
    obtain rfl := Option.some.inj h
    refine (DCalls.frame hds (DCalls_run hm hx k heq) fun r s hr => by obtain ⟨rfl, rfl⟩ := hr; exact hl).mono fun r s hr => ?_
    obtain ⟨rfl, s', rfl, _⟩ := hr
    exact ⟨rfl, rfl⟩
  · cases h
end Go.DL
