/-
  D-LOGIC, part U: words for proofs.
-/
import Derived.Test.YtgfcgkkcakjodaaDoorET
set_option linter.unusedVariables false
set_option linter.unusedSimpArgs false
namespace Go.DL
open Go.RowKit

theorem gnlt (n j : Nat) : (n + j < n) = False := by simp only [eq_iff_iff, iff_false]; omega
theorem gal {α : Type} (l m : List α) (j : Nat) : (l ++ m)[l.length + j]? = m[j]? := by rw [List.getElem?_append_right (by omega)]; congr 1; omega
theorem ga0 {α : Type} (l m : List α) : (l ++ m)[l.length]? = m[0]? := by rw [List.getElem?_append_right (by omega)]; congr 1; omega
theorem sal {α : Type} (l m : List α) (j : Nat) (x : α) : (l ++ m).set (l.length + j) x = l ++ m.set j x := by rw [List.set_append_right _ _ (by omega)]; congr 2; omega
theorem sa0 {α : Type} (l m : List α) (x : α) : (l ++ m).set l.length x = l ++ m.set 0 x := by rw [List.set_append_right _ _ (by omega)]; congr 2; omega
attribute [go_sem] gnlt gal ga0 sal sa0
theorem gw_m2 : IntKind.i64.wrap (-2) = -2 := by decide
theorem gw_m1 : IntKind.i64.wrap (-1) = -1 := by decide
theorem gw_0 : IntKind.i64.wrap 0 = 0 := by decide
theorem gw_1 : IntKind.i64.wrap 1 = 1 := by decide
theorem gw_2 : IntKind.i64.wrap 2 = 2 := by decide
theorem gw_3 : IntKind.i64.wrap 3 = 3 := by decide
theorem gw_4 : IntKind.i64.wrap 4 = 4 := by decide
theorem gw_5 : IntKind.i64.wrap 5 = 5 := by decide
theorem gw_6 : IntKind.i64.wrap 6 = 6 := by decide
attribute [go_sem] gw_m2 gw_m1 gw_0 gw_1 gw_2 gw_3 gw_4 gw_5 gw_6
abbrev vI (n : Int) : FVal := .lit (.int .i64 n)
abbrev vC (n : Int) : FVal := .lit (.int .u8 n)
abbrev vS (s : ByteArray) : FVal := .lit (.string s)
abbrev vB (b : Bool) : FVal := .lit (.bool b)
theorem gwrap {n : Int} (h0 : -9223372036854775808 ≤ n) (h1 : n < 9223372036854775808) : IntKind.i64.wrap n = n := by
  simp [IntKind.wrap, IntKind.bits, IntKind.signed]; omega
theorem gge {α : Type} {l : List α} {i : Nat} {a : α} (h : l[i]? = some a) : ∃ hlt : i < l.length, l[i]'hlt = a := List.getElem?_eq_some_iff.1 h
theorem K_use {K w : Env → St → Prop} (h : ∀ e s, w e s → K e s) {e : Env} {s : St} (hw : w e s) : K e s := h _ _ hw
def argEnv (ds : List DVal) : Env := ds.zipIdx.map fun p => (p.2, p.1)
attribute [go_sem] argEnv DPlan DNews DOlds Agree getO DOp
/-- A function's contract, by its body; only the arguments are known. -/
theorem DCalls_args_of {P : Program} {f : FuncId} {fn : Func} {c : Code} {ds : List DVal} {σ : St} {R : Res → St → Prop} (hf : P.funcs[f]? = some fn) (hb : fn.body = some c) (hl : ds.length ≤ fn.ntmps)
    (h : W P fn.ntmps c (argEnv ds) σ (bodyQ P fn R)) : DCalls P f ds σ R := by
  refine DCalls_of hf hb hl fun ro hf M B κ w a hM hI he hn hd => h ro hf M B κ w a hM hI (fun t d ht => he t d ?_) hn hd
  unfold mkEnv
  rw [get_append]
  have : Env.get (ds.zipIdx.map fun p => (p.2, p.1)) t = some d := ht
  rw [this]
/-- A loop over N elements. -/
theorem W_index {P : Program} {n : Nat} {c : Code} {env : Env} {σ : St} {Q : Out → Env → St → Prop} (I : Nat → Env → St → Prop) (N i0 : Nat) (hi : i0 ≤ N) (h0 : I i0 env σ)
    (step : ∀ i env σ, i < N → I i env σ → ∀ K : Env → St → Prop, (∀ e s, I (i + 1) e s → K e s) → W P n c env σ (thenQ K Q)) (stop : ∀ env σ, I N env σ → ∀ K : Env → St → Prop, W P n c env σ (thenQ K Q)) : W P n (.loop c) env σ Q := by
  have key : ∀ r i env σ, i + r = N → I i env σ → WL P n c env σ Q := by
    intro r
    induction r with
    | zero => intro i env σ hr h; exact WL_of (stop env σ (by rw [← hr]; exact h) _)
    | succ r ih => intro i env σ hr h; exact WL_of (step i env σ (by omega) h _ fun e s hs => ih (i + 1) e s (by omega) hs)
  exact W_of_WL (key (N - i0) i0 env σ (by omega) h0)
theorem W_seq_c {P : Program} {n : Nat} {x y : Code} {env : Env} {σ : St} {Q : Out → Env → St → Prop} (h : ∀ K : Env → St → Prop, (∀ e s, W P n y e s Q → K e s) → W P n x env σ (thenQ K Q)) : W P n (.seq x y) env σ Q := W_seq_k h
theorem WL_of_k {P : Program} {n : Nat} {c : Code} {env : Env} {σ : St} {Q : Out → Env → St → Prop} (h : ∀ K : Env → St → Prop, (∀ e s, WL P n c e s Q → K e s) → W P n c env σ (thenQ K Q)) : WL P n c env σ Q := WL_of (h _ fun _ _ h => h)

/-! ### Closed runs, by the dozen -/
def noCalls : CallE := fun _ _ _ => none
theorem noCalls_ok {P : Program} : CallOk P noCalls := fun _ _ _ _ _ h => by cases h
def runB (P : Program) (k : Nat) (f : FuncId) (ds : List DVal) : Option Bool := match fnE P noCalls (runE P noCalls k) f ds ⟨[], []⟩ with
  | some (.ret (.f (.lit (.bool b))), _) => some b
  | _ => none
def runS (P : Program) (k : Nat) (f : FuncId) (ds : List DVal) : Option ByteArray := match fnE P noCalls (runE P noCalls k) f ds ⟨[], []⟩ with
  | some (.ret (.f (.lit (.string b))), _) => some b
  | _ => none
theorem runB_sound {P : Program} (hm : P.follows .mixedOrders = true) {k : Nat} {f : FuncId} {ds : List DVal} {b : Bool} (hds : ds.all data1 = true) (h : runB P k f ds = some b) (σ : St) : DCalls P f ds σ (isC (.ret (.f (vB b))) σ) := by
  refine DCalls_closed hm noCalls_ok k hds rfl ?_
  unfold runB at h
  split at h
  · rename_i heq; obtain rfl := Option.some.inj h; rw [heq]
  · cases h
theorem runS_sound {P : Program} (hm : P.follows .mixedOrders = true) {k : Nat} {f : FuncId} {ds : List DVal} {b : ByteArray} (hds : ds.all data1 = true) (h : runS P k f ds = some b) (σ : St) : DCalls P f ds σ (isC (.ret (.f (vS b))) σ) := by
  refine DCalls_closed hm noCalls_ok k hds rfl ?_
  unfold runS at h
  split at h
  · rename_i heq; obtain rfl := Option.some.inj h; rw [heq]
  · cases h
end Go.DL
