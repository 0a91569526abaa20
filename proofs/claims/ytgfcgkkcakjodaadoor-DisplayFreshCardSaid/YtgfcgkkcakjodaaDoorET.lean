/-
  D-LOGIC, part T: the outermost function: of the memory, only that what was there ahead of the call stays.
-/
import Derived.Test.YtgfcgkkcakjodaaDoorES
set_option linter.unusedVariables false
set_option linter.unusedSimpArgs false
namespace Go.DL
open Go.RowKit

def lift2 (M B : Nat) (w : World) (n : Nat) (Q : Out → Env → St → Prop) : Exit → Act → World → Prop := fun e a' w' =>
  ∃ o env' σ' κ', Q o env' σ' ∧ matchE σ' κ' w' o e ∧ Inv B σ' κ' w' ∧ Below B w w' ∧ REnv σ' κ' w' env' a' ∧ a'.tmps.size = n ∧ Marks M κ' w' a'.defers
def W2 (P : Program) (n : Nat) (c : Code) (env : Env) (σ : St) (Q : Out → Env → St → Prop) : Prop :=
  ∀ (ro : Option Nat), (ro = none ∨ flatC c = true) → ∀ (M B : Nat) (κ : Kap) (w : World) (a : Act), M ≤ w.heap.size → Inv B σ κ w → REnv σ κ w env a → a.tmps.size = n → Marks M κ w a.defers → c.wpIn (fen ro) 0 P (lift2 M B w n Q) a w
def liftR2 (B : Nat) (w : World) (R : Res → St → Prop) : Ending → World → Prop := fun e w' =>
  ∃ r σ' κ', R r σ' ∧ Inv B σ' κ' w' ∧ Below B w w' ∧ match r, e with
    | .ret d, .returned v => Rep1 σ' κ' w' d v
    | .pan d, .panicked chain => ∃ v, chain = [{ v, recovered := false }] ∧ Rep1 σ' κ' w' d v
    | _, _ => False
def DCalls2 (P : Program) (f : FuncId) (ds : List DVal) (σ : St) (R : Res → St → Prop) : Prop :=
  ∀ (B : Nat) (κ : Kap) (w : World) (args : List Value), Inv B σ κ w → RepD σ κ w ds args → Calls P f args.toArray w (liftR2 B w R)

section
variable {P : Program} {n : Nat} {env : Env} {σ : St} {Q : Out → Env → St → Prop}
theorem lift2_ext {M B : Nat} {w w1 : World} (hE : Below B w w1) {e : Exit} {a : Act} {w' : World} (h : lift2 M B w1 n Q e a w') : lift2 M B w n Q e a w' := by
  obtain ⟨o, env', σ', κ', h1, h2, h3, h4, h5⟩ := h
  exact ⟨o, env', σ', κ', h1, h2, h3, hE.trans h4, h5⟩
theorem lift2_of {M B : Nat} {κ : Kap} {w : World} {e : Exit} {a : Act} {w' : World} (h : lift M B σ κ w n Q e a w') : lift2 M B w n Q e a w' := by
  obtain ⟨o, env', σ', κ', h1, h2, h3, h4, h5⟩ := h
  exact ⟨o, env', σ', κ', h1, h2, h3, h4.below, h5⟩
theorem W2_of_W {c : Code} (h : W P n c env σ Q) : W2 P n c env σ Q :=
  fun ro hf M B κ w a hM hI he hn hd => wpIn_mono (h ro hf M B κ w a hM hI he hn hd) fun e a w h => lift2_of h
theorem W2_skip (h : Q .norm env σ) : W2 P n .skip env σ Q := W2_of_W (W_skip h)
theorem W2_exit {id : Nat} (h : Q (.exit id) env σ) : W2 P n (.exit id) env σ Q := W2_of_W (W_exit h)
theorem W2_ret (h : Q .ret env σ) : W2 P n .ret env σ Q := W2_of_W (W_ret h)
theorem W2_region {id : Nat} {ops : Array Oper} (hds : dstsOk n ops.toList = true) (h : DOps P n ops Q ops.toList env σ) : W2 P n (.region id ops false) env σ Q := W2_of_W (W_region hds h)
theorem W2_draw {id : Nat} {ops : Array Oper} (hm : P.follows .mixedOrders = true) (p : RPlan) (hok : planOk n ops p = true) (h : DPlan P ops Q p.stages p.effs env σ) : W2 P n (.region id ops true) env σ Q := W2_of_W (W_draw hm p hok h)
theorem W2_seq {x y : Code} (h : W2 P n x env σ (thenQ (fun env' σ' => W2 P n y env' σ' Q) Q)) : W2 P n (.seq x y) env σ Q := by
  intro ro hf M B κ w a hM hI he hn hd
  refine wpIn_seq (wpIn_mono (h ro (flat_l hf) M B κ w a hM hI he hn hd) ?_)
  rintro e a' w' ⟨o, env', σ', κ', hq, hm, hI', hE, he', hn', hd'⟩
  cases o with
  | norm =>
    cases e <;> simp only [matchE] at hm
    exact wpIn_mono (hq ro (flat_r hf) M B κ' w' a' (Nat.le_trans hM hE.size) hI' he' hn' hd') fun e a w hl => lift2_ext hE hl
  | exit i =>
    cases e <;> simp only [matchE] at hm
    exact ⟨.exit i, env', σ', κ', hq, hm, hI', hE, he', hn', hd'⟩
  | ret =>
    cases e <;> simp only [matchE] at hm
    exact ⟨.ret, env', σ', κ', hq, trivial, hI', hE, he', hn', hd'⟩
  | pan d =>
    cases e <;> simp only [matchE] at hm
    exact ⟨.pan d, env', σ', κ', hq, hm, hI', hE, he', hn', hd'⟩
theorem W2_seq_c {x y : Code} (h : ∀ K : Env → St → Prop, (∀ e s, W2 P n y e s Q → K e s) → W2 P n x env σ (thenQ K Q)) : W2 P n (.seq x y) env σ Q :=
  W2_seq (h _ fun _ _ h => h)
theorem W2_cond {c : Operand} {x y : Code} {t : Bool} (hc : evalX env c = some (.f (.lit (.bool t)))) (h : W2 P n (bif t then x else y) env σ Q) : W2 P n (.cond c x y) env σ Q := by
  intro ro hf M B κ w a hM hI he hn hd
  have hv : a.eval c = .bool t := by
    have := evalX_sound he hc
    cases this with
    | f h _ => exact h.of_lit.1
  refine wpIn_cond hv ?_
  have := h ro (by cases t; exact flat_r hf; exact flat_l hf) M B κ w a hM hI he hn hd
  cases t <;> simpa using this
theorem W2_if {c : Operand} {x y : Code} {t : Bool} (hc : evalX env c = some (.f (.lit (.bool t)))) (h1 : t = true → W2 P n x env σ Q) (h2 : t = false → W2 P n y env σ Q) : W2 P n (.cond c x y) env σ Q :=
  W2_cond hc (by cases t; exact h2 rfl; exact h1 rfl)
theorem W2_block {id : Nat} {c : Code} (h : W2 P n c env σ (blockQ id Q)) : W2 P n (.block id c) env σ Q := by
  intro ro hf M B κ w a hM hI he hn hd
  refine wpIn_block (wpIn_mono (h ro hf M B κ w a hM hI he hn hd) ?_)
  rintro e a' w' ⟨o, env', σ', κ', hq, hm, hI', hE, he', hn', hd'⟩
  cases o with
  | norm =>
    cases e <;> simp only [matchE] at hm
    exact ⟨.norm, env', σ', κ', hq, trivial, hI', hE, he', hn', hd'⟩
  | exit i =>
    cases e <;> simp only [matchE] at hm
    subst hm
    simp only [blockQ] at hq
    simp only [Exit.inBlock]
    split
    · rename_i hi
      rw [if_pos hi] at hq
      exact ⟨.norm, env', σ', κ', hq, trivial, hI', hE, he', hn', hd'⟩
    · rename_i hi
      rw [if_neg hi] at hq
      exact ⟨.exit i, env', σ', κ', hq, rfl, hI', hE, he', hn', hd'⟩
  | ret =>
    cases e <;> simp only [matchE] at hm
    exact ⟨.ret, env', σ', κ', hq, trivial, hI', hE, he', hn', hd'⟩
  | pan d =>
    cases e <;> simp only [matchE] at hm
    exact ⟨.pan d, env', σ', κ', hq, hm, hI', hE, he', hn', hd'⟩

def WL2 (P : Program) (n : Nat) (c : Code) (env : Env) (σ : St) (Q : Out → Env → St → Prop) : Prop :=
  ∀ (ro : Option Nat), (ro = none ∨ flatC c = true) → ∀ (M B : Nat) (κ : Kap) (w : World) (a : Act), M ≤ w.heap.size → Inv B σ κ w → REnv σ κ w env a → a.tmps.size = n → Marks M κ w a.defers → ∀ (b : Frame) (kk : List Item) (cs : List Frame), b.roundOf = (fen ro).round →
    ∃ e a' w', lift2 M B w n Q e a' w' ∧ ArrivesIn (Machine.fenced P (fen ro)) P (lone (b.atR a (.code c :: .inLoop c :: kk)) cs w) b kk cs e a' w'
theorem W2_of_WL2 {c : Code} (h : WL2 P n c env σ Q) : W2 P n (.loop c) env σ Q := by
  intro ro hf M B κ w a hM hI he hn hd b kk cs hro hb hr
  obtain ⟨e, a', w', hq, harr⟩ := h ro hf M B κ w a hM hI he hn hd b kk cs hro
  exact ⟨e, a', w', hq, .of_steps (.one (fenced_calm hb hr rfl) stepR_loop) harr⟩
theorem WL2_of {c : Code} (h : W2 P n c env σ (thenQ (fun e s => WL2 P n c e s Q) Q)) : WL2 P n c env σ Q := by
  intro ro hf M B κ w a hM hI he hn hd b kk cs hro
  have hb : (fen ro).fn b.fn := trivial
  have hr : (fen ro).room (cs.length + 1 + 0) := fen_room _ _
  obtain ⟨e, a1, w1, hq, harr⟩ := h ro hf M B κ w a hM hI he hn hd b (.inLoop c :: kk) cs hro hb hr
  obtain ⟨o, env', σ', κ', hq, hm, hI', hE, he', hn', hd'⟩ := hq
  cases o with
  | norm =>
    cases e <;> simp only [matchE] at hm
    obtain ⟨e2, a2, w2, hq2, harr2⟩ := hq ro hf M B κ' w1 a1 (Nat.le_trans hM hE.size) hI' he' hn' hd' b kk cs hro
    exact ⟨e2, a2, w2, lift2_ext hE hq2, .of_steps (StepsIn.trans harr (.one (fenced_calm hb hr rfl) stepR_inLoop)) harr2⟩
  | exit i =>
    cases e <;> simp only [matchE] at hm
    rename_i j
    exact ⟨.exit j, a1, w1, ⟨.exit i, env', σ', κ', hq, hm, hI', hE, he', hn', hd'⟩, .pass (x := .inLoop c) rfl (fun _ _ => .inl (by simp)) harr⟩
  | ret =>
    cases e <;> simp only [matchE] at hm
    exact ⟨.ret, a1, w1, ⟨.ret, env', σ', κ', hq, trivial, hI', hE, he', hn', hd'⟩, .pass (x := .inLoop c) rfl (fun _ _ => .inl (by simp)) harr⟩
  | pan d =>
    cases e <;> simp only [matchE] at hm
    rename_i ch
    exact ⟨.panic ch, a1, w1, ⟨.pan d, env', σ', κ', hq, hm, hI', hE, he', hn', hd'⟩, .pass (x := .inLoop c) rfl (fun _ _ => .inl (by simp)) harr⟩
theorem WL2_of_k {c : Code} (h : ∀ K : Env → St → Prop, (∀ e s, WL2 P n c e s Q → K e s) → W2 P n c env σ (thenQ K Q)) : WL2 P n c env σ Q := WL2_of (h _ fun _ _ h => h)
/-- A loop over N elements. -/
theorem W2_index {c : Code} (I : Nat → Env → St → Prop) (N i0 : Nat) (hi : i0 ≤ N) (h0 : I i0 env σ)
    (step : ∀ i env σ, i < N → I i env σ → ∀ K : Env → St → Prop, (∀ e s, I (i + 1) e s → K e s) → W2 P n c env σ (thenQ K Q)) (stop : ∀ env σ, I N env σ → ∀ K : Env → St → Prop, W2 P n c env σ (thenQ K Q)) : W2 P n (.loop c) env σ Q := by
  have key : ∀ r i env σ, i + r = N → I i env σ → WL2 P n c env σ Q := by
    intro r
    induction r with
    | zero => intro i env σ hr h; exact WL2_of (stop env σ (by rw [← hr]; exact h) _)
    | succ r ih => intro i env σ hr h; exact WL2_of (step i env σ (by omega) h _ fun e s hs => ih (i + 1) e s (by omega) hs)
  exact W2_of_WL2 (key (N - i0) i0 env σ (by omega) h0)

/-- The state, seen otherwise. -/
def Turn (env : Env) (σ : St) (env2 : Env) (σ2 : St) : Prop := ∀ (B : Nat) (κ : Kap) (w : World) (a : Act), Inv B σ κ w → REnv σ κ w env a → ∃ κ2, Inv B σ2 κ2 w ∧ REnv σ2 κ2 w env2 a ∧ ∀ b, κ.T b → κ2.T b
theorem Turn.refl {env : Env} {σ : St} : Turn env σ env σ := fun B κ w a hI he => ⟨κ, hI, he, fun _ h => h⟩
theorem Turn.trans {env env2 env3 : Env} {σ σ2 σ3 : St} (h : Turn env σ env2 σ2) (k : Turn env2 σ2 env3 σ3) : Turn env σ env3 σ3 := fun B κ w a hI he => by
  obtain ⟨κ2, hI2, he2, ht2⟩ := h B κ w a hI he
  obtain ⟨κ3, hI3, he3, ht3⟩ := k B κ2 w a hI2 he2
  exact ⟨κ3, hI3, he3, fun b hb => ht3 b (ht2 b hb)⟩
theorem W2_turn {c : Code} {env2 : Env} {σ2 : St} (ht : Turn env σ env2 σ2) (h : W2 P n c env2 σ2 Q) : W2 P n c env σ Q := by
  intro ro hf M B κ w a hM hI he hn hd
  obtain ⟨κ2, hI2, he2, ht2⟩ := ht B κ w a hI he
  obtain ⟨rs, h1, h2, h3⟩ := hd
  exact h ro hf M B κ2 w a hM hI2 he2 hn ⟨rs, h1, h2, fun r hr => ⟨(h3 r hr).1, ht2 r (h3 r hr).2.1, (h3 r hr).2.2⟩⟩
/-- A variable, frozen. -/
theorem Turn.fz {env : Env} {σ : St} (t : Nat) {d d' : DVal} {σ' : St} (hg : env.get t = some d) (hf : fzX σ d = some (d', σ')) : Turn env σ ((t, d') :: env) σ' := by
  intro B κ w a hI he
  obtain ⟨v, hv, hr⟩ := he t d hg
  obtain ⟨κ', hI', hE, hr'⟩ := fzX_sound hI hr hf
  refine ⟨κ', hI', fun t' d2 h2 => ?_, hE.T⟩
  rw [get_cons] at h2
  split at h2
  · rename_i heq; subst heq
    cases h2
    exact ⟨v, hv, hr'⟩
  · exact (he.ext hE) t' d2 h2

/-- Data that has no memory of its own. -/
def leaf1 : FVal → Bool
  | .lit _ => true
  | .sl _ [] => true
  | _ => false
def leafy : FVal → Bool
  | .agg cs => cs.all leaf1
  | v => leaf1 v
theorem leaf1_rep {S S' : Addr → Prop} {w : World} : ∀ {es vs}, es.all leaf1 = true → RepL S w es vs → RepL S' w es vs
  | [], vs, _, h => by have := h.nil_inv; subst this; exact .nil
  | e :: es, vs, hc, h => by
    simp only [List.all_cons, Bool.and_eq_true] at hc
    obtain ⟨v, vs', rfl, h0, ht⟩ := h.cons_inv
    have ih := leaf1_rep (S' := S') hc.2 ht
    cases h0 with
    | lit hp _ => exact RepL.lit hp ih
    | snil _ => exact .snil ih
    | @sl k xs us a c _ _ r hk hm hc' _ =>
      cases xs with
      | nil =>
        have := r.nil_inv; subst this
        exact .sl .nil (by simp) (by simp [flat]) hc' ih
      | cons x xs => simp [leaf1] at hc
    | agg r h1 _ => simp [leaf1] at hc
theorem leafy_rep {S S' : Addr → Prop} {w : World} : ∀ {es vs}, es.all leafy = true → RepL S w es vs → RepL S' w es vs
  | [], vs, _, h => by have := h.nil_inv; subst this; exact .nil
  | e :: es, vs, hc, h => by
    simp only [List.all_cons, Bool.and_eq_true] at hc
    obtain ⟨v, vs', rfl, h0, ht⟩ := h.cons_inv
    have ih := leafy_rep (S' := S') hc.2 ht
    cases e with
    | lit x => exact RepL.cons (leaf1_rep (es := [.lit x]) rfl h0) ih
    | sl k xs => exact RepL.cons (leaf1_rep (es := [.sl k xs]) (by simpa [leafy] using hc.1) h0) ih
    | agg cs =>
      obtain ⟨us, rfl, hr, h1⟩ := h0.of_agg
      exact .agg (leaf1_rep (by simpa [leafy] using hc.1) hr) h1 ih

def oneK (κ : Kap) (τ : Nat) : Kap := { ob := κ.ob, ab := fun _ => κ.ab τ, av := fun _ => κ.av τ, S := κ.S, T := κ.T }
/-- Variables of a state that keeps one array. -/
def keep1 (τ : Nat) (env : Env) : Env → Prop
  | [] => True
  | (t, d) :: r => (match d with
    | .f v => env.get t = some (.f v)
    | .arr 0 g => env.get t = some (.arr τ g)
    | _ => False) ∧ keep1 τ env r
theorem keep1_get {τ : Nat} {env : Env} : ∀ {env2 : Env} {t : Nat} {d : DVal}, keep1 τ env env2 → env2.get t = some d → (∃ v, d = .f v ∧ env.get t = some (.f v)) ∨ ∃ g, d = .arr 0 g ∧ env.get t = some (.arr τ g)
  | [], t, d, _, h => by cases h
  | (k, x) :: r, t, d, hk, h => by
    simp only [keep1] at hk
    rw [get_cons] at h
    split at h
    · rename_i heq; subst heq
      cases h
      obtain ⟨h1, _⟩ := hk
      split at h1
      · exact .inl ⟨_, rfl, h1⟩
      · exact .inr ⟨_, rfl, h1⟩
      · exact h1.elim
    · exact keep1_get hk.2 h
theorem Turn.keep {env : Env} {σ : St} (τ : Nat) {a0 : Ar} {env2 : Env} (hτ : σ.arrs[τ]? = some a0) (hk : keep1 τ env env2) : Turn env σ env2 ⟨[], [a0]⟩ := by
  refine fun B κ w a hI he => ⟨oneK κ τ, ?_, fun t d hg => ?_, fun _ h => h⟩
  · have hA := hI.arr τ a0 hτ
    have h0 : ∀ (t : Nat) (x : Ar), [a0][t]? = some x → x = a0 := fun t x hx => by
      cases t with
      | zero => simpa using hx.symm
      | succ t => simp at hx
    refine ⟨hI.base, by simp, by simp, fun t x hx => ?_, by simp, fun i j hi hj _ => ?_, by simp, by simp, fun p hp t x hx hpa => ?_, hI.sLt, fun t x hx => ?_, hI.old, hI.tLt, by simp, fun b hb i hi => ?_⟩
    · have := h0 t x hx; subst this; exact hA
    · simp at hi hj; omega
    · have := h0 t x hx; subst this; exact hI.sArr p hp τ x hτ hpa
    · have := h0 t x hx; subst this; exact hI.fl τ x hτ
    · exact hI.tArr b hb τ (List.getElem?_eq_some_iff.1 hτ).1
  · rcases keep1_get hk hg with ⟨v, rfl, h1⟩ | ⟨g, rfl, h1⟩
    · obtain ⟨x, hx, hr⟩ := he t _ h1
      cases hr with
      | f hr _ => exact ⟨x, hx, .f hr .nil⟩
    · obtain ⟨x, hx, hr⟩ := he t _ h1
      cases hr with
      | arr hr _ =>
        obtain ⟨a', ha', hg', hv⟩ := hr
        rw [hτ] at ha'; cases ha'
        exact ⟨x, hx, .arr ⟨a0, rfl, hg', hv⟩ .nil⟩
/-- Variables that are data. -/
def keep0 (env : Env) : Env → Prop
  | [] => True
  | (t, d) :: r => (match d with
    | .f v => env.get t = some (.f v)
    | _ => False) ∧ keep0 env r
theorem keep0_get {env : Env} : ∀ {env2 : Env} {t : Nat} {d : DVal}, keep0 env env2 → env2.get t = some d → (∃ v, d = .f v ∧ env.get t = some (.f v))
  | [], t, d, _, h => by cases h
  | (k, x) :: r, t, d, hk, h => by
    simp only [keep0] at hk
    rw [get_cons] at h
    split at h
    · rename_i heq; subst heq
      cases h
      obtain ⟨h1, _⟩ := hk
      split at h1
      · exact ⟨_, rfl, h1⟩
      · exact h1.elim
    · exact keep0_get hk.2 h
theorem Turn.keep0 {env : Env} {σ : St} {env2 : Env} (hk : Go.DL.keep0 env env2) : Turn env σ env2 ⟨[], []⟩ := by
  refine fun B κ w a hI he => ⟨κ, ⟨hI.base, by simp, by simp, by simp, by simp, by simp, by simp, by simp, by simp, hI.sLt, by simp, hI.old, hI.tLt, by simp, by simp⟩, fun t d hg => ?_, fun _ h => h⟩
  obtain ⟨v, rfl, h1⟩ := keep0_get hk hg
  obtain ⟨x, hx, hr⟩ := he t _ h1
  cases hr with
  | f hr _ => exact ⟨x, hx, .f hr .nil⟩
/-- An array of leaves that nobody looks at but by the one variable: it may be written again. -/
theorem Turn.thaw {env : Env} {σ : St} (τ t g : Nat) {a0 : Ar} (hτ : σ.arrs[τ]? = some a0) (ht : env.get t = some (.arr τ g)) (hl : a0.es.all leafy = true) : Turn env σ [(t, .arr 0 g)] ⟨[], [{ a0 with floor := 0 }]⟩ := by
  refine fun B κ w a hI he => ⟨{ oneK κ τ with S := fun p => p.block < B }, ?_, fun t' d hg => ?_, fun _ h => h⟩
  · have hA := hI.arr τ a0 hτ
    have h0 : ∀ (t : Nat) (x : Ar), [{ a0 with floor := 0 }][t]? = some x → x = { a0 with floor := 0 } := fun t x hx => by
      cases t with
      | zero => simpa using hx.symm
      | succ t => simp at hx
    have hlt := hA.lt
    refine ⟨hI.base, by simp, by simp, fun t x hx => ?_, by simp, fun i j hi hj _ => ?_, by simp, by simp, fun p hp t x hx hpa => ?_, fun p hp => Nat.lt_of_lt_of_le hp hI.base, fun t x hx => ?_, fun p hp => hp, hI.tLt, by simp, fun b hb i hi => hI.tArr b hb τ (List.getElem?_eq_some_iff.1 hτ).1⟩
    · have := h0 t x hx; subst this
      obtain ⟨us, h1, h2, h3, h4⟩ := hA
      exact ⟨us, leafy_rep hl h1, h2, h3, h4⟩
    · simp at hi hj; omega
    · have hp' : p.block < B := hp
      have hpa' : p.block = κ.ab τ := hpa
      omega
    · have := h0 t x hx; subst this; exact Nat.zero_le _
  · rw [get_cons] at hg
    split at hg
    · rename_i heq; subst heq
      cases hg
      obtain ⟨x, hx, hr⟩ := he t _ ht
      cases hr with
      | arr hr _ =>
        obtain ⟨a', ha', hg', hv⟩ := hr
        rw [hτ] at ha'; cases ha'
        exact ⟨x, hx, .arr ⟨_, rfl, hg', hv⟩ .nil⟩
    · cases hg

/-- A loop over N elements; what a round leaves may be seen otherwise. -/
theorem W2_indexT {c : Code} (I : Nat → Env → St → Prop) (N i0 : Nat) (hi : i0 ≤ N) (h0 : I i0 env σ)
    (step : ∀ i env σ, i < N → I i env σ → ∀ K : Env → St → Prop, (∀ e s e2 s2, Turn e s e2 s2 → I (i + 1) e2 s2 → K e s) → W2 P n c env σ (thenQ K Q)) (stop : ∀ env σ, I N env σ → ∀ K : Env → St → Prop, W2 P n c env σ (thenQ K Q)) : W2 P n (.loop c) env σ Q := by
  refine W2_index (fun i e s => ∃ e2 s2, Turn e s e2 s2 ∧ I i e2 s2) N i0 hi ⟨_, _, Turn.refl, h0⟩ ?_ ?_
  · rintro i e s hi ⟨e2, s2, ht, hI⟩ K hK
    exact W2_turn ht (step i e2 s2 hi hI K fun e s e2 s2 ht hI => hK e s ⟨e2, s2, ht, hI⟩)
  · rintro e s ⟨e2, s2, ht, hI⟩ K
    exact W2_turn ht (stop e2 s2 hI K)
theorem DCalls.arg2 {f : FuncId} {a d e : DVal} {σ σ' : St} {R : Res → St → Prop} (hf : fzX σ d = some (e, σ')) (h : DCalls P f [a, e] σ' R) : DCalls P f [a, d] σ R := by
  intro B κ w args hI hd
  obtain ⟨v, vs', rfl, h0, ht⟩ := hd.cons_inv
  obtain ⟨u, us', rfl, h1, ht1⟩ := ht.cons_inv
  obtain ⟨κ', hI', hE, hr⟩ := fzX_sound hI h1 hf
  have := h B κ' w (v :: u :: us') hI' (RepD.cons (h0.ext hE) (RepD.cons hr (ht1.ext hE)))
  exact this.mono fun e w' ⟨r, s, κ2, h1, h2, h3, h4⟩ => ⟨r, s, κ2, h1, h2, hE.trans h3, h4⟩
/-- The frame leaves with marks. -/
theorem leave2_sound {fn : Func} {B : Nat} {σ' : St} {κ κ' : Kap} {w w' : World} {R : Res → St → Prop} {a' : Act} {u : FrameMode} (hu : u ≠ .run) (hB : B ≤ w.heap.size) (hI' : Inv B σ' κ' w') (hE : Below B w w') (hd : Marks w.heap.size κ' w' a'.defers)
    (h : ∀ κ2 w2, Inv B σ' κ2 w2 → Below B w w2 → (∀ ds vs, RepD σ' κ' w' ds vs → RepD σ' κ2 w2 ds vs) → LeavesIn (fen none) 0 P fn a'.tmps (liftR2 B w R) [] u w2) : LeavesInM (fen none) 0 P fn a'.tmps (liftR2 B w R) a'.defers u w' := by
  obtain ⟨rs, hrs, hnd, hm⟩ := hd
  rw [hrs]
  have hI2 := hI'.restrict (fun _ => False) fun b hb => hb.elim
  refine leave_marks (M := w.heap.size) hu hB rs σ' (κ'.withT fun _ => False) w' hI2 (fun b hb => hb.elim) hnd (fun r hr => ⟨(hm r hr).1, (hm r hr).2.2, fun i hi => hI'.tObj r (hm r hr).2.1 i hi, fun i hi => hI'.tArr r (hm r hr).2.1 i hi⟩) fun w2 hI3 hE3 => ?_
  exact h _ w2 hI3 (hE.trans hE3.below) fun ds vs hr => (hr.withT (T := fun _ => False)).ext hE3

theorem DCalls2_args_of {f : FuncId} {fn : Func} {c : Code} {ds : List DVal} {σ : St} {R : Res → St → Prop} (hf : P.funcs[f]? = some fn) (hb : fn.body = some c) (hl : ds.length ≤ fn.ntmps)
    (h : W2 P fn.ntmps c (ds.zipIdx.map fun p => (p.2, p.1)) σ (bodyQ P fn R)) : DCalls2 P f ds σ R := by
  intro B κ w args hI hd
  have hal := hd.length
  refine callsIn_wide.1 (callsIn_of_wp_marks (F := fen none) (n := 0) hf hb trivial (wpIn_mono (h none (.inl rfl) w.heap.size B κ w _ (Nat.le_refl _) hI ?_ ?_ Marks.nil) ?_) rfl)
  · intro t d hget
    obtain ⟨_, h2⟩ := get_zip ds 0 t d hget
    obtain ⟨v, hv, hr⟩ := hd.get h2
    have : t < args.length := (List.getElem?_eq_some_iff.1 hv).1
    exact ⟨v, by rw [Array.getElem?_append_left (by simpa using this)]; simpa using hv, hr⟩
  · simp; omega
  · rintro e a' w' ⟨o, env', σ', κ', hq, hm, hI', hE, he', hn', hd'⟩
    have retOk : (∃ rs, resD P σ' env' fn.results.toList = some rs ∧ R (.ret (tupD rs)) σ') → LeavesInM (fen none) 0 P fn a'.tmps (liftR2 B w R) a'.defers .returning w' := by
      rintro ⟨rs, hrs, hR⟩
      refine leave2_sound (κ := κ) (by simp) hI.base hI' hE hd' fun κ2 w2 hI2 hE2 hrep => ?_
      have he2 : REnv σ' κ2 w2 env' a' := fun t d hg => by
        obtain ⟨v, hv, hr⟩ := he' t d hg
        exact ⟨v, hv, hrep _ _ hr⟩
      obtain ⟨v, hv, hr⟩ := results_sound hI2 he2 hrs
      exact ⟨v, hv, .ret (tupD rs), σ', κ2, hR, hI2, hE2, hr⟩
    cases o with
    | norm =>
      cases e <;> simp only [matchE] at hm
      exact retOk hq
    | ret =>
      cases e <;> simp only [matchE] at hm
      exact retOk hq
    | pan d =>
      cases e <;> simp only [matchE] at hm
      obtain ⟨v, rfl, hv⟩ := hm
      refine leave2_sound (κ := κ) (by simp) hI.base hI' hE hd' fun κ2 w2 hI2 hE2 hrep => ?_
      exact ⟨.pan d, σ', κ2, hq, hI2, hE2, v, rfl, hrep _ _ hv⟩
    | exit i => exact hq.elim
end
end Go.DL
