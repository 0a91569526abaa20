/-
  D-LOGIC, part A: deep values, abstract states, and how they stand in the model's memory.
-/
import Derived.Below
import Derived.Deep.Draws
import Derived.Maps.AppendAt
import Derived.ArgAppend
import Derived.OwnWalk
import Derived.Laws.Rows
import Derived.WalkKit
import Derived.KernelRfl
import Derived.RangeFuncLeaves
import Derived.RangeFuncRecord
import Derived.OrdersIn
set_option linter.unusedVariables false
set_option linter.unusedSimpArgs false
namespace Go.DL
open Go.RowKit

/-- Data that nobody writes any more: scalars, slices (k cells an element), structs (flat). -/
inductive FVal where
  | lit (v : Value)
  | sl (k : Nat) (es : List FVal)
  | agg (cs : List FVal)
  deriving Inhabited

/-- Values of a run. -/
inductive DVal where
  | f (v : FVal)
  | full (k : Nat) (es : List FVal)
  | arr (t g : Nat)
  | ptr (o off : Nat)
  | ep (cs : List FVal)
  | ap (t g i off : Nat)
  | fn (f : Fn) (caps : List DVal)
  | map (o : Nat)
  | agg (cs : List DVal)
  | tup (vs : List DVal)
  | yld (o : Nat)
  deriving Inhabited

inductive Ob where
  | cells (cs : List DVal)
  | map (es : List (Value × DVal))
  | loop (n : Nat) (env : List (Nat × DVal)) (ps : Array Nat) (asg body : Code) (st : LoopState) (jump : Option Code)
  | dead
  deriving Inhabited

structure Ar where
  ty : TypeId
  k : Nat
  es : List FVal
  gen : Nat
  floor : Nat
  deriving Inhabited

structure St where
  objs : List Ob
  arrs : List Ar
  deriving Inhabited

def plain0 : Value → Bool
  | .bool _ | .int .. | .float .. | .complex .. | .string _ | .nilFunc | .nilIface => true
  | .pointer none | .map none | .chan none => true
  | _ => false
/-- A cell's value without an address. -/
def plainV : Value → Bool
  | .iface _ (.agg cs) => cs.toList.all plain0
  | .iface _ v => plain0 v
  | v => plain0 v

theorem plain0_one {v : Value} (h : plain0 v = true) : v.oneCell' = true := by
  cases v <;> simp_all [plain0, Value.oneCell']
theorem plainV_one {v : Value} (h : plainV v = true) : v.oneCell' = true := by
  cases v <;> simp_all [plain0, plainV, Value.oneCell']

def flat (vs : List Value) : List Value := vs.flatMap fun v => v.cells.toList

/-- How data lie in memory; S: the addresses that stay as they are. -/
inductive RepL (S : Addr → Prop) (w : World) : List FVal → List Value → Prop
  | nil : RepL S w [] []
  | lit {v es vs} (h : plainV v = true) (t : RepL S w es vs) : RepL S w (.lit v :: es) (v :: vs)
  | snil {k es vs} (t : RepL S w es vs) : RepL S w (.sl k [] :: es) (.slice none 0 0 :: vs)
  | sl {k xs us a c es vs} (r : RepL S w xs us) (hk : ∀ u ∈ us, u.cells.size = k)
      (hm : ∀ j u, (flat us)[j]? = some u → w.cell? (a.add j) = some u ∧ S (a.add j)) (hc : us.length ≤ c) (t : RepL S w es vs) :
      RepL S w (.sl k xs :: es) (.slice (some a) us.length c :: vs)
  | agg {cs us es vs} (r : RepL S w cs us) (h1 : ∀ u ∈ us, u.oneCell' = true) (t : RepL S w es vs) : RepL S w (.agg cs :: es) (.agg us.toArray :: vs)

abbrev RepF (S : Addr → Prop) (w : World) (e : FVal) (v : Value) : Prop := RepL S w [e] [v]

section
variable {S S' : Addr → Prop} {w w' : World}
theorem RepL.ext {es vs} (h : RepL S w es vs) (hS : ∀ p, S p → S' p) (hw : ∀ p, S p → w'.cell? p = w.cell? p) : RepL S' w' es vs := by
  induction h with
  | nil => exact .nil
  | lit h t ih => exact .lit h ih
  | snil t ih => exact .snil ih
  | sl r hk hm hc t ih1 ih2 => exact .sl ih1 hk (fun j u hu => ⟨(hw _ (hm j u hu).2).trans (hm j u hu).1, hS _ (hm j u hu).2⟩) hc ih2
  | agg r h1 t ih1 ih2 => exact .agg ih1 h1 ih2

theorem RepL.cons {e v es vs} (h : RepF S w e v) (t : RepL S w es vs) : RepL S w (e :: es) (v :: vs) := by
  cases h with
  | lit h _ => exact .lit h t
  | snil _ => exact .snil t
  | sl r hk hm hc _ => exact .sl r hk hm hc t
  | agg r h1 _ => exact .agg r h1 t
theorem RepL.uncons {e v es vs} (h : RepL S w (e :: es) (v :: vs)) : RepF S w e v ∧ RepL S w es vs := by
  cases h with
  | lit h t => exact ⟨.lit h .nil, t⟩
  | snil t => exact ⟨.snil .nil, t⟩
  | sl r hk hm hc t => exact ⟨.sl r hk hm hc .nil, t⟩
  | agg r h1 t => exact ⟨.agg r h1 .nil, t⟩
theorem RepL.cons_inv {e es vs} (h : RepL S w (e :: es) vs) : ∃ v vs', vs = v :: vs' ∧ RepF S w e v ∧ RepL S w es vs' := by
  cases h with
  | lit h t => exact ⟨_, _, rfl, .lit h .nil, t⟩
  | snil t => exact ⟨_, _, rfl, .snil .nil, t⟩
  | sl r hk hm hc t => exact ⟨_, _, rfl, .sl r hk hm hc .nil, t⟩
  | agg r h1 t => exact ⟨_, _, rfl, .agg r h1 .nil, t⟩
theorem RepL.nil_inv {vs} (h : RepL S w [] vs) : vs = [] := by cases h; rfl
theorem RepL.length {es vs} (h : RepL S w es vs) : vs.length = es.length := by
  induction h <;> simp_all
theorem RepL.get {es vs} (h : RepL S w es vs) : ∀ {i : Nat} {e : FVal}, es[i]? = some e → ∃ v, vs[i]? = some v ∧ RepF S w e v := by
  induction es generalizing vs with
  | nil => intro i e he; simp at he
  | cons e0 es ih =>
    obtain ⟨v0, vs', rfl, h0, ht⟩ := h.cons_inv
    intro i e he
    cases i with
    | zero => simp at he; subst he; exact ⟨v0, rfl, h0⟩
    | succ i => simp at he; simpa using ih ht he
theorem RepL.append {es vs es' vs'} (h : RepL S w es vs) (h' : RepL S w es' vs') : RepL S w (es ++ es') (vs ++ vs') := by
  induction es generalizing vs with
  | nil => cases h; simpa using h'
  | cons e es ih =>
    obtain ⟨v, vs0, rfl, h0, ht⟩ := h.cons_inv
    exact RepL.cons h0 (ih ht)
theorem RepL.split {es es' us} (h : RepL S w (es ++ es') us) : ∃ vs vs', us = vs ++ vs' ∧ RepL S w es vs ∧ RepL S w es' vs' := by
  induction es generalizing us with
  | nil => exact ⟨[], us, rfl, .nil, h⟩
  | cons e es ih =>
    obtain ⟨v, vs0, rfl, h0, ht⟩ := RepL.cons_inv h
    obtain ⟨vs, vs', rfl, h1, h2⟩ := ih ht
    exact ⟨v :: vs, vs', rfl, RepL.cons h0 h1, h2⟩
theorem RepL.take {es vs} (h : RepL S w es vs) (n : Nat) : RepL S w (es.take n) (vs.take n) := by
  induction n generalizing es vs with
  | zero => simpa using RepL.nil
  | succ n ih =>
    cases es with
    | nil => have := h.nil_inv; subst this; simpa using h
    | cons e es =>
      obtain ⟨v, vs', rfl, h0, ht⟩ := h.cons_inv
      simpa using RepL.cons h0 (ih ht)
theorem RepL.drop {es vs} (h : RepL S w es vs) (n : Nat) : RepL S w (es.drop n) (vs.drop n) := by
  induction n generalizing es vs with
  | zero => simpa using h
  | succ n ih =>
    cases es with
    | nil => have := h.nil_inv; subst this; simpa using h
    | cons e es =>
      obtain ⟨v, vs', rfl, _, ht⟩ := h.cons_inv
      simpa using ih ht
theorem RepL.set {es vs} (h : RepL S w es vs) {e v} (he : RepF S w e v) (n : Nat) : RepL S w (es.set n e) (vs.set n v) := by
  induction n generalizing es vs with
  | zero =>
    cases es with
    | nil => have := h.nil_inv; subst this; exact .nil
    | cons e0 es =>
      obtain ⟨v0, vs', rfl, _, ht⟩ := h.cons_inv
      exact RepL.cons he ht
  | succ n ih =>
    cases es with
    | nil => have := h.nil_inv; subst this; exact .nil
    | cons e0 es =>
      obtain ⟨v0, vs', rfl, h0, ht⟩ := h.cons_inv
      exact RepL.cons h0 (ih ht)
theorem RepF.of_lit {v x} (h : RepF S w (.lit v) x) : x = v ∧ plainV v = true := by cases h; exact ⟨rfl, by assumption⟩
theorem RepF.of_agg {cs x} (h : RepF S w (.agg cs) x) : ∃ us, x = .agg us.toArray ∧ RepL S w cs us ∧ ∀ u ∈ us, u.oneCell' = true := by
  cases h; exact ⟨_, rfl, by assumption, by assumption⟩
theorem RepF.mk_agg {cs us} (h : RepL S w cs us) (h1 : ∀ u ∈ us, u.oneCell' = true) : RepF S w (.agg cs) (.agg us.toArray) := .agg h h1 .nil
theorem RepF.mk_lit {v} (h : plainV v = true) : RepF S w (.lit v) v := .lit h .nil
/-- What a slice's value looks like. -/
theorem RepF.of_sl {k xs x} (h : RepF S w (.sl k xs) x) : ∃ us A c, x = .slice A us.length c ∧ RepL S w xs us ∧ us.length ≤ c ∧ (∀ u ∈ us, u.cells.size = k) ∧
    (A = none → us = [] ∧ c = 0) ∧ ∀ a, A = some a → ∀ j u, (flat us)[j]? = some u → w.cell? (a.add j) = some u ∧ S (a.add j) := by
  cases h with
  | snil _ => exact ⟨[], none, 0, rfl, .nil, Nat.le_refl _, by simp, fun _ => ⟨rfl, rfl⟩, fun a h => by cases h⟩
  | sl r hk hm hc _ => exact ⟨_, some _, _, rfl, r, hc, hk, (fun h => by cases h), fun a h => by cases h; exact hm⟩
end

/-! ### Sizes -/
def FVal.size : FVal → Nat
  | .agg cs => cs.length
  | _ => 1
theorem RepF.size {S : Addr → Prop} {w : World} {e v} (h : RepF S w e v) : v.cells.size = e.size := by
  cases h with
  | lit h _ => have := plainV_one h; cases ‹Value› <;> simp_all [Value.cells, FVal.size, Value.oneCell']
  | snil _ => rfl
  | sl => rfl
  | agg r h1 _ => simp [Value.cells, FVal.size, r.length]
theorem RepF.one {S : Addr → Prop} {w : World} {e v} (h : RepF S w e v) (he : ∀ cs, e ≠ .agg cs) : v.oneCell' = true := by
  cases h with
  | lit h _ => exact plainV_one h
  | snil _ => rfl
  | sl => rfl
  | agg r h1 _ => exact absurd rfl (he _)

theorem flat_cons (v : Value) (vs : List Value) : flat (v :: vs) = v.cells.toList ++ flat vs := rfl
theorem flat_append (a b : List Value) : flat (a ++ b) = flat a ++ flat b := by simp [flat]
theorem flat_length {us : List Value} {k : Nat} (hk : ∀ u ∈ us, u.cells.size = k) : (flat us).length = us.length * k := by
  induction us with
  | nil => simp [flat]
  | cons u us ih =>
    rw [flat_cons, List.length_append, ih fun v hv => hk v (List.mem_cons_of_mem _ hv), Array.length_toList, hk u (List.mem_cons_self ..), List.length_cons, Nat.succ_mul]; omega
theorem flat_get {us : List Value} {k : Nat} (hk : ∀ u ∈ us, u.cells.size = k) {i : Nat} {v : Value} (hi : us[i]? = some v) (j : Nat) (hj : j < k) : (flat us)[i * k + j]? = v.cells[j]? := by
  induction us generalizing i with
  | nil => simp at hi
  | cons u us ih =>
    have hu := hk u (List.mem_cons_self ..)
    cases i with
    | zero =>
      simp at hi; subst hi
      rw [flat_cons, Nat.zero_mul, Nat.zero_add, List.getElem?_append_left (by rw [Array.length_toList]; omega)]; simp
    | succ i =>
      rw [flat_cons, List.getElem?_append_right (by rw [Array.length_toList, hu, Nat.succ_mul]; omega), Array.length_toList, hu, Nat.succ_mul]
      have : i * k + k + j - k = i * k + j := by omega
      rw [this]; exact ih (fun v hv => hk v (List.mem_cons_of_mem _ hv)) (by simpa using hi)

theorem add_add' (a : Addr) (i j : Nat) : (a.add i).add j = a.add (i + j) := by
  unfold Addr.add
  by_cases hi : i = 0 <;> by_cases hj : j = 0 <;> simp [hi, hj, Nat.add_assoc]
theorem add_block (a : Addr) (n : Nat) : (a.add n).block = a.block := by unfold Addr.add; split <;> rfl
theorem add_none (g o j : Nat) : (⟨g, o, none⟩ : Addr).add j = ⟨g, o + j, none⟩ := by unfold Addr.add; split <;> simp_all

/-! ### Values of a run, states -/
structure Kap where
  ob : Nat → Nat
  ab : Nat → Nat
  av : Nat → Value
  S : Addr → Prop
  T : Nat → Prop

def ArrOK (σ : St) (κ : Kap) (t g : Nat) (x : Value) : Prop := ∃ a, σ.arrs[t]? = some a ∧ g ≤ a.gen ∧ (g = a.gen → x = κ.av t)
def ApOK (σ : St) (κ : Kap) (t g i off : Nat) (x : Value) : Prop := ∃ a, σ.arrs[t]? = some a ∧ g ≤ a.gen ∧ (g = a.gen → x = .pointer (some ⟨κ.ab t, i * a.k + off, none⟩))

inductive RepD (σ : St) (κ : Kap) (w : World) : List DVal → List Value → Prop
  | nil : RepD σ κ w [] []
  | f {v x ds vs} (h : RepF κ.S w v x) (t : RepD σ κ w ds vs) : RepD σ κ w (.f v :: ds) (x :: vs)
  | fnil {k ds vs} (t : RepD σ κ w ds vs) : RepD σ κ w (.full k [] :: ds) (.slice none 0 0 :: vs)
  | full {k xs us a ds vs} (r : RepL κ.S w xs us) (hk : ∀ u ∈ us, u.cells.size = k)
      (hm : ∀ j u, (flat us)[j]? = some u → w.cell? (a.add j) = some u ∧ κ.S (a.add j)) (t : RepD σ κ w ds vs) : RepD σ κ w (.full k xs :: ds) (.slice (some a) us.length us.length :: vs)
  | arr {i g x ds vs} (h : ArrOK σ κ i g x) (t : RepD σ κ w ds vs) : RepD σ κ w (.arr i g :: ds) (x :: vs)
  | ptr {o off ds vs} (h : o < σ.objs.length) (t : RepD σ κ w ds vs) : RepD σ κ w (.ptr o off :: ds) (.pointer (some ⟨κ.ob o, off, none⟩) :: vs)
  | ep {cs us a ds vs} (r : RepL κ.S w cs us) (h1 : ∀ u ∈ us, u.oneCell' = true) (hm : ∀ j u, us[j]? = some u → w.cell? (a.add j) = some u ∧ κ.S (a.add j))
      (t : RepD σ κ w ds vs) : RepD σ κ w (.ep cs :: ds) (.pointer (some a) :: vs)
  | ap {i g j off x ds vs} (h : ApOK σ κ i g j off x) (t : RepD σ κ w ds vs) : RepD σ κ w (.ap i g j off :: ds) (x :: vs)
  | fn {f caps us ds vs} (r : RepD σ κ w caps us) (t : RepD σ κ w ds vs) : RepD σ κ w (.fn f caps :: ds) (.func f #[] us.toArray :: vs)
  | map {o ds vs} (h : o < σ.objs.length) (t : RepD σ κ w ds vs) : RepD σ κ w (.map o :: ds) (.map (some (κ.ob o)) :: vs)
  | agg {cs us ds vs} (r : RepD σ κ w cs us) (h1 : ∀ u ∈ us, u.oneCell' = true) (t : RepD σ κ w ds vs) : RepD σ κ w (.agg cs :: ds) (.agg us.toArray :: vs)
  | tup {cs us ds vs} (r : RepD σ κ w cs us) (t : RepD σ κ w ds vs) : RepD σ κ w (.tup cs :: ds) (.tuple us.toArray :: vs)
  | yld {o ds vs} (h : o < σ.objs.length) (t : RepD σ κ w ds vs) : RepD σ κ w (.yld o :: ds) (.func (.yield (κ.ob o)) #[] #[] :: vs)

abbrev Rep1 (σ : St) (κ : Kap) (w : World) (d : DVal) (v : Value) : Prop := RepD σ κ w [d] [v]

structure Ext (B : Nat) (σ : St) (κ : Kap) (w : World) (σ' : St) (κ' : Kap) (w' : World) : Prop where
  objs : σ.objs.length ≤ σ'.objs.length
  ob : ∀ i, i < σ.objs.length → κ'.ob i = κ.ob i
  arrs : ∀ t a, σ.arrs[t]? = some a → ∃ a', σ'.arrs[t]? = some a' ∧ a.gen ≤ a'.gen ∧ (a.gen = a'.gen → κ'.av t = κ.av t ∧ κ'.ab t = κ.ab t ∧ a'.k = a.k)
  S : ∀ p, κ.S p → κ'.S p
  cell : ∀ p, κ.S p → w'.cell? p = w.cell? p
  below : Below B w w'
  T : ∀ b, κ.T b → κ'.T b
  blk : ∀ b, κ.T b → w'.heap[b]? = w.heap[b]?

theorem Ext.refl (B : Nat) (σ : St) (κ : Kap) (w : World) : Ext B σ κ w σ κ w :=
  ⟨Nat.le_refl _, fun _ _ => rfl, fun t a h => ⟨a, h, Nat.le_refl _, fun _ => ⟨rfl, rfl, rfl⟩⟩, fun _ h => h, fun _ _ => rfl, Below.refl _ _, fun _ h => h, fun _ _ => rfl⟩

theorem Ext.trans {B : Nat} {σ σ' σ'' : St} {κ κ' κ'' : Kap} {w w' w'' : World} (h : Ext B σ κ w σ' κ' w') (k : Ext B σ' κ' w' σ'' κ'' w'') : Ext B σ κ w σ'' κ'' w'' := by
  refine ⟨Nat.le_trans h.objs k.objs, fun i hi => (k.ob i (Nat.lt_of_lt_of_le hi h.objs)).trans (h.ob i hi), fun t a ha => ?_, fun p hp => k.S p (h.S p hp),
    fun p hp => (k.cell p (h.S p hp)).trans (h.cell p hp), h.below.trans k.below, fun b hb => k.T b (h.T b hb), fun b hb => (k.blk b (h.T b hb)).trans (h.blk b hb)⟩
  obtain ⟨a', ha', hg, he⟩ := h.arrs t a ha
  obtain ⟨a'', ha'', hg', he'⟩ := k.arrs t a' ha'
  refine ⟨a'', ha'', Nat.le_trans hg hg', fun e => ?_⟩
  obtain ⟨e1, e2, e3⟩ := he (by omega)
  obtain ⟨e4, e5, e6⟩ := he' (by omega)
  exact ⟨e4.trans e1, e5.trans e2, e6.trans e3⟩

section
variable {B : Nat} {σ σ' : St} {κ κ' : Kap} {w w' : World}
theorem ArrOK.ext {t g x} (h : ArrOK σ κ t g x) (e : Ext B σ κ w σ' κ' w') : ArrOK σ' κ' t g x := by
  obtain ⟨a, ha, hg, hx⟩ := h
  obtain ⟨a', ha', hg', he⟩ := e.arrs t a ha
  exact ⟨a', ha', by omega, fun eg => by rw [hx (by omega), (he (by omega)).1]⟩
theorem ApOK.ext {t g i off x} (h : ApOK σ κ t g i off x) (e : Ext B σ κ w σ' κ' w') : ApOK σ' κ' t g i off x := by
  obtain ⟨a, ha, hg, hx⟩ := h
  obtain ⟨a', ha', hg', he⟩ := e.arrs t a ha
  exact ⟨a', ha', by omega, fun eg => by
    obtain ⟨_, e2, e3⟩ := he (by omega)
    rw [hx (by omega), e2, e3]⟩
theorem RepD.ext {ds vs} (h : RepD σ κ w ds vs) (e : Ext B σ κ w σ' κ' w') : RepD σ' κ' w' ds vs := by
  induction h with
  | nil => exact .nil
  | f h t ih => exact .f (h.ext e.S e.cell) ih
  | fnil t ih => exact .fnil ih
  | full r hk hm t ih => exact .full (r.ext e.S e.cell) hk (fun j u hu => ⟨(e.cell _ (hm j u hu).2).trans (hm j u hu).1, e.S _ (hm j u hu).2⟩) ih
  | arr h t ih => exact .arr (h.ext e) ih
  | ptr h t ih => rw [← e.ob _ h]; exact .ptr (Nat.lt_of_lt_of_le h e.objs) ih
  | ep r h1 hm t ih => exact .ep (r.ext e.S e.cell) h1 (fun j u hu => ⟨(e.cell _ (hm j u hu).2).trans (hm j u hu).1, e.S _ (hm j u hu).2⟩) ih
  | ap h t ih => exact .ap (h.ext e) ih
  | fn r t ih1 ih2 => exact .fn ih1 ih2
  | map h t ih => rw [← e.ob _ h]; exact .map (Nat.lt_of_lt_of_le h e.objs) ih
  | agg r h1 t ih1 ih2 => exact .agg ih1 h1 ih2
  | tup r t ih1 ih2 => exact .tup ih1 ih2
  | yld h t ih => rw [← e.ob _ h]; exact .yld (Nat.lt_of_lt_of_le h e.objs) ih

theorem RepD.cons {d v ds vs} (h : Rep1 σ κ w d v) (t : RepD σ κ w ds vs) : RepD σ κ w (d :: ds) (v :: vs) := by
  cases h with
  | f h _ => exact .f h t
  | fnil _ => exact .fnil t
  | full r hk hm _ => exact .full r hk hm t
  | arr h _ => exact .arr h t
  | ptr h _ => exact .ptr h t
  | ep r h1 hm _ => exact .ep r h1 hm t
  | ap h _ => exact .ap h t
  | fn r _ => exact .fn r t
  | map h _ => exact .map h t
  | agg r h1 _ => exact .agg r h1 t
  | tup r _ => exact .tup r t
  | yld h _ => exact .yld h t
theorem RepD.cons_inv {d ds vs} (h : RepD σ κ w (d :: ds) vs) : ∃ v vs', vs = v :: vs' ∧ Rep1 σ κ w d v ∧ RepD σ κ w ds vs' := by
  cases h with
  | f h t => exact ⟨_, _, rfl, .f h .nil, t⟩
  | fnil t => exact ⟨_, _, rfl, .fnil .nil, t⟩
  | full r hk hm t => exact ⟨_, _, rfl, .full r hk hm .nil, t⟩
  | arr h t => exact ⟨_, _, rfl, .arr h .nil, t⟩
  | ptr h t => exact ⟨_, _, rfl, .ptr h .nil, t⟩
  | ep r h1 hm t => exact ⟨_, _, rfl, .ep r h1 hm .nil, t⟩
  | ap h t => exact ⟨_, _, rfl, .ap h .nil, t⟩
  | fn r t => exact ⟨_, _, rfl, .fn r .nil, t⟩
  | map h t => exact ⟨_, _, rfl, .map h .nil, t⟩
  | agg r h1 t => exact ⟨_, _, rfl, .agg r h1 .nil, t⟩
  | tup r t => exact ⟨_, _, rfl, .tup r .nil, t⟩
  | yld h t => exact ⟨_, _, rfl, .yld h .nil, t⟩
theorem RepD.nil_inv {vs} (h : RepD σ κ w [] vs) : vs = [] := by cases h; rfl
theorem RepD.length {ds vs} (h : RepD σ κ w ds vs) : vs.length = ds.length := by
  induction h <;> simp_all
theorem RepD.get {ds vs} (h : RepD σ κ w ds vs) : ∀ {i : Nat} {d : DVal}, ds[i]? = some d → ∃ v, vs[i]? = some v ∧ Rep1 σ κ w d v := by
  induction ds generalizing vs with
  | nil => intro i e he; simp at he
  | cons e0 es ih =>
    obtain ⟨v0, vs', rfl, h0, ht⟩ := h.cons_inv
    intro i e he
    cases i with
    | zero => simp at he; subst he; exact ⟨v0, rfl, h0⟩
    | succ i => simp at he; simpa using ih ht he
theorem RepD.append {es vs es' vs'} (h : RepD σ κ w es vs) (h' : RepD σ κ w es' vs') : RepD σ κ w (es ++ es') (vs ++ vs') := by
  induction es generalizing vs with
  | nil => cases h; simpa using h'
  | cons e es ih =>
    obtain ⟨v, vs0, rfl, h0, ht⟩ := h.cons_inv
    exact RepD.cons h0 (ih ht)
theorem RepD.set {es vs} (h : RepD σ κ w es vs) {e v} (he : Rep1 σ κ w e v) (n : Nat) : RepD σ κ w (es.set n e) (vs.set n v) := by
  induction n generalizing es vs with
  | zero =>
    cases es with
    | nil => have := h.nil_inv; subst this; exact .nil
    | cons e0 es =>
      obtain ⟨v0, vs', rfl, _, ht⟩ := h.cons_inv
      exact RepD.cons he ht
  | succ n ih =>
    cases es with
    | nil => have := h.nil_inv; subst this; exact .nil
    | cons e0 es =>
      obtain ⟨v0, vs', rfl, h0, ht⟩ := h.cons_inv
      exact RepD.cons h0 (ih ht)
theorem RepD.drop {es vs} (h : RepD σ κ w es vs) (n : Nat) : RepD σ κ w (es.drop n) (vs.drop n) := by
  induction n generalizing es vs with
  | zero => simpa using h
  | succ n ih =>
    cases es with
    | nil => have := h.nil_inv; subst this; simpa using h
    | cons e es =>
      obtain ⟨v, vs', rfl, _, ht⟩ := h.cons_inv
      simpa using ih ht
theorem RepD.take {es vs} (h : RepD σ κ w es vs) (n : Nat) : RepD σ κ w (es.take n) (vs.take n) := by
  induction n generalizing es vs with
  | zero => simpa using RepD.nil
  | succ n ih =>
    cases es with
    | nil => have := h.nil_inv; subst this; simpa using h
    | cons e es =>
      obtain ⟨v, vs', rfl, h0, ht⟩ := h.cons_inv
      simpa using RepD.cons h0 (ih ht)
theorem RepL.toD {es vs} (h : RepL κ.S w es vs) : RepD σ κ w (es.map .f) vs := by
  induction es generalizing vs with
  | nil => cases h; exact .nil
  | cons e es ih =>
    obtain ⟨v, vs0, rfl, h0, ht⟩ := h.cons_inv
    exact .f h0 (ih ht)
theorem RepD.of_f {es : List FVal} {vs} (h : RepD σ κ w (es.map .f) vs) : RepL κ.S w es vs := by
  induction es generalizing vs with
  | nil => cases h; exact .nil
  | cons e es ih =>
    obtain ⟨v, vs0, rfl, h0, ht⟩ := RepD.cons_inv h
    cases h0 with
    | f h0 _ => exact RepL.cons h0 (ih ht)
end

def envGet : List (Nat × DVal) → Nat → Option DVal
  | [], _ => none
  | (k, d) :: r, t => bif Nat.beq k t then some d else envGet r t
/-- An object of the state, in its block. -/
def ObOK (σ : St) (κ : Kap) (w : World) (b : Nat) : Ob → Prop
  | .cells cs => ∃ (us : List Value) (T : TypeId), w.heap[b]? = some (.cells us.toArray T (0, 0)) ∧ RepD σ κ w cs us ∧ ∀ u ∈ us, u.oneCell' = true
  | .map es => ∃ (xs : List MapEntry) (clock : Nat), w.heap[b]? = some (.map xs.toArray clock) ∧ RepD σ κ w (es.map (·.2)) (xs.map (·.val)) ∧ es.map (·.1) = xs.map (·.key) ∧ ∀ x ∈ es, plain0 x.1 = true
  | .loop n env ps asg body st jump => ∃ (fn : FuncId) (tm : Array Value) (r : Nat), w.heap[b]? = some (.loop { state := st, pending := jump, fn := fn, tmps := tm, params := ps, assign := asg, body := body, defers := r }) ∧ tm.size = n ∧
      ∀ t d, envGet env t = some d → ∃ v, tm[t]? = some v ∧ Rep1 σ κ w d v
  | .dead => True

/-- A growing array of the state. -/
def ArOK (B : Nat) (κ : Kap) (w : World) (t : Nat) (a : Ar) : Prop :=
  ∃ us, RepL κ.S w a.es us ∧ (∀ u ∈ us, u.cells.size = a.k) ∧ w.ownsRow B a.ty a.k (κ.av t) us.length (flat us) ∧ (κ.av t).ownBlock = some (κ.ab t)

structure Inv (B : Nat) (σ : St) (κ : Kap) (w : World) : Prop where
  base : B ≤ w.heap.size
  obj : ∀ i o, σ.objs[i]? = some o → ObOK σ κ w (κ.ob i) o
  objB : ∀ i, i < σ.objs.length → B ≤ κ.ob i ∧ κ.ob i < w.heap.size
  arr : ∀ t a, σ.arrs[t]? = some a → ArOK B κ w t a
  injO : ∀ i j, i < σ.objs.length → j < σ.objs.length → κ.ob i = κ.ob j → i = j
  injA : ∀ i j, i < σ.arrs.length → j < σ.arrs.length → κ.ab i = κ.ab j → i = j
  disj : ∀ i j, i < σ.objs.length → j < σ.arrs.length → κ.ob i ≠ κ.ab j
  sObj : ∀ p, κ.S p → ∀ i, i < σ.objs.length → p.block ≠ κ.ob i
  sArr : ∀ p, κ.S p → ∀ t a, σ.arrs[t]? = some a → p.block = κ.ab t → p.off < a.floor * a.k
  sLt : ∀ p, κ.S p → p.block < w.heap.size
  fl : ∀ (t : Nat) (a : Ar), σ.arrs[t]? = some a → a.floor ≤ a.es.length
  old : ∀ p : Addr, p.block < B → κ.S p
  tLt : ∀ b, κ.T b → b < w.heap.size
  tObj : ∀ b, κ.T b → ∀ i, i < σ.objs.length → b ≠ κ.ob i
  tArr : ∀ b, κ.T b → ∀ i, i < σ.arrs.length → b ≠ κ.ab i

end Go.DL
