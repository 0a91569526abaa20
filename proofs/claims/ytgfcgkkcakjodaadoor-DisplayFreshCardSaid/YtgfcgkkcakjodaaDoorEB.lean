/-
  D-LOGIC, part B: steps of states: what grows, what is made, what is stored.
-/
import Derived.Test.YtgfcgkkcakjodaaDoorEA
set_option linter.unusedVariables false
set_option linter.unusedSimpArgs false
namespace Go.DL
open Go.RowKit

section
variable {B : Nat} {σ : St} {κ : Kap} {w w' : World}

def Kap.withS (κ : Kap) (S : Addr → Prop) : Kap := { κ with S := S }
def Kap.setOb (κ : Kap) (n b : Nat) : Kap := { κ with ob := fun i => if i = n then b else κ.ob i }
def Kap.setAr (κ : Kap) (n b : Nat) (v : Value) : Kap := { κ with ab := fun i => if i = n then b else κ.ab i, av := fun i => if i = n then v else κ.av i }

theorem ObOK.keep {σ' : St} {κ' : Kap} {b : Nat} {o : Ob} (h : ObOK σ κ w b o) (e : Ext B σ κ w σ' κ' w') (hb : w'.heap[b]? = w.heap[b]?) : ObOK σ' κ' w' b o := by
  cases o with
  | cells cs =>
    obtain ⟨us, T, h1, h2, h3⟩ := h
    exact ⟨us, T, by rw [hb]; exact h1, h2.ext e, h3⟩
  | map es =>
    obtain ⟨xs, clock, h1, h2, h3⟩ := h
    exact ⟨xs, clock, by rw [hb]; exact h1, h2.ext e, h3⟩
  | loop n env ps asg body st jump =>
    obtain ⟨fn, tm, r, h1, h2, h3⟩ := h
    exact ⟨fn, tm, r, by rw [hb]; exact h1, h2, fun t d ht => by
      obtain ⟨v, hv, hr⟩ := h3 t d ht
      exact ⟨v, hv, hr.ext e⟩⟩
  | dead => trivial

theorem ownsRow_keep {B' : Nat} {T : TypeId} {k : Nat} {v : Value} {n : Nat} {xs : List Value} (h : w.ownsRow B' T k v n xs) {b : Nat} (hv : v.ownBlock = some b) (hb : w'.heap[b]? = w.heap[b]?) : w'.ownsRow B' T k v n xs := by
  refine ⟨h.1, ?_⟩
  rcases h.2 with ⟨rfl, _⟩ | ⟨g, cap, cur, rfl, h1, h2, h3⟩
  · simp [Value.ownBlock] at hv
  · have : g = b := by simpa [Value.ownBlock] using hv
    subst this
    exact .inr ⟨g, cap, cur, rfl, h1, by rw [hb]; exact h2, h3⟩
theorem ownsRow_lt {B' : Nat} {T : TypeId} {k : Nat} {v : Value} {n : Nat} {xs : List Value} (h : w.ownsRow B' T k v n xs) {b : Nat} (hv : v.ownBlock = some b) : b < w.heap.size ∧ B' ≤ b := by
  rcases h.2 with ⟨rfl, _⟩ | ⟨g, cap, cur, rfl, h1, h2, h3⟩
  · simp [Value.ownBlock] at hv
  · have : g = b := by simpa [Value.ownBlock] using hv
    subst this
    exact ⟨(Array.getElem?_eq_some_iff.1 h2).1, h1⟩

theorem ArOK.keep {κ' : Kap} {t : Nat} {a : Ar} (h : ArOK B κ w t a) (hS : ∀ p, κ.S p → κ'.S p) (hc : ∀ p, κ.S p → w'.cell? p = w.cell? p) (hav : κ'.av t = κ.av t) (hab : κ'.ab t = κ.ab t) (hb : w'.heap[κ.ab t]? = w.heap[κ.ab t]?) :
    ArOK B κ' w' t a := by
  obtain ⟨us, h1, h2, h3, h4⟩ := h
  exact ⟨us, h1.ext hS hc, h2, by rw [hav]; exact ownsRow_keep h3 h4 hb, by rw [hav, hab]; exact h4⟩
theorem ArOK.lt {t : Nat} {a : Ar} (h : ArOK B κ w t a) : κ.ab t < w.heap.size ∧ B ≤ κ.ab t := by
  obtain ⟨us, h1, h2, h3, h4⟩ := h
  exact ownsRow_lt h3 h4

/-- New blocks; new stable cells in them: what a pure call, an alloc, a draw leaves. -/
theorem Inv.grow (h : Inv B σ κ w) (hb : Below w.heap.size w w') (S' : Addr → Prop) (hS : ∀ p, κ.S p → S' p) (hn : ∀ p, S' p → κ.S p ∨ (w.heap.size ≤ p.block ∧ p.block < w'.heap.size)) :
    Inv B σ (κ.withS S') w' ∧ Ext B σ κ w σ (κ.withS S') w' := by
  have hc : ∀ p, κ.S p → w'.cell? p = w.cell? p := fun p hp => hb.cell (h.sLt p hp)
  have e : Ext B σ κ w σ (κ.withS S') w' := ⟨Nat.le_refl _, fun _ _ => rfl, fun t a ha => ⟨a, ha, Nat.le_refl _, fun _ => ⟨rfl, rfl, rfl⟩⟩, hS, hc, hb.mono h.base, fun _ h => h, fun b hbt => hb.block b (h.tLt b hbt)⟩
  refine ⟨⟨Nat.le_trans h.base hb.size, fun i o ho => ?_, fun i hi => ⟨(h.objB i hi).1, Nat.lt_of_lt_of_le (h.objB i hi).2 hb.size⟩, fun t a ha => ?_, h.injO, h.injA, h.disj, fun p hp i hi => ?_, fun p hp t a ha hpa => ?_, fun p hp => ?_, h.fl, fun p hp => hS p (h.old p hp), fun b hbt => Nat.lt_of_lt_of_le (h.tLt b hbt) hb.size, h.tObj, h.tArr⟩, e⟩
  · have hi : i < σ.objs.length := (List.getElem?_eq_some_iff.1 ho).1
    exact (h.obj i o ho).keep e (hb.block _ (h.objB i hi).2)
  · have := (h.arr t a ha)
    exact this.keep hS hc rfl rfl (hb.block _ this.lt.1)
  · rcases hn p hp with hp | ⟨h1, h2⟩
    · exact h.sObj p hp i hi
    · have := (h.objB i hi).2
      show p.block ≠ κ.ob i
      omega
  · rcases hn p hp with hp | ⟨h1, h2⟩
    · exact h.sArr p hp t a ha hpa
    · have := (h.arr t a ha).lt.1
      have hpa' : p.block = κ.ab t := hpa
      omega
  · rcases hn p hp with hp | ⟨h1, h2⟩
    · exact Nat.lt_of_lt_of_le (h.sLt p hp) hb.size
    · exact h2

theorem Inv.grow_same (h : Inv B σ κ w) (hb : Below w.heap.size w w') : Inv B σ κ w' ∧ Ext B σ κ w σ κ w' :=
  h.grow hb κ.S (fun _ h => h) (fun _ h => .inl h)

theorem below_drew' (w : World) : Below w.heap.size w w.drew := (Below.refl _ _).drew
theorem below_alloc' (w : World) (o : Obj) : Below w.heap.size w (w.alloc o) := (Below.refl _ _).alloc (Nat.le_refl _) o

/-- A block that nobody names yet becomes an object. -/
theorem Inv.push (h : Inv B σ κ w) (b : Nat) (o : Ob) (hB : B ≤ b) (hlt : b < w.heap.size) (hS : ∀ p, κ.S p → p.block ≠ b) (hO : ∀ i, i < σ.objs.length → κ.ob i ≠ b) (hA : ∀ i, i < σ.arrs.length → κ.ab i ≠ b)
    (hT : ∀ b', κ.T b' → b' ≠ b) (ho : ObOK σ κ w b o) : Inv B { σ with objs := σ.objs ++ [o] } (κ.setOb σ.objs.length b) w ∧ Ext B σ κ w { σ with objs := σ.objs ++ [o] } (κ.setOb σ.objs.length b) w := by
  have e : Ext B σ κ w { σ with objs := σ.objs ++ [o] } (κ.setOb σ.objs.length b) w :=
    ⟨by simp, fun i hi => by simp [Kap.setOb, Nat.ne_of_lt hi], fun t a ha => ⟨a, ha, Nat.le_refl _, fun _ => ⟨rfl, rfl, rfl⟩⟩, fun _ hp => hp, fun _ _ => rfl, Below.refl _ _, fun _ h => h, fun _ _ => rfl⟩
  have hob : ∀ i, i < σ.objs.length → (κ.setOb σ.objs.length b).ob i = κ.ob i := fun i hi => by simp [Kap.setOb, Nat.ne_of_lt hi]
  have hobn : (κ.setOb σ.objs.length b).ob σ.objs.length = b := by simp [Kap.setOb]
  have hcase : ∀ i, i < (σ.objs ++ [o]).length → i < σ.objs.length ∨ i = σ.objs.length := fun i hi => by simp at hi; omega
  refine ⟨⟨h.base, fun i x hx => ?_, fun i hi => ?_, fun t a ha => ?_, fun i j hi hj hij => ?_, h.injA, fun i j hi hj => ?_, fun p hp i hi => ?_, fun p hp t a ha hpa => ?_, h.sLt, h.fl, h.old, h.tLt, fun b' hb' i hi => ?_, h.tArr⟩, e⟩
  · rcases hcase i (List.getElem?_eq_some_iff.1 hx).1 with hi | rfl
    · have hx' : σ.objs[i]? = some x := by simpa [List.getElem?_append_left hi] using hx
      rw [hob i hi]; exact (h.obj i x hx').keep e rfl
    · have hx' : o = x := by simpa using hx
      subst hx'
      rw [hobn]; exact ho.keep e rfl
  · rcases hcase i hi with hi | rfl
    · rw [hob i hi]; exact h.objB i hi
    · rw [hobn]; exact ⟨hB, hlt⟩
  · exact (h.arr t a ha).keep (fun _ hp => hp) (fun _ _ => rfl) rfl rfl rfl
  · rcases hcase i hi with hi | rfl <;> rcases hcase j hj with hj | rfl
    · rw [hob i hi, hob j hj] at hij; exact h.injO i j hi hj hij
    · rw [hob i hi, hobn] at hij; exact absurd hij (hO i hi)
    · rw [hob j hj, hobn] at hij; exact absurd hij.symm (hO j hj)
    · rfl
  · rcases hcase i hi with hi | rfl
    · rw [hob i hi]; exact h.disj i j hi hj
    · rw [hobn]; exact fun e => hA j hj e.symm
  · rcases hcase i hi with hi | rfl
    · rw [hob i hi]; exact h.sObj p hp i hi
    · rw [hobn]; exact hS p hp
  · exact h.sArr p hp t a ha hpa
  · rcases hcase i hi with hi | rfl
    · rw [hob i hi]; exact h.tObj b' hb' i hi
    · rw [hobn]; exact hT b' hb'

/-- A new block of cells, as an object. -/
theorem Inv.alloc (h : Inv B σ κ w) (T : TypeId) {cs : List DVal} {us : List Value} (hr : RepD σ κ w cs us) (h1 : ∀ u ∈ us, u.oneCell' = true) :
    Inv B { σ with objs := σ.objs ++ [.cells cs] } (κ.setOb σ.objs.length w.heap.size) (w.alloc (.cells us.toArray T)) ∧
    Ext B σ κ w { σ with objs := σ.objs ++ [.cells cs] } (κ.setOb σ.objs.length w.heap.size) (w.alloc (.cells us.toArray T)) := by
  obtain ⟨h', e⟩ := h.grow_same (below_alloc' w (.cells us.toArray T))
  obtain ⟨h'', e'⟩ := h'.push w.heap.size (.cells cs) h.base (by simp) (fun p hp => Nat.ne_of_lt (h.sLt p hp)) (fun i hi => Nat.ne_of_lt (h.objB i hi).2) (fun i hi => by
      obtain ⟨a, ha⟩ : ∃ a, σ.arrs[i]? = some a := ⟨σ.arrs[i], List.getElem?_eq_getElem hi⟩
      exact Nat.ne_of_lt (h.arr i a ha).lt.1) (fun b' hb' => Nat.ne_of_lt (h.tLt b' hb'))
    ⟨us, T, heap_alloc_new _ _, hr.ext e, h1⟩
  exact ⟨h'', e.trans e'⟩

/-- A new map. -/
theorem Inv.allocMap (h : Inv B σ κ w) : Inv B { σ with objs := σ.objs ++ [.map []] } (κ.setOb σ.objs.length w.heap.size) (w.alloc (.map #[] 0)) ∧
    Ext B σ κ w { σ with objs := σ.objs ++ [.map []] } (κ.setOb σ.objs.length w.heap.size) (w.alloc (.map #[] 0)) := by
  obtain ⟨h', e⟩ := h.grow_same (below_alloc' w (.map #[] 0))
  obtain ⟨h'', e'⟩ := h'.push w.heap.size (.map []) h.base (by simp) (fun p hp => Nat.ne_of_lt (h.sLt p hp)) (fun i hi => Nat.ne_of_lt (h.objB i hi).2) (fun i hi => by
      obtain ⟨a, ha⟩ : ∃ a, σ.arrs[i]? = some a := ⟨σ.arrs[i], List.getElem?_eq_getElem hi⟩
      exact Nat.ne_of_lt (h.arr i a ha).lt.1) (fun b' hb' => Nat.ne_of_lt (h.tLt b' hb'))
    ⟨[], 0, heap_alloc_new _ _, .nil, rfl, by simp⟩
  exact ⟨h'', e.trans e'⟩

/-- A new block of data that stay as they are. -/
theorem Inv.lay (h : Inv B σ κ w) (T : TypeId) {k : Nat} {es : List FVal} {us : List Value} (hr : RepL κ.S w es us) (hk : ∀ u ∈ us, u.cells.size = k) :
    ∃ κ', Inv B σ κ' (w.alloc (.cells (flat us).toArray T)) ∧ Ext B σ κ w σ κ' (w.alloc (.cells (flat us).toArray T)) ∧
      Rep1 σ κ' (w.alloc (.cells (flat us).toArray T)) (.full k es) (.slice (some ⟨w.heap.size, 0, none⟩) us.length us.length) := by
  obtain ⟨h', e⟩ := h.grow (below_alloc' w (.cells (flat us).toArray T)) (fun p => κ.S p ∨ p.block = w.heap.size) (fun p hp => .inl hp) (fun p hp => by
    rcases hp with hp | hp
    · exact .inl hp
    · exact .inr ⟨by omega, by simp [hp]⟩)
  refine ⟨_, h', e, .full (hr.ext e.S e.cell) hk (fun j u hu => ⟨?_, .inr (by rw [add_block])⟩) .nil⟩
  rw [add_none, cell_of_row _ _ _ _ _ _ (heap_alloc_new _ _)]
  simpa using hu
end

/-! ### A store into an object -/
section
variable {B : Nat} {σ : St} {κ : Kap} {w w' : World}

def St.setOb (σ : St) (i : Nat) (o : Ob) : St := { σ with objs := σ.objs.set i o }

theorem Inv.ob_cells (h : Inv B σ κ w) {i : Nat} {cs : List DVal} (hi : σ.objs[i]? = some (.cells cs)) :
    ∃ us T, w.heap[κ.ob i]? = some (.cells us.toArray T (0, 0)) ∧ RepD σ κ w cs us ∧ ∀ u ∈ us, u.oneCell' = true := h.obj i _ hi

/-- An object's block is turned, whatever the way, into one that holds another object; all else stays. -/
theorem Inv.turn (h : Inv B σ κ w) {i : Nat} (hi : i < σ.objs.length) (o : Ob) (hb : ∀ b, b ≠ κ.ob i → w'.heap[b]? = w.heap[b]?) (hsz : w'.heap.size = w.heap.size) (hos : w'.os = w.os) (htape : w'.tape = w.tape) (hout : w'.output = w.output)
    (ho : Ext B σ κ w (σ.setOb i o) κ w' → ObOK (σ.setOb i o) κ w' (κ.ob i) o) : Inv B (σ.setOb i o) κ w' ∧ Ext B σ κ w (σ.setOb i o) κ w' := by
  have hc : ∀ p, κ.S p → w'.cell? p = w.cell? p := fun p hp => World.cell?_of_block (hb _ (h.sObj p hp i hi))
  have hlen : (σ.setOb i o).objs.length = σ.objs.length := by simp [St.setOb]
  have e : Ext B σ κ w (σ.setOb i o) κ w' := ⟨by omega, fun _ _ => rfl, fun t a ha => ⟨a, ha, Nat.le_refl _, fun _ => ⟨rfl, rfl, rfl⟩⟩, fun _ hp => hp, hc,
    ⟨hos, htape, hout, by omega, fun k hk => hb k (by have := (h.objB i hi).1; omega)⟩, fun _ h => h, fun b hbt => hb b (h.tObj b hbt i hi)⟩
  refine ⟨⟨by rw [hsz]; exact h.base, fun j x hx => ?_, fun j hj => by rw [hsz]; exact h.objB j (by omega), fun t a ha => ?_, fun a b ha hb => h.injO a b (by omega) (by omega), h.injA, fun a b ha hb => h.disj a b (by omega) hb,
    fun p hp j hj => h.sObj p hp j (by omega), h.sArr, fun p hp => by rw [hsz]; exact h.sLt p hp, h.fl, h.old, fun b hbt => by rw [hsz]; exact h.tLt b hbt, fun b hbt j hj => h.tObj b hbt j (by omega), h.tArr⟩, e⟩
  · by_cases hij : j = i
    · subst hij
      have : o = x := by simpa [St.setOb, hi] using hx
      subst this
      exact ho e
    · have hx' : σ.objs[j]? = some x := by simpa [St.setOb, List.getElem?_set, Ne.symm hij] using hx
      have hj : j < σ.objs.length := (List.getElem?_eq_some_iff.1 hx').1
      exact (h.obj j x hx').keep e (hb _ fun he => hij (h.injO j i hj hi he))
  · have ha' : σ.arrs[t]? = some a := ha
    have ht : t < σ.arrs.length := (List.getElem?_eq_some_iff.1 ha').1
    exact (h.arr t a ha').keep (fun _ hp => hp) hc rfl rfl (hb _ fun he => h.disj i t hi ht he.symm)

theorem heap_setCell_self (w : World) (b off : Nat) (us : List Value) (T : TypeId) (v : Value) (hb : w.heap[b]? = some (.cells us.toArray T (0, 0))) :
    (w.setCell ⟨b, off, none⟩ v).heap[b]? = some (.cells (us.set off v).toArray T (0, 0)) := by
  simp [World.setCell, Array.getElem?_modify, hb]

theorem Inv.store1 (h : Inv B σ κ w) {i off : Nat} {cs : List DVal} {d : DVal} {v : Value} (hi : σ.objs[i]? = some (.cells cs)) (hoff : off < cs.length) (hd : Rep1 σ κ w d v) (h1 : v.oneCell' = true) :
    Inv B (σ.setOb i (.cells (cs.set off d))) κ (w.setCell ⟨κ.ob i, off, none⟩ v) ∧ Ext B σ κ w (σ.setOb i (.cells (cs.set off d))) κ (w.setCell ⟨κ.ob i, off, none⟩ v) ∧
      (∃ u, w.cell? ⟨κ.ob i, off, none⟩ = some u) ∧ w.frozen? ⟨κ.ob i, off, none⟩ = false := by
  obtain ⟨us, T, hb, hr, hone⟩ := h.ob_cells hi
  have hil : i < σ.objs.length := (List.getElem?_eq_some_iff.1 hi).1
  have hlen := hr.length
  have key := h.turn (w' := w.setCell ⟨κ.ob i, off, none⟩ v) hil (.cells (cs.set off d)) (fun b hne => Below.heap_setCell _ _ _ _ hne) (by simp [World.setCell]) rfl rfl rfl
      (fun e => ⟨us.set off v, T, heap_setCell_self w _ _ us T v hb, (hr.ext e).set (hd.ext e) off, fun u hu => by
        rcases List.mem_or_eq_of_mem_set hu with hu | rfl
        · exact hone u hu
        · exact h1⟩)
  refine ⟨key.1, key.2, ⟨us[off], ?_⟩, ?_⟩
  · rw [cell_of_row _ _ _ _ _ _ hb]; simp [List.getElem?_eq_getElem (show off < us.length by omega)]
  · simp [World.frozen?, hb]

def putAt (cs : List DVal) (off : Nat) : List DVal → List DVal
  | [] => cs
  | d :: ds => putAt (cs.set off d) (off + 1) ds
theorem putAt_length (ds : List DVal) : ∀ cs off, (putAt cs off ds).length = cs.length := by
  induction ds with
  | nil => intro cs off; rfl
  | cons d ds ih => intro cs off; simp [putAt, ih]

theorem Inv.storeCells {P : Program} {ds : List DVal} : ∀ {vs : List Value} {σ : St} {w : World} {i off n : Nat} {cs : List DVal}, Inv B σ κ w → σ.objs[i]? = some (.cells cs) → off + n + ds.length ≤ cs.length → RepD σ κ w ds vs → (∀ u ∈ vs, u.oneCell' = true) →
    ∃ w', (storeCells ⟨κ.ob i, off, none⟩ vs n).run P w = .ok () w' ∧ Inv B (σ.setOb i (.cells (putAt cs (off + n) ds))) κ w' ∧ Ext B σ κ w (σ.setOb i (.cells (putAt cs (off + n) ds))) κ w' := by
  induction ds with
  | nil =>
    intro vs σ w i off n cs h hi _ hr _
    have := hr.nil_inv; subst this
    have hs : σ.setOb i (.cells (putAt cs (off + n) [])) = σ := by
      have hil : i < σ.objs.length := (List.getElem?_eq_some_iff.1 hi).1
      have : σ.objs.set i (.cells cs) = σ.objs := by
        apply List.ext_getElem?; intro j
        by_cases hij : i = j
        · subst hij; simp [hil, hi]; rw [List.getElem?_eq_getElem hil] at hi; exact (Option.some.inj hi).symm
        · simp [List.getElem?_set, hij]
      simp [St.setOb, putAt, this]
    rw [hs]
    exact ⟨w, rfl, h, Ext.refl _ _ _ _⟩
  | cons d ds ih =>
    intro vs σ w i off n cs h hi hl hr h1
    obtain ⟨v, vs', rfl, hd, ht⟩ := hr.cons_inv
    simp only [List.length_cons] at hl
    obtain ⟨h', e, ⟨u, hu⟩, hf⟩ := h.store1 hi (off := off + n) (by omega) hd (h1 v (List.mem_cons_self ..))
    have hil : i < σ.objs.length := (List.getElem?_eq_some_iff.1 hi).1
    obtain ⟨w', hrun, h'', e'⟩ := ih (i := i) (off := off) (n := n + 1) (cs := cs.set (off + n) d) h' (by simp [St.setOb, hil]) (by simp; omega) (ht.ext e) (fun u hu => h1 u (List.mem_cons_of_mem _ hu))
    refine ⟨w', ?_, ?_, ?_⟩
    · simp only [Go.storeCells, Sem.run_bind]
      rw [add_none, run_store P w _ v .plain (h1 v (List.mem_cons_self ..)), hu]
      simp only [hf]
      exact hrun
    · have : (σ.setOb i (.cells (cs.set (off + n) d))).setOb i (.cells (putAt (cs.set (off + n) d) (off + (n + 1)) ds)) = σ.setOb i (.cells (putAt cs (off + n) (d :: ds))) := by
        simp [St.setOb, putAt, Nat.add_assoc]
      rw [← this]; exact h''
    · have : (σ.setOb i (.cells (cs.set (off + n) d))).setOb i (.cells (putAt (cs.set (off + n) d) (off + (n + 1)) ds)) = σ.setOb i (.cells (putAt cs (off + n) (d :: ds))) := by
        simp [St.setOb, putAt, Nat.add_assoc]
      rw [← this]; exact e.trans e'
end
end Go.DL
