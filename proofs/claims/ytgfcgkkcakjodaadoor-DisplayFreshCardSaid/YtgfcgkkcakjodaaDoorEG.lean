/-
  D-LOGIC, part G: the other operations.
-/
import Derived.Test.YtgfcgkkcakjodaaDoorEF
set_option linter.unusedVariables false
set_option linter.unusedSimpArgs false
namespace Go.DL
open Go.RowKit

def Does (P : Program) (s : Sem Value) (B : Nat) (σ : St) (κ : Kap) (w : World) (d : DVal) (σ' : St) : Prop :=
  ∃ v w' κ', s.run P w = .ok v w' ∧ Inv B σ' κ' w' ∧ Ext B σ κ w σ' κ' w' ∧ Rep1 σ' κ' w' d v

section
variable {P : Program} {B : Nat} {σ : St} {κ : Kap} {w : World}
theorem Does.same (hI : Inv B σ κ w) {s : Sem Value} {v : Value} {d : DVal} (hr : s.run P w = .ok v w) (hd : Rep1 σ κ w d v) : Does P s B σ κ w d σ := ⟨v, w, κ, hr, hI, Ext.refl _ _ _ _, hd⟩

/-! ### Zero values, alloc, box -/
def constDs : List Value → Option (List DVal)
  | [] => some []
  | v :: r => (constD v).bind fun d => (constDs r).bind fun ds => some (d :: ds)
theorem constDs_sound : ∀ {vs : List Value} {ds : List DVal}, constDs vs = some ds → RepD σ κ w ds vs
  | [], ds, h => by simp only [constDs, Option.some.injEq] at h; subst h; exact .nil
  | v :: vs, ds, h => by
    simp only [constDs, Option.bind_eq_some_iff, Option.some.injEq] at h
    obtain ⟨d, hd, ds', hds, rfl⟩ := h
    exact RepD.cons (constD_sound hd) (constDs_sound hds)
def zeroC (P : Program) (t : TypeId) : Option (List DVal) :=
  (P.info? t).bind fun i => i.zero.bind fun z => bif z.cells.toList.all (·.oneCell') then constDs z.cells.toList else none
theorem zeroC_sound {t : TypeId} {ds : List DVal} (h : zeroC P t = some ds) : ∃ z, (∀ w : World, (zeroValue t).run P w = .ok z w) ∧ (∀ (σ : St) (κ : Kap) (w : World), RepD σ κ w ds z.cells.toList) ∧ ∀ u ∈ z.cells.toList, u.oneCell' = true := by
  simp only [zeroC, Option.bind_eq_some_iff] at h
  obtain ⟨i, hi, z, hz, h⟩ := h
  cases hb : z.cells.toList.all (·.oneCell') with
  | false => simp [hb] at h
  | true =>
    simp only [hb, cond_true] at h
    exact ⟨z, fun w => by simp [zeroValue, typeInfo, hi, hz], fun σ κ w => constDs_sound h, fun u hu => List.all_eq_true.1 hb u hu⟩

def evalAlloc (P : Program) (t : TypeId) (σ : St) : Option (DVal × St) :=
  (zeroC P t).bind fun cs => some (.ptr σ.objs.length 0, { σ with objs := σ.objs ++ [.cells cs] })
theorem ptr_new {o : Ob} {b : Nat} : Rep1 { σ with objs := σ.objs ++ [o] } (κ.setOb σ.objs.length b) w (.ptr σ.objs.length 0) (.pointer (some ⟨b, 0, none⟩)) := by
  have := RepD.ptr (σ := { σ with objs := σ.objs ++ [o] }) (κ := κ.setOb σ.objs.length b) (w := w) (o := σ.objs.length) (off := 0) (ds := []) (vs := []) (by simp) .nil
  simpa [Kap.setOb] using this
theorem evalAlloc_sound (hI : Inv B σ κ w) {t : TypeId} {d : DVal} {σ' : St} (h : evalAlloc P t σ = some (d, σ')) : Does P (Instr.alloc t true (.tuple #[])) B σ κ w d σ' := by
  simp only [evalAlloc, Option.bind_eq_some_iff, Option.some.injEq, Prod.mk.injEq] at h
  obtain ⟨cs, hc, rfl, rfl⟩ := h
  obtain ⟨z, hz, hr, h1⟩ := zeroC_sound hc
  obtain ⟨hI', hE⟩ := hI.alloc t (hr σ κ w) h1
  refine ⟨.pointer (some ⟨w.heap.size, 0, none⟩), _, _, ?_, hI', hE, ptr_new⟩
  simp [Instr.alloc, hz, newVar, newRow]
def evalBox (t : TypeId) (x : DVal) (σ : St) : Option (DVal × St) :=
  bif cellsOK σ x then some (.ptr σ.objs.length 0, { σ with objs := σ.objs ++ [.cells (cellsD x)] }) else none
theorem evalBox_sound (hI : Inv B σ κ w) {t : TypeId} {x d : DVal} {v : Value} {σ' : St} (hx : Rep1 σ κ w x v) (h : evalBox t x σ = some (d, σ')) : Does P (Instr.box t v) B σ κ w d σ' := by
  unfold evalBox at h
  cases hc : cellsOK σ x with
  | false => simp [hc] at h
  | true =>
    simp only [hc, cond_true, Option.some.injEq, Prod.mk.injEq] at h
    obtain ⟨rfl, rfl⟩ := h
    obtain ⟨hr, h1⟩ := cellsD_sound hI hx hc
    obtain ⟨hI', hE⟩ := hI.alloc t hr h1
    refine ⟨.pointer (some ⟨w.heap.size, 0, none⟩), _, _, ?_, hI', hE, ptr_new⟩
    simp [Instr.box, newVar, newRow]

/-! ### build, buildSlice -/
def putV (cs : List Value) (off : Nat) : List Value → List Value
  | [] => cs
  | v :: vs => putV (cs.set off v) (off + 1) vs
theorem RepD.putAt : ∀ {ds : List DVal} {vs : List Value} {cs : List DVal} {us : List Value} (off : Nat), RepD σ κ w cs us → RepD σ κ w ds vs → RepD σ κ w (putAt cs off ds) (putV us off vs)
  | [], vs, cs, us, off, hc, hd => by have := hd.nil_inv; subst this; exact hc
  | d :: ds, vs, cs, us, off, hc, hd => by
    obtain ⟨v, vs', rfl, h0, ht⟩ := hd.cons_inv
    exact RepD.putAt (off + 1) (hc.set h0 off) ht
theorem putV_one : ∀ {vs cs : List Value} (off : Nat), (∀ u ∈ cs, u.oneCell' = true) → (∀ u ∈ vs, u.oneCell' = true) → ∀ u ∈ putV cs off vs, u.oneCell' = true
  | [], cs, off, h1, h2 => h1
  | v :: vs, cs, off, h1, h2 => putV_one (off + 1) (fun u hu => by
      rcases List.mem_or_eq_of_mem_set hu with hu | rfl
      · exact h1 u hu
      · exact h2 _ (List.mem_cons_self ..)) (fun u hu => h2 u (List.mem_cons_of_mem _ hu))
theorem putV_length : ∀ (vs cs : List Value) (off : Nat), (putV cs off vs).length = cs.length
  | [], cs, off => rfl
  | v :: vs, cs, off => by rw [putV, putV_length]; simp
theorem foldl_put : ∀ (l : List Value) (cs : Array Value) (off s : Nat), (l.zipIdx s).foldl (fun cs (p : Value × Nat) => cs.setIfInBounds (off + p.2) p.1) cs = (putV cs.toList (off + s) l).toArray
  | [], cs, off, s => by simp [putV]
  | v :: l, cs, off, s => by
    simp only [List.zipIdx_cons, List.foldl_cons, putV]
    rw [foldl_put l _ off (s + 1)]
    simp [Nat.add_assoc]
theorem fill_cons (place : Nat → Option (Nat × Nat)) (cells : Array Value) (i : Nat) (v : Value) (rest : List (Nat × Value)) (off size : Nat) (hp : place i = some (off, size)) (hs : v.cells.size = size) (hb : off + v.cells.size ≤ cells.size) :
    Instr.fill place cells ((i, v) :: rest) = Instr.fill place (putV cells.toList off v.cells.toList).toArray rest := by
  have hf : v.cells.zipIdx.foldl (fun cs (c, j) => cs.setIfInBounds (off + j) c) cells = (putV cells.toList off v.cells.toList).toArray := by
    rw [← Array.foldl_toList, Array.toList_zipIdx]
    exact foldl_put v.cells.toList cells off 0
  have hb' : off + size ≤ cells.size := by rw [← hs]; exact hb
  rw [Instr.fill]
  simp only [hp]
  rw [if_neg (by simp [hs]; omega), hf]

def fillD (place : Nat → Option (Nat × Nat)) (σ : St) (cells : List DVal) : List (Nat × DVal) → Option (List DVal)
  | [] => some cells
  | (i, d) :: rest => (place i).bind fun p => bif cellsOK σ d && Nat.beq (cellsD d).length p.2 && Nat.ble (p.1 + p.2) cells.length then fillD place σ (putAt cells p.1 (cellsD d)) rest else none
theorem fillD_sound (hI : Inv B σ κ w) (place : Nat → Option (Nat × Nat)) : ∀ {ps : List (Nat × DVal)} {cells : List DVal} {us : List Value} {r : List DVal} {vs : List Value}, RepD σ κ w cells us → (∀ u ∈ us, u.oneCell' = true) → RepD σ κ w (ps.map (·.2)) vs →
    fillD place σ cells ps = some r → ∃ rs, Instr.fill place us.toArray ((ps.map (·.1)).zip vs) = some rs.toArray ∧ RepD σ κ w r rs ∧ ∀ u ∈ rs, u.oneCell' = true
  | [], cells, us, r, vs, hc, h1, hp, h => by
    simp only [fillD, Option.some.injEq] at h; subst h
    exact ⟨us, by simp [Instr.fill], hc, h1⟩
  | (i, d) :: ps, cells, us, r, vs, hc, h1, hp, h => by
    obtain ⟨v, vs', rfl, hv, ht⟩ := RepD.cons_inv hp
    simp only [fillD, Option.bind_eq_some_iff] at h
    obtain ⟨⟨off, size⟩, hpl, h⟩ := h
    cases hb : (cellsOK σ d && Nat.beq (cellsD d).length size && Nat.ble (off + size) cells.length) with
    | false => simp [hb] at h
    | true =>
      simp only [hb, cond_true] at h
      simp only [Bool.and_eq_true] at hb
      obtain ⟨⟨h2, h3⟩, h4⟩ := hb
      have h3 := Nat.eq_of_beq_eq_true h3
      have h4 := Nat.le_of_ble_eq_true h4
      obtain ⟨hr, hone⟩ := cellsD_sound hI hv h2
      have hsz : v.cells.size = size := by rw [← h3, ← hr.length, Array.length_toList]
      obtain ⟨rs, hrs, hR, hO⟩ := fillD_sound hI place (us := putV us off v.cells.toList) (hc.putAt off hr) (putV_one off h1 hone) ht h
      refine ⟨rs, ?_, hR, hO⟩
      simp only [List.map_cons, List.zip_cons_cons]
      rw [fill_cons place us.toArray i v _ off size hpl hsz (by rw [hsz, List.size_toArray, hc.length]; exact h4)]
      exact hrs

def placesOf (P : Program) (fs : Array Field) (i : Nat) : Option (Nat × Nat) := (fs[i]?).bind fun f => (sizeT P f.type).map fun n => (f.offset, n)
def fieldsOk (P : Program) (fs : Array Field) : Bool := fs.toList.all fun f => (sizeT P f.type).isSome
def evalBuild (P : Program) (t : TypeId) (ps : List (Nat × DVal)) (σ : St) : Option DVal :=
  (zeroC P t).bind fun z => match P.underlying t with
    | some (.struct fs) => bif fieldsOk P fs then (fillD (placesOf P fs) σ z ps).map mkAgg else none
    | _ => none
theorem mapM_places (w : World) : ∀ (fs : List Field), (fs.all fun f => (sizeT P f.type).isSome) = true →
    (fs.mapM fun f => do pure (f.offset, ← sizeOf f.type) : Sem (List (Nat × Nat))).run P w = .ok (fs.map fun f => (f.offset, (sizeT P f.type).getD 0)) w
  | [], _ => by simp
  | f :: fs, h => by
    simp only [List.all_cons, Bool.and_eq_true] at h
    obtain ⟨n, hn⟩ := Option.isSome_iff_exists.1 h.1
    have ih := mapM_places w fs h.2
    simp only [List.mapM_cons, Sem.run_bind, run_sizeOf hn, Result.andThen_ok, Sem.run_pure, ih, List.map_cons, hn, Option.getD_some]
theorem fill_congr {p q : Nat → Option (Nat × Nat)} (h : ∀ i, p i = q i) (cs : Array Value) (l : List (Nat × Value)) : Instr.fill p cs l = Instr.fill q cs l := by
  have : p = q := funext h
  rw [this]
theorem evalBuild_sound (hI : Inv B σ κ w) {t : TypeId} {ps : List (Nat × DVal)} {vs : List Value} {d : DVal} (hp : RepD σ κ w (ps.map (·.2)) vs) (h : evalBuild P t ps σ = some d) :
    Does P (Instr.build t ((ps.map (·.1)).zip vs).toArray) B σ κ w d σ := by
  simp only [evalBuild, Option.bind_eq_some_iff] at h
  obtain ⟨z, hz, h⟩ := h
  obtain ⟨zv, hzv, hzr, hz1⟩ := zeroC_sound hz
  split at h
  · rename_i fs hu
    cases hf : fieldsOk P fs with
    | false => simp [hf] at h
    | true =>
      simp only [hf, cond_true, Option.map_eq_some_iff] at h
      obtain ⟨r, hr, rfl⟩ := h
      obtain ⟨rs, hrs, hR, hO⟩ := fillD_sound hI _ (hzr σ κ w) hz1 hp hr
      refine Does.same hI (v := .agg rs.toArray) ?_ (mkAgg_sound hR hO)
      have hm : (fs.mapM fun f => do pure (f.offset, ← sizeOf f.type) : Sem (Array (Nat × Nat))).run P w = .ok ((fs.toList.map fun f => (f.offset, (sizeT P f.type).getD 0)).toArray) w := by
        rw [Array.mapM_eq_mapM_toList, ← bind_pure_comp, Sem.run_bind, mapM_places w fs.toList hf]
        rfl
      have hpl : ∀ i, ((fs.toList.map fun f => (f.offset, (sizeT P f.type).getD 0)).toArray)[i]? = placesOf P fs i := fun i => by
        simp only [placesOf, List.getElem?_toArray, List.getElem?_map, Array.getElem?_toList]
        cases hfi : fs[i]? with
        | none => rfl
        | some f =>
          have : f ∈ fs.toList := by simpa using Array.mem_of_getElem? hfi
          obtain ⟨n, hn⟩ := Option.isSome_iff_exists.1 (List.all_eq_true.1 hf f this)
          simp [hn]
      have hfill := fill_congr hpl zv.cells ((ps.map (·.1)).zip vs)
      have hzc : zv.cells.toList.toArray = zv.cells := by simp
      rw [hzc] at hrs
      simp only [Instr.build, Sem.run_bind, hzv, Result.andThen_ok, run_underlying hu, hm]
      rw [hfill, hrs]
      simp
  · cases h

def elemsOk (k : Nat) (es : List FVal) : Bool := es.all fun e => Nat.beq e.size k
def evalBuildSlice (P : Program) (t : TypeId) (n : Nat) (ps : List (Nat × DVal)) (σ : St) : Option (DVal × St) :=
  match P.underlying t with
  | some (.slice e) => (sizeT P e).bind fun k => (zeroC P e).bind fun z => (fzAL σ (ps.map (·.2))).bind fun r =>
    bif Nat.beq ps.length n && Nat.beq z.length k && (ps.map (·.1)) == List.range n && elemsOk k r.1 && Nat.ble (n * k) 16777216 && Nat.blt 0 k then some (.full k r.1, r.2) else none
  | _ => none

theorem putV_block (k : Nat) : ∀ (vs cs : List Value) (off : Nat), off + vs.length ≤ cs.length → putV cs off vs = cs.take off ++ vs ++ cs.drop (off + vs.length)
  | [], cs, off, h => by simp [putV]
  | v :: vs, cs, off, h => by
    simp only [List.length_cons] at h
    have hd : (cs.set off v).drop (off + 1 + vs.length) = cs.drop (off + 1 + vs.length) := by rw [List.drop_set]; simp [show off < off + 1 + vs.length by omega]
    rw [putV, putV_block k vs _ _ (by rw [List.length_set]; omega), List.take_set, hd]
    have ht : (cs.take (off + 1)).set off v = cs.take off ++ [v] := by
      rw [List.take_succ_eq_append_getElem (by omega), List.set_append_right _ _ (by simp; omega)]
      simp [Nat.min_eq_left (show off ≤ cs.length by omega)]
    rw [ht]
    simp [Nat.add_assoc, Nat.add_comm 1]
theorem fill_full (k : Nat) : ∀ (vs : List Value) (i : Nat) (cells : List Value), (∀ v ∈ vs, v.cells.size = k) → (i + vs.length) * k ≤ cells.length →
    Instr.fill (fun i => some (i * k, k)) cells.toArray ((List.range' i vs.length).zip vs) = some (cells.take (i * k) ++ flat vs ++ cells.drop ((i + vs.length) * k)).toArray
  | [], i, cells, _, h => by simp [Instr.fill, flat]
  | v :: vs, i, cells, hk, h => by
    simp only [List.length_cons] at h
    have hv := hk v (List.mem_cons_self ..)
    have h1 : (i + 1) * k ≤ cells.length := Nat.le_trans (Nat.mul_le_mul_right _ (by omega)) h
    have h1' := h1
    rw [Nat.succ_mul] at h1'
    simp only [List.length_cons, List.range'_succ, List.zip_cons_cons]
    rw [fill_cons _ cells.toArray i v _ (i * k) k rfl hv (by rw [hv, List.size_toArray]; omega)]
    have hvl : v.cells.toList.length = k := by rw [Array.length_toList, hv]
    rw [fill_full k vs (i + 1) _ (fun u hu => hk u (List.mem_cons_of_mem _ hu)) (by rw [putV_length]; rw [show i + 1 + vs.length = i + (vs.length + 1) by omega]; exact h)]
    congr 2
    simp only []
    rw [putV_block k _ _ _ (by rw [hvl]; omega), hvl]
    have hA : (cells.take (i * k) ++ v.cells.toList).length = (i + 1) * k := by
      rw [List.length_append, List.length_take, hvl, Nat.succ_mul]; omega
    have hB : (i + 1 + vs.length) * k = (cells.take (i * k) ++ v.cells.toList).length + vs.length * k := by rw [hA, ← Nat.add_mul]
    rw [flat_cons]
    rw [← hA, List.take_left]
    rw [hB, List.drop_append, List.drop_eq_nil_of_le (by omega)]
    simp only [List.nil_append, Nat.add_sub_cancel_left, List.drop_drop, List.append_assoc]
    congr 4
    rw [Nat.add_mul i (vs.length + 1), Nat.succ_mul]
    omega

theorem evalBuildSlice_sound (hI : Inv B σ κ w) {t : TypeId} {n : Nat} {ps : List (Nat × DVal)} {vs : List Value} {d : DVal} {σ' : St} (hp : RepD σ κ w (ps.map (·.2)) vs) (h : evalBuildSlice P t n ps σ = some (d, σ')) :
    Does P (Instr.buildSlice t n ((ps.map (·.1)).zip vs).toArray) B σ κ w d σ' := by
  unfold evalBuildSlice at h
  split at h
  · rename_i e hu
    simp only [Option.bind_eq_some_iff] at h
    obtain ⟨k, hk, z, hz, ⟨es, σ1⟩, hf, h⟩ := h
    cases hb : (Nat.beq ps.length n && Nat.beq z.length k && (ps.map (·.1)) == List.range n && elemsOk k es && Nat.ble (n * k) 16777216 && Nat.blt 0 k) with
    | false => simp only [hb, cond_false] at h; cases h
    | true =>
      simp only [hb, cond_true, Option.some.injEq, Prod.mk.injEq] at h
      obtain ⟨rfl, rfl⟩ := h
      simp only [Bool.and_eq_true, beq_iff_eq] at hb
      obtain ⟨⟨⟨⟨⟨h1, h2⟩, h3⟩, h4⟩, h5⟩, h6⟩ := hb
      have h1 := Nat.eq_of_beq_eq_true h1
      have h2 := Nat.eq_of_beq_eq_true h2
      have h5 := Nat.le_of_ble_eq_true h5
      have h6 : 0 < k := Nat.le_of_ble_eq_true h6
      obtain ⟨κ1, hI1, hE1, hR⟩ := fzAL_sound hI hp hf
      obtain ⟨zv, hzv, hzr, hz1⟩ := zeroC_sound hz
      have hzl : zv.cells.size = k := by rw [← h2, ← (hzr σ κ w).length, Array.length_toList]
      have hvk : ∀ v ∈ vs, v.cells.size = k := fun v hv => by
        obtain ⟨i, hi⟩ := List.mem_iff_getElem?.1 hv
        have hil : i < es.length := by rw [← hR.length]; exact (List.getElem?_eq_some_iff.1 hi).1
        obtain ⟨u, hu', hr⟩ := hR.get (List.getElem?_eq_getElem hil)
        rw [hi] at hu'; cases hu'
        rw [hr.size]
        exact Nat.eq_of_beq_eq_true (List.all_eq_true.1 h4 _ (List.getElem_mem hil))
      have hvl : vs.length = n := by rw [hp.length]; simpa using h1
      obtain ⟨κ2, hI2, hE2, hr2⟩ := hI1.lay e hR hvk
      refine ⟨.slice (some ⟨w.heap.size, 0, none⟩) n n, w.alloc (.cells (flat vs).toArray e), κ2, ?_, hI2, hE1.trans hE2, by rw [← hvl]; exact hr2⟩
      have hfill : Instr.fill (fun i => some (i * k, k)) ((Array.range (n * k)).map (zv.cells[· % zv.cells.size]!)) ((List.range n).zip vs) = some (flat vs).toArray := by
        have := fill_full k vs 0 ((Array.range (n * k)).map (zv.cells[· % zv.cells.size]!)).toList hvk (by simp [hvl])
        rw [hvl, ← List.range_eq_range'] at this
        simp only [Array.toArray_toList] at this
        rw [this]
        simp [List.drop_eq_nil_of_le]
      rw [h3]
      have hne : ¬ (n * k > 2 ^ 24) := by omega
      by_cases h0 : n * k = 0
      · have hn0 : n = 0 := by
          rcases Nat.mul_eq_zero.1 h0 with h | h
          · exact h
          · omega
        subst hn0
        have hvs : vs = [] := List.eq_nil_of_length_eq_zero hvl
        subst hvs
        simp [Instr.buildSlice, run_underlying hu, run_sizeOf hk, Instr.fill, newRow, flat]
        congr 2
        exact Array.eq_empty_of_size_eq_zero (by simp)
      · simp only [Instr.buildSlice, Sem.run_bind, run_underlying hu, Result.andThen_ok, run_sizeOf hk, hne, if_false, h0, hzv, Sem.run_pure]
        rw [hfill]
        simp [newRow]
  · cases h
end
end Go.DL
