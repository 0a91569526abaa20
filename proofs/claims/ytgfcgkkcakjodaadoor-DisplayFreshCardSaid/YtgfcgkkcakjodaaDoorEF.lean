/-
  D-LOGIC, part F: operations on memory.
-/
import Derived.Test.YtgfcgkkcakjodaaDoorEE
set_option linter.unusedVariables false
set_option linter.unusedSimpArgs false
namespace Go.DL
open Go.RowKit

def sizeT (P : Program) (t : TypeId) : Option Nat := (P.info? t).map (·.size)
def aggT (P : Program) (t : TypeId) : Option Bool :=
  match P.underlying t with
  | some (.struct _) | some (.array _ _) => some true
  | some _ => some false
  | none => none
theorem run_isAgg {P : Program} {t : TypeId} {b : Bool} (h : aggT P t = some b) (w : World) : (isAgg t).run P w = .ok b w := by
  unfold aggT at h
  cases hu : P.underlying t with
  | none => simp [hu] at h
  | some d => cases d <;> simp [hu] at h <;> subst h <;> simp [isAgg, run_underlying hu]
theorem run_sizeOf {P : Program} {t : TypeId} {n : Nat} (h : sizeT P t = some n) (w : World) : (sizeOf t).run P w = .ok n w := by
  unfold sizeT at h
  cases hi : P.info? t with
  | none => simp [hi] at h
  | some i => simp [hi] at h; subst h; simp [sizeOf, typeInfo, hi]

def cellsD : DVal → List DVal
  | .f (.agg cs) => cs.map .f
  | .agg cs => cs
  | d => [d]
def okD : DVal → Bool
  | .tup _ => false
  | _ => true
theorem cells_one {v : Value} (h : v.oneCell' = true) : v.cells = #[v] := by cases v <;> simp_all [Value.cells, Value.oneCell']

section
variable {P : Program} {B : Nat} {σ : St} {κ : Kap} {w : World}

theorem inv_ptr_one {d : DVal} {v : Value} (h : Rep1 σ κ w d v) : True := trivial

/-- An array's own value is a slice. -/
theorem ArrOK.form (hI : Inv B σ κ w) {t g : Nat} {x : Value} (h : ArrOK σ κ t g x) (a : Ar) (ha : σ.arrs[t]? = some a) (hg : g = a.gen) : x = κ.av t ∧ x.oneCell' = true := by
  obtain ⟨a', ha', hg', hx⟩ := h
  rw [ha] at ha'; cases ha'
  have := hx hg
  refine ⟨this, ?_⟩
  obtain ⟨us, cap, _, _, hv, _⟩ := Ar.cells_at hI ha
  rw [this, hv]; rfl

/-- The state's values that are current: no slice of an array that has grown since. -/
def curD (σ : St) : DVal → Bool
  | .arr t g => match σ.arrs[t]? with | some a => Nat.beq g a.gen | none => false
  | .ap t g _ _ => match σ.arrs[t]? with | some a => Nat.beq g a.gen | none => false
  | .tup _ => false
  | .agg _ => false
  | .f (.agg _) => false
  | _ => true
theorem curD_one (hI : Inv B σ κ w) {d : DVal} {v : Value} (h : Rep1 σ κ w d v) (hc : curD σ d = true) : v.oneCell' = true := by
  cases h with
  | f h _ => cases h with
    | lit h _ => exact plainV_one h
    | snil _ => rfl
    | sl => rfl
    | agg => simp [curD] at hc
  | fnil _ => rfl
  | full => rfl
  | arr h _ =>
    simp only [curD] at hc
    split at hc
    · rename_i a ha; exact (h.form hI a ha (Nat.eq_of_beq_eq_true hc)).2
    · cases hc
  | ptr => rfl
  | ep => rfl
  | ap h _ =>
    simp only [curD] at hc
    split at hc
    · rename_i a ha
      obtain ⟨a', ha', _, hx⟩ := h
      rw [ha] at ha'; cases ha'
      rw [hx (Nat.eq_of_beq_eq_true hc)]; rfl
    · cases hc
  | fn => rfl
  | map => rfl
  | agg => simp [curD] at hc
  | tup => simp [curD] at hc
  | yld => rfl

def cellsOK (σ : St) : DVal → Bool
  | .f (.agg _) => true
  | .agg _ => true
  | d => curD σ d
theorem cellsD_sound (hI : Inv B σ κ w) {d : DVal} {v : Value} (h : Rep1 σ κ w d v) (hc : cellsOK σ d = true) : RepD σ κ w (cellsD d) v.cells.toList ∧ ∀ u ∈ v.cells.toList, u.oneCell' = true := by
  have gen : curD σ d = true → cellsD d = [d] → RepD σ κ w (cellsD d) v.cells.toList ∧ ∀ u ∈ v.cells.toList, u.oneCell' = true := fun h1 h2 => by
    have := curD_one hI h h1
    rw [cells_one this, h2]
    exact ⟨h, by simpa using this⟩
  cases d with
  | f e =>
    cases e with
    | agg cs =>
      cases h with
      | f h _ =>
        obtain ⟨us, rfl, hr, h1⟩ := h.of_agg
        exact ⟨by simpa [cellsD, Value.cells] using hr.toD, by simpa [Value.cells] using h1⟩
    | lit x => exact gen hc rfl
    | sl k es => exact gen hc rfl
  | agg cs =>
    cases h with
    | agg r h1 _ => exact ⟨by simpa [cellsD, Value.cells] using r, by simpa [Value.cells] using h1⟩
  | full k es => exact gen hc rfl
  | arr t g => exact gen hc rfl
  | ptr o off => exact gen hc rfl
  | ep cs => exact gen hc rfl
  | ap t g i off => exact gen hc rfl
  | fn f caps => exact gen hc rfl
  | map o => exact gen hc rfl
  | tup vs => exact gen hc rfl
  | yld o => exact gen hc rfl

/-! ### Reading through a pointer -/
def allF : List DVal → Option (List FVal)
  | [] => some []
  | .f v :: r => (allF r).map (v :: ·)
  | _ => none
theorem allF_map : ∀ l : List FVal, allF (l.map .f) = some l
  | [] => rfl
  | v :: r => by simp [allF, allF_map r]
theorem allF_some : ∀ {ds : List DVal} {fs : List FVal}, allF ds = some fs → ds = fs.map .f
  | [], fs, h => by simp only [allF, Option.some.injEq] at h; subst h; rfl
  | d :: ds, fs, h => by
    cases d <;> simp only [allF, Option.map_eq_some_iff, reduceCtorEq] at h
    obtain ⟨fs', h', rfl⟩ := h
    rw [allF_some h']; rfl
def mkAgg (cs : List DVal) : DVal := match allF cs with | some fs => .f (.agg fs) | none => .agg cs
theorem mkAgg_sound {cs : List DVal} {us : List Value} (h : RepD σ κ w cs us) (h1 : ∀ u ∈ us, u.oneCell' = true) : Rep1 σ κ w (mkAgg cs) (.agg us.toArray) := by
  unfold mkAgg
  split
  · rename_i fs hf
    rw [allF_some hf] at h
    exact .f (.agg h.of_f h1 .nil) .nil
  · exact .agg h h1 .nil

def cellsAt (σ : St) : DVal → Option (List DVal)
  | .ptr o off => match σ.objs[o]? with | some (.cells cs) => some (cs.drop off) | _ => none
  | .ep cs => some (cs.map .f)
  | .ap t g i off => match σ.arrs[t]? with
    | some a => bif Nat.beq g a.gen then (match a.es[i]? with | some e => some ((cellsD (.f e)).drop off) | none => none) else none
    | none => none
  | _ => none
theorem cellsAt_sound (hI : Inv B σ κ w) {d : DVal} {v : Value} {cs : List DVal} (h : Rep1 σ κ w d v) (hc : cellsAt σ d = some cs) :
    ∃ a us, v = .pointer (some a) ∧ RepD σ κ w cs us ∧ (∀ u ∈ us, u.oneCell' = true) ∧ ∀ j u, us[j]? = some u → w.cell? (a.add j) = some u := by
  cases h with
  | ptr ho ht0 =>
    rename_i o off
    simp only [cellsAt] at hc
    split at hc
    · rename_i cs0 hcs
      cases hc
      obtain ⟨us, T, hb, hr, h1⟩ := hI.ob_cells hcs
      refine ⟨_, us.drop off, rfl, hr.drop off, fun u hu => h1 u (List.mem_of_mem_drop hu), fun j u hu => ?_⟩
      rw [add_none, cell_of_row _ _ _ _ _ _ hb]
      simpa using hu
    · cases hc
  | ep r h1 hm _ =>
    simp only [cellsAt, Option.some.injEq] at hc
    subst hc
    exact ⟨_, _, rfl, r.toD, h1, fun j u hu => (hm j u hu).1⟩
  | ap h ht0 =>
    rename_i t g i off
    simp only [cellsAt] at hc
    split at hc
    · rename_i a ha
      cases hg : Nat.beq g a.gen with
      | false => simp [hg] at hc
      | true =>
        simp only [hg, cond_true] at hc
        split at hc
        · rename_i e he
          cases hc
          obtain ⟨a', ha', _, hx⟩ := h
          rw [ha] at ha'; cases ha'
          have hx := hx (Nat.eq_of_beq_eq_true hg)
          obtain ⟨us, cap, hr, hk, hv, hcap, hcell, _⟩ := Ar.cells_at hI ha
          obtain ⟨u0, hu0, hru⟩ := hr.get he
          have hsz := hk u0 (List.mem_of_getElem? hu0)
          have hcl : RepD σ κ w (cellsD (.f e)) u0.cells.toList ∧ ∀ u ∈ u0.cells.toList, u.oneCell' = true := by
            refine cellsD_sound hI (.f hru .nil) ?_
            cases e <;> rfl
          refine ⟨_, u0.cells.toList.drop off, hx, hcl.1.drop off, fun u hu => hcl.2 u (List.mem_of_mem_drop hu), fun j u hu => ?_⟩
          rw [add_none]
          refine hcell _ u ?_
          have hj : off + j < a.k := by
            rw [List.getElem?_drop] at hu
            have := (List.getElem?_eq_some_iff.1 hu).1
            rw [Array.length_toList, hsz] at this; exact this
          rw [Nat.add_assoc, flat_get hk hu0 _ hj]
          rw [List.getElem?_drop, Array.getElem?_toList] at hu
          exact hu
        · cases hc
    · cases hc
  | _ => simp [cellsAt] at hc

def loadC (ag : Bool) (n : Nat) (cs : List DVal) : Option DVal :=
  bif ag then (bif Nat.ble n cs.length then some (mkAgg (cs.take n)) else none) else cs.head?
def evalLoad (P : Program) (t : TypeId) (d : DVal) (σ : St) : Option DVal :=
  (aggT P t).bind fun ag => (sizeT P t).bind fun n => (cellsAt σ d).bind fun cs => loadC ag n cs

theorem evalLoad_sound (hI : Inv B σ κ w) {t : TypeId} {d r : DVal} {v : Value} (h : Rep1 σ κ w d v) (he : evalLoad P t d σ = some r) : ∃ u, (Instr.loadAt t v).run P w = .ok u w ∧ Rep1 σ κ w r u := by
  simp only [evalLoad, Option.bind_eq_some_iff] at he
  obtain ⟨ag, hag, n, hn, cs, hcs, hl⟩ := he
  obtain ⟨a, us, rfl, hr, h1, hm⟩ := cellsAt_sound hI h hcs
  cases ag with
  | true =>
    simp only [loadC, cond_true] at hl
    cases hb : Nat.ble n cs.length with
    | false => simp [hb] at hl
    | true =>
      simp only [hb, cond_true, Option.some.injEq] at hl
      subst hl
      have hnl : n ≤ us.length := by rw [hr.length]; exact Nat.le_of_ble_eq_true hb
      have hload := run_loadCells_list (P := P) w a (us.take n) (fun j u hu => by
        rw [List.getElem?_take] at hu
        split at hu
        · exact hm j u hu
        · cases hu)
      rw [List.length_take, Nat.min_eq_left hnl] at hload
      refine ⟨.agg (us.take n).toArray, ?_, mkAgg_sound (hr.take n) fun u hu => h1 u (List.mem_of_mem_take hu)⟩
      simp only [Instr.loadAt, Instr.sureAddr, loadVar, Sem.run_bind, Sem.run_pure, Result.andThen_ok, run_isAgg hag, run_sizeOf hn, if_true, hload]
  | false =>
    simp only [loadC, cond_false] at hl
    cases cs with
    | nil => simp at hl
    | cons c cs =>
      simp only [List.head?_cons, Option.some.injEq] at hl
      subst hl
      obtain ⟨u, us', rfl, hu, _⟩ := hr.cons_inv
      have := hm 0 u rfl
      have ha : a.add 0 = a := rfl
      rw [ha] at this
      refine ⟨u, ?_, hu⟩
      simp only [Instr.loadAt, Instr.sureAddr, loadVar, Sem.run_bind, Sem.run_pure, Result.andThen_ok, run_isAgg hag, Bool.false_eq_true, if_false]
      simp [Go.load, Sem.run, this]

/-! ### Making data of what a run holds -/
def fz (σ : St) : DVal → Option (FVal × St)
  | .f v => some (v, σ)
  | .full k es => some (.sl k es, σ)
  | .arr t g => match σ.arrs[t]? with
    | some a => bif Nat.beq g a.gen then some (.sl a.k a.es, σ.setAr t { a with floor := a.es.length }) else none
    | none => none
  | _ => none
def fzL (σ : St) : List DVal → Option (List FVal × St)
  | [] => some ([], σ)
  | d :: ds => (fz σ d).bind fun r => (fzL r.2 ds).bind fun q => some (r.1 :: q.1, q.2)
def fzA (σ : St) : DVal → Option (FVal × St)
  | .agg cs => (fzL σ cs).bind fun r => some (.agg r.1, r.2)
  | d => fz σ d

theorem fz_sound (hI : Inv B σ κ w) {d : DVal} {v : Value} {e : FVal} {σ' : St} (h : Rep1 σ κ w d v) (hf : fz σ d = some (e, σ')) : ∃ κ', Inv B σ' κ' w ∧ Ext B σ κ w σ' κ' w ∧ RepF κ'.S w e v := by
  cases h with
  | f h _ => simp only [fz, Option.some.injEq, Prod.mk.injEq] at hf; obtain ⟨rfl, rfl⟩ := hf; exact ⟨κ, hI, Ext.refl _ _ _ _, h⟩
  | fnil _ => simp only [fz, Option.some.injEq, Prod.mk.injEq] at hf; obtain ⟨rfl, rfl⟩ := hf; exact ⟨κ, hI, Ext.refl _ _ _ _, .snil .nil⟩
  | full r hk hm _ => simp only [fz, Option.some.injEq, Prod.mk.injEq] at hf; obtain ⟨rfl, rfl⟩ := hf; exact ⟨κ, hI, Ext.refl _ _ _ _, .sl r hk hm (Nat.le_refl _) .nil⟩
  | arr h ht0 =>
    rename_i t g
    simp only [fz] at hf
    split at hf
    · rename_i a ha
      cases hg : Nat.beq g a.gen with
      | false => simp [hg] at hf
      | true =>
        simp only [hg, cond_true, Option.some.injEq, Prod.mk.injEq] at hf
        obtain ⟨rfl, rfl⟩ := hf
        have hx := (h.form hI a ha (Nat.eq_of_beq_eq_true hg)).1
        obtain ⟨κ', h1, h2, h3, _⟩ := hI.freeze ha
        exact ⟨κ', h1, h2, by rw [hx]; exact h3⟩
    · cases hf
  | _ => simp [fz] at hf
theorem fzL_sound : ∀ {ds : List DVal} {σ : St} {κ : Kap} {vs : List Value} {es : List FVal} {σ' : St}, Inv B σ κ w → RepD σ κ w ds vs → fzL σ ds = some (es, σ') → ∃ κ', Inv B σ' κ' w ∧ Ext B σ κ w σ' κ' w ∧ RepL κ'.S w es vs
  | [], σ, κ, vs, es, σ', hI, h, hf => by
    simp only [fzL, Option.some.injEq, Prod.mk.injEq] at hf
    obtain ⟨rfl, rfl⟩ := hf
    have := h.nil_inv; subst this
    exact ⟨κ, hI, Ext.refl _ _ _ _, .nil⟩
  | d :: ds, σ, κ, vs, es, σ', hI, h, hf => by
    obtain ⟨v, vs', rfl, h0, ht⟩ := h.cons_inv
    simp only [fzL, Option.bind_eq_some_iff, Option.some.injEq, Prod.mk.injEq] at hf
    obtain ⟨⟨e, σ1⟩, h1, ⟨es', σ2⟩, h2, rfl, rfl⟩ := hf
    obtain ⟨κ1, i1, e1, r1⟩ := fz_sound hI h0 h1
    obtain ⟨κ2, i2, e2, r2⟩ := fzL_sound i1 (ht.ext e1) h2
    exact ⟨κ2, i2, e1.trans e2, RepL.cons (r1.ext e2.S e2.cell) r2⟩
theorem fzA_sound (hI : Inv B σ κ w) {d : DVal} {v : Value} {e : FVal} {σ' : St} (h : Rep1 σ κ w d v) (hf : fzA σ d = some (e, σ')) : ∃ κ', Inv B σ' κ' w ∧ Ext B σ κ w σ' κ' w ∧ RepF κ'.S w e v := by
  cases d with
  | agg cs =>
    cases h with
    | agg r h1 _ =>
      simp only [fzA, Option.bind_eq_some_iff, Option.some.injEq, Prod.mk.injEq] at hf
      obtain ⟨⟨es, σ1⟩, h2, rfl, rfl⟩ := hf
      obtain ⟨κ', i, x, r'⟩ := fzL_sound hI r h2
      exact ⟨κ', i, x, .agg r' h1 .nil⟩
  | f e => exact fz_sound hI h hf
  | full k es => exact fz_sound hI h hf
  | arr t g => exact fz_sound hI h hf
  | ptr o off => exact fz_sound hI h hf
  | ep cs => exact fz_sound hI h hf
  | ap t g i off => exact fz_sound hI h hf
  | fn f caps => exact fz_sound hI h hf
  | map o => exact fz_sound hI h hf
  | tup vs => exact fz_sound hI h hf
  | yld o => exact fz_sound hI h hf
def fzAL (σ : St) : List DVal → Option (List FVal × St)
  | [] => some ([], σ)
  | d :: ds => (fzA σ d).bind fun r => (fzAL r.2 ds).bind fun q => some (r.1 :: q.1, q.2)
theorem fzAL_sound : ∀ {ds : List DVal} {σ : St} {κ : Kap} {vs : List Value} {es : List FVal} {σ' : St}, Inv B σ κ w → RepD σ κ w ds vs → fzAL σ ds = some (es, σ') → ∃ κ', Inv B σ' κ' w ∧ Ext B σ κ w σ' κ' w ∧ RepL κ'.S w es vs
  | [], σ, κ, vs, es, σ', hI, h, hf => by
    simp only [fzAL, Option.some.injEq, Prod.mk.injEq] at hf
    obtain ⟨rfl, rfl⟩ := hf
    have := h.nil_inv; subst this
    exact ⟨κ, hI, Ext.refl _ _ _ _, .nil⟩
  | d :: ds, σ, κ, vs, es, σ', hI, h, hf => by
    obtain ⟨v, vs', rfl, h0, ht⟩ := h.cons_inv
    simp only [fzAL, Option.bind_eq_some_iff, Option.some.injEq, Prod.mk.injEq] at hf
    obtain ⟨⟨e, σ1⟩, h1, ⟨es', σ2⟩, h2, rfl, rfl⟩ := hf
    obtain ⟨κ1, i1, e1, r1⟩ := fzA_sound hI h0 h1
    obtain ⟨κ2, i2, e2, r2⟩ := fzAL_sound i1 (ht.ext e1) h2
    exact ⟨κ2, i2, e1.trans e2, RepL.cons (r1.ext e2.S e2.cell) r2⟩

/-! ### Storing -/
def evalStore (P : Program) (t : TypeId) (p x : DVal) (σ : St) : Option St :=
  (sizeT P t).bind fun n =>
  match p with
  | .ptr o off => match σ.objs[o]? with
    | some (.cells cs) => bif cellsOK σ x && Nat.beq (cellsD x).length n && Nat.ble (off + n) cs.length then some (σ.setOb o (.cells (putAt cs off (cellsD x)))) else none
    | _ => none
  | .ap τ g i 0 => (fzA σ x).bind fun r => match r.2.arrs[τ]? with
    | some a => bif Nat.beq g a.gen && Nat.beq r.1.size n && Nat.beq a.k n && Nat.ble a.floor i && Nat.blt i a.es.length then some (r.2.setAr τ { a with es := a.es.set i r.1 }) else none
    | none => none
  | _ => none

theorem evalStore_sound (hI : Inv B σ κ w) {t : TypeId} {p x : DVal} {u v : Value} {σ' : St} (hp : Rep1 σ κ w p u) (hx : Rep1 σ κ w x v) (he : evalStore P t p x σ = some σ') :
    ∃ w' κ', (Instr.storeAt t u v).run P w = .ok () w' ∧ Inv B σ' κ' w' ∧ Ext B σ κ w σ' κ' w' := by
  simp only [evalStore, Option.bind_eq_some_iff] at he
  obtain ⟨n, hn, he⟩ := he
  cases hp with
  | ptr ho ht0 =>
    rename_i o off
    simp only [] at he
    split at he
    · rename_i cs hcs
      cases hb : (cellsOK σ x && Nat.beq (cellsD x).length n && Nat.ble (off + n) cs.length) with
      | false => simp [hb] at he
      | true =>
        simp only [hb, cond_true, Option.some.injEq] at he
        subst he
        simp only [Bool.and_eq_true] at hb
        obtain ⟨⟨h1, h2⟩, h3⟩ := hb
        have h2 := Nat.eq_of_beq_eq_true h2
        have h3 := Nat.le_of_ble_eq_true h3
        obtain ⟨hr, hone⟩ := cellsD_sound hI hx h1
        obtain ⟨w', hrun, hI', he'⟩ := Inv.storeCells (P := P) (off := off) (n := 0) hI hcs (by omega) hr hone
        refine ⟨w', κ, ?_, by simpa using hI', by simpa using he'⟩
        have hsz : v.cells.size = n := by rw [← h2, ← hr.length, Array.length_toList]
        simp only [Instr.storeAt, Instr.sureAddr, storeVar, Sem.run_bind, Sem.run_pure, Result.andThen_ok, run_sizeOf hn, hsz, ne_eq, not_true, if_false]
        exact hrun
    · cases he
  | ap h ht0 =>
    rename_i τ g i off
    cases off with
    | succ off => simp at he
    | zero =>
      simp only [Option.bind_eq_some_iff] at he
      obtain ⟨⟨e, σ1⟩, hf, he⟩ := he
      obtain ⟨κ1, hI1, hE1, hr1⟩ := fzA_sound hI hx hf
      simp only [] at he
      split at he
      · rename_i a ha
        cases hb : (Nat.beq g a.gen && Nat.beq e.size n && Nat.beq a.k n && Nat.ble a.floor i && Nat.blt i a.es.length) with
        | false => simp [hb] at he
        | true =>
          simp only [hb, cond_true, Option.some.injEq] at he
          subst he
          simp only [Bool.and_eq_true] at hb
          obtain ⟨⟨⟨⟨h1, h2⟩, h3⟩, h4⟩, h5⟩ := hb
          have h1 := Nat.eq_of_beq_eq_true h1
          have h2 := Nat.eq_of_beq_eq_true h2
          have h3 := Nat.eq_of_beq_eq_true h3
          have h4 := Nat.le_of_ble_eq_true h4
          have h5 : i < a.es.length := Nat.le_of_ble_eq_true h5
          have hone : ∀ u ∈ v.cells.toList, u.oneCell' = true := by
            have := flat_one (RepL.cons hr1 RepL.nil)
            simpa [flat] using this
          obtain ⟨w', hrun, hI', he'⟩ := hI1.store_elem (P := P) ha h5 h4 hr1 (by rw [hr1.size, h2, h3]) hone
          refine ⟨w', κ1, ?_, hI', hE1.trans he'⟩
          have hsz : v.cells.size = n := by rw [hr1.size, h2]
          obtain ⟨a', ha', _, hx'⟩ := h.ext hE1
          rw [ha] at ha'; cases ha'
          rw [hx' h1]
          simp only [Instr.storeAt, Instr.sureAddr, storeVar, Sem.run_bind, Sem.run_pure, Result.andThen_ok, run_sizeOf hn, hsz, ne_eq, not_true, if_false]
          exact hrun
      · cases he
  | _ => simp at he
end
end Go.DL
