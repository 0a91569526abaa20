/-
  D-LOGIC, part H: addresses, cuts, lengths, append, maps.
-/
import Derived.Test.YtgfcgkkcakjodaaDoorEG
set_option linter.unusedVariables false
set_option linter.unusedSimpArgs false
namespace Go.DL
open Go.RowKit

section
variable {P : Program} {B : Nat} {σ : St} {κ : Kap} {w : World}

def fieldOf (P : Program) (s : TypeId) (i : Nat) : Option Field := match P.underlying s with | some (.struct fs) => fs[i]? | _ => none
def evalFieldAddr (P : Program) (s : TypeId) (p : DVal) (i : Nat) (σ : St) : Option DVal :=
  (fieldOf P s i).bind fun f => (sizeT P f.type).bind fun n => bif Nat.beq n 0 then none else
  match p with
  | .ptr o off => some (.ptr o (off + f.offset))
  | .ep cs => some (.ep (cs.drop f.offset))
  | .ap t g j off => bif curD σ p then some (.ap t g j (off + f.offset)) else none
  | _ => none
theorem evalFieldAddr_sound (hI : Inv B σ κ w) {s : TypeId} {p d : DVal} {i : Nat} {v : Value} (hp : Rep1 σ κ w p v) (h : evalFieldAddr P s p i σ = some d) : ∃ u, (Instr.fieldAt s v i).run P w = .ok u w ∧ Rep1 σ κ w d u := by
  simp only [evalFieldAddr, fieldOf, Option.bind_eq_some_iff] at h
  obtain ⟨f, hf, n, hn, h⟩ := h
  split at hf
  · rename_i fs hu
    cases hb : Nat.beq n 0 with
    | true => simp [hb] at h
    | false =>
      simp only [hb, cond_false] at h
      have hn0 : n ≠ 0 := fun e => by subst e; simp at hb
      have run : ∀ a, (Instr.fieldAt s (.pointer (some a)) i).run P w = .ok (.pointer (some (a.add f.offset))) w := fun a => by
        simp only [Instr.fieldAt, Sem.run_bind, run_underlying hu, Result.andThen_ok, hf, Instr.sureAddr, Sem.run_pure, fieldPlace, run_sizeOf hn, hn0, if_false]
      cases hp with
      | ptr ho ht0 =>
        simp only [Option.some.injEq] at h; subst h
        exact ⟨_, run _, by rw [add_none]; exact .ptr ho .nil⟩
      | ep r h1 hm ht0 =>
        simp only [Option.some.injEq] at h; subst h
        exact ⟨_, run _, .ep (r.drop _) (fun u hu => h1 u (List.mem_of_mem_drop hu)) (fun j u hu => by rw [add_add']; exact hm _ u (by simpa using hu)) .nil⟩
      | ap hap ht0 =>
        rename_i t g j off
        cases hc : curD σ (.ap t g j off) with
        | false => simp [hc] at h
        | true =>
          simp only [hc, cond_true, Option.some.injEq] at h; subst h
          simp only [curD] at hc
          split at hc
          · rename_i a ha
            obtain ⟨a', ha', hg, hx⟩ := hap
            rw [ha] at ha'; cases ha'
            rw [hx (Nat.eq_of_beq_eq_true hc)]
            exact ⟨_, run _, .ap ⟨a, ha, hg, fun _ => by rw [add_none, Nat.add_assoc]⟩ .nil⟩
          · cases hc
      | _ => simp at h
  · cases hf

def evalField (P : Program) (s : TypeId) (x : DVal) (i : Nat) : Option DVal :=
  (fieldOf P s i).bind fun f => (aggT P f.type).bind fun ag => (sizeT P f.type).bind fun n =>
  match x with
  | .f (.agg cs) => bif Nat.ble (f.offset + n) cs.length then loadC ag n ((cs.drop f.offset).map .f) else none
  | .agg cs => bif Nat.ble (f.offset + n) cs.length then loadC ag n (cs.drop f.offset) else none
  | _ => none
theorem part_sound {t : TypeId} {ag : Bool} {n off : Nat} {cs : List DVal} {us : List Value} {d : DVal} (hag : aggT P t = some ag) (hn : sizeT P t = some n) (hr : RepD σ κ w cs us) (h1 : ∀ u ∈ us, u.oneCell' = true) (hl : off + n ≤ cs.length)
    (h : loadC ag n (cs.drop off) = some d) : ∃ u, (part t us.toArray off).run P w = .ok u w ∧ Rep1 σ κ w d u := by
  have hrl := hr.length
  cases ag with
  | true =>
    simp only [loadC, cond_true] at h
    cases hb : Nat.ble n (cs.drop off).length with
    | false => rw [hb] at h; cases h
    | true =>
      simp only [hb, cond_true, Option.some.injEq] at h
      subst h
      refine ⟨.agg ((us.drop off).take n).toArray, ?_, mkAgg_sound ((hr.drop off).take n) fun u hu => h1 u (List.mem_of_mem_drop (List.mem_of_mem_take hu))⟩
      simp only [part, Sem.run_bind, run_isAgg hag, Result.andThen_ok, if_true, run_sizeOf hn, Sem.run_pure]
      congr 2
      apply Array.ext'
      simp [List.take_drop]
  | false =>
    simp only [loadC, cond_false] at h
    obtain ⟨u, hu, hru⟩ := (hr.drop off).get (i := 0) (d := d) (by rw [← List.head?_eq_getElem?]; exact h)
    rw [List.getElem?_drop] at hu
    refine ⟨u, ?_, hru⟩
    simp only [part, Sem.run_bind, run_isAgg hag, Result.andThen_ok, Bool.false_eq_true, if_false]
    simp at hu
    simp [hu]
theorem evalField_sound {s : TypeId} {x d : DVal} {i : Nat} {v : Value} (hx : Rep1 σ κ w x v) (h : evalField P s x i = some d) : ∃ u, (Instr.field s v i).run P w = .ok u w ∧ Rep1 σ κ w d u := by
  simp only [evalField, fieldOf, Option.bind_eq_some_iff] at h
  obtain ⟨f, hf, ag, hag, n, hn, h⟩ := h
  split at hf
  · rename_i fs hu
    have fin : ∀ {cs : List DVal} {us : List Value}, RepD σ κ w cs us → (∀ u ∈ us, u.oneCell' = true) → f.offset + n ≤ cs.length → loadC ag n (cs.drop f.offset) = some d → ∃ u, (Instr.field s (.agg us.toArray) i).run P w = .ok u w ∧ Rep1 σ κ w d u := fun hr h1 hl hd => by
      obtain ⟨u, hu', hru⟩ := part_sound hag hn hr h1 hl hd
      refine ⟨u, ?_, hru⟩
      simp only [Instr.field, Sem.run_bind, run_underlying hu, Result.andThen_ok, hf, asAgg, Sem.run_pure]
      exact hu'
    split at h
    · rename_i cs
      cases hb : Nat.ble (f.offset + n) cs.length with
      | false => simp [hb] at h
      | true =>
        simp only [hb, cond_true] at h
        cases hx with
        | f hx _ =>
          obtain ⟨us, rfl, hr, h1⟩ := hx.of_agg
          exact fin hr.toD h1 (by simpa using Nat.le_of_ble_eq_true hb) (by rw [List.map_drop] at h; exact h)
    · rename_i cs
      cases hb : Nat.ble (f.offset + n) cs.length with
      | false => simp [hb] at h
      | true =>
        simp only [hb, cond_true] at h
        cases hx with
        | agg r h1 _ => exact fin r h1 (Nat.le_of_ble_eq_true hb) h
    · cases h
  · cases hf

/-! ### Slices as lists -/
/-- The elements of a slice. -/
def listD (σ : St) : DVal → Option (Nat × List FVal)
  | .f (.sl k es) => some (k, es)
  | .full k es => some (k, es)
  | .arr t g => match σ.arrs[t]? with | some a => bif Nat.beq g a.gen then some (a.k, a.es) else none | none => none
  | _ => none
def isArr : DVal → Bool | .arr _ _ => true | _ => false
theorem listD_sound (hI : Inv B σ κ w) {d : DVal} {v : Value} {k : Nat} {es : List FVal} (hd : Rep1 σ κ w d v) (h : listD σ d = some (k, es)) :
    ∃ us A c, v = .slice A us.length c ∧ RepL κ.S w es us ∧ us.length ≤ c ∧ (∀ u ∈ us, u.cells.size = k) ∧ (A = none → us = [] ∧ c = 0) ∧ (∀ a, A = some a → ∀ j u, (flat us)[j]? = some u → w.cell? (a.add j) = some u) ∧
      (isArr d = false → ∀ a, A = some a → ∀ j u, (flat us)[j]? = some u → κ.S (a.add j)) ∧ (∀ t g, d = .arr t g → A = some ⟨κ.ab t, 0, none⟩ ∧ ∃ a, σ.arrs[t]? = some a ∧ g = a.gen ∧ a.k = k) ∧ (∀ k' es', d = .full k' es' → c = us.length) := by
  cases hd with
  | f hd _ =>
    cases hd with
    | snil _ => simp only [listD, Option.some.injEq, Prod.mk.injEq] at h; obtain ⟨rfl, rfl⟩ := h; exact ⟨[], none, 0, rfl, .nil, Nat.le_refl _, by simp, fun _ => ⟨rfl, rfl⟩, (fun a h => by cases h), (fun _ a h => by cases h), (fun _ _ h => by cases h), fun _ _ h => by cases h⟩
    | sl r hk hm hc _ => simp only [listD, Option.some.injEq, Prod.mk.injEq] at h; obtain ⟨rfl, rfl⟩ := h; exact ⟨_, some _, _, rfl, r, hc, hk, (fun h => by cases h), (fun a h => by cases h; exact fun j u hu => (hm j u hu).1), (fun _ a h => by cases h; exact fun j u hu => (hm j u hu).2), (fun _ _ h => by cases h), fun _ _ h => by cases h⟩
    | lit => simp [listD] at h
    | agg => simp [listD] at h
  | fnil _ => simp only [listD, Option.some.injEq, Prod.mk.injEq] at h; obtain ⟨rfl, rfl⟩ := h; exact ⟨[], none, 0, rfl, .nil, Nat.le_refl _, by simp, fun _ => ⟨rfl, rfl⟩, (fun a h => by cases h), (fun _ a h => by cases h), (fun _ _ h => by cases h), fun _ _ _ => rfl⟩
  | full r hk hm _ => simp only [listD, Option.some.injEq, Prod.mk.injEq] at h; obtain ⟨rfl, rfl⟩ := h; exact ⟨_, some _, _, rfl, r, Nat.le_refl _, hk, (fun h => by cases h), (fun a h => by cases h; exact fun j u hu => (hm j u hu).1), (fun _ a h => by cases h; exact fun j u hu => (hm j u hu).2), (fun _ _ h => by cases h), fun _ _ _ => rfl⟩
  | arr hx ht0 =>
    rename_i t g
    simp only [listD] at h
    split at h
    · rename_i a ha
      cases hg : Nat.beq g a.gen with
      | false => simp [hg] at h
      | true =>
        simp only [hg, cond_true, Option.some.injEq, Prod.mk.injEq] at h
        obtain ⟨rfl, rfl⟩ := h
        have hv := (hx.form hI a ha (Nat.eq_of_beq_eq_true hg)).1
        obtain ⟨us, cap, hr, hk, hav, hcap, hcell, _⟩ := Ar.cells_at hI ha
        exact ⟨us, some _, cap, by rw [hv, hav], hr, hcap, hk, (fun h => by cases h), (fun a' h j u hu => by cases h; rw [add_none, Nat.zero_add]; exact hcell j u hu), (fun h => by cases h), (fun t' g' h => by cases h; exact ⟨rfl, a, ha, Nat.eq_of_beq_eq_true hg, rfl⟩), fun _ _ h => by cases h⟩
    · cases h
  | _ => simp [listD] at h

def intOfD : DVal → Option Int
  | .f (.lit (.int _ n)) => some n
  | _ => none
theorem intOfD_sound {d : DVal} {v : Value} {n : Int} (hd : Rep1 σ κ w d v) (h : intOfD d = some n) : ∃ k, v = .int k n := by
  unfold intOfD at h
  split at h
  · cases h
    cases hd with
    | f hd _ => exact ⟨_, hd.of_lit.1⟩
  · cases h

def elemT (P : Program) (t : TypeId) : Option TypeId := match P.underlying t with | some (.slice e) => some e | _ => none
def epOf : FVal → DVal
  | .agg cs => .ep cs
  | el => .ep [el]
/-- The address of an element. -/
def evalIndexAddr (P : Program) (t : TypeId) (x ix : DVal) (σ : St) : Option DVal :=
  (elemT P t).bind fun e => (sizeT P e).bind fun k => (intOfD ix).bind fun i => (listD σ x).bind fun l =>
  if 0 ≤ i then (match l.2[i.toNat]? with
    | some el => bif Nat.beq l.1 k then (match x with | .arr τ g => some (.ap τ g i.toNat 0) | _ => some (epOf el)) else none
    | none => none) else none
theorem evalIndexAddr_sound (hI : Inv B σ κ w) {t : TypeId} {x ix d : DVal} {v iv : Value} (hx : Rep1 σ κ w x v) (hix : Rep1 σ κ w ix iv) (h : evalIndexAddr P t x ix σ = some d) : ∃ u, (Instr.indexAt t v iv).run P w = .ok u w ∧ Rep1 σ κ w d u := by
  simp only [evalIndexAddr, elemT, Option.bind_eq_some_iff] at h
  obtain ⟨e, he, k, hk, i, hi, ⟨k', es⟩, hl, h⟩ := h
  split at he
  · rename_i e' hu
    simp only [Option.some.injEq] at he; subst he
    obtain ⟨q, rfl⟩ := intOfD_sound hix hi
    split at h
    · rename_i h0
      split at h
      · rename_i el hel
        cases hb : Nat.beq k' k with
        | false => simp only [hb, cond_false] at h; cases h
        | true =>
          simp only [hb, cond_true] at h
          have := Nat.eq_of_beq_eq_true hb
          subst this
          obtain ⟨us, A, c, rfl, hr, hc, hks, hA, hm, hS, harr, hfull⟩ := listD_sound hI hx hl
          obtain ⟨u0, hu0, hru⟩ := hr.get hel
          have hlt : i.toNat < us.length := (List.getElem?_eq_some_iff.1 hu0).1
          have hsz := hks u0 (List.mem_of_getElem? hu0)
          cases A with
          | none => have := (hA rfl).1; subst this; simp at hlt
          | some a =>
            have hrun : (Instr.indexAt t (.slice (some a) us.length c) (.int q i)).run P w = .ok (.pointer (some (a.add (i.toNat * k')))) w := by
              have hi2 : i < (us.length : Int) := by omega
              simp [Instr.indexAt, asIntOf, run_underlying hu, h0, hi2, run_sizeOf hk]
            refine ⟨_, hrun, ?_⟩
            by_cases hxa : isArr x = true
            · cases x <;> simp [isArr] at hxa
              rename_i τ g
              simp only [Option.some.injEq] at h
              subst h
              obtain ⟨hA', a', ha', hg, hk'⟩ := harr τ g rfl
              cases hA'
              refine .ap ⟨a', ha', by omega, fun _ => ?_⟩ .nil
              rw [add_none, hk', Nat.zero_add, Nat.add_zero]
            · have hxa : isArr x = false := by simpa using hxa
              have hS := hS hxa a rfl
              have hd : d = epOf el := by
                cases x <;> first | (simp [isArr] at hxa; done) | (simp only [Option.some.injEq] at h; exact h.symm)
              subst hd
              have hcells : ∀ j u, u0.cells.toList[j]? = some u → w.cell? ((a.add (i.toNat * k')).add j) = some u ∧ κ.S ((a.add (i.toNat * k')).add j) := fun j u hju => by
                have hj : j < k' := by rw [← hsz, ← Array.length_toList]; exact (List.getElem?_eq_some_iff.1 hju).1
                have hfl : (flat us)[i.toNat * k' + j]? = some u := by rw [flat_get hks hu0 j hj, ← Array.getElem?_toList]; exact hju
                rw [add_add']
                exact ⟨hm a rfl _ u hfl, hS _ u hfl⟩
              cases el with
              | agg cs' =>
                obtain ⟨us', rfl, hr', h1⟩ := hru.of_agg
                exact .ep hr' h1 (by simpa [Value.cells] using hcells) .nil
              | lit z =>
                have h1 := hru.one (by intro cs hc; cases hc)
                rw [cells_one h1] at hcells
                exact .ep (us := [u0]) hru (by simpa using h1) hcells .nil
              | sl kk zs =>
                have h1 := hru.one (by intro cs hc; cases hc)
                rw [cells_one h1] at hcells
                exact .ep (us := [u0]) hru (by simpa using h1) hcells .nil
      · cases h
    · cases h
  · cases he

/-! ### Cuts -/
theorem flat_take {us : List Value} {k : Nat} (hk : ∀ u ∈ us, u.cells.size = k) (n : Nat) : flat (us.take n) = (flat us).take (n * k) := by
  rcases Nat.lt_or_ge n us.length with h | h
  · have h2 : flat us = flat (us.take n) ++ flat (us.drop n) := by rw [← flat_append, List.take_append_drop]
    have h3 : (flat (us.take n)).length = n * k := by
      rw [flat_length (k := k) fun u hu => hk u (List.mem_of_mem_take hu), List.length_take]; congr 1; omega
    rw [h2, ← h3, List.take_left]
  · rw [List.take_of_length_le h, List.take_of_length_le]
    rw [flat_length hk]; exact Nat.mul_le_mul_right _ h
theorem flat_drop {us : List Value} {k : Nat} (hk : ∀ u ∈ us, u.cells.size = k) (n : Nat) : flat (us.drop n) = (flat us).drop (n * k) := by
  rcases Nat.lt_or_ge n us.length with h | h
  · have h2 : flat us = flat (us.take n) ++ flat (us.drop n) := by rw [← flat_append, List.take_append_drop]
    have h3 : (flat (us.take n)).length = n * k := by
      rw [flat_length (k := k) fun u hu => hk u (List.mem_of_mem_take hu), List.length_take]; congr 1; omega
    rw [h2, ← h3, List.drop_left]
  · rw [List.drop_of_length_le h, List.drop_of_length_le]
    · rfl
    · rw [flat_length hk]; exact Nat.mul_le_mul_right _ h

def bndD (env : Option DVal) (dflt : Int) : Option Int := match env with | none => some dflt | some d => intOfD d
def isInt : Value → Bool | .int _ _ => true | _ => false
/-- s[lo:hi] of a string. -/
def evalCutS (s : ByteArray) (lo hi : Int) : Option DVal :=
  if 0 ≤ lo ∧ lo ≤ hi ∧ hi ≤ s.size then some (.f (.lit (.string (s.extract lo.toNat hi.toNat)))) else none
/-- xs[lo:hi], xs[lo:hi:hi]. -/
def evalCutL (k : Nat) (es : List FVal) (lo hi : Int) (mx : Bool) : Option DVal :=
  if 0 ≤ lo ∧ lo ≤ hi ∧ hi ≤ es.length then
    let l := (es.take hi.toNat).drop lo.toNat
    some (bif mx then .full k l else .f (.sl k l))
  else none
def evalSlice (P : Program) (t : TypeId) (x : DVal) (lo hi mx : Option DVal) (σ : St) : Option (DVal × St) :=
  match x with
  | .f (.lit (.string s)) => match P.underlying t, mx with
    | some .string, none => (bndD lo 0).bind fun l => (bndD hi s.size).bind fun h => (evalCutS s l h).map fun d => (d, σ)
    | _, _ => none
  | _ => (elemT P t).bind fun e => (sizeT P e).bind fun k => (fz σ x).bind fun r => match r.1 with
    | .sl k' es => bif Nat.beq k' k || es.isEmpty then (bndD lo 0).bind fun l => (bndD hi es.length).bind fun h =>
        match mx with
        | none => (evalCutL k es l h false).map fun d => (d, r.2)
        | some m => (intOfD m).bind fun m => if m = h ∧ hi.isSome = true then (evalCutL k es l h true).map fun d => (d, r.2) else none
      else none
    | _ => none

theorem bndD_sound {o : Option DVal} {ov : Option Value} {dflt : Int} {n : Int} (ho : match o, ov with | none, none => True | some d, some v => Rep1 σ κ w d v | _, _ => False) (h : bndD o dflt = some n) :
    (ov = none ∧ n = dflt) ∨ ∃ q, ov = some (.int q n) := by
  cases o <;> cases ov <;> simp only [] at ho
  · simp only [bndD, Option.some.injEq] at h; exact .inl ⟨rfl, h.symm⟩
  · rename_i d v
    obtain ⟨q, rfl⟩ := intOfD_sound ho h
    exact .inr ⟨q, rfl⟩

theorem run_sliceBound {v : Value} {q : IntKind} {n : Int} {y : Nat} {code : BoundsCode} (hv : v = .int q n) (h0 : 0 ≤ n) (h1 : n ≤ y) (w : World) : (Instr.sliceBound v y code).run P w = .ok n.toNat w := by
  subst hv; simp [Instr.sliceBound, asIntOf, h0, h1]

abbrev RepO (σ : St) (κ : Kap) (w : World) (o : Option DVal) (ov : Option Value) : Prop := match o, ov with | none, none => True | some d, some v => Rep1 σ κ w d v | _, _ => False

theorem cut_rep {k : Nat} {es : List FVal} {us : List Value} {A : Option Addr} {l h m : Nat} (hr : RepL κ.S w es us) (hks : ∀ u ∈ us, u.cells.size = k) (hlh : l ≤ h) (hh : h ≤ us.length) (hm : h ≤ m) (hA : A = none → us = [] ∧ m = 0)
    (hc : ∀ a, A = some a → ∀ j u, (flat us)[j]? = some u → w.cell? (a.add j) = some u ∧ κ.S (a.add j)) (mx : Bool) (hmx : mx = true → m = h) :
    Rep1 σ κ w (bif mx then .full k ((es.take h).drop l) else .f (.sl k ((es.take h).drop l))) (.slice (if m = l then A else A.map (·.add (l * k))) (h - l) (m - l)) := by
  have hr' := (hr.take h).drop l
  have hks' : ∀ u ∈ (us.take h).drop l, u.cells.size = k := fun u hu => hks u (List.mem_of_mem_take (List.mem_of_mem_drop hu))
  have hlen : ((us.take h).drop l).length = h - l := by rw [List.length_drop, List.length_take]; omega
  cases A with
  | none =>
    obtain ⟨rfl, rfl⟩ := hA rfl
    have h0 : h = 0 := by simpa using hh
    subst h0
    have l0 : l = 0 := by omega
    subst l0
    have : es = [] := List.eq_nil_of_length_eq_zero (by rw [← hr.length]; rfl)
    subst this
    cases mx
    · simpa using (RepD.f (σ := σ) (ds := []) (vs := []) (RepL.snil (k := k) (es := []) (vs := []) (S := κ.S) (w := w) .nil) .nil)
    · simpa using (RepD.fnil (σ := σ) (κ := κ) (w := w) (k := k) (ds := []) (vs := []) .nil)
  | some a =>
    have hcells : ∀ a', (if m = l then some a else (some a).map (·.add (l * k))) = some a' → ∀ j u, (flat ((us.take h).drop l))[j]? = some u → w.cell? (a'.add j) = some u ∧ κ.S (a'.add j) := fun a' ha' j u hu => by
      by_cases hml : m = l
      · have : (us.take h).drop l = [] := List.eq_nil_of_length_eq_zero (by rw [hlen]; omega)
        rw [this] at hu; simp [flat] at hu
      · rw [if_neg hml] at ha'
        simp only [Option.map_some, Option.some.injEq] at ha'
        subst ha'
        rw [add_add']
        refine hc a rfl _ u ?_
        rw [flat_drop (k := k) (fun u hu => hks u (List.mem_of_mem_take hu)), flat_take hks, List.getElem?_drop, List.getElem?_take] at hu
        split at hu
        · exact hu
        · cases hu
    obtain ⟨a', ha'⟩ : ∃ a', (if m = l then some a else (some a).map (·.add (l * k))) = some a' := by
      by_cases hml : m = l
      · exact ⟨a, by simp [hml]⟩
      · exact ⟨a.add (l * k), by simp [hml]⟩
    rw [ha']
    have hcells := hcells a' ha'
    cases mx
    · have := RepD.f (σ := σ) (κ := κ) (ds := []) (vs := []) (RepL.sl (c := m - l) hr' hks' hcells (by rw [hlen]; omega) .nil) .nil
      rw [hlen] at this
      simpa using this
    · have := RepD.full (σ := σ) (κ := κ) (ds := []) (vs := []) hr' hks' hcells .nil
      rw [hlen] at this
      have hmh := hmx rfl
      subst hmh
      simpa using this

theorem evalSlice_sound (hI : Inv B σ κ w) {t : TypeId} {x d : DVal} {v : Value} {lo hi mx : Option DVal} {lv hv mv : Option Value} {σ' : St} (hx : Rep1 σ κ w x v) (hlo : RepO σ κ w lo lv) (hhi : RepO σ κ w hi hv) (hmx : RepO σ κ w mx mv)
    (h : evalSlice P t x lo hi mx σ = some (d, σ')) : Does P (Instr.sliceAt t v lv hv mv) B σ κ w d σ' := by
  unfold evalSlice at h
  split at h
  · rename_i s
    split at h
    · rename_i hu
      simp only [Option.bind_eq_some_iff, Option.map_eq_some_iff, Prod.mk.injEq] at h
      obtain ⟨l, hl, hh, hhh, r, hr, rfl, rfl⟩ := h
      have hmv : mv = none := by cases mv with | none => rfl | some _ => simp [RepO] at hmx
      subst hmv
      have hvv : v = .string s := by cases hx with | f hx _ => exact hx.of_lit.1
      subst hvv
      unfold evalCutS at hr
      split at hr
      · rename_i hc
        obtain ⟨h0, h1, h2⟩ := hc
        cases hr
        refine Does.same hI (v := .string (s.extract l.toNat hh.toNat)) ?_ (.f (.mk_lit rfl) .nil)
        have e1 : (s.size : Int).toNat = s.size := by simp
        rcases bndD_sound hlo hl with ⟨rfl, rfl⟩ | ⟨q, rfl⟩ <;> rcases bndD_sound hhi hhh with ⟨rfl, rfl⟩ | ⟨q', rfl⟩
        · simp [Instr.sliceAt, Instr.slice, run_underlying hu, Instr.sliceBounds]
        · simp [Instr.sliceAt, Instr.slice, run_underlying hu, Instr.sliceBounds, run_sliceBound (P := P) rfl (show 0 ≤ hh by omega) h2]
        · simp [Instr.sliceAt, Instr.slice, run_underlying hu, Instr.sliceBounds, run_sliceBound (P := P) rfl h0 (show l ≤ (s.size : Int) by omega)]
        · have e2 : ((hh.toNat : Nat) : Int) = hh := by omega
          simp [Instr.sliceAt, Instr.slice, run_underlying hu, Instr.sliceBounds, run_sliceBound (P := P) rfl (show 0 ≤ hh by omega) h2, run_sliceBound (P := P) (y := hh.toNat) rfl h0 (by omega)]
      · cases hr
    · cases h
  · simp only [elemT, Option.bind_eq_some_iff] at h
    obtain ⟨e, he, k, hk, ⟨f, σ1⟩, hf, h⟩ := h
    split at he
    · rename_i e' hu
      simp only [Option.some.injEq] at he; subst he
      obtain ⟨κ1, hI1, hE1, hR⟩ := fz_sound hI hx hf
      simp only [] at h
      split at h
      · rename_i k' es
        obtain ⟨us, A, c, rfl, hr, hc, hks, hA, hcell⟩ := hR.of_sl
        cases hb : (Nat.beq k' k || es.isEmpty) with
        | false => simp only [hb, cond_false] at h; cases h
        | true =>
          simp only [hb, cond_true] at h
          have hks' : ∀ u ∈ us, u.cells.size = k := by
            simp only [Bool.or_eq_true, List.isEmpty_iff] at hb
            rcases hb with hb | hb
            · rw [← Nat.eq_of_beq_eq_true hb]; exact hks
            · have : us = [] := List.eq_nil_of_length_eq_zero (by rw [hr.length, hb]; rfl)
              subst this; simp
          have hul := hr.length
          have kk : ∀ l : List FVal, l = [] ∨ True := fun _ => .inr trivial
          simp only [Option.bind_eq_some_iff] at h
          obtain ⟨l, hl, hh, hhh, h⟩ := h
          have fin : ∀ (mb : Bool), evalCutL k es l hh mb = some d → (mb = true → (∃ q, mv = some (.int q hh)) ∧ hv ≠ none) → (mb = false → mv = none) → σ1 = σ' → Does P (Instr.sliceAt t (.slice A us.length c) lv hv mv) B σ κ w d σ' := fun mb hd hm1 hm2 hσ => by
            subst hσ
            unfold evalCutL at hd
            split at hd
            · rename_i hcond
              obtain ⟨h0, h1, h2⟩ := hcond
              simp only [Option.some.injEq] at hd
              subst hd
              have hhn : hh.toNat ≤ us.length := by omega
              have base := cut_rep (σ := σ1) (κ := κ1) (w := w) (A := A) (l := l.toNat) (h := hh.toNat) (m := if mb = true then hh.toNat else c) hr hks' (by omega) hhn (by cases mb <;> simp <;> omega)
                (fun hn => ⟨(hA hn).1, by have := hA hn; cases mb <;> simp [this.2]; rw [this.1] at hhn; simpa using hhn⟩) hcell mb (fun hh' => by simp [hh'])
              refine ⟨_, w, κ1, ?_, hI1, hE1, base⟩
              have b1 : l ≤ ((hh.toNat : Nat) : Int) := by omega
              have b2 : hh ≤ (c : Int) := by omega
              have b3 : ((hh.toNat : Nat) : Int) = hh := by omega
              cases mb with
              | false =>
                have := hm2 rfl; subst this
                simp only [Bool.false_eq_true, if_false]
                rcases bndD_sound hlo hl with ⟨rfl, rfl⟩ | ⟨q, rfl⟩ <;> rcases bndD_sound hhi hhh with ⟨rfl, rfl⟩ | ⟨q', rfl⟩
                · simp [Instr.sliceAt, Instr.slice, run_underlying hu, Instr.sliceBounds, run_sizeOf hk, hul]
                · simp [Instr.sliceAt, Instr.slice, run_underlying hu, Instr.sliceBounds, run_sizeOf hk, run_sliceBound (P := P) rfl (show 0 ≤ hh by omega) b2]
                · simp [Instr.sliceAt, Instr.slice, run_underlying hu, Instr.sliceBounds, run_sizeOf hk, run_sliceBound (P := P) (y := us.length) rfl h0 (by omega), hul]
                  rw [← hul]
                  simp [run_sliceBound (P := P) (y := us.length) rfl h0 (by omega)]
                · simp [Instr.sliceAt, Instr.slice, run_underlying hu, Instr.sliceBounds, run_sizeOf hk, run_sliceBound (P := P) rfl (show 0 ≤ hh by omega) b2, run_sliceBound (P := P) (y := hh.toNat) rfl h0 b1]
              | true =>
                obtain ⟨⟨q0, rfl⟩, hvn⟩ := hm1 rfl
                simp only [if_true]
                have b4 : hh ≤ ((hh.toNat : Nat) : Int) := by omega
                rcases bndD_sound hlo hl with ⟨rfl, rfl⟩ | ⟨q, rfl⟩ <;> rcases bndD_sound hhi hhh with ⟨rfl, hhe⟩ | ⟨q', rfl⟩
                · exact absurd rfl hvn
                · simp [Instr.sliceAt, Instr.slice, run_underlying hu, Instr.sliceBounds, run_sizeOf hk, run_sliceBound (P := P) (y := c) rfl (show 0 ≤ hh by omega) b2, run_sliceBound (P := P) (y := hh.toNat) rfl (show 0 ≤ hh by omega) b4]
                · exact absurd rfl hvn
                · simp [Instr.sliceAt, Instr.slice, run_underlying hu, Instr.sliceBounds, run_sizeOf hk, run_sliceBound (P := P) (y := c) rfl (show 0 ≤ hh by omega) b2, run_sliceBound (P := P) (y := hh.toNat) rfl (show 0 ≤ hh by omega) b4, run_sliceBound (P := P) (y := hh.toNat) rfl h0 b1]
            · cases hd
          cases mx with
          | none =>
            have hmv : mv = none := by cases mv with | none => rfl | some _ => simp [RepO] at hmx
            simp only [Option.map_eq_some_iff, Prod.mk.injEq] at h
            obtain ⟨r, hr', rfl, rfl⟩ := h
            exact fin false hr' (fun h => by cases h) (fun _ => hmv) rfl
          | some m =>
            cases mv with
            | none => simp [RepO] at hmx
            | some mval =>
              simp only [Option.bind_eq_some_iff] at h
              obtain ⟨mi, hmi, h⟩ := h
              split at h
              · rename_i hmh
                obtain ⟨hmh, his⟩ := hmh
                subst hmh
                simp only [Option.map_eq_some_iff, Prod.mk.injEq] at h
                obtain ⟨r, hr', rfl, rfl⟩ := h
                obtain ⟨q, rfl⟩ := intOfD_sound hmx hmi
                exact fin true hr' (fun _ => ⟨⟨q, rfl⟩, fun e => by subst e; cases hi <;> simp_all [RepO]⟩) (fun h => by cases h) rfl
              · cases h
      · cases h
    · cases he
end
end Go.DL
