/-
  D-LOGIC, part J: maps with string keys.
-/
import Derived.Test.YtgfcgkkcakjodaaDoorEI
set_option linter.unusedVariables false
set_option linter.unusedSimpArgs false
namespace Go.DL
open Go.RowKit

theorem ba_beq (a b : ByteArray) : (a == b) = decide (a = b) := by
  cases a with | mk a => cases b with | mk b =>
  show (a == b) = _
  rw [Bool.eq_iff_iff]; simp

section
variable {P : Program} {B : Nat} {σ : St} {κ : Kap} {w : World}

def findD (s : ByteArray) : List (Value × DVal) → Nat → Option (Option (Nat × DVal))
  | [], _ => some none
  | (.string k, d) :: r, i => if s = k then some (some (i, d)) else findD s r (i + 1)
  | _ :: _, _ => none
theorem findD_sound (s : ByteArray) : ∀ {es : List (Value × DVal)} {xs : List MapEntry} {i : Nat} {r : Option (Nat × DVal)}, RepD σ κ w (es.map (·.2)) (xs.map (·.val)) → es.map (·.1) = xs.map (·.key) → findD s es i = some r →
    ∃ q, Instr.findNow .string (.string s) xs i = some q ∧ match r, q with
      | none, none => True
      | some (j, d), some (j', v) => j = j' ∧ i ≤ j ∧ Rep1 σ κ w d v ∧ ∃ x, xs[j - i]? = some x ∧ x.key = .string s
      | _, _ => False
  | [], xs, i, r, hr, hk, h => by
    simp only [findD, Option.some.injEq] at h; subst h
    have : xs = [] := by cases xs with | nil => rfl | cons x xs => simp at hk
    subst this
    exact ⟨none, rfl, trivial⟩
  | (kv, d) :: es, xs, i, r, hr, hk, h => by
    cases xs with
    | nil => simp at hk
    | cons x xs =>
      simp only [List.map_cons, List.cons.injEq] at hk
      obtain ⟨hk0, hks⟩ := hk
      obtain ⟨v, vs, hv, h0, ht⟩ := RepD.cons_inv hr
      simp only [List.map_cons, List.cons.injEq] at hv
      obtain ⟨rfl, rfl⟩ := hv
      cases kv <;> simp only [findD, reduceCtorEq] at h
      rename_i k
      split at h
      · rename_i hsk
        subst hsk
        simp only [Option.some.injEq] at h; subst h
        refine ⟨some (i, x.val), by simp [Instr.findNow, ← hk0, Instr.sameNow, ba_beq], rfl, Nat.le_refl _, h0, x, by simp, hk0.symm⟩
      · rename_i hsk
        obtain ⟨q, hq, hm⟩ := findD_sound s ht hks h
        refine ⟨q, ?_, ?_⟩
        · have hne : (s == k) = false := by rw [ba_beq]; simpa using hsk
          simp [Instr.findNow, ← hk0, Instr.sameNow, hne, hq]
        · cases r with
          | none => cases q with
            | none => trivial
            | some q => exact hm
          | some r =>
            obtain ⟨j, d'⟩ := r
            cases q with
            | none => exact hm
            | some q =>
              obtain ⟨j', v'⟩ := q
              obtain ⟨e1, e2, e3, y, hy, hyk⟩ := hm
              refine ⟨e1, by omega, e3, y, ?_, hyk⟩
              have : j - i = (j - (i + 1)) + 1 := by omega
              rw [this]; simpa using hy

def zeroV (P : Program) (t : TypeId) : Option DVal :=
  (P.info? t).bind fun i => i.zero.bind fun z => match z with
    | .agg cs => bif cs.toList.all (·.oneCell') then (constDs cs.toList).map mkAgg else none
    | z => constD z
theorem zeroV_sound {t : TypeId} {d : DVal} (h : zeroV P t = some d) : ∃ z, (∀ w : World, (zeroValue t).run P w = .ok z w) ∧ (∀ (σ : St) (κ : Kap) (w : World), Rep1 σ κ w d z) := by
  simp only [zeroV, Option.bind_eq_some_iff] at h
  obtain ⟨i, hi, z, hz, h⟩ := h
  refine ⟨z, fun w => by simp [zeroValue, typeInfo, hi, hz], fun σ κ w => ?_⟩
  split at h
  · rename_i cs
    cases hb : cs.toList.all (·.oneCell') with
    | false => simp [hb] at h
    | true =>
      simp only [hb, cond_true, Option.map_eq_some_iff] at h
      obtain ⟨ds, hds, rfl⟩ := h
      exact mkAgg_sound (constDs_sound hds) fun u hu => List.all_eq_true.1 hb u hu
  · exact constD_sound h

def mapT (P : Program) (t : TypeId) : Option TypeId := match P.underlying t with
  | some (.map k e) => (match P.underlying k with | some .string => some e | _ => none)
  | _ => none
theorem mapT_spec {t e : TypeId} (h : mapT P t = some e) : ∃ k, P.underlying t = some (.map k e) ∧ P.underlying k = some .string := by
  unfold mapT at h
  split at h
  · rename_i k e' hu
    split at h
    · rename_i hk; cases h; exact ⟨k, hu, hk⟩
    · cases h
  · cases h

def evalLookup (P : Program) (t : TypeId) (m k : DVal) (ok : Bool) (σ : St) : Option DVal :=
  (mapT P t).bind fun e => (zeroV P e).bind fun z =>
  match m, k with
  | .map o, .f (.lit (.string s)) => match σ.objs[o]? with
    | some (.map es) => (findD s es 0).bind fun r => match r with
      | some (_, d) => some (bif ok then .tup [d, litBool true] else d)
      | none => some (bif ok then .tup [z, litBool false] else z)
    | _ => none
  | _, _ => none

theorem checkKey_str {kt : TypeId} (h : P.underlying kt = some .string) (b : Bool) (s : ByteArray) (w : World) (n : Nat) : (Instr.checkKey b (n + 1) kt (.string s)).run P w = .ok () w := by
  unfold Instr.checkKey
  simp only [Sem.run_bind, run_underlying h, Result.andThen_ok, Sem.run_pure]
theorem checkKey_string {kt : TypeId} (h : P.underlying kt = some .string) (b : Bool) (s : ByteArray) (w : World) : (Instr.checkKey b 10000 kt (.string s)).run P w = .ok () w :=
  checkKey_str h b s w 9999
theorem modify_set (xs : List MapEntry) (j : Nat) (f : MapEntry → MapEntry) (hj : j < xs.length) : xs.toArray.modify j f = (xs.set j (f xs[j])).toArray := by
  apply Array.ext
  · simp
  · intro i h1 h2
    simp [Array.getElem_modify, List.getElem_set]
    split <;> simp_all
theorem sameBits_str (s : ByteArray) (n : Nat) : Instr.sameBits n (.string s) (.string s) = true := by
  unfold Instr.sameBits; simp [ba_beq]
theorem run_getObj_map {r : Nat} {es : Array MapEntry} {c : Nat} (h : w.heap[r]? = some (.map es c)) : (getObj r).run P w = .ok (.map es c) w := by
  simp [getObj, Sem.run, h]

theorem evalLookup_sound (hI : Inv B σ κ w) {t : TypeId} {m k d : DVal} {mv kv : Value} {ok : Bool} (hm : Rep1 σ κ w m mv) (hk : Rep1 σ κ w k kv) (h : evalLookup P t m k ok σ = some d) : ∃ u, (Instr.lookup t mv kv ok).run P w = .ok u w ∧ Rep1 σ κ w d u := by
  simp only [evalLookup, Option.bind_eq_some_iff] at h
  obtain ⟨e, he, z, hz, h⟩ := h
  obtain ⟨kt, hu, hkt⟩ := mapT_spec he
  obtain ⟨zv, hzv, hzr⟩ := zeroV_sound hz
  split at h
  · rename_i o s
    split at h
    · rename_i es hes
      simp only [Option.bind_eq_some_iff] at h
      obtain ⟨r, hr, h⟩ := h
      cases hm with
      | map ho _ =>
        cases hk with
        | f hk _ =>
          have := hk.of_lit.1; subst this
          obtain ⟨xs, clock, hb, hrep, hkeys, hpl⟩ := hI.obj o _ hes
          obtain ⟨q, hq, hmt⟩ := findD_sound s hrep hkeys hr
          cases r with
          | none =>
            cases q with
            | some q => exact hmt.elim
            | none =>
              simp only [Option.some.injEq] at h
              subst h
              cases ok with
              | true => exact ⟨.tuple #[zv, .bool false], by simp [Instr.lookup, run_underlying hu, run_getObj_map hb, checkKey_string hkt, Instr.findKey, run_underlying hkt, hq, hzv], .tup (us := [zv, .bool false]) (RepD.cons (hzr _ _ _) (.f (.mk_lit rfl) .nil)) .nil⟩
              | false => exact ⟨zv, by simp [Instr.lookup, run_underlying hu, run_getObj_map hb, checkKey_string hkt, Instr.findKey, run_underlying hkt, hq, hzv], hzr _ _ _⟩
          | some r =>
            obtain ⟨j, d'⟩ := r
            cases q with
            | none => exact hmt.elim
            | some q =>
              obtain ⟨j', v'⟩ := q
              obtain ⟨_, _, hrv, _⟩ := hmt
              simp only [Option.some.injEq] at h
              subst h
              cases ok with
              | true => exact ⟨.tuple #[v', .bool true], by simp [Instr.lookup, run_underlying hu, run_getObj_map hb, checkKey_string hkt, Instr.findKey, run_underlying hkt, hq], .tup (us := [v', .bool true]) (RepD.cons hrv (.f (.mk_lit rfl) .nil)) .nil⟩
              | false => exact ⟨v', by simp [Instr.lookup, run_underlying hu, run_getObj_map hb, checkKey_string hkt, Instr.findKey, run_underlying hkt, hq], hrv⟩
    · cases h
  · cases h

def evalUpdate (P : Program) (t : TypeId) (m k x : DVal) (σ : St) : Option St :=
  (mapT P t).bind fun e =>
  match m, k with
  | .map o, .f (.lit (.string s)) => match σ.objs[o]? with
    | some (.map es) => (findD s es 0).bind fun r => match r with
      | some (i, _) => some (σ.setOb o (.map (es.set i (.string s, x))))
      | none => some (σ.setOb o (.map (es ++ [(.string s, x)])))
    | _ => none
  | _, _ => none

theorem evalUpdate_sound (hI : Inv B σ κ w) {t : TypeId} {m k x : DVal} {mv kv xv : Value} {σ' : St} (hm : Rep1 σ κ w m mv) (hk : Rep1 σ κ w k kv) (hx : Rep1 σ κ w x xv) (h : evalUpdate P t m k x σ = some σ') :
    ∃ w', (Instr.mapUpdate t mv kv xv).run P w = .ok () w' ∧ Inv B σ' κ w' ∧ Ext B σ κ w σ' κ w' := by
  simp only [evalUpdate, Option.bind_eq_some_iff] at h
  obtain ⟨e, he, h⟩ := h
  obtain ⟨kt, hu, hkt⟩ := mapT_spec he
  split at h
  · rename_i o s
    split at h
    · rename_i es hes
      simp only [Option.bind_eq_some_iff] at h
      obtain ⟨r, hr, h⟩ := h
      cases hm with
      | map ho _ =>
        cases hk with
        | f hk _ =>
          have := hk.of_lit.1; subst this
          obtain ⟨xs, clock, hb, hrep, hkeys, hpl⟩ := hI.obj o _ hes
          obtain ⟨q, hq, hmt⟩ := findD_sound s hrep hkeys hr
          have hlt : κ.ob o < w.heap.size := (hI.objB o ho).2
          have hset : ∀ ob : Obj, (setObj (κ.ob o) ob).run P w = .ok () { w with heap := w.heap.setIfInBounds (κ.ob o) ob } := fun ob => by simp [setObj, Sem.run, hb]
          have hself : ∀ ob : Obj, ({ w with heap := w.heap.setIfInBounds (κ.ob o) ob } : World).heap[κ.ob o]? = some ob := fun ob => by simp [hlt]
          have hoth : ∀ (ob : Obj) b, b ≠ κ.ob o → ({ w with heap := w.heap.setIfInBounds (κ.ob o) ob } : World).heap[b]? = w.heap[b]? := fun ob b hne => by simp [Array.getElem?_setIfInBounds_ne (Ne.symm hne)]
          have hxsl : xs.length = es.length := by have := congrArg List.length hkeys; simpa using this.symm
          cases r with
          | none =>
            cases q with
            | some q => exact hmt.elim
            | none =>
              simp only [Option.some.injEq] at h
              subst h
              refine ⟨_, by simp [Instr.mapUpdate, run_underlying hu, run_getObj_map hb, checkKey_string hkt, Instr.findKey, run_underlying hkt, hq, hset]; rfl, ?_⟩
              refine hI.turn ho _ (hoth _) (by simp) rfl rfl rfl fun ee => ?_
              refine ⟨xs ++ [{ key := .string s, val := xv, born := clock }], clock + 1, ?_, ?_, ?_, ?_⟩
              · rw [hself]
              · simpa using (hrep.ext ee).append (hx.ext ee)
              · simp [hkeys]
              · intro y hy
                rcases List.mem_append.1 hy with hy | hy
                · exact hpl y hy
                · simp at hy; subst hy; rfl
          | some r =>
            obtain ⟨j, d'⟩ := r
            cases q with
            | none => exact hmt.elim
            | some q =>
              obtain ⟨j', v'⟩ := q
              obtain ⟨rfl, _, hrv, y, hy, hyk⟩ := hmt
              simp only [Option.some.injEq] at h
              subst h
              have hjl : j < xs.length := (List.getElem?_eq_some_iff.1 hy).1
              have hxk : xs[j].key = .string s := by
                have : xs[j] = y := by simpa [hjl] using hy
                rw [this, hyk]
              have hkey : ((xs.toArray[j]?).map (·.key)).getD (.string s) = .string s := by simp [hjl, hxk]
              have hsb := sameBits_str s 10000
              refine ⟨_, by
                simp only [Instr.mapUpdate, Sem.run_bind, run_underlying hu, Result.andThen_ok, run_getObj_map hb, checkKey_string hkt, Instr.findKey, run_underlying hkt, List.toList_toArray, hq, Sem.run_pure, hkey, Instr.keyThatStays, hsb, if_true, hset]; rfl, ?_⟩
              refine hI.turn ho _ (hoth _) (by simp) rfl rfl rfl fun ee => ?_
              refine ⟨xs.set j { xs[j] with key := .string s, val := xv }, clock, ?_, ?_, ?_, ?_⟩
              · rw [hself, modify_set xs j _ hjl]
              · have := (hrep.ext ee).set (hx.ext ee) j
                simpa [List.map_set] using this
              · simp [List.map_set, hkeys]
              · intro y hy
                rcases List.mem_or_eq_of_mem_set hy with hy | rfl
                · exact hpl y hy
                · rfl
    · cases h
  · cases h

def evalMakeMap (σ : St) : DVal × St := (.map σ.objs.length, { σ with objs := σ.objs ++ [.map []] })
theorem evalMakeMap_sound (hI : Inv B σ κ w) {t : TypeId} : Does P (Instr.makeMap t none) B σ κ w (evalMakeMap σ).1 (evalMakeMap σ).2 := by
  obtain ⟨hI', hE⟩ := hI.allocMap
  refine ⟨.map (some w.heap.size), _, _, by simp [Instr.makeMap, newObj, Sem.run], hI', hE, ?_⟩
  have := RepD.map (σ := { σ with objs := σ.objs ++ [.map []] }) (κ := κ.setOb σ.objs.length w.heap.size) (w := w.alloc (.map #[] 0)) (o := σ.objs.length) (ds := []) (vs := []) (by simp) .nil
  simpa [Kap.setOb, evalMakeMap] using this
end
end Go.DL
