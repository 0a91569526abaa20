/-
  D-LOGIC, part I: lengths, append, strings' bytes, maps, make.
-/
import Derived.Test.YtgfcgkkcakjodaaDoorEH
set_option linter.unusedVariables false
set_option linter.unusedSimpArgs false
namespace Go.DL
open Go.RowKit

def litInt (n : Int) : DVal := .f (.lit (.int .i64 n))
def litBool (b : Bool) : DVal := .f (.lit (.bool b))
def litStr (s : ByteArray) : DVal := .f (.lit (.string s))

section
variable {P : Program} {B : Nat} {σ : St} {κ : Kap} {w : World}

/-! ### len -/
def evalLen (P : Program) (t : TypeId) (x : DVal) (σ : St) : Option DVal :=
  match x with
  | .f (.lit (.string s)) => match P.underlying t with | some .string => some (litInt s.size) | _ => none
  | _ => (elemT P t).bind fun _ => (listD σ x).map fun l => litInt l.2.length
theorem evalLen_sound (hI : Inv B σ κ w) {t ty : TypeId} {x d : DVal} {v : Value} (hx : Rep1 σ κ w x v) (h : evalLen P t x σ = some d) : ∃ u, (Builtin.len_ #[t] ty #[v]).run P w = .ok u w ∧ Rep1 σ κ w d u := by
  unfold evalLen at h
  split at h
  · rename_i s
    split at h
    · rename_i hu
      cases h
      cases hx with
      | f hx _ =>
        have := hx.of_lit.1; subst this
        exact ⟨.int .i64 s.size, by simp [Builtin.len_, run_underlying hu, goInt], .f (.mk_lit rfl) .nil⟩
    · cases h
  · simp only [elemT, Option.bind_eq_some_iff, Option.map_eq_some_iff] at h
    obtain ⟨e, he, ⟨k, es⟩, hl, rfl⟩ := h
    split at he
    · rename_i e' hu
      obtain ⟨us, A, c, rfl, hr, _⟩ := listD_sound hI hx hl
      refine ⟨.int .i64 us.length, by simp [Builtin.len_, run_underlying hu, goInt], ?_⟩
      rw [hr.length]
      exact .f (.mk_lit rfl) .nil
    · cases he

/-! ### append -/
def byteL (b : UInt8) : FVal := .lit (.int .u8 b.toNat)
def strF (s : ByteArray) : List FVal := s.data.toList.map byteL
theorem strF_rep {S : Addr → Prop} (s : ByteArray) : RepL S w (strF s) (strCells s) := by
  have : ∀ l : List UInt8, RepL S w (l.map byteL) (l.map fun b => Value.int .u8 b.toNat) := fun l => by
    induction l with
    | nil => exact .nil
    | cons b l ih => exact .lit rfl ih
  exact this _
theorem flat_ints (l : List UInt8) : flat (l.map fun b => Value.int .u8 b.toNat) = l.map fun b => Value.int .u8 b.toNat := by
  induction l with
  | nil => rfl
  | cons b l ih => simp only [List.map_cons, flat_cons, ih]; rfl

/-- What is appended: a string, or a slice (made data). -/
def srcD (P : Program) (tx : TypeId) (x : DVal) (σ : St) : Option (Nat × List FVal × St) :=
  match x with
  | .f (.lit (.string s)) => match P.underlying tx with | some .string => some (1, strF s, σ) | _ => none
  | _ => (elemT P tx).bind fun _ => (fz σ x).bind fun r => match r.1 with | .sl k es => some (k, es, r.2) | _ => none
theorem srcD_sound (hI : Inv B σ κ w) {tx : TypeId} {x : DVal} {v : Value} {k : Nat} {es : List FVal} {σ' : St} (hx : Rep1 σ κ w x v) (h : srcD P tx x σ = some (k, es, σ')) :
    ((∃ e2, P.underlying tx = some (.slice e2)) ∨ P.underlying tx = some .string) ∧ ∃ κ' us, Inv B σ' κ' w ∧ Ext B σ κ w σ' κ' w ∧ RepL κ'.S w es us ∧ (∀ u ∈ us, u.cells.size = k) ∧ Src P w k v us.length (flat us) := by
  unfold srcD at h
  split at h
  · rename_i s
    split at h
    · rename_i hu
      simp only [Option.some.injEq, Prod.mk.injEq] at h
      obtain ⟨rfl, rfl, rfl⟩ := h
      cases hx with
      | f hx _ =>
        have := hx.of_lit.1; subst this
        refine ⟨.inr hu, κ, strCells s, hI, Ext.refl _ _ _ _, strF_rep s, fun u hu => ?_, ?_⟩
        · simp only [strCells, List.mem_map] at hu; obtain ⟨b, _, rfl⟩ := hu; rfl
        · have := Src.string (P := P) (w := w) s
          have e1 : flat (strCells s) = strCells s := flat_ints _
          have e2 : (strCells s).length = s.size := by simp [strCells]
          rw [e1, e2]; exact this
    · cases h
  · simp only [elemT, Option.bind_eq_some_iff] at h
    obtain ⟨e, he, ⟨f, σ1⟩, hf, h⟩ := h
    split at he
    · rename_i e' hu
      obtain ⟨κ1, hI1, hE1, hR⟩ := fz_sound hI hx hf
      simp only [] at h
      split at h
      · rename_i k' es'
        simp only [Option.some.injEq, Prod.mk.injEq] at h
        obtain ⟨rfl, rfl, rfl⟩ := h
        obtain ⟨us, A, c, rfl, hr, hc, hks, hA, hcell⟩ := hR.of_sl
        refine ⟨.inl ⟨_, hu⟩, κ1, us, hI1, hE1, hr, hks, Src.slice (flat_length hks) (fun hn => by rw [(hA hn).1]; rfl) fun a ha j u hju => (hcell a ha j u hju).1⟩
      · cases h
    · cases he

def evalAppend0 (P : Program) (t tx : TypeId) (s x : DVal) (σ : St) : Option (DVal × St) :=
  (elemT P t).bind fun e => (P.info? e).bind fun i => i.zero.bind fun z => (srcD P tx x σ).bind fun r =>
  if z.cells.size = i.size ∧ 0 < i.size then
    match r.2.1 with
    | [] => (listD r.2.2 s).map fun _ => (s, r.2.2)
    | _ :: _ =>
      if r.1 = i.size then
        match s with
        | .full k0 es0 => if (k0 = i.size ∨ es0 = []) ∧ (es0.length + r.2.1.length) * i.bytes ≤ 140737488355328 ∧ es0.length + r.2.1.length ≤ 140737488355328 then
            some (.arr r.2.2.arrs.length 0, { r.2.2 with arrs := r.2.2.arrs ++ [⟨e, i.size, es0 ++ r.2.1, 0, 0⟩] }) else none
        | .arr τ g => match r.2.2.arrs[τ]? with
          | some a => if g = a.gen ∧ a.ty = e ∧ a.k = i.size ∧ (a.es.length + r.2.1.length) * i.bytes ≤ 140737488355328 ∧ a.es.length + r.2.1.length ≤ 140737488355328 then
              some (.arr τ (a.gen + 1), r.2.2.setAr τ { a with es := a.es ++ r.2.1, gen := a.gen + 1 }) else none
          | none => none
        | _ => none
      else none
  else none

theorem evalAppend0_sound (hI : Inv B σ κ w) {t tx ty : TypeId} {s x d : DVal} {sv xv : Value} {σ' : St} (hs : Rep1 σ κ w s sv) (hx : Rep1 σ κ w x xv) (h : evalAppend0 P t tx s x σ = some (d, σ')) : Does P (Builtin.append_ #[t, tx] ty #[sv, xv]) B σ κ w d σ' := by
  simp only [evalAppend0, elemT, Option.bind_eq_some_iff] at h
  obtain ⟨e, he, i, hi, z, hz, ⟨k1, es1, σ1⟩, hsrc, h⟩ := h
  split at he
  · rename_i e' hu
    simp only [Option.some.injEq] at he; subst he
    obtain ⟨htx, κ1, us1, hI1, hE1, hr1, hk1, hSrc⟩ := srcD_sound hI hx hsrc
    have hs1 := hs.ext hE1
    split at h
    · rename_i hzz
      obtain ⟨hzs, h0⟩ := hzz
      simp only [] at h
      split at h
      · -- nothing is appended
        simp only [Option.map_eq_some_iff, Prod.mk.injEq] at h
        obtain ⟨⟨k0, es0⟩, hl, rfl, rfl⟩ := h
        obtain ⟨us, A, c, rfl, _, hc, _⟩ := listD_sound hI1 hs1 hl
        have : us1 = [] := List.eq_nil_of_length_eq_zero (by rw [hr1.length]; rfl)
        subst this
        have hSrc' : Src P w i.size xv 0 [] := by
          refine ⟨hSrc.len, fun w' hw => ?_, by simp⟩
          cases xv with
          | slice A' n' c' => cases A' <;> simp [Builtin.firstCells, loadCells, loadCellsFrom]
          | string s' => simp [Builtin.firstCells]
          | _ => have := hSrc.cells w' hw; simp [Builtin.firstCells, stuck, Sem.run] at this
        have := run_app_zero (P := P) (w := w) t tx ty e' i hu hi htx A us.length c hc xv hSrc'
        exact ⟨_, w, κ1, this, hI1, hE1, hs1⟩
      · rename_i e1 r1
        split at h
        · rename_i hkk
          subst hkk
          have hpos : 0 < us1.length := by rw [hr1.length]; simp
          have hlen1 : us1.length = (e1 :: r1).length := hr1.length
          split at h
          · rename_i k0 es0
            split at h
            · rename_i hc
              obtain ⟨hk0, hb, hb1⟩ := hc
              simp only [Option.some.injEq, Prod.mk.injEq] at h
              obtain ⟨rfl, rfl⟩ := h
              have key : ∃ (A : Option Addr) (us0 : List Value), sv = .slice A us0.length us0.length ∧ RepL κ1.S w es0 us0 ∧ (∀ u ∈ us0, u.cells.size = i.size) ∧ Src P w i.size (.slice A us0.length us0.length) us0.length (flat us0) := by
                cases hs1 with
                | fnil _ => exact ⟨none, [], rfl, .nil, by simp, Src.slice (by simp [flat]) (fun _ => rfl) fun a ha => by cases ha⟩
                | full r hk hm ht0 =>
                  rename_i us a
                  have hk' : ∀ u ∈ us, u.cells.size = i.size := by
                    rcases hk0 with hk0 | hk0
                    · rw [← hk0]; exact hk
                    · subst hk0; have := r.nil_inv; subst this; simp
                  exact ⟨some a, us, rfl, r, hk', Src.slice (flat_length hk') (fun hn => by cases hn) fun a' ha j u hju => by cases ha; exact (hm j u hju).1⟩
              obtain ⟨A, us0, rfl, hr0, hk0', hold⟩ := key
              have hl0 := hr0.length
              obtain ⟨v, w', κ', hrun, hI2, hE2, hR2⟩ := hI1.append_new t tx ty e' i z hu hi hz hzs h0 htx hr0 hk0' hold xv hr1 hk1 hSrc hpos (by rw [hl0, hlen1]; exact hb) (by rw [hl0, hlen1]; exact hb1)
              exact ⟨v, w', κ', hrun, hI2, hE1.trans hE2, hR2⟩
            · cases h
          · rename_i τ g
            split at h
            · rename_i a ha
              split at h
              · rename_i hc
                obtain ⟨hg, hty, hak, hb, hb1⟩ := hc
                simp only [Option.some.injEq, Prod.mk.injEq] at h
                obtain ⟨rfl, rfl⟩ := h
                have hsv : sv = κ1.av τ := by
                  cases hs1 with
                  | arr hx _ => exact (hx.form hI1 a ha hg).1
                subst hsv
                obtain ⟨v, w', κ', hrun, hI2, hE2, hR2⟩ := hI1.append_arr t tx ty e' i z hu hi hz hzs h0 htx ha hty hak xv hr1 hk1 hSrc (by rw [hlen1]; exact hb) (by rw [hlen1]; exact hb1)
                exact ⟨v, w', κ', hrun, hI2, hE1.trans hE2, hR2⟩
              · cases h
            · cases h
          · cases h
        · cases h
    · cases h
  · cases he

/-! ### A byte of a string; a string of bytes -/
def byteAt (s : ByteArray) (i : Int) : Int := ((s.data.toList[i.toNat]?).getD 0).toNat
def evalIndexS (P : Program) (t : TypeId) (x ix : DVal) : Option DVal :=
  match x, P.underlying t with
  | .f (.lit (.string s)), some .string => (intOfD ix).bind fun i => if 0 ≤ i ∧ i < s.size then some (.f (.lit (.int .u8 (byteAt s i)))) else none
  | _, _ => none
theorem evalIndexS_sound {t : TypeId} {x ix d : DVal} {v iv : Value} (hx : Rep1 σ κ w x v) (hix : Rep1 σ κ w ix iv) (h : evalIndexS P t x ix = some d) : ∃ u, (Instr.index t v iv).run P w = .ok u w ∧ Rep1 σ κ w d u := by
  unfold evalIndexS at h
  split at h
  · rename_i s hu
    simp only [Option.bind_eq_some_iff] at h
    obtain ⟨i, hi, h⟩ := h
    split at h
    · rename_i hc
      cases h
      obtain ⟨q, rfl⟩ := intOfD_sound hix hi
      cases hx with
      | f hx _ =>
        have := hx.of_lit.1; subst this
        refine ⟨.int .u8 (byteAt s i), ?_, .f (.mk_lit rfl) .nil⟩
        have hl : i.toNat < s.size := by omega
        have hb : s[i.toNat]? = some s[i.toNat] := by simp [hl]
        have hb2 : s.data.toList[i.toNat]? = some s[i.toNat] := by
          rw [Array.getElem?_toList]
          have : i.toNat < s.data.size := hl
          rw [Array.getElem?_eq_getElem this]; rfl
        simp [Instr.index, asIntOf, run_underlying hu, hc.1, hb, byteAt, hb2]
    · cases h
  · cases h

def bytesF : List FVal → Option (List UInt8)
  | [] => some []
  | .lit (.int .u8 n) :: r => if 0 ≤ n ∧ n ≤ 255 then (bytesF r).map (n.toNat.toUInt8 :: ·) else none
  | _ => none

/-! ### Tuples -/
def evalExtract (x : DVal) (i : Nat) : Option DVal := match x with | .tup vs => vs[i]? | _ => none
theorem evalExtract_sound {x d : DVal} {i : Nat} {v : Value} (hx : Rep1 σ κ w x v) (h : evalExtract x i = some d) : ∃ u, (Instr.extract v i).run P w = .ok u w ∧ Rep1 σ κ w d u := by
  unfold evalExtract at h
  split at h
  · cases hx with
    | tup r _ =>
      obtain ⟨u, hu, hru⟩ := r.get h
      exact ⟨u, by simp [Instr.extract, hu], hru⟩
  · cases h

/-! ### Append, with what it asks of the types in one place -/
def appT (P : Program) (t : TypeId) : Option (TypeId × Nat × Nat) :=
  (elemT P t).bind fun e => (P.info? e).bind fun i => i.zero.bind fun z => if z.cells.size = i.size ∧ 0 < i.size then some (e, i.size, i.bytes) else none
def evalAppend (P : Program) (t tx : TypeId) (s x : DVal) (σ : St) : Option (DVal × St) :=
  (appT P t).bind fun q => (srcD P tx x σ).bind fun r => match r.2.1 with
    | [] => (listD r.2.2 s).map fun _ => (s, r.2.2)
    | _ :: _ => if r.1 = q.2.1 then
        match s with
        | .full k0 es0 => if (k0 = q.2.1 ∨ es0 = []) ∧ (es0.length + r.2.1.length) * q.2.2 ≤ 140737488355328 ∧ es0.length + r.2.1.length ≤ 140737488355328 then
            some (.arr r.2.2.arrs.length 0, { r.2.2 with arrs := r.2.2.arrs ++ [⟨q.1, q.2.1, es0 ++ r.2.1, 0, 0⟩] }) else none
        | .arr τ g => match r.2.2.arrs[τ]? with
          | some a => if g = a.gen ∧ a.ty = q.1 ∧ a.k = q.2.1 ∧ (a.es.length + r.2.1.length) * q.2.2 ≤ 140737488355328 ∧ a.es.length + r.2.1.length ≤ 140737488355328 then
              some (.arr τ (a.gen + 1), r.2.2.setAr τ { a with es := a.es ++ r.2.1, gen := a.gen + 1 }) else none
          | none => none
        | _ => none
      else none
theorem evalAppend_sound (hI : Inv B σ κ w) {t tx ty : TypeId} {s x d : DVal} {sv xv : Value} {σ' : St} (hs : Rep1 σ κ w s sv) (hx : Rep1 σ κ w x xv) (h : evalAppend P t tx s x σ = some (d, σ')) : Does P (Builtin.append_ #[t, tx] ty #[sv, xv]) B σ κ w d σ' := by
  refine evalAppend0_sound hI hs hx ?_
  unfold evalAppend at h
  simp only [Option.bind_eq_some_iff] at h
  obtain ⟨⟨e, sz, by_⟩, ha, r, hr, h⟩ := h
  unfold appT at ha
  simp only [Option.bind_eq_some_iff] at ha
  obtain ⟨e', he, i, hi, z, hz, ha⟩ := ha
  split at ha
  · rename_i hc
    simp only [Option.some.injEq, Prod.mk.injEq] at ha
    obtain ⟨rfl, rfl, rfl⟩ := ha
    unfold evalAppend0
    simp only [he, hi, hz, hr, Option.bind_some, if_pos hc]
    exact h
  · cases ha
end
end Go.DL
