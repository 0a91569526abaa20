/-
  D-LOGIC, part C: growing arrays; append.
-/
import Derived.Test.YtgfcgkkcakjodaaDoorEB
set_option linter.unusedVariables false
set_option linter.unusedSimpArgs false
namespace Go.DL
open Go.RowKit

section
variable {B : Nat} {σ : St} {κ : Kap} {w w' : World}

def St.setAr (σ : St) (t : Nat) (a : Ar) : St := { σ with arrs := σ.arrs.set t a }

/-- A block that nobody names yet becomes a growing array. -/
theorem Inv.arr_new (h : Inv B σ κ w) (b : Nat) (v : Value) (a : Ar) {us : List Value} (hlt : b < w.heap.size) (hS : ∀ p, κ.S p → p.block ≠ b) (hO : ∀ i, i < σ.objs.length → κ.ob i ≠ b) (hA : ∀ i, i < σ.arrs.length → κ.ab i ≠ b)
    (hT : ∀ b', κ.T b' → b' ≠ b) (hr : RepL κ.S w a.es us) (hk : ∀ u ∈ us, u.cells.size = a.k) (hown : w.ownsRow B a.ty a.k v us.length (flat us)) (hv : v.ownBlock = some b) (hfl : a.floor ≤ a.es.length) :
    Inv B { σ with arrs := σ.arrs ++ [a] } (κ.setAr σ.arrs.length b v) w ∧ Ext B σ κ w { σ with arrs := σ.arrs ++ [a] } (κ.setAr σ.arrs.length b v) w := by
  have hab : ∀ i, i < σ.arrs.length → (κ.setAr σ.arrs.length b v).ab i = κ.ab i := fun i hi => by simp [Kap.setAr, Nat.ne_of_lt hi]
  have hav : ∀ i, i < σ.arrs.length → (κ.setAr σ.arrs.length b v).av i = κ.av i := fun i hi => by simp [Kap.setAr, Nat.ne_of_lt hi]
  have habn : (κ.setAr σ.arrs.length b v).ab σ.arrs.length = b := by simp [Kap.setAr]
  have havn : (κ.setAr σ.arrs.length b v).av σ.arrs.length = v := by simp [Kap.setAr]
  have e : Ext B σ κ w { σ with arrs := σ.arrs ++ [a] } (κ.setAr σ.arrs.length b v) w :=
    ⟨Nat.le_refl _, fun i hi => rfl, fun t x hx => by
      have ht : t < σ.arrs.length := (List.getElem?_eq_some_iff.1 hx).1
      exact ⟨x, by simpa [List.getElem?_append_left ht] using hx, Nat.le_refl _, fun _ => ⟨hav t ht, hab t ht, rfl⟩⟩, fun _ hp => hp, fun _ _ => rfl, Below.refl _ _, fun _ h => h, fun _ _ => rfl⟩
  have hcase : ∀ i, i < (σ.arrs ++ [a]).length → i < σ.arrs.length ∨ i = σ.arrs.length := fun i hi => by simp at hi; omega
  refine ⟨⟨h.base, fun i x hx => (h.obj i x hx).keep e rfl, h.objB, fun t x hx => ?_, h.injO, fun i j hi hj hij => ?_, fun i j hi hj => ?_, h.sObj, fun p hp t x hx hpt => ?_, h.sLt, fun t x hx => ?_, h.old, h.tLt, h.tObj, fun b' hb' i hi => ?_⟩, e⟩
  · rcases hcase t (List.getElem?_eq_some_iff.1 hx).1 with ht | rfl
    · have hx' : σ.arrs[t]? = some x := by simpa [List.getElem?_append_left ht] using hx
      exact (h.arr t x hx').keep (fun _ hp => hp) (fun _ _ => rfl) (hav t ht) (hab t ht) rfl
    · have hx' : a = x := by simpa using hx
      subst hx'
      exact ⟨us, hr, hk, by rw [havn]; exact hown, by rw [havn, habn]; exact hv⟩
  · rcases hcase i hi with hi | rfl <;> rcases hcase j hj with hj | rfl
    · rw [hab i hi, hab j hj] at hij; exact h.injA i j hi hj hij
    · rw [hab i hi, habn] at hij; exact absurd hij (hA i hi)
    · rw [hab j hj, habn] at hij; exact absurd hij.symm (hA j hj)
    · rfl
  · rcases hcase j hj with hj | rfl
    · rw [hab j hj]; exact h.disj i j hi hj
    · rw [habn]; exact hO i hi
  · rcases hcase t (List.getElem?_eq_some_iff.1 hx).1 with ht | rfl
    · have hx' : σ.arrs[t]? = some x := by simpa [List.getElem?_append_left ht] using hx
      rw [hab t ht] at hpt
      exact h.sArr p hp t x hx' hpt
    · rw [habn] at hpt; exact absurd hpt (hS p hp)
  · rcases hcase t (List.getElem?_eq_some_iff.1 hx).1 with ht | rfl
    · exact h.fl t x (by simpa [List.getElem?_append_left ht] using hx)
    · have hx' : a = x := by simpa using hx
      subst hx'; exact hfl
  · rcases hcase i hi with hi | rfl
    · rw [hab i hi]; exact h.tArr b' hb' i hi
    · rw [habn]; exact hT b' hb'

/-- An array is turned: longer, perhaps elsewhere; all other blocks stay; so do the cells that are to stay. -/
theorem Inv.arr_set (h : Inv B σ κ w) {t : Nat} {a : Ar} (ht : σ.arrs[t]? = some a) (a' : Ar) (b : Nat) (v : Value) {us : List Value} (hsz : w.heap.size ≤ w'.heap.size) (hos : w'.os = w.os) (htape : w'.tape = w.tape) (hout : w'.output = w.output)
    (hblk : ∀ x, x < w.heap.size → x ≠ κ.ab t → w'.heap[x]? = w.heap[x]?) (hc : ∀ p, κ.S p → w'.cell? p = w.cell? p) (hb : b = κ.ab t ∨ (w.heap.size ≤ b ∧ b < w'.heap.size))
    (hgen : a.gen ≤ a'.gen) (hsame : a.gen = a'.gen → v = κ.av t ∧ b = κ.ab t ∧ a'.k = a.k) (hfl : b = κ.ab t → a.floor * a.k ≤ a'.floor * a'.k)
    (hr : RepL κ.S w' a'.es us) (hk : ∀ u ∈ us, u.cells.size = a'.k) (hown : w'.ownsRow B a'.ty a'.k v us.length (flat us)) (hv : v.ownBlock = some b) (hfe : a'.floor ≤ a'.es.length) :
    Inv B (σ.setAr t a') (κ.setAr t b v) w' ∧ Ext B σ κ w (σ.setAr t a') (κ.setAr t b v) w' := by
  have htl : t < σ.arrs.length := (List.getElem?_eq_some_iff.1 ht).1
  have hab : ∀ i, i ≠ t → (κ.setAr t b v).ab i = κ.ab i := fun i hi => by simp [Kap.setAr, hi]
  have hav : ∀ i, i ≠ t → (κ.setAr t b v).av i = κ.av i := fun i hi => by simp [Kap.setAr, hi]
  have habt : (κ.setAr t b v).ab t = b := by simp [Kap.setAr]
  have havt : (κ.setAr t b v).av t = v := by simp [Kap.setAr]
  have hlen : (σ.setAr t a').arrs.length = σ.arrs.length := by simp [St.setAr]
  have hget : ∀ i, i ≠ t → (σ.setAr t a').arrs[i]? = σ.arrs[i]? := fun i hi => by simp [St.setAr, List.getElem?_set, Ne.symm hi]
  have hgett : (σ.setAr t a').arrs[t]? = some a' := by simp [St.setAr, htl]
  have htlt := (h.arr t a ht).lt
  have e : Ext B σ κ w (σ.setAr t a') (κ.setAr t b v) w' := by
    refine ⟨Nat.le_refl _, fun _ _ => rfl, fun i x hx => ?_, fun _ hp => hp, hc, ⟨hos, htape, hout, hsz, fun k hk => hblk k (by have := h.base; omega) (by omega)⟩, fun _ h => h, fun b' hb' => hblk b' (h.tLt b' hb') (h.tArr b' hb' t htl)⟩
    by_cases hi : i = t
    · subst hi
      have : x = a := by rw [ht] at hx; exact (Option.some.inj hx).symm
      subst this
      refine ⟨a', hgett, hgen, fun eg => ?_⟩
      obtain ⟨e1, e2, e3⟩ := hsame eg
      exact ⟨by rw [havt, e1], by rw [habt, e2], e3⟩
    · exact ⟨x, by rw [hget i hi]; exact hx, Nat.le_refl _, fun _ => ⟨hav i hi, hab i hi, rfl⟩⟩
  refine ⟨⟨Nat.le_trans h.base hsz, fun i x hx => ?_, fun i hi => ⟨(h.objB i hi).1, Nat.lt_of_lt_of_le (h.objB i hi).2 hsz⟩, fun i x hx => ?_, h.injO, fun i j hi hj hij => ?_, fun i j hi hj => ?_, h.sObj, fun p hp i x hx hpt => ?_, fun p hp => Nat.lt_of_lt_of_le (h.sLt p hp) hsz, fun i x hx => ?_, h.old, fun b' hb' => Nat.lt_of_lt_of_le (h.tLt b' hb') hsz, h.tObj, fun b' hb' i hi => ?_⟩, e⟩
  · have hi : i < σ.objs.length := (List.getElem?_eq_some_iff.1 hx).1
    exact (h.obj i x hx).keep e (hblk _ (h.objB i hi).2 (h.disj i t hi htl))
  · by_cases hi : i = t
    · subst hi
      have : a' = x := by rw [hgett] at hx; exact Option.some.inj hx
      subst this
      exact ⟨us, hr, hk, by rw [havt]; exact hown, by rw [havt, habt]; exact hv⟩
    · rw [hget i hi] at hx
      have hil : i < σ.arrs.length := (List.getElem?_eq_some_iff.1 hx).1
      have := h.arr i x hx
      exact this.keep (fun _ hp => hp) hc (hav i hi) (hab i hi) (hblk _ this.lt.1 fun he => hi (h.injA i t hil htl he))
  · rw [hlen] at hi hj
    by_cases hit : i = t <;> by_cases hjt : j = t
    · omega
    · subst hit; rw [habt, hab j hjt] at hij
      obtain ⟨y, hy⟩ : ∃ y, σ.arrs[j]? = some y := ⟨_, List.getElem?_eq_getElem hj⟩
      have hyl := (h.arr j y hy).lt.1
      rcases hb with hb | hb
      · exact h.injA i j hi hj (by omega)
      · omega
    · subst hjt; rw [habt, hab i hit] at hij
      obtain ⟨y, hy⟩ : ∃ y, σ.arrs[i]? = some y := ⟨_, List.getElem?_eq_getElem hi⟩
      have hyl := (h.arr i y hy).lt.1
      rcases hb with hb | hb
      · exact h.injA i j hi hj (by omega)
      · omega
    · rw [hab i hit, hab j hjt] at hij; exact h.injA i j hi hj hij
  · rw [hlen] at hj
    have hol := (h.objB i hi).2
    by_cases hjt : j = t
    · subst hjt; rw [habt]
      rcases hb with hb | hb
      · rw [hb]; exact h.disj i j hi hj
      · show κ.ob i ≠ b
        omega
    · rw [hab j hjt]; exact h.disj i j hi hj
  · have hpl := h.sLt p hp
    by_cases hi : i = t
    · subst hi
      have : a' = x := by rw [hgett] at hx; exact Option.some.inj hx
      subst this
      rw [habt] at hpt
      rcases hb with hb | hb
      · exact Nat.lt_of_lt_of_le (h.sArr p hp i a ht (by omega)) (hfl hb)
      · omega
    · rw [hget i hi] at hx
      rw [hab i hi] at hpt
      exact h.sArr p hp i x hx hpt
  · by_cases hi : i = t
    · subst hi
      have : a' = x := by rw [hgett] at hx; exact Option.some.inj hx
      subst this; exact hfe
    · rw [hget i hi] at hx; exact h.fl i x hx
  · rw [hlen] at hi
    by_cases hit : i = t
    · subst hit; rw [habt]
      rcases hb with hb | hb
      · rw [hb]; exact h.tArr b' hb' i hi
      · have := h.tLt b' hb'; omega
    · rw [hab i hit]; exact h.tArr b' hb' i hi

theorem flat_one {S : Addr → Prop} {es : List FVal} {us : List Value} (h : RepL S w es us) : ∀ u ∈ flat us, u.oneCell' = true := by
  induction es generalizing us with
  | nil => have := h.nil_inv; subst this; intro u hu; simp [flat] at hu
  | cons e es ih =>
    obtain ⟨v, vs, rfl, h0, ht⟩ := h.cons_inv
    intro u hu
    rw [flat_cons, List.mem_append] at hu
    rcases hu with hu | hu
    · cases e with
      | agg cs =>
        obtain ⟨xs, rfl, _, h1⟩ := h0.of_agg
        exact h1 u (by simpa [Value.cells] using hu)
      | lit x =>
        have h1 := h0.one (by intro cs hc; cases hc)
        cases v <;> simp_all [Value.cells, Value.oneCell']
      | sl k xs =>
        have h1 := h0.one (by intro cs hc; cases hc)
        cases v <;> simp_all [Value.cells, Value.oneCell']
    · exact ih ht u hu
end

/-! ### append: the source -/
structure Src (P : Program) (w : World) (size : Nat) (x : Value) (m : Nat) (news : List Value) : Prop where
  len : ∀ w', (Builtin.lenOf x).run P w' = .ok m w'
  cells : ∀ w', w'.heap = w.heap → (Builtin.firstCells size m x).run P w' = .ok news.toArray w'
  length : news.length = m * size

section
variable {P : Program} {w : World}
theorem cell_heap {w w' : World} (h : w'.heap = w.heap) (p : Addr) : w'.cell? p = w.cell? p := by simp [World.cell?, h]
theorem Src.slice {size m c : Nat} {A : Option Addr} {news : List Value} (hl : news.length = m * size) (h0 : A = none → news = []) (h : ∀ a, A = some a → ∀ j u, news[j]? = some u → w.cell? (a.add j) = some u) : Src P w size (.slice A m c) m news := by
  refine ⟨fun w' => rfl, fun w' hw => ?_, hl⟩
  cases A with
  | none => have := h0 rfl; subst this; exact run_firstCells_none _ _ _ _ _
  | some a => exact run_firstCells_some _ _ _ _ _ _ _ hl fun j v hv => (cell_heap hw _).trans (h a rfl j v hv)
def strCells (s : ByteArray) : List Value := s.data.toList.map fun b => .int .u8 b.toNat
theorem Src.string (s : ByteArray) : Src P w 1 (.string s) s.size (strCells s) := by
  refine ⟨fun w' => rfl, fun w' _ => ?_, by simp [strCells]⟩
  simp only [Builtin.firstCells, Sem.run_pure, strCells]
  congr 1
  have : s.extract 0 s.size = s := by simp
  rw [this]
  apply Array.ext'
  simp

variable (t tx ty e : TypeId) (i : TypeInfo) (z : Value) (k bytes : Nat)

theorem run_app_zero (ht : P.underlying t = some (.slice e)) (hi : P.info? e = some i) (htx : (∃ e2, P.underlying tx = some (.slice e2)) ∨ P.underlying tx = some .string)
    (A : Option Addr) (n c : Nat) (hnc : n ≤ c) (x : Value) (hx : Src P w i.size x 0 []) : (Builtin.append_ #[t, tx] ty #[.slice A n c, x]).run P w = .ok (.slice A n c) w := by
  have hxc := hx.cells w rfl
  rcases htx with ⟨e2, htx⟩ | htx <;> cases A <;> simp [Builtin.append_, run_underlying ht, run_underlying htx, sizeOf, typeInfo, hi, hx.len, hnc, hxc, Go.storeCells]

theorem run_app_room (ht : P.underlying t = some (.slice e)) (hi : P.info? e = some i) (htx : (∃ e2, P.underlying tx = some (.slice e2)) ∨ P.underlying tx = some .string)
    (g n c : Nat) (cur : Array Value) (hg : w.heap[g]? = some (.cells cur e (0, 0))) (x : Value) (m : Nat) (news : List Value) (hx : Src P w i.size x m news) (h1 : ∀ u ∈ news, u.oneCell' = true)
    (hroom : n + m ≤ c) (hfit : n * i.size + news.length ≤ cur.size) :
    (Builtin.append_ #[t, tx] ty #[.slice (some ⟨g, 0, none⟩) n c, x]).run P w =
      .ok (.slice (some ⟨g, 0, none⟩) (n + m) c) (w.setRow g (cur.toList.take (n * i.size) ++ news ++ cur.toList.drop (n * i.size + news.length)).toArray) := by
  have hxc := hx.cells w rfl
  have hst := run_storeCells_at P g (n * i.size) e news 0 cur w hg (by simpa using hfit) h1
  simp only [Nat.add_zero] at hst
  rcases htx with ⟨e2, htx⟩ | htx <;> simp [Builtin.append_, run_underlying ht, run_underlying htx, sizeOf, typeInfo, hi, hx.len, hroom, hxc, Addr.add_lit, hst]

theorem run_app_grow (ht : P.underlying t = some (.slice e)) (hi : P.info? e = some i) (hz : i.zero = some z) (htx : (∃ e2, P.underlying tx = some (.slice e2)) ∨ P.underlying tx = some .string)
    (A : Option Addr) (n c : Nat) (olds : List Value) (hold : Src P w i.size (.slice A n c) n olds) (x : Value) (m : Nat) (news : List Value) (hx : Src P w i.size x m news)
    (hg : c < n + m) (h63 : ((n + m : Nat) : Int) ≤ 9223372036854775807) (hfit : Builtin.nextslicecap (n + m) c * i.bytes ≤ 281474976710656) :
    (Builtin.append_ #[t, tx] ty #[.slice A n c, x]).run P w =
      .ok (.slice (some ⟨w.heap.size, 0, none⟩) (n + m) (grownCap w (n + m) c e))
        (w.drew.alloc (.cells (olds ++ news ++ (Builtin.zeroCells z.cells (grownCap w (n + m) c e - (n + m))).toList).toArray e)) := by
  have hn : ¬ (n + m ≤ c) := by omega
  have h63' : ¬ (9223372036854775807 < ((n : Int) + (m : Int))) := by omega
  have h48' : ¬ (281474976710656 < Builtin.nextslicecap (n + m) c * i.bytes) := by omega
  have hxc := hx.cells w.drew rfl
  have hoc := hold.cells w.drew rfl
  rcases htx with ⟨e2, htx⟩ | htx <;> simp [Builtin.append_, run_underlying ht, run_underlying htx, sizeOf, typeInfo, zeroValue, hi, hz, hx.len, hn, h63', h48', Question.forced, hxc, hoc, newRow, grownCap] <;>
    (congr 2; apply Array.ext'; simp)
end

/-! ### append: the step of the state -/
section
variable {P : Program} {B : Nat} {σ : St} {κ : Kap} {w : World}

/-- What grows onto nothing, or onto a full slice, becomes an array of the state. -/
theorem Inv.append_new (h : Inv B σ κ w) (t tx ty e : TypeId) (i : TypeInfo) (z : Value) (ht : P.underlying t = some (.slice e)) (hi : P.info? e = some i) (hz : i.zero = some z) (hzs : z.cells.size = i.size) (h0 : 0 < i.size)
    (htx : (∃ e2, P.underlying tx = some (.slice e2)) ∨ P.underlying tx = some .string)
    {A : Option Addr} {es0 es1 : List FVal} {us0 us1 : List Value} (hr0 : RepL κ.S w es0 us0) (hk0 : ∀ u ∈ us0, u.cells.size = i.size) (hold : Src P w i.size (.slice A us0.length us0.length) us0.length (flat us0))
    (x : Value) (hr1 : RepL κ.S w es1 us1) (hk1 : ∀ u ∈ us1, u.cells.size = i.size) (hx : Src P w i.size x us1.length (flat us1)) (hm : 0 < us1.length) (hb : (us0.length + us1.length) * i.bytes ≤ 140737488355328) (hb1 : us0.length + us1.length ≤ 140737488355328) :
    ∃ v w' κ', (Builtin.append_ #[t, tx] ty #[.slice A us0.length us0.length, x]).run P w = .ok v w' ∧
      Inv B { σ with arrs := σ.arrs ++ [⟨e, i.size, es0 ++ es1, 0, 0⟩] } κ' w' ∧ Ext B σ κ w { σ with arrs := σ.arrs ++ [⟨e, i.size, es0 ++ es1, 0, 0⟩] } κ' w' ∧
      Rep1 { σ with arrs := σ.arrs ++ [⟨e, i.size, es0 ++ es1, 0, 0⟩] } κ' w' (.arr σ.arrs.length 0) v := by
  have hrun := run_app_grow (P := P) (w := w) t tx ty e i z ht hi hz htx A us0.length us0.length (flat us0) hold x us1.length (flat us1) hx (by omega) (by omega) (growslice_fits (by omega) hb)
  have hcap : grownCap w (us0.length + us1.length) us0.length e ≤ maxLen := grownCap_le_maxLen _ _ _ _ (by simp only [maxLen]; omega)
  have hcap2 : us0.length + us1.length ≤ grownCap w (us0.length + us1.length) us0.length e := by
    simp only [grownCap, Question.cut]; omega
  generalize hc : grownCap w (us0.length + us1.length) us0.length e = c at *
  generalize ho : Obj.cells (flat us0 ++ flat us1 ++ (Builtin.zeroCells z.cells (c - (us0.length + us1.length))).toList).toArray e = o at *
  obtain ⟨h', ext⟩ := h.grow_same (w' := w.drew.alloc o) ((Below.refl _ _).drew.alloc (Nat.le_refl _) o)
  have hnew : (w.drew.alloc o).heap[w.heap.size]? = some o := heap_alloc_new _ _
  have hrep : RepL κ.S (w.drew.alloc o) (es0 ++ es1) (us0 ++ us1) := (hr0.append hr1).ext ext.S ext.cell
  have hkk : ∀ u ∈ us0 ++ us1, u.cells.size = i.size := fun u hu => by
    rcases List.mem_append.1 hu with hu | hu
    · exact hk0 u hu
    · exact hk1 u hu
  have hl0 := flat_length hk0
  have hl1 := flat_length hk1
  have hown : (w.drew.alloc o).ownsRow B e i.size (.slice (some ⟨w.heap.size, 0, none⟩) (us0.length + us1.length) c) (us0 ++ us1).length (flat (us0 ++ us1)) := by
    refine ⟨flat_length hkk, .inr ⟨w.heap.size, c, (flat us0 ++ flat us1 ++ (Builtin.zeroCells z.cells (c - (us0.length + us1.length))).toList).toArray, by rw [List.length_append], h.base, by rw [hnew, ← ho], by rw [List.length_append]; omega, hcap, ?_, ?_⟩⟩
    · simp only [List.size_toArray, List.length_append, hl0, hl1, Array.length_toList, size_zeroCells, hzs]
      rw [← Nat.add_mul, ← Nat.add_mul]; congr 1; omega
    · rw [flat_append]
      have : (us0 ++ us1).length * i.size = (flat us0 ++ flat us1).length := by simp only [List.length_append, hl0, hl1, Nat.add_mul]
      rw [this]; simp only []; rw [List.take_left]
  obtain ⟨h'', e'⟩ := h'.arr_new w.heap.size (.slice (some ⟨w.heap.size, 0, none⟩) (us0.length + us1.length) c) ⟨e, i.size, es0 ++ es1, 0, 0⟩ (by simp) (fun p hp => Nat.ne_of_lt (h.sLt p hp)) (fun j hj => Nat.ne_of_lt (h.objB j hj).2) (fun j hj => by
      obtain ⟨y, hy⟩ : ∃ y, σ.arrs[j]? = some y := ⟨_, List.getElem?_eq_getElem hj⟩
      exact Nat.ne_of_lt (h.arr j y hy).lt.1) (fun b' hb' => Nat.ne_of_lt (h.tLt b' hb')) hrep hkk hown rfl (Nat.zero_le _)
  refine ⟨_, _, _, hrun, h'', ext.trans e', .arr ⟨⟨e, i.size, es0 ++ es1, 0, 0⟩, by simp, Nat.le_refl _, fun _ => ?_⟩ .nil⟩
  simp [Kap.setAr]

/-- What grows onto an array of the state. -/
theorem Inv.append_arr (h : Inv B σ κ w) (t tx ty e : TypeId) (i : TypeInfo) (z : Value) (ht : P.underlying t = some (.slice e)) (hi : P.info? e = some i) (hz : i.zero = some z) (hzs : z.cells.size = i.size) (h0 : 0 < i.size)
    (htx : (∃ e2, P.underlying tx = some (.slice e2)) ∨ P.underlying tx = some .string)
    {τ : Nat} {a : Ar} (hτ : σ.arrs[τ]? = some a) (hty : a.ty = e) (hak : a.k = i.size)
    {es1 : List FVal} {us1 : List Value} (x : Value) (hr1 : RepL κ.S w es1 us1) (hk1 : ∀ u ∈ us1, u.cells.size = i.size) (hx : Src P w i.size x us1.length (flat us1)) (hb : (a.es.length + us1.length) * i.bytes ≤ 140737488355328) (hb1 : a.es.length + us1.length ≤ 140737488355328) :
    ∃ v w' κ', (Builtin.append_ #[t, tx] ty #[κ.av τ, x]).run P w = .ok v w' ∧
      Inv B (σ.setAr τ { a with es := a.es ++ es1, gen := a.gen + 1 }) κ' w' ∧ Ext B σ κ w (σ.setAr τ { a with es := a.es ++ es1, gen := a.gen + 1 }) κ' w' ∧
      Rep1 (σ.setAr τ { a with es := a.es ++ es1, gen := a.gen + 1 }) κ' w' (.arr τ (a.gen + 1)) v := by
  have hτl : τ < σ.arrs.length := (List.getElem?_eq_some_iff.1 hτ).1
  obtain ⟨us, hr, hk, hown, hblk⟩ := h.arr τ a hτ
  have hul := hr.length
  have hfl := h.fl τ a hτ
  have hkk : ∀ u ∈ us ++ us1, u.cells.size = i.size := fun u hu => by
    rcases List.mem_append.1 hu with hu | hu
    · rw [← hak]; exact hk u hu
    · exact hk1 u hu
  have hk' : ∀ u ∈ us, u.cells.size = i.size := fun u hu => by rw [← hak]; exact hk u hu
  have hl0 := flat_length hk'
  have hl1 := flat_length hk1
  rw [hty, hak] at hown
  rcases hown.2 with ⟨hn, _⟩ | ⟨g, cap, cur, hv, hg1, hg2, hg3, hg4, hg5, hg6⟩
  · rw [hn] at hblk; simp [Value.ownBlock] at hblk
  have hgb : g = κ.ab τ := by rw [hv] at hblk; simpa [Value.ownBlock] using hblk
  subst hgb
  have hglt : κ.ab τ < w.heap.size := (Array.getElem?_eq_some_iff.1 hg2).1
  -- the cells that are to stay, in this block
  have hstay : ∀ p, κ.S p → p.block = κ.ab τ → p.off < us.length * i.size := fun p hp hpb => by
    have h1 := h.sArr p hp τ a hτ hpb
    have h2 : a.floor * a.k ≤ us.length * i.size := by rw [hak]; exact Nat.mul_le_mul_right _ (by omega)
    omega
  by_cases hroom : us.length + us1.length ≤ cap
  · have hfit : us.length * i.size + (flat us1).length ≤ cur.size := by rw [hl1, hg5, ← Nat.add_mul]; exact Nat.mul_le_mul_right _ hroom
    have hrun := run_app_room (P := P) (w := w) t tx ty e i ht hi htx (κ.ab τ) us.length cap cur hg2 x us1.length (flat us1) hx (flat_one hr1) hroom hfit
    rw [← hv] at hrun
    generalize hcs : (cur.toList.take (us.length * i.size) ++ flat us1 ++ cur.toList.drop (us.length * i.size + (flat us1).length)).toArray = cs at hrun
    have hcell : ∀ p, κ.S p → (w.setRow (κ.ab τ) cs).cell? p = w.cell? p := fun p hp => by
      by_cases hpb : p.block = κ.ab τ
      · have hpo := hstay p hp hpb
        have hcl : cur.toList.length = cur.size := Array.length_toList
        have hkey : cs[p.off]? = cur[p.off]? := by
          rw [← hcs]
          simp only [List.getElem?_toArray]
          rw [List.append_assoc, List.getElem?_append_left (by rw [List.length_take, hcl]; omega), List.getElem?_take, if_pos hpo, Array.getElem?_toList]
        unfold World.cell?
        rw [hpb, setRow_heap w (κ.ab τ) cur cs e (0, 0) hg2, hg2]
        simp only [hkey]
      · exact World.cell?_of_block (setRow_other _ _ _ _ hpb)
    have hrep : RepL κ.S (w.setRow (κ.ab τ) cs) (a.es ++ es1) (us ++ us1) := (hr.append hr1).ext (fun _ hp => hp) hcell
    obtain ⟨h', e'⟩ := h.arr_set (w' := w.setRow (κ.ab τ) cs) hτ { a with es := a.es ++ es1, gen := a.gen + 1 } (κ.ab τ) (.slice (some ⟨κ.ab τ, 0, none⟩) (us.length + us1.length) cap) (by simp [World.setRow]) rfl rfl rfl
      (fun y _ hy => setRow_other _ _ _ _ hy) hcell (.inl rfl) (by simp) (fun hh => by simp at hh) (fun _ => Nat.le_refl _) hrep (by rw [hak]; exact hkk) (by
        refine ⟨by rw [hak]; exact flat_length hkk, .inr ⟨κ.ab τ, cap, cs, by rw [List.length_append], hg1, by rw [hty]; exact setRow_heap w (κ.ab τ) cur cs e (0, 0) hg2, by rw [List.length_append]; exact hroom, hg4, ?_, ?_⟩⟩
        · rw [← hcs, hak]; simp only [List.size_toArray, List.length_append, List.length_take, List.length_drop, Array.length_toList]; omega
        · rw [← hcs, flat_append, hak]
          have : (us ++ us1).length * i.size = (cur.toList.take (us.length * i.size) ++ flat us1).length := by
            simp only [List.length_append, List.length_take, Array.length_toList, hl1, Nat.add_mul]; omega
          simp only []
          rw [this, List.take_left, hg6]) rfl (by simp only [List.length_append]; omega)
    exact ⟨_, _, _, hrun, h', e', .arr ⟨{ a with es := a.es ++ es1, gen := a.gen + 1 }, by simp [St.setAr, hτl], Nat.le_refl _, fun _ => by simp [Kap.setAr]⟩ .nil⟩
  · have hold : Src P w i.size (.slice (some ⟨κ.ab τ, 0, none⟩) us.length cap) us.length (flat us) := by
      refine Src.slice hl0 (fun hh => by cases hh) (fun b hb j u hu => ?_)
      cases hb
      rw [add_none, Nat.zero_add, cell_of_row _ _ _ _ _ _ hg2, ← Array.getElem?_toList]
      rw [← hg6] at hu
      rw [List.getElem?_take] at hu
      split at hu
      · exact hu
      · cases hu
    have hrun := run_app_grow (P := P) (w := w) t tx ty e i z ht hi hz htx (some ⟨κ.ab τ, 0, none⟩) us.length cap (flat us) hold x us1.length (flat us1) hx (by omega) (by omega) (growslice_fits (by omega) (by rw [hul]; exact hb))
    rw [← hv] at hrun
    have hcap : grownCap w (us.length + us1.length) cap e ≤ maxLen := grownCap_le_maxLen _ _ _ _ (by simp only [maxLen]; omega)
    have hcap2 : us.length + us1.length ≤ grownCap w (us.length + us1.length) cap e := by simp only [grownCap, Question.cut]; omega
    generalize hc : grownCap w (us.length + us1.length) cap e = c at *
    generalize ho : Obj.cells (flat us ++ flat us1 ++ (Builtin.zeroCells z.cells (c - (us.length + us1.length))).toList).toArray e = o at *
    have hbw : Below w.heap.size w (w.drew.alloc o) := (Below.refl _ _).drew.alloc (Nat.le_refl _) o
    have hcell : ∀ p, κ.S p → (w.drew.alloc o).cell? p = w.cell? p := fun p hp => hbw.cell (h.sLt p hp)
    have hnew : (w.drew.alloc o).heap[w.heap.size]? = some o := heap_alloc_new _ _
    have hrep : RepL κ.S (w.drew.alloc o) (a.es ++ es1) (us ++ us1) := (hr.append hr1).ext (fun _ hp => hp) hcell
    obtain ⟨h', e'⟩ := h.arr_set (w' := w.drew.alloc o) hτ { a with es := a.es ++ es1, gen := a.gen + 1 } w.heap.size (.slice (some ⟨w.heap.size, 0, none⟩) (us.length + us1.length) c) hbw.size rfl rfl rfl
      (fun y hy _ => hbw.block y hy) hcell (.inr ⟨Nat.le_refl _, by simp⟩) (by simp) (fun hh => by simp at hh) (fun hh => by omega) hrep (by rw [hak]; exact hkk) (by
        refine ⟨by rw [hak]; exact flat_length hkk, .inr ⟨w.heap.size, c, (flat us ++ flat us1 ++ (Builtin.zeroCells z.cells (c - (us.length + us1.length))).toList).toArray, by rw [List.length_append], h.base, by rw [hnew, ← ho, hty], by rw [List.length_append]; omega, hcap, ?_, ?_⟩⟩
        · rw [hak]; simp only [List.size_toArray, List.length_append, hl0, hl1, Array.length_toList, size_zeroCells, hzs]
          rw [← Nat.add_mul, ← Nat.add_mul]; congr 1; omega
        · rw [flat_append, hak]
          have : (us ++ us1).length * i.size = (flat us ++ flat us1).length := by simp only [List.length_append, hl0, hl1, Nat.add_mul]
          rw [this]; simp only []; rw [List.take_left]) rfl (by simp only [List.length_append]; omega)
    exact ⟨_, _, _, hrun, h', e', .arr ⟨{ a with es := a.es ++ es1, gen := a.gen + 1 }, by simp [St.setAr, hτl], Nat.le_refl _, fun _ => by simp [Kap.setAr]⟩ .nil⟩
end
end Go.DL
