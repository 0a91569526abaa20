/-
  D-LOGIC, part D: freezing, reading and storing elements of arrays; what a value reads as.
-/
import Derived.Test.YtgfcgkkcakjodaaDoorEC
set_option linter.unusedVariables false
set_option linter.unusedSimpArgs false
namespace Go.DL
open Go.RowKit

section
variable {P : Program} {B : Nat} {σ : St} {κ : Kap} {w : World}

theorem Ar.cells_at {τ : Nat} {a : Ar} (h : Inv B σ κ w) (hτ : σ.arrs[τ]? = some a) :
    ∃ us cap, RepL κ.S w a.es us ∧ (∀ u ∈ us, u.cells.size = a.k) ∧ κ.av τ = .slice (some ⟨κ.ab τ, 0, none⟩) us.length cap ∧ us.length ≤ cap ∧
      (∀ j u, (flat us)[j]? = some u → w.cell? ⟨κ.ab τ, j, none⟩ = some u) ∧ ∃ cur T, w.heap[κ.ab τ]? = some (.cells cur T (0, 0)) ∧ cur.toList.take (us.length * a.k) = flat us ∧ cur.size = cap * a.k := by
  obtain ⟨us, hr, hk, hown, hblk⟩ := h.arr τ a hτ
  rcases hown.2 with ⟨hn, _⟩ | ⟨g, cap, cur, hv, hg1, hg2, hg3, hg4, hg5, hg6⟩
  · rw [hn] at hblk; simp [Value.ownBlock] at hblk
  have hgb : g = κ.ab τ := by rw [hv] at hblk; simpa [Value.ownBlock] using hblk
  subst hgb
  refine ⟨us, cap, hr, hk, hv, hg3, fun j u hu => ?_, cur, a.ty, hg2, hg6, hg5⟩
  rw [cell_of_row _ _ _ _ _ _ hg2, ← Array.getElem?_toList]
  rw [← hg6, List.getElem?_take] at hu
  split at hu
  · exact hu
  · cases hu

/-- What has been collected so far is made data: its cells stay from now on; it may still grow. -/
theorem Inv.freeze (h : Inv B σ κ w) {τ : Nat} {a : Ar} (hτ : σ.arrs[τ]? = some a) :
    ∃ κ', Inv B (σ.setAr τ { a with floor := a.es.length }) κ' w ∧ Ext B σ κ w (σ.setAr τ { a with floor := a.es.length }) κ' w ∧ RepF κ'.S w (.sl a.k a.es) (κ.av τ) ∧ κ'.ob = κ.ob ∧ κ'.ab = κ.ab ∧ κ'.av = κ.av := by
  have hτl : τ < σ.arrs.length := (List.getElem?_eq_some_iff.1 hτ).1
  obtain ⟨us, cap, hr, hk, hv, hcap, hcell, cur, T, hcur, htake, hcs⟩ := Ar.cells_at h hτ
  have hlen := flat_length hk
  have hul := hr.length
  have hfl := h.fl τ a hτ
  have hlt := (h.arr τ a hτ).lt
  refine ⟨κ.withS fun p => κ.S p ∨ (p.block = κ.ab τ ∧ p.off < a.es.length * a.k), ?_⟩
  have e : Ext B σ κ w (σ.setAr τ { a with floor := a.es.length }) (κ.withS fun p => κ.S p ∨ (p.block = κ.ab τ ∧ p.off < a.es.length * a.k)) w := by
    refine ⟨Nat.le_refl _, fun _ _ => rfl, fun t x hx => ?_, fun p hp => .inl hp, fun _ _ => rfl, Below.refl _ _, fun _ h => h, fun _ _ => rfl⟩
    by_cases ht : t = τ
    · subst ht
      have : x = a := by rw [hτ] at hx; exact (Option.some.inj hx).symm
      subst this
      exact ⟨{ x with floor := x.es.length }, by simp [St.setAr, hτl], Nat.le_refl _, fun _ => ⟨rfl, rfl, rfl⟩⟩
    · exact ⟨x, by simpa [St.setAr, List.getElem?_set, Ne.symm ht] using hx, Nat.le_refl _, fun _ => ⟨rfl, rfl, rfl⟩⟩
  refine ⟨⟨h.base, fun i o ho => (h.obj i o ho).keep e rfl, h.objB, fun t x hx => ?_, h.injO, fun i j hi hj => h.injA i j (by simpa [St.setAr] using hi) (by simpa [St.setAr] using hj), fun i j hi hj => h.disj i j hi (by simpa [St.setAr] using hj), fun p hp i hi => ?_, fun p hp t x hx hpt => ?_, fun p hp => ?_, fun t x hx => ?_, fun p hp => .inl (h.old p hp), h.tLt, h.tObj, fun b hb i hi => h.tArr b hb i (by simpa [St.setAr] using hi)⟩, e, ?_, rfl, rfl, rfl⟩
  · by_cases ht : t = τ
    · subst ht
      have : x = { a with floor := a.es.length } := by simpa [St.setAr, hτl] using hx.symm
      subst this
      exact (h.arr t a hτ).keep (a := a) (fun p hp => .inl hp) (fun _ _ => rfl) rfl rfl rfl
    · have hx' : σ.arrs[t]? = some x := by simpa [St.setAr, List.getElem?_set, Ne.symm ht] using hx
      exact (h.arr t x hx').keep (fun p hp => .inl hp) (fun _ _ => rfl) rfl rfl rfl
  · rcases hp with hp | ⟨hp, _⟩
    · exact h.sObj p hp i hi
    · exact fun he => h.disj i τ hi hτl (he.symm.trans hp)
  · have hpt' : p.block = κ.ab t := hpt
    by_cases ht : t = τ
    · subst ht
      have : x = { a with floor := a.es.length } := by simpa [St.setAr, hτl] using hx.symm
      subst this
      rcases hp with hp | ⟨_, hp⟩
      · exact Nat.lt_of_lt_of_le (h.sArr p hp t a hτ hpt') (Nat.mul_le_mul_right _ hfl)
      · exact hp
    · have hx' : σ.arrs[t]? = some x := by simpa [St.setAr, List.getElem?_set, Ne.symm ht] using hx
      rcases hp with hp | ⟨hp, _⟩
      · exact h.sArr p hp t x hx' hpt'
      · exact absurd (h.injA t τ (List.getElem?_eq_some_iff.1 hx').1 hτl (hpt'.symm.trans hp)) ht
  · rcases hp with hp | ⟨hp, _⟩
    · exact h.sLt p hp
    · omega
  · by_cases ht : t = τ
    · subst ht
      have : x = { a with floor := a.es.length } := by simpa [St.setAr, hτl] using hx.symm
      subst this; exact Nat.le_refl _
    · exact h.fl t x (by simpa [St.setAr, List.getElem?_set, Ne.symm ht] using hx)
  · rw [hv]
    refine .sl (hr.ext (fun p hp => .inl hp) (fun _ _ => rfl)) hk (fun j u hu => ?_) hcap .nil
    rw [add_none, Nat.zero_add]
    refine ⟨hcell j u hu, .inr ⟨rfl, ?_⟩⟩
    have : j < (flat us).length := (List.getElem?_eq_some_iff.1 hu).1
    show j < a.es.length * a.k
    rw [hlen, hul] at this; exact this

/-- A whole element of an array is written anew. -/
theorem Inv.store_elem (h : Inv B σ κ w) {τ i : Nat} {a : Ar} (hτ : σ.arrs[τ]? = some a) (hi : i < a.es.length) (hfl : a.floor ≤ i) {e : FVal} {v : Value} (he : RepF κ.S w e v) (hk0 : v.cells.size = a.k) (h1 : ∀ u ∈ v.cells.toList, u.oneCell' = true) :
    ∃ w', (Go.storeCells ⟨κ.ab τ, i * a.k + 0, none⟩ v.cells.toList 0).run P w = .ok () w' ∧ Inv B (σ.setAr τ { a with es := a.es.set i e }) κ w' ∧ Ext B σ κ w (σ.setAr τ { a with es := a.es.set i e }) κ w' := by
  have hτl : τ < σ.arrs.length := (List.getElem?_eq_some_iff.1 hτ).1
  obtain ⟨us, cap, hr, hk, hv, hcap, hcell, cur, T, hcur, htake, hcs⟩ := Ar.cells_at h hτ
  obtain ⟨us', hr', hk', hown', hblk'⟩ := h.arr τ a hτ
  have hul := hr.length
  have hlen := flat_length hk
  have hT : T = a.ty := by
    rcases hown'.2 with ⟨hn, _⟩ | ⟨g, cap', cur', hv', hg1, hg2, hg3⟩
    · rw [hn] at hblk'; simp [Value.ownBlock] at hblk'
    · have hgb : g = κ.ab τ := by rw [hv'] at hblk'; simpa [Value.ownBlock] using hblk'
      subst hgb
      rw [hcur] at hg2; injection hg2 with hg2; injection hg2
  subst hT
  have hfit : i * a.k + 0 + v.cells.toList.length ≤ cur.size := by
    rw [Array.length_toList, hk0, hcs]
    have : (i + 1) * a.k ≤ cap * a.k := Nat.mul_le_mul_right _ (by omega)
    rw [Nat.succ_mul] at this; omega
  have hrun := run_storeCells_at P (κ.ab τ) (i * a.k) a.ty v.cells.toList 0 cur w hcur hfit h1
  simp only [Nat.add_zero] at hrun ⊢
  generalize hcs2 : (cur.toList.take (i * a.k) ++ v.cells.toList ++ cur.toList.drop (i * a.k + v.cells.toList.length)).toArray = cs at hrun
  have hflat : cs.toList.take ((us.set i v).length * a.k) = flat (us.set i v) := by
    have hil : i < us.length := by omega
    have hsplit : us = us.take i ++ us[i] :: us.drop (i + 1) := by rw [List.getElem_cons_drop, List.take_append_drop]
    have hset : us.set i v = us.take i ++ v :: us.drop (i + 1) := by
      rw [List.set_eq_take_append_cons_drop, if_pos hil]
    have hf1 : flat (us.take i) = cur.toList.take (i * a.k) := by
      have h2 : flat us = flat (us.take i) ++ flat (us.drop i) := by rw [← flat_append, List.take_append_drop]
      have h3 : (flat (us.take i)).length = i * a.k := by
        rw [flat_length (k := a.k) fun u hu => hk u (List.mem_of_mem_take hu), List.length_take]; congr 1; omega
      have h4 : flat (us.take i) = (flat us).take (i * a.k) := by rw [h2, ← h3, List.take_left]
      rw [h4, ← htake, List.take_take]; congr 1
      exact Nat.min_eq_left (Nat.mul_le_mul_right _ (by omega))
    have hf2 : flat (us.drop (i + 1)) = (cur.toList.drop (i * a.k + a.k)).take ((us.length - (i + 1)) * a.k) := by
      have h2 : flat us = flat (us.take (i + 1)) ++ flat (us.drop (i + 1)) := by rw [← flat_append, List.take_append_drop]
      have h3 : (flat (us.take (i + 1))).length = i * a.k + a.k := by
        rw [flat_length (k := a.k) fun u hu => hk u (List.mem_of_mem_take hu), List.length_take, ← Nat.succ_mul]; congr 1; omega
      have h4 : flat (us.drop (i + 1)) = (flat us).drop (i * a.k + a.k) := by rw [h2, ← h3, List.drop_left]
      rw [h4, ← htake, List.drop_take]; congr 1
      rw [Nat.sub_mul, Nat.succ_mul]
    rw [← hcs2, hset, flat_append, flat_cons, hf1, hf2]
    simp only []
    have hcl : cur.toList.length = cur.size := Array.length_toList
    have hvl : v.cells.toList.length = a.k := by rw [Array.length_toList, hk0]
    have hA : (cur.toList.take (i * a.k) ++ v.cells.toList).length = i * a.k + a.k := by
      rw [List.length_append, List.length_take, hvl, hcl]
      have : i * a.k + 0 + v.cells.toList.length ≤ cur.size := hfit
      omega
    have hN : (us.take i ++ v :: us.drop (i + 1)).length * a.k = (i * a.k + a.k) + (us.length - (i + 1)) * a.k := by
      rw [← hset, List.length_set, ← Nat.succ_mul, ← Nat.add_mul]; congr 1; omega
    rw [hN, List.take_append, hA, List.take_of_length_le (by rw [hA]; omega), hvl, Nat.add_sub_cancel_left]
    simp only [List.append_assoc]
  have hsetk : ∀ u ∈ us.set i v, u.cells.size = a.k := fun u hu => by
    rcases List.mem_or_eq_of_mem_set hu with hu | rfl
    · exact hk u hu
    · exact hk0
  have hcellS : ∀ p, κ.S p → (w.setRow (κ.ab τ) cs).cell? p = w.cell? p := fun p hp => by
    by_cases hpb : p.block = κ.ab τ
    · have hpo : p.off < i * a.k := Nat.lt_of_lt_of_le (h.sArr p hp τ a hτ hpb) (Nat.mul_le_mul_right _ hfl)
      have hcl : cur.toList.length = cur.size := Array.length_toList
      have hkey : cs[p.off]? = cur[p.off]? := by
        rw [← hcs2]
        simp only [List.getElem?_toArray]
        rw [List.append_assoc, List.getElem?_append_left (by rw [List.length_take, hcl]; omega), List.getElem?_take, if_pos hpo, Array.getElem?_toList]
      unfold World.cell?
      rw [hpb, setRow_heap w (κ.ab τ) cur cs a.ty (0, 0) hcur, hcur]
      simp only [hkey]
    · exact World.cell?_of_block (setRow_other _ _ _ _ hpb)
  have hrep : RepL κ.S (w.setRow (κ.ab τ) cs) (a.es.set i e) (us.set i v) := (hr.set he i).ext (fun _ hp => hp) hcellS
  have hκ : κ.setAr τ (κ.ab τ) (κ.av τ) = κ := by
    cases κ
    simp only [Kap.setAr, Kap.mk.injEq, true_and, and_true]
    exact ⟨by funext j; split <;> simp_all, by funext j; split <;> simp_all⟩
  have key := h.arr_set (w' := w.setRow (κ.ab τ) cs) hτ { a with es := a.es.set i e } (κ.ab τ) (κ.av τ) (by simp [World.setRow]) rfl rfl rfl
    (fun y _ hy => setRow_other _ _ _ _ hy) hcellS (.inl rfl) (Nat.le_refl _) (fun _ => ⟨rfl, rfl, rfl⟩) (fun _ => Nat.le_refl _) hrep hsetk (by
      refine ⟨flat_length hsetk, ?_⟩
      rcases hown'.2 with ⟨hn, _⟩ | ⟨g, cap', cur', hv', hg1, hg2, hg3, hg4, hg5, hg6⟩
      · rw [hn] at hblk'; simp [Value.ownBlock] at hblk'
      · have hgb : g = κ.ab τ := by rw [hv'] at hblk'; simpa [Value.ownBlock] using hblk'
        subst hgb
        refine .inr ⟨κ.ab τ, cap, cs, by rw [hv, List.length_set], hg1, setRow_heap w (κ.ab τ) cur cs a.ty (0, 0) hcur, by rw [List.length_set]; exact hcap, ?_, ?_, hflat⟩
        · rw [hv] at hv'; injection hv' with _ _ hc; omega
        · rw [← hcs2]; simp only [List.size_toArray, List.length_append, List.length_take, List.length_drop, Array.length_toList] at hfit ⊢; omega) hblk' (by rw [List.length_set]; exact h.fl τ a hτ)
  rw [hκ] at key
  exact ⟨_, hrun, key.1, key.2⟩
end
end Go.DL
