/-
  The law OperatorArrows: for every list of numbers the call returns true and leaves the list as it was. No condition.
-/
import Derived.Test.YtgfcgkkcakjodaaRows
import Derived.Test.YtgfcgkkcakjodaaOB6
import Derived.ProofKit
set_option linter.unusedVariables false
set_option linter.unusedSimpArgs false
namespace Go.Proofs.Ytgfcgkkcakjodaa
open Go.ChangeShapes Go.WideShapes Go.ChangeAt Go.RowKit Go.DL

theorem Try.own : ownKnob Try.prog.godebug = none := by kernel_rfl
theorem Try.laidOut : laidOutB Try.prog = true := by kernel_rfl
theorem Try.cells3 : Try.prog.cellsOf 3 = 1 := by kernel_rfl

def door (W : World) : Kap := { ob := fun _ => 0, ab := fun _ => 0, av := fun _ => .nilIface, S := fun p => p.block < W.heap.size }
theorem door_inv (W : World) : Inv W.heap.size ⟨[], []⟩ (door W) W := by
  refine ⟨Nat.le_refl _, ?_, ?_, ?_, ?_, ?_, ?_, ?_, ?_, fun p hp => hp, ?_, fun p hp => hp⟩
  all_goals simp
theorem flat_int (l : List Int) : flat (l.map (Value.int .i64)) = l.map (Value.int .i64) := by
  induction l with
  | nil => rfl
  | cons b l ih => simp only [List.map_cons, flat_cons, ih]; rfl
theorem ints_rep {S : Addr → Prop} {W : World} : ∀ l : List Int, RepL S W (l.map T.I) (l.map (Value.int .i64))
  | [] => .nil
  | x :: l => .lit rfl (ints_rep l)

set_option maxRecDepth 100000 in
theorem law_lifted (os : Os) (started : os.Started) (H : Type) (enc : TypeId × Value → H) :
    ReturnsInHanded {} Try.checked os 3 .any (Rows.operatorArrowsSpec.pre6 enc Try.prog Try.f3 Rows.operatorArrowsRow.domain false) (Rows.operatorArrowsSpec.post enc Try.prog Try.f3 false true false false) := by
  refine returnsInHanded_of_change (C := Try.checked) Try.own started (by kernel_rfl) Try.func3
    (ChangeSpec.witness6 (enc := enc) (C := Try.checked) false ⟨#[], #[.slice none 0 0], []⟩ 8 (by kernel_rfl) (by kernel_rfl) (by kernel_rfl) (by kernel_rfl)) ?_
  intro W base args ds gs before hval0 hW hcnd _
  have hval : ∀ (j : Nat) t v, Try.f3.params[j]? = some t → args[j]? = some v → Value.okWide Try.prog W .any base t v := hval0
  have hW' := hW
  obtain ⟨p, q, hA0, hV, rfl, hfz, hnd⟩ := hW
  have hA : DataW.TrodAll enc Try.prog W 0 (fun _ => true) true Try.f3.params.toList args.toList ds p := hA0
  rw [Try.params3] at hA hval
  obtain ⟨v0, d0, rfl, rfl, h0⟩ := trodAll_one hA
  obtain ⟨rfl, rfl⟩ := trodVars_none hV
  obtain ⟨a0, len, cap, rfl⟩ := okWide_slice Try.underlying22 (hval 0 22 v0 rfl rfl)
  have h0k := h0
  obtain ⟨fuel, hf⟩ := h0
  clear hA0 hval0
  simp only [List.append_nil] at hW'
  have hlt : ∀ x ∈ p, x.block < W.heap.size := fun x hx => by simpa using hW'.lt x hx
  obtain ⟨ls, hrep⟩ : ∃ ls : List Int, RepF (fun p => p.block < W.heap.size) W (.sl 1 (ls.map T.I)) (.slice a0 len cap) := by
    rcases open_ints Try.underlying22 Try.underlying3 Try.cells3 hf with ⟨hcs, hx⟩ | ⟨a, len', cap', zs, hcs, _, hl, hm, hz, hx, hcell, hwz⟩
    · simp [Value.cells] at hcs
      obtain ⟨rfl, rfl, rfl⟩ := hcs
      exact ⟨[], .snil .nil⟩
    · simp [Value.cells] at hcs
      obtain ⟨rfl, rfl, rfl⟩ := hcs
      simp only [Prod.mk.injEq] at hx
      obtain ⟨rfl, rfl⟩ := hx
      simp only [if_true] at hz
      have hlen : (((zs.take len).map (Value.int .i64))).length = len := by simp; omega
      refine ⟨zs.take len, ?_⟩
      have key : RepF (fun p => p.block < W.heap.size) W (.sl 1 ((zs.take len).map T.I)) (.slice (some a) ((zs.take len).map (Value.int .i64)).length cap) := by
        refine .sl (ints_rep _) ?_ ?_ (by omega) .nil
        · intro u hu
          obtain ⟨x, _, rfl⟩ := List.mem_map.1 hu
          rfl
        · intro j u hu
          rw [flat_int] at hu
          have hj : j < len := by rw [← hlen]; exact (List.getElem?_eq_some_iff.1 hu).1
          rw [List.getElem?_map, List.getElem?_take_of_lt hj] at hu
          have hjz : j < zs.length := by omega
          rw [List.getElem?_eq_getElem hjz] at hu
          cases hu
          refine ⟨?_, ?_⟩
          · have := hcell j hjz
            rw [this]
            simp [List.getD_eq_getElem?_getD, List.getElem?_eq_getElem hjz]
          · obtain ⟨b, off, spot⟩ := a
            have := hlt (.cell b off) (MemPlace.mem_row.2 ⟨0, by omega, by simp⟩)
            show (Addr.add _ j).block < _
            rw [add_block]; exact this
      rw [hlen] at key
      exact key
  refine (T.law ls W.heap.size (door W) W [.slice a0 len cap] (door_inv W) (.f hrep .nil)).mono fun e W' ⟨r, σ', κ', hr, hI', hB, hm⟩ => ?_
  subst hr
  cases e with
  | returned v =>
    have hv : v = .bool true := by
      cases hm with
      | f hm _ => exact hm.of_lit.1
    subst hv
    have hargs : DataW.Trod enc Try.prog W' 0 (fun b => decide (b < W.heap.size)) true 22 (.slice a0 len cap) d0 p :=
      Below.trod Try.laidOut (by kernel_rfl) (of_decide_eq_true (by kernel_rfl)) h0k hB hlt
    refine ⟨_, rfl, _, _, _, [], p, [], hW', ?_, ?_, rfl, hB.frame _, fun h => by cases h⟩
    · exact trodAll_mk1 (shut_bool Try.underlying4 _)
    · exact trodAll_mk1 hargs
  | _ => exact hm.elim

theorem OperatorArrows_holds : Rows.OperatorArrowsSaid :=
  OpenClaim.holds_of_wide 3 Try.f3 rfl rfl rfl rfl rfl rfl rfl ⟨rfl, rfl, rfl, rfl, rfl⟩ rfl rfl rfl rfl rfl (by kernel_rfl) Try.func3 (by kernel_rfl)
    (of_decide_eq_true (by kernel_rfl)) (by unfold Func.isWrapper; first | (rw [if_pos (by decide +kernel)]; kernel_rfl) | (rw [if_neg (by decide +kernel)]; exact ⟨rfl, rfl⟩))
    (fun os started H enc _ => law_lifted os started H enc)

#print axioms OperatorArrows_holds
end Go.Proofs.Ytgfcgkkcakjodaa
