/-
  The law DisplayFresh: for every text and list of numbers the call returns true and leaves the list as it was. No condition.
-/
import Derived.Test.YtgfcgkkcakjodaaDoorRows
import Derived.Test.YtgfcgkkcakjodaaDoorCards
import Derived.Test.YtgfcgkkcakjodaaDoorTie
import Derived.Test.YtgfcgkkcakjodaaDoorFF
import Derived.ProofKit
import Derived.Handy
import Derived.ChangeMaps5
import Derived.Lay
import Derived.SevenTiedAt
set_option linter.unusedVariables false
set_option linter.unusedSimpArgs false
namespace Go.Proofs.YtgfcgkkcakjodaaDoor
open Go.ChangeShapes Go.WideShapes Go.ChangeAt Go.RowKit Go.DL

theorem Tryd.own : ownKnob Tryd.prog.godebug = none := by kernel_rfl
theorem Tryd.laidOut : laidOutB Tryd.prog = true := by kernel_rfl
theorem Tryd.cells3 : Tryd.prog.cellsOf 3 = 1 := by kernel_rfl
theorem Tryd.un4 : Tryd.prog.underlying 4 = some .bool := by kernel_rfl

def door (W : World) : Kap := { ob := fun _ => 0, ab := fun _ => 0, av := fun _ => .nilIface, S := fun p => p.block < W.heap.size, T := fun _ => False }
theorem door_inv (W : World) : Inv W.heap.size ⟨[], []⟩ (door W) W := by
  refine ⟨Nat.le_refl _, ?_, ?_, ?_, ?_, ?_, ?_, ?_, ?_, fun p hp => hp, ?_, fun p hp => hp, ?_, ?_, ?_⟩
  all_goals simp [door]
theorem flat_int (l : List Int) : flat (l.map (Value.int .i64)) = l.map (Value.int .i64) := by
  induction l with
  | nil => rfl
  | cons b l ih => simp only [List.map_cons, flat_cons, ih]; rfl
theorem ints_rep {S : Addr → Prop} {W : World} : ∀ l : List Int, RepL S W (l.map vI) (l.map (Value.int .i64))
  | [] => .nil
  | x :: l => .lit rfl (ints_rep l)

set_option maxRecDepth 100000 in
theorem law_lifted (os : Os) (started : os.Started) (H : Type) (enc : TypeId × Value → H) :
    ReturnsInHanded {} Tryd.checked os 3 .any (fun w args => (Rows.displayFreshSpec.pre enc Tryd.prog Tryd.f3 Rows.displayFreshRow.domain false w args ∧ laidMetH Tryd.prog Rows.displayFreshRow.laid w) ∧ sizedMet enc Tryd.prog Tryd.f3 (OpenSpec.ofChange Rows.displayFreshSpec) false w args)
      (Rows.displayFreshSpec.post enc Tryd.prog Tryd.f3 false true false false) := by
  refine returnsInHanded_of_change_and (C := Tryd.checked) (X := fun w _ => laidMetH Tryd.prog Rows.displayFreshRow.laid w) (fun _ _ _ hh h => h.of_heap hh) Tryd.own started (by kernel_rfl) Tryd.func3
    (ChangeSpec.witness_shaped (enc := enc) (C := Tryd.checked) (os := os) (X := fun w _ => laidMetH Tryd.prog Rows.displayFreshRow.laid w) false (World.laidAll Tryd.prog os Rows.displayFreshRow.laid) #[.string ⟨#[]⟩, .slice none 0 0] 8 (World.laidAll_os _ _ _)
      (World.shaped_of_ZipB (by kernel_rfl) (by kernel_rfl)) (by kernel_rfl) (by kernel_rfl) (by kernel_rfl)
      (by rw [MakeChecks.laidMetH_plain _ _ _ (by kernel_rfl)]; exact laidMet_laidAll _ (by kernel_rfl) (by kernel_rfl))) ?_
  intro W base args ds gs before hval0 hW _ _ _ _
  have hval : ∀ (j : Nat) t v, Tryd.f3.params[j]? = some t → args[j]? = some v → Value.okWide Tryd.prog W .any base t v := hval0
  have hW' := hW
  obtain ⟨p, q, hA0, hV, rfl, hfz, hnd⟩ := hW
  have hA : DataW.TrodAll enc Tryd.prog W 0 (fun _ => true) true Tryd.f3.params.toList args.toList ds p := hA0
  rw [Tryd.params3] at hA hval
  obtain ⟨v0, v1, d0, d1, p0, p1, rfl, rfl, rfl, h0, h1⟩ := trodAll_two hA
  obtain ⟨rfl, rfl⟩ := trodVars_none hV
  obtain ⟨a0, len, cap, rfl⟩ := okWide_slice F.un22 (hval 1 22 v1 rfl rfl)
  have h0k := h0
  have h1k := h1
  obtain ⟨hint, rfl, _, _, _⟩ := Go.ChangeMaps.open_string F.un9 (hval 0 9 v0 rfl rfl) h0
  obtain ⟨fuel, hf⟩ := h1
  clear hA0 hval0
  simp only [List.append_nil] at hW'
  have hlt0 : ∀ x ∈ p0 ++ p1, x.block < W.heap.size := fun x hx => by simpa using hW'.lt x hx
  have hlt : ∀ x ∈ p1, x.block < W.heap.size := fun x hx => hlt0 x (List.mem_append.2 (.inr hx))
  obtain ⟨ls, hrep⟩ : ∃ ls : List Int, RepF (fun p => p.block < W.heap.size) W (.sl 1 (ls.map vI)) (.slice a0 len cap) := by
    rcases open_ints F.un22 F.un3 Tryd.cells3 hf with ⟨hcs, hx⟩ | ⟨a, len', cap', zs, hcs, _, hl, hm, hz, hx, hcell, hwz⟩
    · simp [Value.cells] at hcs
      obtain ⟨rfl, rfl, rfl⟩ := hcs
      exact ⟨[], .snil .nil⟩
    · simp [Value.cells] at hcs
      obtain ⟨rfl, rfl, rfl⟩ := hcs
      simp only [Prod.mk.injEq] at hx
      obtain ⟨rfl, rfl⟩ := hx
      simp only [if_true] at hz
      have hlen : (((zs.take len).map (Value.int .i64))).length = len := by simp; omega
      refine ⟨zs.take len, ?_⟩
      have key : RepF (fun p => p.block < W.heap.size) W (.sl 1 ((zs.take len).map vI)) (.slice (some a) ((zs.take len).map (Value.int .i64)).length cap) := by
        refine .sl (ints_rep _) ?_ ?_ (by omega) .nil
        · intro u hu
          obtain ⟨x, _, rfl⟩ := List.mem_map.1 hu
          rfl
        · intro j u hu
          rw [flat_int] at hu
          have hj : j < len := by rw [← hlen]; exact (List.getElem?_eq_some_iff.1 hu).1
          rw [List.getElem?_map, List.getElem?_take_of_lt hj] at hu
          have hjz : j < zs.length := by omega
          rw [List.getElem?_eq_getElem hjz] at hu
          cases hu
          refine ⟨?_, ?_⟩
          · have := hcell j hjz
            rw [this]
            simp [List.getD_eq_getElem?_getD, List.getElem?_eq_getElem hjz]
          · obtain ⟨b, off, spot⟩ := a
            have := hlt (.cell b off) (MemPlace.mem_row.2 ⟨0, by omega, by simp⟩)
            show (Addr.add _ j).block < _
            rw [add_block]; exact this
      rw [hlen] at key
      exact key
  refine (F.law hint ls W.heap.size (door W) W [.string hint, .slice a0 len cap] (door_inv W) (.f (.lit rfl .nil) (.f hrep .nil))).mono fun e W' ⟨r, σ', κ', hr, hI', hB, hm⟩ => ?_
  subst hr
  cases e with
  | returned v =>
    have hv : v = .bool true := by
      cases hm with
      | f hm _ => exact hm.of_lit.1
    subst hv
    have hargs0 := Below.trod (enc := enc) Tryd.laidOut (by kernel_rfl) (of_decide_eq_true (by kernel_rfl)) h0k hB fun x hx => hlt0 x (List.mem_append.2 (.inl hx))
    have hargs : DataW.Trod enc Tryd.prog W' 0 (fun b => decide (b < W.heap.size)) true 22 (.slice a0 len cap) d1 p1 :=
      Below.trod Tryd.laidOut (by kernel_rfl) (of_decide_eq_true (by kernel_rfl)) h1k hB hlt
    refine ⟨_, rfl, _, _, _, [], p0 ++ p1, [], hW', ?_, ?_, rfl, hB.frame _, fun h => by cases h⟩
    · exact trodAll_mk1 (shut_bool Tryd.un4 _)
    · exact trodAll_mk2 hargs0 hargs
  | _ => exact hm.elim

theorem DisplayFresh_row_holds : Rows.DisplayFreshSaid :=
  OpenClaim.holds_of_wide 3 Tryd.f3 rfl rfl rfl rfl rfl rfl rfl ⟨rfl, rfl, rfl, rfl, rfl⟩ rfl rfl rfl rfl rfl (by kernel_rfl) Tryd.func3 (by kernel_rfl)
    (of_decide_eq_true (by kernel_rfl)) (by unfold Func.isWrapper; first | (rw [if_pos (by decide +kernel)]; kernel_rfl) | (rw [if_neg (by decide +kernel)]; exact ⟨rfl, rfl⟩))
    (fun os started H enc _ => law_lifted os started H enc)

theorem DisplayFresh_holds : Rows.DisplayFreshCardSaid :=
  Claim7.holds_tied_plain_at .later [] [.data, .data, .data] true (true, "d8b90c29dd461dcbc962c4dd87d9733b4b77a943f5ba62b3e0ec49de2a04e040") false DisplayFresh_row_holds (fun _ h => by cases h) (by kernel_rfl) (fun _ h => by cases h) displayFresh_row_tie rfl ⟨rfl, rfl⟩ (by kernel_rfl) rfl
    (fun f fn hf hfn => by
      obtain rfl : f = 3 := Option.some.inj ((show Tryd.prog.funcNamed "lfcheck/lfchecklaw11.DisplayFresh" = some 3 by kernel_rfl).symm.trans hf) |>.symm
      obtain rfl : fn = Tryd.f3 := (Option.some.inj (Tryd.func3.symm.trans hfn)).symm
      exact ⟨by kernel_rfl, fun j t ht => by
        rw [Tryd.params3] at ht
        have hm : t ∈ [9, 22] := by simpa using Array.mem_of_getElem? ht
        have hall : ([9, 22].all fun u => !Tryd.prog.wantsStandIn u) = true := by kernel_rfl
        exact (show Tryd.prog.wantsStandIn t = false by simpa using List.all_eq_true.1 hall t hm)⟩)
    (by kernel_rfl)

#print axioms DisplayFresh_holds
end Go.Proofs.YtgfcgkkcakjodaaDoor
