/-
  A part of the proof of DisplayFresh: closed facts on the types of the program, and the answers of nameByte, of strconv.Itoa and of Digits at each small number, reckoned by the kernel. No condition of its own.
-/
import Derived.Test.YtgfcgkkcakjodaaDoorEU
import Derived.Test.YtgfcgkkcakjodaaDoorProg
set_option linter.unusedVariables false
set_option linter.unusedSimpArgs false
namespace Go.Proofs
open Go Go.DL

theorem F.hm : Tryd.prog.follows .mixedOrders = true := by kernel_rfl
theorem F.sz3 : sizeT Tryd.prog 3 = some 1 := by kernel_rfl
theorem F.ag3 : aggT Tryd.prog 3 = some false := by kernel_rfl
theorem F.sz4 : sizeT Tryd.prog 4 = some 1 := by kernel_rfl
theorem F.ag4 : aggT Tryd.prog 4 = some false := by kernel_rfl
theorem F.sz5 : sizeT Tryd.prog 5 = some 1 := by kernel_rfl
theorem F.ag5 : aggT Tryd.prog 5 = some false := by kernel_rfl
theorem F.sz9 : sizeT Tryd.prog 9 = some 1 := by kernel_rfl
theorem F.ag9 : aggT Tryd.prog 9 = some false := by kernel_rfl
theorem F.sz22 : sizeT Tryd.prog 22 = some 1 := by kernel_rfl
theorem F.ag22 : aggT Tryd.prog 22 = some false := by kernel_rfl
theorem F.sz24 : sizeT Tryd.prog 24 = some 1 := by kernel_rfl
theorem F.ag24 : aggT Tryd.prog 24 = some false := by kernel_rfl
theorem F.sz55 : sizeT Tryd.prog 55 = some 1 := by kernel_rfl
theorem F.ag55 : aggT Tryd.prog 55 = some false := by kernel_rfl
theorem F.sz57 : sizeT Tryd.prog 57 = some 1 := by kernel_rfl
theorem F.ag57 : aggT Tryd.prog 57 = some false := by kernel_rfl
theorem F.el22 : elemT Tryd.prog 22 = some 3 := by kernel_rfl
theorem F.ap22 : appT Tryd.prog 22 = some (3, 1, 8) := by kernel_rfl
theorem F.un22 : Tryd.prog.underlying 22 = some (.slice 3) := by kernel_rfl
theorem F.el24 : elemT Tryd.prog 24 = some 9 := by kernel_rfl
theorem F.ap24 : appT Tryd.prog 24 = some (9, 1, 16) := by kernel_rfl
theorem F.un24 : Tryd.prog.underlying 24 = some (.slice 9) := by kernel_rfl
theorem F.el57 : elemT Tryd.prog 57 = some 5 := by kernel_rfl
theorem F.ap57 : appT Tryd.prog 57 = some (5, 1, 1) := by kernel_rfl
theorem F.un57 : Tryd.prog.underlying 57 = some (.slice 5) := by kernel_rfl
theorem F.un3 : Tryd.prog.underlying 3 = some (.int .i64) := by kernel_rfl
theorem F.un5 : Tryd.prog.underlying 5 = some (.int .u8) := by kernel_rfl
theorem F.un9 : Tryd.prog.underlying 9 = some .string := by kernel_rfl
theorem F.ok4 : bodyOk Tryd.prog 4 = true := by kernel_rfl
theorem F.ok5 : bodyOk Tryd.prog 5 = true := by kernel_rfl
theorem F.ok6 : bodyOk Tryd.prog 6 = true := by kernel_rfl
theorem F.ok7 : bodyOk Tryd.prog 7 = true := by kernel_rfl
theorem F.ok8 : bodyOk Tryd.prog 8 = true := by kernel_rfl
theorem F.ok11 : bodyOk Tryd.prog 11 = true := by kernel_rfl
theorem F.ok12 : bodyOk Tryd.prog 12 = true := by kernel_rfl
theorem F.ok13 : bodyOk Tryd.prog 13 = true := by kernel_rfl
theorem F.ok14 : bodyOk Tryd.prog 14 = true := by kernel_rfl
theorem F.ok15 : bodyOk Tryd.prog 15 = true := by kernel_rfl
theorem F.ok21 : bodyOk Tryd.prog 21 = true := by kernel_rfl
theorem F.ok22 : bodyOk Tryd.prog 22 = true := by kernel_rfl
theorem F.ok23 : bodyOk Tryd.prog 23 = true := by kernel_rfl
theorem F.ok24 : bodyOk Tryd.prog 24 = true := by kernel_rfl
theorem F.ok25 : bodyOk Tryd.prog 25 = true := by kernel_rfl
theorem F.ok26 : bodyOk Tryd.prog 26 = true := by kernel_rfl
theorem F.ok27 : bodyOk Tryd.prog 27 = true := by kernel_rfl
theorem F.ok36 : bodyOk Tryd.prog 36 = true := by kernel_rfl
theorem F.ok38 : bodyOk Tryd.prog 38 = true := by kernel_rfl
attribute [go_sem] F.sz3 F.ag3 F.sz4 F.ag4 F.sz5 F.ag5 F.sz9 F.ag9 F.sz22 F.ag22 F.sz24 F.ag24 F.sz55 F.ag55 F.sz57 F.ag57 F.el22 F.ap22 F.un22 F.el24 F.ap24 F.un24 F.el57 F.ap57 F.un57 F.un3 F.un5 F.un9 F.ok4 F.ok5 F.ok6 F.ok7 F.ok8 F.ok11 F.ok12 F.ok13 F.ok14 F.ok15 F.ok21 F.ok22 F.ok23 F.ok24 F.ok25 F.ok26 F.ok27 F.ok36 F.ok38

theorem F.awake (σ : St) : DCalls Tryd.prog 4 [] σ (isC (.ret (.f (vB true))) σ) :=
  DCalls_closed F.hm noCalls_ok 100000 rfl rfl (by kernel_rfl)

/-- The bytes of names. -/
def NB (n : Nat) : Bool := decide (33 ≤ n) && decide (n ≤ 126) && !([40, 41, 91, 93, 123, 125, 58, 46, 37] : List Nat).contains n
theorem F.nb22 : (List.range 256).all (fun n : Nat => decide (runB Tryd.prog 1000 22 [.f (vC n)] = some (NB n))) = true := by kernel_rfl
theorem F.nb27 : (List.range 256).all (fun n : Nat => decide (runB Tryd.prog 1000 27 [.f (vC n)] = some (NB n))) = true := by kernel_rfl
theorem F.nameByte (n : Nat) (h : n < 256) (σ : St) : DCalls Tryd.prog 22 [.f (vC n)] σ (isC (.ret (.f (vB (NB n)))) σ) :=
  runB_sound F.hm rfl (of_decide_eq_true (List.all_eq_true.1 F.nb22 n (List.mem_range.2 h))) σ
theorem F.nameByte2 (n : Nat) (h : n < 256) (σ : St) : DCalls Tryd.prog 27 [.f (vC n)] σ (isC (.ret (.f (vB (NB n)))) σ) :=
  runB_sound F.hm rfl (of_decide_eq_true (List.all_eq_true.1 F.nb27 n (List.mem_range.2 h))) σ

/-- The digits of small numbers. -/
def dig (n : Nat) : ByteArray := if n < 10 then ⟨#[UInt8.ofNat (48 + n)]⟩ else ⟨#[UInt8.ofNat (48 + n / 10), UInt8.ofNat (48 + n % 10)]⟩
theorem F.it : (List.range 40).all (fun n : Nat => decide (runS Tryd.prog 1000 13 [.f (vI n)] = some (dig n))) = true := by kernel_rfl
theorem F.dg : (List.range 40).all (fun n : Nat => decide (runS Tryd.prog 1000 15 [.f (vI n)] = some (dig n))) = true := by kernel_rfl
theorem F.itoa (n : Nat) (h : n < 40) (σ : St) : DCalls Tryd.prog 13 [.f (vI n)] σ (isC (.ret (.f (vS (dig n)))) σ) :=
  runS_sound F.hm rfl (of_decide_eq_true (List.all_eq_true.1 F.it n (List.mem_range.2 h))) σ
theorem F.digits (n : Nat) (h : n < 40) (σ : St) : DCalls Tryd.prog 15 [.f (vI n)] σ (isC (.ret (.f (vS (dig n)))) σ) :=
  runS_sound F.hm rfl (of_decide_eq_true (List.all_eq_true.1 F.dg n (List.mem_range.2 h))) σ
end Go.Proofs
