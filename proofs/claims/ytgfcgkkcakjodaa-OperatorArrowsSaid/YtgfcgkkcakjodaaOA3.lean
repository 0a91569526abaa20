/-
  A part of the proof of OperatorArrows: closed facts on the types of the program, a rule for loops over a list, and trees of arrows as data. No condition of its own.
-/
import Derived.Test.YtgfcgkkcakjodaaDS
import Derived.Test.YtgfcgkkcakjodaaOA2
set_option linter.unusedVariables false
set_option linter.unusedSimpArgs false
namespace Go.Proofs
open Go Go.DL

theorem T.sz3 : sizeT Try.prog 3 = some 1 := by kernel_rfl
theorem T.ag3 : aggT Try.prog 3 = some false := by kernel_rfl
theorem T.sz4 : sizeT Try.prog 4 = some 1 := by kernel_rfl
theorem T.ag4 : aggT Try.prog 4 = some false := by kernel_rfl
theorem T.sz5 : sizeT Try.prog 5 = some 1 := by kernel_rfl
theorem T.ag5 : aggT Try.prog 5 = some false := by kernel_rfl
theorem T.sz9 : sizeT Try.prog 9 = some 1 := by kernel_rfl
theorem T.ag9 : aggT Try.prog 9 = some false := by kernel_rfl
theorem T.sz22 : sizeT Try.prog 22 = some 1 := by kernel_rfl
theorem T.ag22 : aggT Try.prog 22 = some false := by kernel_rfl
theorem T.sz23 : sizeT Try.prog 23 = some 1 := by kernel_rfl
theorem T.ag23 : aggT Try.prog 23 = some false := by kernel_rfl
theorem T.sz24 : sizeT Try.prog 24 = some 1 := by kernel_rfl
theorem T.ag24 : aggT Try.prog 24 = some false := by kernel_rfl
theorem T.sz26 : sizeT Try.prog 26 = some 4 := by kernel_rfl
theorem T.ag26 : aggT Try.prog 26 = some true := by kernel_rfl
theorem T.sz28 : sizeT Try.prog 28 = some 5 := by kernel_rfl
theorem T.ag28 : aggT Try.prog 28 = some true := by kernel_rfl
theorem T.sz30 : sizeT Try.prog 30 = some 1 := by kernel_rfl
theorem T.ag30 : aggT Try.prog 30 = some false := by kernel_rfl
theorem T.sz33 : sizeT Try.prog 33 = some 1 := by kernel_rfl
theorem T.ag33 : aggT Try.prog 33 = some false := by kernel_rfl
theorem T.sz38 : sizeT Try.prog 38 = some 1 := by kernel_rfl
theorem T.ag38 : aggT Try.prog 38 = some false := by kernel_rfl
theorem T.sz39 : sizeT Try.prog 39 = some 1 := by kernel_rfl
theorem T.ag39 : aggT Try.prog 39 = some false := by kernel_rfl
theorem T.sz43 : sizeT Try.prog 43 = some 3 := by kernel_rfl
theorem T.ag43 : aggT Try.prog 43 = some true := by kernel_rfl
theorem T.sz48 : sizeT Try.prog 48 = some 1 := by kernel_rfl
theorem T.ag48 : aggT Try.prog 48 = some false := by kernel_rfl
theorem T.sz53 : sizeT Try.prog 53 = some 1 := by kernel_rfl
theorem T.ag53 : aggT Try.prog 53 = some false := by kernel_rfl
theorem T.sz55 : sizeT Try.prog 55 = some 2 := by kernel_rfl
theorem T.ag55 : aggT Try.prog 55 = some true := by kernel_rfl
theorem T.sz60 : sizeT Try.prog 60 = some 1 := by kernel_rfl
theorem T.ag60 : aggT Try.prog 60 = some false := by kernel_rfl
theorem T.sz65 : sizeT Try.prog 65 = some 1 := by kernel_rfl
theorem T.ag65 : aggT Try.prog 65 = some false := by kernel_rfl
theorem T.sz69 : sizeT Try.prog 69 = some 1 := by kernel_rfl
theorem T.ag69 : aggT Try.prog 69 = some false := by kernel_rfl
theorem T.el22 : elemT Try.prog 22 = some 3 := by kernel_rfl
theorem T.ap22 : appT Try.prog 22 = some (3, 1, 8) := by kernel_rfl
theorem T.un22 : Try.prog.underlying 22 = some (.slice 3) := by kernel_rfl
theorem T.el23 : elemT Try.prog 23 = some 28 := by kernel_rfl
theorem T.ap23 : appT Try.prog 23 = some (28, 5, 64) := by kernel_rfl
theorem T.un23 : Try.prog.underlying 23 = some (.slice 28) := by kernel_rfl
theorem T.el24 : elemT Try.prog 24 = some 26 := by kernel_rfl
theorem T.ap24 : appT Try.prog 24 = some (26, 4, 56) := by kernel_rfl
theorem T.un24 : Try.prog.underlying 24 = some (.slice 26) := by kernel_rfl
theorem T.el30 : elemT Try.prog 30 = some 9 := by kernel_rfl
theorem T.ap30 : appT Try.prog 30 = some (9, 1, 16) := by kernel_rfl
theorem T.un30 : Try.prog.underlying 30 = some (.slice 9) := by kernel_rfl
theorem T.el39 : elemT Try.prog 39 = some 43 := by kernel_rfl
theorem T.ap39 : appT Try.prog 39 = some (43, 3, 32) := by kernel_rfl
theorem T.un39 : Try.prog.underlying 39 = some (.slice 43) := by kernel_rfl
theorem T.el48 : elemT Try.prog 48 = some 33 := by kernel_rfl
theorem T.ap48 : appT Try.prog 48 = some (33, 1, 8) := by kernel_rfl
theorem T.un48 : Try.prog.underlying 48 = some (.slice 33) := by kernel_rfl
theorem T.el60 : elemT Try.prog 60 = some 5 := by kernel_rfl
theorem T.ap60 : appT Try.prog 60 = some (5, 1, 1) := by kernel_rfl
theorem T.un60 : Try.prog.underlying 60 = some (.slice 5) := by kernel_rfl
theorem T.un38 : Try.prog.underlying 38 = some (.int .u64) := by kernel_rfl
theorem T.un3 : Try.prog.underlying 3 = some (.int .i64) := by kernel_rfl
theorem T.un33 : Try.prog.underlying 33 = some (.int .i64) := by kernel_rfl
theorem T.un9 : Try.prog.underlying 9 = some .string := by kernel_rfl
theorem T.z26 : zeroC Try.prog 26 = some [.f (.lit (.int .i64 0)), .f (.lit (.string ⟨#[]⟩)), .f (.lit (.int .i64 0)), .full 0 []] := by kernel_rfl
theorem T.z28 : zeroC Try.prog 28 = some [.f (.lit (.int .i64 0)), .f (.lit (.string ⟨#[]⟩)), .f (.lit (.int .i64 0)), .full 0 [], .f (.lit (.bool false))] := by kernel_rfl
theorem T.z43 : zeroC Try.prog 43 = some [.f (.lit (.string ⟨#[]⟩)), .f (.lit (.int .i64 0)), .f (.lit (.int .i64 0))] := by kernel_rfl
theorem T.z33 : zeroC Try.prog 33 = some [.f (.lit (.int .i64 0))] := by kernel_rfl
theorem T.z55 : zeroC Try.prog 55 = some [.f (.lit (.map none)), .f (.lit (.int .i64 0))] := by kernel_rfl
theorem T.z65 : zeroC Try.prog 65 = some [.f (.lit .nilFunc)] := by kernel_rfl
theorem T.z3 : zeroC Try.prog 3 = some [.f (.lit (.int .i64 0))] := by kernel_rfl
theorem T.z9 : zeroC Try.prog 9 = some [.f (.lit (.string ⟨#[]⟩))] := by kernel_rfl
theorem T.f26_0 : fieldOf Try.prog 26 0 = some { name := "Kind", type := 3, offset := 0, embedded := false, tag := "", pkgPath := "", byteOffset := 0 } := by kernel_rfl
theorem T.f26_1 : fieldOf Try.prog 26 1 = some { name := "Name", type := 9, offset := 1, embedded := false, tag := "", pkgPath := "", byteOffset := 8 } := by kernel_rfl
theorem T.f26_2 : fieldOf Try.prog 26 2 = some { name := "At", type := 3, offset := 2, embedded := false, tag := "", pkgPath := "", byteOffset := 24 } := by kernel_rfl
theorem T.f26_3 : fieldOf Try.prog 26 3 = some { name := "Args", type := 24, offset := 3, embedded := false, tag := "", pkgPath := "", byteOffset := 32 } := by kernel_rfl
theorem T.f28_0 : fieldOf Try.prog 28 0 = some { name := "Tree", type := 26, offset := 0, embedded := false, tag := "", pkgPath := "", byteOffset := 0 } := by kernel_rfl
theorem T.f28_1 : fieldOf Try.prog 28 1 = some { name := "Closed", type := 4, offset := 4, embedded := false, tag := "", pkgPath := "", byteOffset := 56 } := by kernel_rfl
theorem T.f43_0 : fieldOf Try.prog 43 0 = some { name := "Name", type := 9, offset := 0, embedded := false, tag := "", pkgPath := "", byteOffset := 0 } := by kernel_rfl
theorem T.f43_1 : fieldOf Try.prog 43 1 = some { name := "Fix", type := 3, offset := 1, embedded := false, tag := "", pkgPath := "", byteOffset := 16 } := by kernel_rfl
theorem T.f43_2 : fieldOf Try.prog 43 2 = some { name := "Prec", type := 3, offset := 2, embedded := false, tag := "", pkgPath := "", byteOffset := 24 } := by kernel_rfl
theorem T.f55_0 : fieldOf Try.prog 55 0 = some { name := "ops", type := 53, offset := 0, embedded := false, tag := "", pkgPath := "lfcheck/operator", byteOffset := 0 } := by kernel_rfl
theorem T.f55_1 : fieldOf Try.prog 55 1 = some { name := "bad", type := 33, offset := 1, embedded := false, tag := "", pkgPath := "lfcheck/operator", byteOffset := 8 } := by kernel_rfl
theorem T.ok4 : bodyOk Try.prog 4 = true := by kernel_rfl
theorem T.ok5 : bodyOk Try.prog 5 = true := by kernel_rfl
theorem T.ok7 : bodyOk Try.prog 7 = true := by kernel_rfl
theorem T.ok8 : bodyOk Try.prog 8 = true := by kernel_rfl
theorem T.ok11 : bodyOk Try.prog 11 = true := by kernel_rfl
theorem T.ok14 : bodyOk Try.prog 14 = true := by kernel_rfl
theorem T.ok15 : bodyOk Try.prog 15 = true := by kernel_rfl
theorem T.ok16 : bodyOk Try.prog 16 = true := by kernel_rfl
theorem T.ok17 : bodyOk Try.prog 17 = true := by kernel_rfl
theorem T.ok18 : bodyOk Try.prog 18 = true := by kernel_rfl
theorem T.ok19 : bodyOk Try.prog 19 = true := by kernel_rfl
theorem T.ok23 : bodyOk Try.prog 23 = true := by kernel_rfl
theorem T.ok25 : bodyOk Try.prog 25 = true := by kernel_rfl
theorem T.ok27 : bodyOk Try.prog 27 = true := by kernel_rfl
theorem T.ok28 : bodyOk Try.prog 28 = true := by kernel_rfl
theorem T.ok29 : bodyOk Try.prog 29 = true := by kernel_rfl
theorem T.ok30 : bodyOk Try.prog 30 = true := by kernel_rfl
theorem T.ok31 : bodyOk Try.prog 31 = true := by kernel_rfl
theorem T.ok32 : bodyOk Try.prog 32 = true := by kernel_rfl
theorem T.ok33 : bodyOk Try.prog 33 = true := by kernel_rfl
theorem T.ok34 : bodyOk Try.prog 34 = true := by kernel_rfl
theorem T.ok35 : bodyOk Try.prog 35 = true := by kernel_rfl
theorem T.ok36 : bodyOk Try.prog 36 = true := by kernel_rfl
theorem T.ok37 : bodyOk Try.prog 37 = true := by kernel_rfl
theorem T.ok38 : bodyOk Try.prog 38 = true := by kernel_rfl
theorem T.ok47 : bodyOk Try.prog 47 = true := by kernel_rfl
theorem T.ok48 : bodyOk Try.prog 48 = true := by kernel_rfl
theorem T.ok49 : bodyOk Try.prog 49 = true := by kernel_rfl
theorem T.ok50 : bodyOk Try.prog 50 = true := by kernel_rfl
theorem T.ok24 : bodyOk Try.prog 24 = true := by kernel_rfl
theorem T.ok26 : bodyOk Try.prog 26 = true := by kernel_rfl
theorem T.ok12 : bodyOk Try.prog 12 = true := by kernel_rfl
theorem T.ok6 : bodyOk Try.prog 6 = true := by kernel_rfl
theorem T.ok21 : bodyOk Try.prog 21 = true := by kernel_rfl
attribute [go_sem] T.sz3 T.ag3 T.sz4 T.ag4 T.sz5 T.ag5 T.sz9 T.ag9 T.sz22 T.ag22 T.sz23 T.ag23 T.sz24 T.ag24 T.sz26 T.ag26 T.sz28 T.ag28 T.sz30 T.ag30 T.sz33 T.ag33 T.sz38 T.ag38 T.sz39 T.ag39 T.sz43 T.ag43 T.sz48 T.ag48 T.sz53 T.ag53 T.sz55 T.ag55 T.sz60 T.ag60 T.sz65 T.ag65 T.sz69 T.ag69 T.el22 T.ap22 T.un22 T.el23 T.ap23 T.un23 T.el24 T.ap24 T.un24 T.el30 T.ap30 T.un30 T.el39 T.ap39 T.un39 T.el48 T.ap48 T.un48 T.el60 T.ap60 T.un60 T.un38 T.un3 T.un33 T.un9 T.z26 T.z28 T.z43 T.z33 T.z55 T.z65 T.z3 T.z9 T.f26_0 T.f26_1 T.f26_2 T.f26_3 T.f28_0 T.f28_1 T.f43_0 T.f43_1 T.f43_2 T.f55_0 T.f55_1 T.ok4 T.ok5 T.ok7 T.ok8 T.ok11 T.ok14 T.ok15 T.ok16 T.ok17 T.ok18 T.ok19 T.ok23 T.ok25 T.ok27 T.ok28 T.ok29 T.ok30 T.ok31 T.ok32 T.ok33 T.ok34 T.ok35 T.ok36 T.ok37 T.ok38 T.ok47 T.ok48 T.ok49 T.ok50 T.ok24 T.ok26 T.ok12 T.ok6 T.ok21


theorem T.fo26 : fieldsOk Try.prog #[{ name := "Kind", type := 3, offset := 0, embedded := false, tag := "", pkgPath := "", byteOffset := 0 }, { name := "Name", type := 9, offset := 1, embedded := false, tag := "", pkgPath := "", byteOffset := 8 }, { name := "At", type := 3, offset := 2, embedded := false, tag := "", pkgPath := "", byteOffset := 24 }, { name := "Args", type := 24, offset := 3, embedded := false, tag := "", pkgPath := "", byteOffset := 32 }] = true := by kernel_rfl
theorem T.fo28 : fieldsOk Try.prog #[{ name := "Tree", type := 26, offset := 0, embedded := false, tag := "", pkgPath := "", byteOffset := 0 }, { name := "Closed", type := 4, offset := 4, embedded := false, tag := "", pkgPath := "", byteOffset := 56 }] = true := by kernel_rfl
theorem T.fo43 : fieldsOk Try.prog #[{ name := "Name", type := 9, offset := 0, embedded := false, tag := "", pkgPath := "", byteOffset := 0 }, { name := "Fix", type := 3, offset := 1, embedded := false, tag := "", pkgPath := "", byteOffset := 16 }, { name := "Prec", type := 3, offset := 2, embedded := false, tag := "", pkgPath := "", byteOffset := 24 }] = true := by kernel_rfl
theorem T.fo55 : fieldsOk Try.prog #[{ name := "ops", type := 53, offset := 0, embedded := false, tag := "", pkgPath := "lfcheck/operator", byteOffset := 0 }, { name := "bad", type := 33, offset := 1, embedded := false, tag := "", pkgPath := "lfcheck/operator", byteOffset := 8 }] = true := by kernel_rfl
attribute [go_sem] T.fo26 T.fo28 T.fo43 T.fo55
theorem T.w_m2 : IntKind.i64.wrap (-2) = -2 := by decide
theorem T.w_m1 : IntKind.i64.wrap (-1) = -1 := by decide
theorem T.w_0 : IntKind.i64.wrap 0 = 0 := by decide
theorem T.w_1 : IntKind.i64.wrap 1 = 1 := by decide
theorem T.w_2 : IntKind.i64.wrap 2 = 2 := by decide
theorem T.w_3 : IntKind.i64.wrap 3 = 3 := by decide
theorem T.w_4 : IntKind.i64.wrap 4 = 4 := by decide
theorem T.w_5 : IntKind.i64.wrap 5 = 5 := by decide
theorem T.w_6 : IntKind.i64.wrap 6 = 6 := by decide
attribute [go_sem] T.w_m2 T.w_m1 T.w_0 T.w_1 T.w_2 T.w_3 T.w_4 T.w_5 T.w_6
theorem T.mt53 : mapT Try.prog 53 = some 43 := by kernel_rfl
theorem T.zv43 : zeroV Try.prog 43 = some (.f (.agg [.lit (.string ⟨#[]⟩), .lit (.int .i64 0), .lit (.int .i64 0)])) := by kernel_rfl
attribute [go_sem] T.mt53 T.zv43
theorem T.nlt (n j : Nat) : (n + j < n) = False := by simp only [eq_iff_iff, iff_false]; omega
theorem T.gal {α : Type} (l m : List α) (j : Nat) : (l ++ m)[l.length + j]? = m[j]? := by rw [List.getElem?_append_right (by omega)]; congr 1; omega
theorem T.ga0 {α : Type} (l m : List α) : (l ++ m)[l.length]? = m[0]? := by rw [List.getElem?_append_right (by omega)]; congr 1; omega
theorem T.sal {α : Type} (l m : List α) (j : Nat) (x : α) : (l ++ m).set (l.length + j) x = l ++ m.set j x := by rw [List.set_append_right _ _ (by omega)]; congr 2; omega
theorem T.sa0 {α : Type} (l m : List α) (x : α) : (l ++ m).set l.length x = l ++ m.set 0 x := by rw [List.set_append_right _ _ (by omega)]; congr 2; omega
attribute [go_sem] T.nlt T.gal T.ga0 T.sal T.sa0
/-! ### Values -/
abbrev T.I (n : Int) : FVal := .lit (.int .i64 n)
abbrev T.S (s : ByteArray) : FVal := .lit (.string s)
abbrev T.B (b : Bool) : FVal := .lit (.bool b)
/-- An operand that is a name. -/
def T.op (s : ByteArray) : FVal := .agg [T.I 1, T.S s, T.I 0, .sl 0 [], T.B false]
/-- Trees of arrows. -/
inductive AT where
  | leaf (s : ByteArray)
  | node (a b : AT)
def AT.f : AT → FVal
  | .leaf s => .agg [T.I 1, T.S s, T.I 0, .sl 0 []]
  | .node a b => .agg [T.I 6, T.S ⟨#[]⟩, T.I 0, .sl 4 [a.f, b.f]]

theorem K_use {K w : Env → St → Prop} (h : ∀ e s, w e s → K e s) {e : Env} {s : St} (hw : w e s) : K e s := h _ _ hw
theorem AT.f_agg (a : AT) : ∃ x1 x2 x3 x4, a.f = .agg [x1, x2, x3, x4] := by cases a <;> exact ⟨_, _, _, _, rfl⟩
def argEnv (ds : List DVal) : Env := ds.zipIdx.map fun p => (p.2, p.1)
attribute [go_sem] argEnv DPlan DNews DOlds Agree getO DOp
/-- A function's contract, by its body; only the arguments are known. -/
theorem DCalls_args_of {P : Program} {f : FuncId} {fn : Func} {c : Code} {ds : List DVal} {σ : St} {R : Res → St → Prop} (hf : P.funcs[f]? = some fn) (hb : fn.body = some c) (hl : ds.length ≤ fn.ntmps)
    (h : W P fn.ntmps c (argEnv ds) σ (bodyQ P fn R)) : DCalls P f ds σ R := by
  refine DCalls_of hf hb hl fun B κ w a hI he hn hd => h B κ w a hI (fun t d ht => he t d ?_) hn hd
  unfold mkEnv
  rw [get_append]
  have : Env.get (ds.zipIdx.map fun p => (p.2, p.1)) t = some d := ht
  rw [this]
/-- A loop over N elements. -/
theorem W_index {P : Program} {n : Nat} {c : Code} {env : Env} {σ : St} {Q : Out → Env → St → Prop} (I : Nat → Env → St → Prop) (N i0 : Nat) (hi : i0 ≤ N) (h0 : I i0 env σ)
    (step : ∀ i env σ, i < N → I i env σ → ∀ K : Env → St → Prop, (∀ e s, I (i + 1) e s → K e s) → W P n c env σ (thenQ K Q)) (stop : ∀ env σ, I N env σ → ∀ K : Env → St → Prop, W P n c env σ (thenQ K Q)) : W P n (.loop c) env σ Q := by
  have key : ∀ r i env σ, i + r = N → I i env σ → WL P n c env σ Q := by
    intro r
    induction r with
    | zero => intro i env σ hr h; exact WL_of (stop env σ (by rw [← hr]; exact h) _)
    | succ r ih => intro i env σ hr h; exact WL_of (step i env σ (by omega) h _ fun e s hs => ih (i + 1) e s (by omega) hs)
  exact W_of_WL (key (N - i0) i0 env σ (by omega) h0)
theorem W_seq_c {P : Program} {n : Nat} {x y : Code} {env : Env} {σ : St} {Q : Out → Env → St → Prop} (h : ∀ K : Env → St → Prop, (∀ e s, W P n y e s Q → K e s) → W P n x env σ (thenQ K Q)) : W P n (.seq x y) env σ Q := W_seq_k h
theorem WL_of_k {P : Program} {n : Nat} {c : Code} {env : Env} {σ : St} {Q : Out → Env → St → Prop} (h : ∀ K : Env → St → Prop, (∀ e s, WL P n c e s Q → K e s) → W P n c env σ (thenQ K Q)) : WL P n c env σ Q := WL_of (h _ fun _ _ h => h)
end Go.Proofs
