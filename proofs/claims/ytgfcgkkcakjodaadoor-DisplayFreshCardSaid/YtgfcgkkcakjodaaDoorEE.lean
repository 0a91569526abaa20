/-
  D-LOGIC, part E: what an operation computes over deep values (calls aside), and that the model's run of it does so.
-/
import Derived.Test.YtgfcgkkcakjodaaDoorED
set_option linter.unusedVariables false
set_option linter.unusedSimpArgs false
namespace Go.DL
open Go.RowKit

/-! ### Scalars -/
def evalBin (op : BinOp) : Value → Value → Option Value
  | .int k a, .int k' b =>
    if k = k' then
      match op with
      | .add => some (.int k (k.wrap (a + b)))
      | .sub => some (.int k (k.wrap (a - b)))
      | .mul => some (.int k (k.wrap (a * b)))
      | .quo => if b = 0 then none else some (.int k (k.wrap (a.tdiv b)))
      | .rem => if b = 0 then none else some (.int k (a.tmod b))
      | .eql => some (.bool (decide (a = b)))
      | .neq => some (.bool (decide (¬ a = b)))
      | .lss => some (.bool (decide (a < b)))
      | .leq => some (.bool (decide (a ≤ b)))
      | .gtr => some (.bool (decide (b < a)))
      | .geq => some (.bool (decide (b ≤ a)))
      | _ => none
    else none
  | .string a, .string b =>
    match op with
    | .add => if a.size + b.size ≤ 4611686018427387904 then some (.string (a ++ b)) else none
    | .eql => some (.bool (decide (a = b)))
    | .neq => some (.bool (decide (¬ a = b)))
    | .lss => some (.bool (Op.bytesLess a.toList b.toList))
    | _ => none
  | _, _ => none

def evalUn (op : UnOp) : Value → Option Value
  | .bool b => match op with | .not => some (.bool (!b)) | _ => none
  | .int k n => match op with | .neg => some (.int k (k.wrap (0 - n))) | _ => none
  | _ => none

theorem str_eq_iff (a b : ByteArray) : (a.toList == b.toList) = decide (a = b) := by
  rw [Bool.eq_iff_iff]
  simp only [beq_iff_eq, decide_eq_true_eq]
  constructor
  · intro h
    rw [ByteArray.toList_eq, ByteArray.toList_eq] at h
    cases a; cases b
    simp only [ByteArray.mk.injEq]
    exact Array.toList_inj.1 h
  · intro h; rw [h]

theorem evalBin_sound (P : Program) (w : World) (op : BinOp) (t : TypeId) (x y : Operand) {a b v : Value} (h : evalBin op a b = some v) :
    (do eqGuard op t x y a b; binOp op t a b : Sem Value).run P w = .ok v w ∧ plainV v = true := by
  cases a <;> cases b <;> simp only [evalBin, reduceCtorEq] at h
  case int.int k n k' m =>
    split at h
    · rename_i hk; subst hk
      cases op <;> simp only [reduceCtorEq] at h
      case quo => split at h
                  · cases h
                  · rename_i hm; cases h; simp [eqGuard, binOp, Op.intDiv, hm, plainV, plain0]
      case rem => split at h
                  · cases h
                  · rename_i hm; cases h; simp [eqGuard, binOp, Op.intDiv, hm, plainV, plain0]
      all_goals (cases h; simp [eqGuard, binOp, Op.intArith, Op.intCmp, plainV, plain0] <;> first | done | rfl | (rw [Bool.eq_iff_iff]; simp))
    · cases h
  case string.string s s' =>
    cases op <;> simp only [reduceCtorEq] at h
    case add =>
      split at h
      · rename_i hs
        cases h
        have : ¬ (IntKind.i64.max < (s.size : Int) + (s'.size : Int)) := by
          have h1 : IntKind.i64.max = 9223372036854775807 := by decide
          omega
        have h2 : ¬ ((9223372036854775807 : Int) < (s.size : Int) + (s'.size : Int)) := by omega
        simp [eqGuard, binOp, Op.stringOp, this, h2, plainV, plain0]
      · cases h
    all_goals (cases h; simp [eqGuard, binOp, Op.stringOp, plainV, plain0, str_eq_iff] <;> first | done | rfl)

theorem evalUn_sound (P : Program) (w : World) (op : UnOp) {a v : Value} (h : evalUn op a = some v) : (Op.unary op a).run P w = .ok v w ∧ plainV v = true := by
  cases a <;> simp only [evalUn, reduceCtorEq] at h
  case bool b => cases op <;> simp only [reduceCtorEq] at h; cases h; simp [Op.unary, plainV, plain0]
  case int k n => cases op <;> simp only [reduceCtorEq] at h; cases h; simp [Op.unary, Op.intArith, plainV, plain0]

/-- What comes without a look at memory. -/
def pureRun (P : Program) {α : Type} : Sem α → Option α
  | .pure a => some a
  | .program k => pureRun P (k P)
  | .mark _ k => pureRun P k
  | _ => none
theorem pureRun_sound (P : Program) {α : Type} (s : Sem α) {a : α} (h : pureRun P s = some a) (w : World) : s.run P w = .ok a w := by
  induction s with
  | pure x => simp only [pureRun, Option.some.injEq] at h; subst h; rfl
  | program k ih => exact ih P h
  | mark m k ih => exact ih h
  | _ => simp [pureRun] at h

/-! ### Environments -/
abbrev Env := List (Nat × DVal)
def Env.get : Env → Nat → Option DVal
  | [], _ => none
  | (k, d) :: r, t => bif Nat.beq k t then some d else Env.get r t
def Env.put (env : Env) : Option Tmp → DVal → Env
  | some t, d => (t, d) :: env
  | none, _ => env

def REnv (σ : St) (κ : Kap) (w : World) (env : Env) (a : Act) : Prop := ∀ t d, env.get t = some d → ∃ v, a.tmps[t]? = some v ∧ Rep1 σ κ w d v

theorem REnv.ext {B : Nat} {σ σ' : St} {κ κ' : Kap} {w w' : World} {env : Env} {a : Act} (h : REnv σ κ w env a) (e : Ext B σ κ w σ' κ' w') : REnv σ' κ' w' env a := fun t d hd =>
  let ⟨v, hv, hr⟩ := h t d hd
  ⟨v, hv, hr.ext e⟩
theorem REnv.put {σ : St} {κ : Kap} {w : World} {env : Env} {a : Act} (h : REnv σ κ w env a) {dst : Option Tmp} {d : DVal} {v : Value} (hd : Rep1 σ κ w d v) (hlt : ∀ t, dst = some t → t < a.tmps.size) : REnv σ κ w (env.put dst d) (a.put dst v) := by
  intro t x hx
  cases dst with
  | none => exact h t x hx
  | some t0 =>
    simp only [Env.put, Env.get] at hx
    by_cases ht : t0 = t
    · subst ht
      simp at hx; subst hx
      exact ⟨v, by simp [Act.put, hlt t0 rfl], hd⟩
    · have : Nat.beq t0 t = false := by
        cases hb : Nat.beq t0 t
        · rfl
        · exact absurd (Nat.eq_of_beq_eq_true hb) ht
      rw [this] at hx
      obtain ⟨u, hu, hr⟩ := h t x hx
      exact ⟨u, by simp [Act.put, Array.getElem?_setIfInBounds_ne ht, hu], hr⟩

/-- A constant of the program's text. -/
def constD : Value → Option DVal
  | .slice none n c => if n = 0 ∧ c = 0 then some (.full 0 []) else none
  | .func f xs ys => if xs.size = 0 ∧ ys.size = 0 then some (.fn f []) else none
  | .tuple xs => if xs.size = 0 then some (.tup []) else none
  | v => if plainV v then some (.f (.lit v)) else none
theorem constD_sound {σ : St} {κ : Kap} {w : World} {v : Value} {d : DVal} (h : constD v = some d) : Rep1 σ κ w d v := by
  unfold constD at h
  split at h
  · split at h
    · rename_i hz; obtain ⟨rfl, rfl⟩ := hz; cases h; exact .fnil .nil
    · cases h
  · split at h
    · rename_i hz; obtain ⟨h1, h2⟩ := hz
      have h1 := Array.eq_empty_of_size_eq_zero h1
      have h2 := Array.eq_empty_of_size_eq_zero h2
      subst h1; subst h2
      cases h; exact .fn (us := []) .nil .nil
    · cases h
  · split at h
    · rename_i h1
      have h1 := Array.eq_empty_of_size_eq_zero h1
      subst h1
      cases h; exact .tup (us := []) .nil .nil
    · cases h
  · split at h
    · cases h; exact .f (.mk_lit (by assumption)) .nil
    · cases h

def evalX (env : Env) : Operand → Option DVal
  | .tmp t => env.get t
  | .const v => constD v
  | .func f => some (.fn (.func f) [])
  | .global _ => none
theorem evalX_sound {σ : St} {κ : Kap} {w : World} {env : Env} {a : Act} (h : REnv σ κ w env a) {x : Operand} {d : DVal} (hx : evalX env x = some d) : Rep1 σ κ w d (a.eval x) := by
  cases x with
  | tmp t =>
    obtain ⟨v, hv, hr⟩ := h t d hx
    simpa [Act.eval, hv] using hr
  | const v => exact constD_sound hx
  | func f => simp only [evalX, Option.some.injEq] at hx; subst hx; exact .fn (us := []) .nil .nil
  | global g => simp [evalX] at hx

def evalXs (env : Env) : List Operand → Option (List DVal)
  | [] => some []
  | x :: r => (evalX env x).bind fun d => (evalXs env r).bind fun ds => some (d :: ds)
theorem evalXs_sound {σ : St} {κ : Kap} {w : World} {env : Env} {a : Act} (h : REnv σ κ w env a) : ∀ {xs : List Operand} {ds : List DVal}, evalXs env xs = some ds → RepD σ κ w ds (xs.map a.eval)
  | [], ds, hx => by simp only [evalXs, Option.some.injEq] at hx; subst hx; exact .nil
  | x :: r, ds, hx => by
    simp only [evalXs, Option.bind_eq_some_iff, Option.some.injEq] at hx
    obtain ⟨d, hd, ds', hds, rfl⟩ := hx
    exact RepD.cons (evalX_sound h hd) (evalXs_sound h hds)

/-- Plain values as they are. -/
def FVal.lit? : FVal → Option Value
  | .lit v => some v
  | _ => none
def lits? : List FVal → Option (List Value)
  | [] => some []
  | c :: r => c.lit?.bind fun v => (lits? r).bind fun vs => some (v :: vs)
def FVal.plain? : FVal → Option Value
  | .lit v => some v
  | .agg cs => (lits? cs).map fun vs => .agg vs.toArray
  | .sl _ _ => none
def DVal.plain? : DVal → Option Value
  | .f v => v.plain?
  | .tup vs => if vs.length = 0 then some undef else none
  | .fn g caps => if caps.length = 0 then some (.func g #[] #[]) else none
  | _ => none
theorem lits_sound {S : Addr → Prop} {w : World} : ∀ {cs : List FVal} {us vs : List Value}, RepL S w cs us → lits? cs = some vs → us = vs
  | [], us, vs, h, hm => by simp only [lits?, Option.some.injEq] at hm; subst hm; exact h.nil_inv
  | c :: cs, us, vs, h, hm => by
    obtain ⟨v, us', rfl, h0, ht⟩ := h.cons_inv
    simp only [lits?, Option.bind_eq_some_iff, Option.some.injEq] at hm
    obtain ⟨x, hx, vs', hv, rfl⟩ := hm
    cases c with
    | lit y => simp only [FVal.lit?, Option.some.injEq] at hx; subst hx; rw [h0.of_lit.1, lits_sound ht hv]
    | sl k es => simp [FVal.lit?] at hx
    | agg es => simp [FVal.lit?] at hx
theorem DVal.plain_sound {σ : St} {κ : Kap} {w : World} {d : DVal} {v u : Value} (h : Rep1 σ κ w d v) (hp : d.plain? = some u) : v = u := by
  cases h with
  | f h _ =>
    cases h with
    | lit h _ => simpa [DVal.plain?, FVal.plain?] using hp
    | snil _ => simp [DVal.plain?, FVal.plain?] at hp
    | sl => simp [DVal.plain?, FVal.plain?] at hp
    | agg r h1 _ =>
      simp only [DVal.plain?, FVal.plain?, Option.map_eq_some_iff] at hp
      obtain ⟨vs, hm, rfl⟩ := hp
      rw [lits_sound r hm]
  | tup r _ =>
    rename_i cs us
    simp only [DVal.plain?] at hp
    split at hp
    · rename_i hl
      have := List.eq_nil_of_length_eq_zero hl; subst this
      have := r.nil_inv; subst this; simpa [undef] using hp
    · cases hp
  | fn r _ =>
    rename_i f caps us
    simp only [DVal.plain?] at hp
    split at hp
    · rename_i hl
      have := List.eq_nil_of_length_eq_zero hl; subst this
      have := r.nil_inv; subst this; simpa using hp
    · cases hp
  | fnil _ => simp [DVal.plain?] at hp
  | full => simp [DVal.plain?] at hp
  | arr => simp [DVal.plain?] at hp
  | ptr => simp [DVal.plain?] at hp
  | ep => simp [DVal.plain?] at hp
  | ap => simp [DVal.plain?] at hp
  | map => simp [DVal.plain?] at hp
  | agg => simp [DVal.plain?] at hp
  | yld => simp [DVal.plain?] at hp

/-- A plain value as one of a run. -/
def ofPlain : Value → Option DVal
  | .tuple vs => if vs.toList.all plainV then some (.tup (vs.toList.map fun v => .f (.lit v))) else none
  | .agg cs => if cs.toList.all plainV then some (.f (.agg (cs.toList.map .lit))) else none
  | v => if plainV v then some (.f (.lit v)) else none
theorem RepL.lits {S : Addr → Prop} {w : World} : ∀ {vs : List Value}, vs.all plainV = true → RepL S w (vs.map .lit) vs
  | [], _ => .nil
  | v :: vs, h => by
    simp only [List.all_cons, Bool.and_eq_true] at h
    exact .lit h.1 (RepL.lits h.2)
theorem ofPlain_sound {σ : St} {κ : Kap} {w : World} {v : Value} {d : DVal} (h : ofPlain v = some d) : Rep1 σ κ w d v := by
  unfold ofPlain at h
  split at h
  · rename_i vs
    split at h
    · rename_i hp
      cases h
      have := (RepL.lits (S := κ.S) (w := w) hp).toD (σ := σ)
      rw [List.map_map] at this
      exact .tup (us := vs.toList) this .nil
    · cases h
  · rename_i cs
    split at h
    · rename_i hp
      cases h
      exact .f (.agg (us := cs.toList) (RepL.lits hp) (fun u hu => plainV_one (List.all_eq_true.1 hp u hu)) .nil) .nil
    · cases h
  · split at h
    · cases h; exact .f (.mk_lit (by assumption)) .nil
    · cases h
end Go.DL
