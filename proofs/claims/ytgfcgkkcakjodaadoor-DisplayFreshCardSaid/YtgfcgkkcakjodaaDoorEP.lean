/-
  D-LOGIC, part P: an evaluator for closed runs.
-/
import Derived.Test.YtgfcgkkcakjodaaDoorEO
set_option linter.unusedVariables false
set_option linter.unusedSimpArgs false
namespace Go.DL
open Go.RowKit

def eqV : Value → Value → Bool
  | .bool a, .bool b => a == b
  | .int j a, .int k b => decide (j = k) && decide (a = b)
  | .string a, .string b => decide (a = b)
  | .pointer none, .pointer none => true
  | .map none, .map none => true
  | .nilFunc, .nilFunc => true
  | .nilIface, .nilIface => true
  | .iface t v, .iface u w => Nat.beq t u && eqV v w
  | _, _ => false
theorem eqV_eq : ∀ {v w : Value}, eqV v w = true → v = w
  | .iface t v, .iface u w, h => by
    simp only [eqV, Bool.and_eq_true] at h
    rw [Nat.eq_of_beq_eq_true h.1, eqV_eq h.2]
  | .bool a, w, h => by cases w <;> simp_all [eqV]
  | .int j a, w, h => by cases w <;> simp_all [eqV]
  | .float .., w, h => by cases w <;> simp_all [eqV]
  | .complex .., w, h => by cases w <;> simp_all [eqV]
  | .string a, w, h => by cases w <;> simp_all [eqV]
  | .pointer none, w, h => by cases w <;> simp_all [eqV]; rename_i a; cases a <;> simp_all [eqV]
  | .pointer (some _), w, h => by cases w <;> simp_all [eqV]
  | .slice .., w, h => by cases w <;> simp_all [eqV]
  | .map none, w, h => by cases w <;> simp_all [eqV]; rename_i a; cases a <;> simp_all [eqV]
  | .map (some _), w, h => by cases w <;> simp_all [eqV]
  | .chan .., w, h => by cases w <;> simp_all [eqV]
  | .func .., w, h => by cases w <;> simp_all [eqV]
  | .nilFunc, w, h => by cases w <;> simp_all [eqV]
  | .nilIface, w, h => by cases w <;> simp_all [eqV]
  | .agg .., w, h => by cases w <;> simp_all [eqV]
  | .tuple .., w, h => by cases w <;> simp_all [eqV]
  | .iface t v, .bool _, h => by simp [eqV] at h
  | .iface t v, .int _ _, h => by simp [eqV] at h
  | .iface t v, .float _ _, h => by simp [eqV] at h
  | .iface t v, .complex _ _ _, h => by simp [eqV] at h
  | .iface t v, .string _, h => by simp [eqV] at h
  | .iface t v, .pointer _, h => by simp [eqV] at h
  | .iface t v, .slice _ _ _, h => by simp [eqV] at h
  | .iface t v, .map _, h => by simp [eqV] at h
  | .iface t v, .chan _, h => by simp [eqV] at h
  | .iface t v, .func _ _ _, h => by simp [eqV] at h
  | .iface t v, .nilFunc, h => by simp [eqV] at h
  | .iface t v, .nilIface, h => by simp [eqV] at h
  | .iface t v, .agg _, h => by simp [eqV] at h
  | .iface t v, .tuple _, h => by simp [eqV] at h

mutual
def eqF : FVal → FVal → Bool
  | .lit v, .lit w => eqV v w
  | .sl k es, .sl j fs => Nat.beq k j && eqFs es fs
  | .agg es, .agg fs => eqFs es fs
  | _, _ => false
def eqFs : List FVal → List FVal → Bool
  | [], [] => true
  | x :: xs, y :: ys => eqF x y && eqFs xs ys
  | _, _ => false
end
mutual
theorem eqF_eq : ∀ {x y : FVal}, eqF x y = true → x = y
  | .lit v, .lit w, h => by rw [eqV_eq (v := v) (w := w) (by simpa [eqF] using h)]
  | .sl k es, .sl j fs, h => by
    simp only [eqF, Bool.and_eq_true] at h
    rw [Nat.eq_of_beq_eq_true h.1, eqFs_eq h.2]
  | .agg es, .agg fs, h => by rw [eqFs_eq (x := es) (y := fs) (by simpa [eqF] using h)]
  | .lit _, .sl _ _, h => by simp [eqF] at h
  | .lit _, .agg _, h => by simp [eqF] at h
  | .sl _ _, .lit _, h => by simp [eqF] at h
  | .sl _ _, .agg _, h => by simp [eqF] at h
  | .agg _, .lit _, h => by simp [eqF] at h
  | .agg _, .sl _ _, h => by simp [eqF] at h
theorem eqFs_eq : ∀ {x y : List FVal}, eqFs x y = true → x = y
  | [], [], _ => rfl
  | x :: xs, y :: ys, h => by
    simp only [eqFs, Bool.and_eq_true] at h
    rw [eqF_eq h.1, eqFs_eq h.2]
  | [], _ :: _, h => by simp [eqFs] at h
  | _ :: _, [], h => by simp [eqFs] at h
end
def eqFn : Fn → Fn → Bool
  | .func a, .func b => Nat.beq a b
  | _, _ => false
mutual
def eqD : DVal → DVal → Bool
  | .f v, .f w => eqF v w
  | .full k es, .full j fs => Nat.beq k j && eqFs es fs
  | .arr t g, .arr t' g' => Nat.beq t t' && Nat.beq g g'
  | .ptr o i, .ptr o' i' => Nat.beq o o' && Nat.beq i i'
  | .ep es, .ep fs => eqFs es fs
  | .ap a b c d, .ap a' b' c' d' => Nat.beq a a' && Nat.beq b b' && Nat.beq c c' && Nat.beq d d'
  | .fn g cs, .fn g' cs' => eqFn g g' && eqDs cs cs'
  | .map o, .map o' => Nat.beq o o'
  | .agg cs, .agg cs' => eqDs cs cs'
  | .tup cs, .tup cs' => eqDs cs cs'
  | .yld o, .yld o' => Nat.beq o o'
  | _, _ => false
def eqDs : List DVal → List DVal → Bool
  | [], [] => true
  | x :: xs, y :: ys => eqD x y && eqDs xs ys
  | _, _ => false
end
theorem nb {a b : Nat} (h : Nat.beq a b = true) : a = b := Nat.eq_of_beq_eq_true h
theorem eqFn_eq : ∀ {x y : Fn}, eqFn x y = true → x = y := by
  intro x y h
  cases x <;> cases y <;> simp [eqFn] at h
  rw [h]
mutual
theorem eqD_eq : ∀ {x y : DVal}, eqD x y = true → x = y := by
  intro x y h
  cases x <;> cases y <;> simp only [eqD, Bool.and_eq_true, Bool.false_eq_true] at h
  · rw [eqF_eq h]
  · rw [nb h.1, eqFs_eq h.2]
  · rw [nb h.1, nb h.2]
  · rw [nb h.1, nb h.2]
  · rw [eqFs_eq h]
  · rw [nb h.1.1.1, nb h.1.1.2, nb h.1.2, nb h.2]
  · rw [eqFn_eq h.1, eqDs_eq h.2]
  · rw [nb h]
  · rw [eqDs_eq h]
  · rw [eqDs_eq h]
  · rw [nb h]
theorem eqDs_eq : ∀ {x y : List DVal}, eqDs x y = true → x = y
  | [], [], _ => rfl
  | x :: xs, y :: ys, h => by
    simp only [eqDs, Bool.and_eq_true] at h
    rw [eqD_eq h.1, eqDs_eq h.2]
  | [], _ :: _, h => by simp [eqDs] at h
  | _ :: _, [], h => by simp [eqDs] at h
end

/-! ### Plans, made -/
def isEff : Op → Bool
  | .call { callee := .value _, .. } => true
  | .call { callee := .invoke _ _, .. } => true
  | .call { callee := .builtin .append, .. } => true
  | .call { callee := .builtin .copy, .. } => true
  | .call { callee := .builtin .delete, .. } => true
  | .store .. | .assign .. | .alloc .. | .box .. | .makeMap .. | .mapUpdate .. | .insert .. | .makeSlice .. | .panic _ | .defer _ | .mapEntry .. | .entryStore .. => true
  | _ => false
def mkTb (ops : Array Oper) : List Nat := ops.toList.foldl (fun tb o => tb ++ [bitsOf tb o]) []
def mkStages (ops : Array Oper) (effs tb done : List Nat) (last : Option Nat) : List Nat → List (List Nat × List Nat)
  | [] =>
    let may := (List.range ops.size).filter fun i => !effs.contains i && mayAt tb done [] i
    let isNew := fun i => match last with | some e => (tb.getD i 0).testBit e | none => true
    [(may.filter isNew, may.filter fun i => !isNew i)]
  | e :: es =>
    let may := (List.range ops.size).filter fun i => !effs.contains i && mayAt tb done (e :: es) i
    let isNew := fun i => match last with | some e => (tb.getD i 0).testBit e | none => true
    (may.filter isNew, may.filter fun i => !isNew i) :: mkStages ops effs tb (done ++ [e]) (some e) es
def mkPlan (ops : Array Oper) : RPlan :=
  let tb := mkTb ops
  let effs := (List.range ops.size).filter fun i => match ops[i]? with | some o => isEff o.op | none => false
  { tb, effs, stages := mkStages ops effs tb [] none effs }

/-- The same; a slice of a slice may turn the state: it is an effect. -/
def isEff2 : Op → Bool
  | .slice .. => true
  | o => isEff o
def mkPlan2 (ops : Array Oper) : RPlan :=
  let tb := mkTb ops
  let effs := (List.range ops.size).filter fun i => match ops[i]? with | some o => isEff2 o.op | none => false
  { tb, effs, stages := mkStages ops effs tb [] none effs }

/-! ### The evaluator -/
abbrev CallE := FuncId → List DVal → St → Option (Res × St)
abbrev YldE := Nat → List DVal → St → Option (Bool × St)
def runOps (P : Program) (call : CallE) (yl : YldE) (ops : Array Oper) : List Oper → Env → St → Option (Out × Env × St)
  | [], env, σ => some (.norm, env, σ)
  | o :: rest, env, σ => match wantD ops o env with
    | some true => match callD P o env with
      | some (f, ds) => match call f ds σ with
        | some (.ret d, σ') => runOps P call yl ops rest (env.put o.dst d) σ'
        | some (.pan d, σ') => some (.pan d, env, σ')
        | none => none
      | none => match yieldD o env with
        | some (i, ds) => match yl i ds σ with
          | some (b, σ') => runOps P call yl ops rest (env.put o.dst (.f (.lit (.bool b)))) σ'
          | none => none
        | none => match o.op with
          | .panic x => match evalX env x with
            | some (.f (.lit (.iface t v))) => some (.pan (.f (.lit (.iface t v))), env, σ)
            | _ => none
          | _ => match evalOp P o env σ with
            | some (d, σ') => runOps P call yl ops rest (env.put o.dst d) σ'
            | none => none
    | some false => runOps P call yl ops rest (env.put o.dst (.tup [])) σ
    | none => none


def eqEs : List (Value × DVal) → List (Value × DVal) → Bool
  | [], [] => true
  | (v, d) :: r, (w, e) :: r' => eqV v w && eqD d e && eqEs r r'
  | _, _ => false
theorem eqEs_eq : ∀ {x y : List (Value × DVal)}, eqEs x y = true → x = y
  | [], [], _ => rfl
  | (v, d) :: r, (w, e) :: r', h => by
    simp only [eqEs, Bool.and_eq_true] at h
    rw [eqV_eq h.1.1, eqD_eq h.1.2, eqEs_eq h.2]
  | [], _ :: _, h => by simp [eqEs] at h
  | _ :: _, [], h => by simp [eqEs] at h
def eqOb : Ob → Ob → Bool
  | .cells a, .cells b => eqDs a b
  | .map a, .map b => eqEs a b
  | .dead, .dead => true
  | _, _ => false
theorem eqOb_eq {x y : Ob} (h : eqOb x y = true) : x = y := by
  cases x <;> cases y <;> simp only [eqOb, Bool.false_eq_true] at h
  · rw [eqDs_eq h]
  · rw [eqEs_eq h]
  · rfl
def eqObs : List Ob → List Ob → Bool
  | [], [] => true
  | x :: xs, y :: ys => eqOb x y && eqObs xs ys
  | _, _ => false
theorem eqObs_eq : ∀ {x y : List Ob}, eqObs x y = true → x = y
  | [], [], _ => rfl
  | x :: xs, y :: ys, h => by
    simp only [eqObs, Bool.and_eq_true] at h
    rw [eqOb_eq h.1, eqObs_eq h.2]
  | [], _ :: _, h => by simp [eqObs] at h
  | _ :: _, [], h => by simp [eqObs] at h
def eqArs : List Ar → List Ar → Bool
  | [], [] => true
  | x :: xs, y :: ys => Nat.beq x.ty y.ty && Nat.beq x.k y.k && eqFs x.es y.es && Nat.beq x.gen y.gen && Nat.beq x.floor y.floor && eqArs xs ys
  | _, _ => false
theorem eqArs_eq : ∀ {x y : List Ar}, eqArs x y = true → x = y
  | [], [], _ => rfl
  | x :: xs, y :: ys, h => by
    simp only [eqArs, Bool.and_eq_true] at h
    obtain ⟨⟨⟨⟨⟨h1, h2⟩, h3⟩, h4⟩, h5⟩, h6⟩ := h
    rw [eqArs_eq h6]
    cases x; cases y
    simp only at h1 h2 h3 h4 h5
    rw [nb h1, nb h2, eqFs_eq h3, nb h4, nb h5]
  | [], _ :: _, h => by simp [eqArs] at h
  | _ :: _, [], h => by simp [eqArs] at h
def eqSt (x y : St) : Bool := eqObs x.objs y.objs && eqArs x.arrs y.arrs
theorem eqSt_eq {x y : St} (h : eqSt x y = true) : x = y := by
  simp only [eqSt, Bool.and_eq_true] at h
  cases x; cases y
  simp only at h
  rw [eqObs_eq h.1, eqArs_eq h.2]

/-- Operations that leave the state as it is. -/
def stills : Op → Bool
  | .move .. | .pick .. | .load .. | .binOp .. | .unOp .. | .fieldAddr .. | .field .. | .indexAddr .. | .index .. | .lookup .. | .extract .. | .makeFunc .. | .nilCheck .. | .makeInterface .. | .typeAssert .. | .build .. => true
  | .call { callee := .builtin .len, .. } => true
  | .call { callee := .builtin .max, .. } => true
  | _ => false
theorem evalOp_still {P : Program} {o : Oper} {env : Env} {σ σ' : St} {d : DVal} (hs : stills o.op = true) (h : evalOp P o env σ = some (d, σ')) : σ' = σ := by
  unfold evalOp at h
  split at h
  all_goals rename_i heq
  all_goals (try (rw [heq] at hs; simp [stills] at hs; done))
  all_goals (try (simp only [Option.map_eq_some_iff, Option.bind_eq_some_iff, Prod.mk.injEq] at h; grind))
  all_goals (try (simp only [Option.bind_eq_some_iff] at h; obtain ⟨_, _, h⟩ := h))
  all_goals (try (simp only [Option.bind_eq_some_iff] at h; obtain ⟨_, _, h⟩ := h))
  all_goals (try split at h)
  all_goals (try (simp only [Option.map_eq_some_iff, Option.bind_eq_some_iff, Prod.mk.injEq] at h; grind))
  all_goals (try (cases h; done))
  case h_11 =>
    obtain ⟨_, _, h⟩ := h
    split at h
    case h_3 =>
      split at h
      · simp only [Option.some.injEq, Prod.mk.injEq] at h; exact h.2.symm
      · simp only [Option.map_eq_some_iff, Prod.mk.injEq] at h; grind
    all_goals (simp only [Option.map_eq_some_iff, Prod.mk.injEq] at h; grind)
  case h_14 =>
    rename_i first caps
    cases hb : Nat.beq first.size 0 with
    | false => simp [hb] at h
    | true =>
      simp only [hb, cond_true, Option.map_eq_some_iff, Prod.mk.injEq] at h
      grind

/-- A value that leaves the state. -/
def floatE (P : Program) (ops : Array Oper) (env : Env) (σ : St) (i : Nat) : Option (Oper × DVal) := match ops[i]? with
  | none => none
  | some o => match wantD ops o env with
    | some true => match evalOp P o env σ with
      | some (d, σ') => bif stills o.op || eqSt σ' σ then some (o, d) else none
      | none => none
    | some false => some (o, .tup [])
    | none => none
def newsE (P : Program) (ops : Array Oper) : List Nat → Env → St → Option Env
  | [], env, _ => some env
  | i :: r, env, σ => match floatE P ops env σ i with
    | some (o, d) => newsE P ops r (env.put o.dst d) σ
    | none => none
def oldsE (P : Program) (ops : Array Oper) : List Nat → Env → St → Bool
  | [], _, _ => true
  | i :: r, env, σ => (match floatE P ops env σ i with
    | some (o, d) => (match o.dst with | some t => (match env.get t with | some d' => eqD d' d | none => false) | none => true)
    | none => false) && oldsE P ops r env σ
def planE (P : Program) (call : CallE) (yl : YldE) (ops : Array Oper) : List (List Nat × List Nat) → List Nat → Env → St → Option (Out × Env × St)
  | [], _, _, _ => none
  | (news, olds) :: rest, effs, env, σ => match newsE P ops news env σ with
    | none => none
    | some env' => bif oldsE P ops olds env' σ then match effs with
      | [] => some (.norm, env', σ)
      | e :: es => match ops[e]? with
        | none => none
        | some o => match wantD ops o env' with
          | some true => match callD P o env' with
            | some (f, ds) => match call f ds σ with
              | some (.ret d, σ') => planE P call yl ops rest es (env'.put o.dst d) σ'
              | some (.pan d, σ') => some (.pan d, [], σ')
              | none => none
            | none => match yieldD o env' with
              | some (i, ds) => match yl i ds σ with
                | some (b, σ') => planE P call yl ops rest es (env'.put o.dst (.f (.lit (.bool b)))) σ'
                | none => none
              | none => match evalOp P o env' σ with
                | some (d, σ') => planE P call yl ops rest es (env'.put o.dst d) σ'
                | none => none
          | some false => planE P call yl ops rest es (env'.put o.dst (.tup [])) σ
          | none => none
      else none

theorem floatE_spec {P : Program} {ops : Array Oper} {env : Env} {σ : St} {i : Nat} {o : Oper} {d : DVal} (h : floatE P ops env σ i = some (o, d)) :
    ops[i]? = some o ∧ ((wantD ops o env = some true ∧ evalOp P o env σ = some (d, σ)) ∨ (wantD ops o env = some false ∧ d = .tup [])) := by
  unfold floatE at h
  split at h
  · cases h
  · rename_i o' ho
    split at h
    · rename_i hw
      split at h
      · rename_i d' σ' hev
        cases hb : (stills o'.op || eqSt σ' σ) with
        | false => simp [hb] at h
        | true =>
          simp only [hb, cond_true, Option.some.injEq, Prod.mk.injEq] at h
          obtain ⟨rfl, rfl⟩ := h
          have : σ' = σ := by
            simp only [Bool.or_eq_true] at hb
            rcases hb with hb | hb
            · exact evalOp_still hb hev
            · exact eqSt_eq hb
          subst this
          exact ⟨ho, .inl ⟨hw, hev⟩⟩
      · cases h
    · rename_i hw
      simp only [Option.some.injEq, Prod.mk.injEq] at h
      obtain ⟨rfl, rfl⟩ := h
      exact ⟨ho, .inr ⟨hw, rfl⟩⟩
    · cases h

section
variable {P : Program} {ops : Array Oper}
theorem newsE_sound {σ : St} {K : Env → Prop} : ∀ {news : List Nat} {env env' : Env}, newsE P ops news env σ = some env' → K env' → DNews P ops news env σ K
  | [], env, env', h, hK => by simp only [newsE, Option.some.injEq] at h; subst h; exact hK
  | i :: r, env, env', h, hK => by
    unfold newsE at h
    split at h
    · rename_i o d hf
      obtain ⟨ho, hf⟩ := floatE_spec hf
      have := newsE_sound h hK
      unfold DNews
      simp only [ho]
      rcases hf with ⟨hw, hev⟩ | ⟨hw, rfl⟩
      · simp only [hw, hev]; exact ⟨trivial, this⟩
      · simp only [hw]; exact this
    · cases h
theorem oldsE_sound {σ : St} : ∀ {olds : List Nat} {env : Env}, oldsE P ops olds env σ = true → DOlds P ops olds env σ
  | [], env, h => trivial
  | i :: r, env, h => by
    unfold oldsE at h
    rw [Bool.and_eq_true] at h
    obtain ⟨h1, h2⟩ := h
    refine ⟨?_, oldsE_sound h2⟩
    split at h1
    · rename_i o d hf
      obtain ⟨ho, hf⟩ := floatE_spec hf
      have hg : getO env o.dst d := by
        cases hd : o.dst with
        | none => trivial
        | some t =>
          simp only [hd] at h1
          simp only [getO]
          split at h1
          · rename_i d' hd'
            rw [hd', eqD_eq h1]
          · cases h1
      unfold Agree
      simp only [ho]
      rcases hf with ⟨hw, hev⟩ | ⟨hw, rfl⟩
      · simp only [hw, hev]; exact ⟨trivial, hg⟩
      · simp only [hw]; exact hg
    · cases h1

/-- What is computed. -/
def isR (o : Out) (e : Env) (s : St) : Out → Env → St → Prop := fun o' e' s' => o' = o ∧ e' = e ∧ s' = s
def isC (r : Res) (s : St) : Res → St → Prop := fun r' s' => r' = r ∧ s' = s
def CallOk (P : Program) (call : CallE) : Prop := ∀ f ds σ r s, call f ds σ = some (r, s) → DCalls P f ds σ (isC r s)

def YldOk (P : Program) (yl : YldE) : Prop := ∀ i ds σ b s, yl i ds σ = some (b, s) → DYield P i ds σ fun b' s' => b' = b ∧ s' = s
theorem DYield.mono {P : Program} {i : Nat} {ds : List DVal} {σ : St} {K K' : Bool → St → Prop} (h : DYield P i ds σ K) (hk : ∀ b s, K b s → K' b s) : DYield P i ds σ K' := by
  unfold DYield at *
  split
  · rename_i n env ps asg body jump hob
    simp only [hob] at h
    obtain ⟨h1, h2, h3, h4, h5⟩ := h
    refine ⟨h1, h2, h3, h4, h5.mono fun o e s hq => ?_⟩
    cases o with
    | norm =>
      obtain ⟨n1, env1, ps1, asg1, body1, jump1, k1, k2⟩ := hq
      refine ⟨n1, env1, ps1, asg1, body1, jump1, k1, k2.mono fun o e s ⟨n2, env2, ps2, asg2, body2, jump2, l1, l2⟩ => ⟨n2, env2, ps2, asg2, body2, jump2, l1, ?_⟩⟩
      cases o with
      | norm => exact hk _ _ l2
      | exit id => exact hk _ _ l2
      | ret => exact hk _ _ l2
      | pan d => exact l2
    | _ => exact hq
  · rename_i hne
    split at h
    · rename_i hob; exact absurd hob (hne _ _ _ _ _ _)
    · exact h

theorem runOps_sound {n : Nat} {call : CallE} {yl : YldE} (hc : CallOk P call) (hy : YldOk P yl) {o' : Out} {e' : Env} {s' : St} : ∀ {os : List Oper} {env : Env} {σ : St}, runOps P call yl ops os env σ = some (o', e', s') → DOps P n ops (isR o' e' s') os env σ
  | [], env, σ, h => by
    simp only [runOps, Option.some.injEq, Prod.mk.injEq] at h
    exact ⟨h.1, h.2.1, h.2.2⟩
  | o :: rest, env, σ, h => by
    unfold runOps at h
    unfold DOps
    split at h
    · rename_i hw
      simp only [hw]
      split at h
      · rename_i f ds hcd
        simp only [hcd]
        split at h
        · rename_i d σ' hcall
          refine (hc _ _ _ _ _ hcall).mono fun r s hrs => ?_
          obtain ⟨rfl, rfl⟩ := hrs
          exact runOps_sound hc hy h
        · rename_i d σ' hcall
          refine (hc _ _ _ _ _ hcall).mono fun r s hrs => ?_
          obtain ⟨rfl, rfl⟩ := hrs
          simp only [Option.some.injEq, Prod.mk.injEq] at h
          exact ⟨h.1, h.2.1, h.2.2⟩
        · cases h
      · rename_i hcd
        simp only [hcd]
        split at h
        · rename_i i ds hyd
          simp only [hyd]
          split at h
          · rename_i b σ' hyl
            exact (hy _ _ _ _ _ hyl).mono fun b' s ⟨h1, h2⟩ => by subst h1; subst h2; exact runOps_sound hc hy h
          · cases h
        · rename_i hyd
          simp only [hyd]
          split at h
          · rename_i x hx
            simp only [hx]
            split at h
            · rename_i t v hev
              simp only [Option.some.injEq, Prod.mk.injEq] at h
              exact ⟨t, v, hev, h.1, h.2.1, h.2.2⟩
            · cases h
          · rename_i hx
            split at h
            · rename_i d σ' hev
              have := runOps_sound (n := n) hc hy h
              split
              · rename_i x hx2; exact absurd hx2 (hx x)
              · simp only [hev]; exact this
            · cases h
    · rename_i hw
      simp only [hw]
      exact runOps_sound hc hy h
    · cases h

theorem planE_sound {call : CallE} {yl : YldE} (hc : CallOk P call) (hy : YldOk P yl) {o' : Out} {e' : Env} {s' : St} : ∀ {st : List (List Nat × List Nat)} {effs : List Nat} {env : Env} {σ : St}, planE P call yl ops st effs env σ = some (o', e', s') → DPlan P ops (isR o' e' s') st effs env σ
  | [], effs, env, σ, h => by simp [planE] at h
  | (news, olds) :: rest, effs, env, σ, h => by
    unfold planE at h
    split at h
    · cases h
    · rename_i env1 hn
      cases ho : oldsE P ops olds env1 σ with
      | false => simp [ho] at h
      | true =>
        simp only [ho, cond_true] at h
        unfold DPlan
        refine newsE_sound hn ⟨oldsE_sound ho, ?_⟩
        cases effs with
        | nil =>
          simp only [Option.some.injEq, Prod.mk.injEq] at h
          exact ⟨h.1, h.2.1, h.2.2⟩
        | cons e es =>
          simp only at h ⊢
          split at h
          · cases h
          · rename_i o hoe
            simp only [hoe]
            split at h
            · rename_i hw
              simp only [hw]
              unfold DOp
              split at h
              · rename_i f ds hcd
                simp only [hcd]
                split at h
                · rename_i d σ' hcall
                  refine (hc _ _ _ _ _ hcall).mono fun r s hrs => ?_
                  obtain ⟨rfl, rfl⟩ := hrs
                  exact planE_sound hc hy h
                · rename_i d σ' hcall
                  refine (hc _ _ _ _ _ hcall).mono fun r s hrs => ?_
                  obtain ⟨rfl, rfl⟩ := hrs
                  simp only [Option.some.injEq, Prod.mk.injEq] at h
                  exact ⟨h.1, h.2.1, h.2.2⟩
                · cases h
              · rename_i hcd
                simp only [hcd]
                split at h
                · rename_i i ds hyd
                  simp only [hyd]
                  split at h
                  · rename_i b σ' hyl
                    exact (hy _ _ _ _ _ hyl).mono fun b' s ⟨h1, h2⟩ => by subst h1; subst h2; exact planE_sound hc hy h
                  · cases h
                · rename_i hyd
                  simp only [hyd]
                  split at h
                  · rename_i d σ' hev
                    simp only [hev]
                    exact planE_sound hc hy h
                  · cases h
            · rename_i hw
              simp only [hw]
              exact planE_sound hc hy h
            · cases h
end

/-! ### Loops, once round -/
def WL (P : Program) (n : Nat) (c : Code) (env : Env) (σ : St) (Q : Out → Env → St → Prop) : Prop :=
  ∀ (ro : Option Nat), (ro = none ∨ flatC c = true) → ∀ (M B : Nat) (κ : Kap) (w : World) (a : Act), M ≤ w.heap.size → Inv B σ κ w → REnv σ κ w env a → a.tmps.size = n → Marks M κ w a.defers → ∀ (b : Frame) (kk : List Item) (cs : List Frame), b.roundOf = (fen ro).round →
    ∃ e a' w', lift M B σ κ w n Q e a' w' ∧ ArrivesIn (Machine.fenced P (fen ro)) P (lone (b.atR a (.code c :: .inLoop c :: kk)) cs w) b kk cs e a' w'
section
variable {P : Program} {n : Nat} {env : Env} {σ : St} {Q : Out → Env → St → Prop}
theorem W_of_WL {c : Code} (h : WL P n c env σ Q) : W P n (.loop c) env σ Q := by
  intro ro hf M B κ w a hM hI he hn hd b kk cs hro hb hr
  obtain ⟨e, a', w', hq, harr⟩ := h ro hf M B κ w a hM hI he hn hd b kk cs hro
  exact ⟨e, a', w', hq, .of_steps (.one (fenced_calm hb hr rfl) stepR_loop) harr⟩
theorem WL_of {c : Code} (h : W P n c env σ (thenQ (fun e s => WL P n c e s Q) Q)) : WL P n c env σ Q := by
  intro ro hf M B κ w a hM hI he hn hd b kk cs hro
  have hb : (fen ro).fn b.fn := trivial
  have hr : (fen ro).room (cs.length + 1 + 0) := fen_room _ _
  obtain ⟨e, a1, w1, hq, harr⟩ := h ro hf M B κ w a hM hI he hn hd b (.inLoop c :: kk) cs hro hb hr
  obtain ⟨o, env', σ', κ', hq, hm, hI', hE, he', hn', hd'⟩ := hq
  cases o with
  | norm =>
    cases e <;> simp only [matchE] at hm
    obtain ⟨e2, a2, w2, hq2, harr2⟩ := hq ro hf M B κ' w1 a1 (Nat.le_trans hM hE.below.size) hI' he' hn' hd' b kk cs hro
    exact ⟨e2, a2, w2, lift_ext hE hq2, .of_steps (StepsIn.trans harr (.one (fenced_calm hb hr rfl) stepR_inLoop)) harr2⟩
  | exit i =>
    cases e <;> simp only [matchE] at hm
    rename_i j
    exact ⟨.exit j, a1, w1, ⟨.exit i, env', σ', κ', hq, hm, hI', hE, he', hn', hd'⟩, .pass (x := .inLoop c) rfl (fun _ _ => .inl (by simp)) harr⟩
  | ret =>
    cases e <;> simp only [matchE] at hm
    exact ⟨.ret, a1, w1, ⟨.ret, env', σ', κ', hq, trivial, hI', hE, he', hn', hd'⟩, .pass (x := .inLoop c) rfl (fun _ _ => .inl (by simp)) harr⟩
  | pan d =>
    cases e <;> simp only [matchE] at hm
    rename_i ch
    exact ⟨.panic ch, a1, w1, ⟨.pan d, env', σ', κ', hq, hm, hI', hE, he', hn', hd'⟩, .pass (x := .inLoop c) rfl (fun _ _ => .inl (by simp)) harr⟩
end

/-- A round, computed. -/
def yldE (run : Nat → Code → Env → St → Option (Out × Env × St)) : YldE := fun i ds σ =>
  match σ.objs[i]? with
  | some (.loop n env ps asg body .ready jump) => bif Nat.beq ps.size ds.length && (ps.toList.all fun p => Nat.blt p n) && flatC asg && flatC body then
      match run n asg (putPs env ps.toList ds) σ with
      | some (.norm, e, s) => match s.objs[i]? with
        | some (.loop n1 env1 ps1 asg1 body1 .ready jump1) => match run n body e (s.setOb i (.loop n1 env1 ps1 asg1 body1 .busy jump1)) with
          | some (o, _, s') => match s'.objs[i]? with
            | some (.loop n2 env2 ps2 asg2 body2 .busy jump2) => match o with
              | .norm => some (true, s'.setOb i (.loop n2 env2 ps2 asg2 body2 .ready none))
              | .exit id => some (false, s'.setOb i (.loop n2 env2 ps2 asg2 body2 .done (some (.exit id))))
              | .ret => some (false, s'.setOb i (.loop n2 env2 ps2 asg2 body2 .done (some .ret)))
              | .pan _ => none
            | _ => none
          | none => none
        | _ => none
      | _ => none
    else none
  | _ => none
theorem yldE_sound {P : Program} {run : Nat → Code → Env → St → Option (Out × Env × St)} (hr : ∀ n c env σ o e s, run n c env σ = some (o, e, s) → W P n c env σ (isR o e s)) : YldOk P (yldE run) := by
  intro i ds σ b s h
  unfold yldE at h
  split at h
  · rename_i n env ps asg body jump hob
    cases hb : (Nat.beq ps.size ds.length && (ps.toList.all fun p => Nat.blt p n) && flatC asg && flatC body) with
    | false => rw [hb] at h; cases h
    | true =>
      rw [hb] at h
      simp only [Bool.and_eq_true] at hb
      obtain ⟨⟨⟨hb1, hb2⟩, hb3⟩, hb4⟩ := hb
      simp only [cond_true] at h
      unfold DYield
      simp only [hob]
      refine ⟨nb hb1, hb2, hb3, hb4, ?_⟩
      split at h
      · rename_i e1 s1 h1
        refine (hr _ _ _ _ _ _ _ h1).mono fun o2 e2 s2 hq => ?_
        obtain ⟨rfl, rfl, rfl⟩ := hq
        split at h
        · rename_i n1 env1 ps1 asg1 body1 jump1 hob1
          refine ⟨n1, env1, ps1, asg1, body1, jump1, hob1, ?_⟩
          split at h
          · rename_i o3 e3 s3 h3
            refine (hr _ _ _ _ _ _ _ h3).mono fun o4 e4 s4 hq => ?_
            obtain ⟨rfl, rfl, rfl⟩ := hq
            split at h
            · rename_i n2 env2 ps2 asg2 body2 jump2 hob2
              refine ⟨n2, env2, ps2, asg2, body2, jump2, hob2, ?_⟩
              cases o4 with
              | norm => simp only [Option.some.injEq, Prod.mk.injEq] at h; exact ⟨h.1, h.2⟩
              | exit id => simp only [Option.some.injEq, Prod.mk.injEq] at h; exact ⟨h.1, h.2⟩
              | ret => simp only [Option.some.injEq, Prod.mk.injEq] at h; exact ⟨h.1, h.2⟩
              | pan d => cases h
            · cases h
          · cases h
        · cases h
      · cases h
  · cases h

/-! ### Code -/
def fnE (P : Program) (ext : CallE) (run : Nat → Code → Env → St → Option (Out × Env × St)) : CallE := fun f ds σ =>
  match ext f ds σ with
  | some r => some r
  | none => match P.funcs[f]? with
    | none => none
    | some fn => match fn.body with
      | none => none
      | some c => bif Nat.ble ds.length fn.ntmps then match run fn.ntmps c (mkEnv fn.ntmps ds) σ with
        | some (.norm, env, σ') => match resD P σ' env fn.results.toList with | some rs => some (.ret (tupD rs), σ') | none => none
        | some (.ret, env, σ') => match resD P σ' env fn.results.toList with | some rs => some (.ret (tupD rs), σ') | none => none
        | some (.pan d, _, σ') => some (.pan d, σ')
        | _ => none
        else none
def runE (P : Program) (ext : CallE) : Nat → Nat → Code → Env → St → Option (Out × Env × St)
  | 0, _, _, _, _ => none
  | k + 1, n, c, env, σ => match c with
    | .skip => some (.norm, env, σ)
    | .exit i => some (.exit i, env, σ)
    | .ret => some (.ret, env, σ)
    | .seq x y => match runE P ext k n x env σ with
      | some (.norm, e, s) => runE P ext k n y e s
      | r => r
    | .cond c x y => match evalX env c with
      | some (.f (.lit (.bool t))) => runE P ext k n (bif t then x else y) env σ
      | _ => none
    | .block i c => match runE P ext k n c env σ with
      | some (.exit j, e, s) => bif Nat.beq j i then some (.norm, e, s) else some (.exit j, e, s)
      | r => r
    | .loop c => match runE P ext k n c env σ with
      | some (.norm, e, s) => runE P ext k n (.loop c) e s
      | r => r
    | .region _ ops false => bif dstsOk n ops.toList then runOps P (fnE P ext (runE P ext k)) (yldE (runE P ext k)) ops ops.toList env σ else none
    | .region _ ops true => match (bif planOk n ops (mkPlan ops) then planE P (fnE P ext (runE P ext k)) (yldE (runE P ext k)) ops (mkPlan ops).stages (mkPlan ops).effs env σ else none) with
      | some r => some r
      | none => bif planOk n ops (mkPlan2 ops) then planE P (fnE P ext (runE P ext k)) (yldE (runE P ext k)) ops (mkPlan2 ops).stages (mkPlan2 ops).effs env σ else none
    | .rangeFunc g ps asg body => match evalX env g with
      | some (.fn (.func gf) caps) => bif bodyOk P gf then
          match fnE P ext (runE P ext k) gf (.yld σ.objs.length :: caps) { σ with objs := σ.objs ++ [.loop n env ps asg body .ready none] } with
          | some (.ret _, s) => match s.objs[σ.objs.length]? with
            | some (.loop n1 env1 ps1 asg1 body1 st jump) => match st with
              | .busy => none
              | _ => match jump with
                | none => some (.norm, env, s.setOb σ.objs.length .dead)
                | some c => bif flatC c then runE P ext k n c env (s.setOb σ.objs.length .dead) else none
            | _ => none
          | some (.pan d, s) => some (.pan d, env, s)
          | none => none
        else none
      | _ => none
    | _ => none

theorem fnE_sound {P : Program} {ext : CallE} (hx : CallOk P ext) {run : Nat → Code → Env → St → Option (Out × Env × St)} (hr : ∀ n c env σ o e s, run n c env σ = some (o, e, s) → W P n c env σ (isR o e s)) : CallOk P (fnE P ext run) := by
  intro f ds σ r s h
  unfold fnE at h
  split at h
  · rename_i r' hr'
    obtain rfl := Option.some.inj h
    exact hx _ _ _ _ _ hr'
  · split at h
    · cases h
    · rename_i fn hf
      split at h
      · cases h
      · rename_i c hb
        cases hl : Nat.ble ds.length fn.ntmps with
        | false => simp [hl] at h
        | true =>
          simp only [hl, cond_true] at h
          refine DCalls_of hf hb (Nat.le_of_ble_eq_true hl) ?_
          split at h
          · rename_i env σ' hrun
            refine (hr _ _ _ _ _ _ _ hrun).mono fun o e s' hq => ?_
            obtain ⟨rfl, rfl, rfl⟩ := hq
            split at h
            · rename_i rs hrs
              simp only [Option.some.injEq, Prod.mk.injEq] at h
              obtain ⟨rfl, rfl⟩ := h
              exact ⟨rs, hrs, rfl, rfl⟩
            · cases h
          · rename_i env σ' hrun
            refine (hr _ _ _ _ _ _ _ hrun).mono fun o e s' hq => ?_
            obtain ⟨rfl, rfl, rfl⟩ := hq
            split at h
            · rename_i rs hrs
              simp only [Option.some.injEq, Prod.mk.injEq] at h
              obtain ⟨rfl, rfl⟩ := h
              exact ⟨rs, hrs, rfl, rfl⟩
            · cases h
          · rename_i d env σ' hrun
            simp only [Option.some.injEq, Prod.mk.injEq] at h
            obtain ⟨rfl, rfl⟩ := h
            refine (hr _ _ _ _ _ _ _ hrun).mono fun o e s' hq => ?_
            obtain ⟨rfl, rfl, rfl⟩ := hq
            exact ⟨rfl, rfl⟩
          · cases h

theorem runE_sound {P : Program} {ext : CallE} (hm : P.follows .mixedOrders = true) (hx : CallOk P ext) : ∀ (k n : Nat) (c : Code) (env : Env) (σ : St) (o : Out) (e : Env) (s : St), runE P ext k n c env σ = some (o, e, s) →
    W P n c env σ (isR o e s) ∧ ∀ c', c = .loop c' → WL P n c' env σ (isR o e s) := by
  intro k
  induction k with
  | zero => intro n c env σ o e s h; simp [runE] at h
  | succ k ih =>
    intro n c env σ o e s h
    have hW : ∀ n c env σ o e s, runE P ext k n c env σ = some (o, e, s) → W P n c env σ (isR o e s) := fun n c env σ o e s h => (ih n c env σ o e s h).1
    have hloop : ∀ c', c = .loop c' → WL P n c' env σ (isR o e s) := by
      intro c' hc
      subst hc
      simp only [runE] at h
      split at h
      · rename_i e1 s1 h1
        refine WL_of ((hW _ _ _ _ _ _ _ h1).mono fun o2 e2 s2 hq => ?_)
        obtain ⟨rfl, rfl, rfl⟩ := hq
        exact (ih _ _ _ _ _ _ _ h).2 c' rfl
      · rename_i hne
        refine WL_of ((hW _ _ _ _ _ _ _ h).mono fun o2 e2 s2 hq => ?_)
        obtain ⟨rfl, rfl, rfl⟩ := hq
        cases o2 with
        | norm => exact absurd h (hne _ _)
        | _ => exact ⟨rfl, rfl, rfl⟩
    refine ⟨?_, hloop⟩
    cases c with
    | skip =>
      simp only [runE, Option.some.injEq, Prod.mk.injEq] at h
      obtain ⟨rfl, rfl, rfl⟩ := h
      exact W_skip ⟨rfl, rfl, rfl⟩
    | exit i =>
      simp only [runE, Option.some.injEq, Prod.mk.injEq] at h
      obtain ⟨rfl, rfl, rfl⟩ := h
      exact W_exit ⟨rfl, rfl, rfl⟩
    | ret =>
      simp only [runE, Option.some.injEq, Prod.mk.injEq] at h
      obtain ⟨rfl, rfl, rfl⟩ := h
      exact W_ret ⟨rfl, rfl, rfl⟩
    | seq x y =>
      simp only [runE] at h
      split at h
      · rename_i e1 s1 h1
        refine W_seq ((hW _ _ _ _ _ _ _ h1).mono fun o2 e2 s2 hq => ?_)
        obtain ⟨rfl, rfl, rfl⟩ := hq
        exact hW _ _ _ _ _ _ _ h
      · rename_i hne
        refine W_seq ((hW _ _ _ _ _ _ _ h).mono fun o2 e2 s2 hq => ?_)
        obtain ⟨rfl, rfl, rfl⟩ := hq
        cases o2 with
        | norm => exact absurd h (hne _ _)
        | _ => exact ⟨rfl, rfl, rfl⟩
    | cond c x y =>
      simp only [runE] at h
      split at h
      · rename_i t hc
        exact W_cond hc (hW _ _ _ _ _ _ _ h)
      · cases h
    | block i c =>
      simp only [runE] at h
      split at h
      · rename_i j e1 s1 h1
        refine W_block ((hW _ _ _ _ _ _ _ h1).mono fun o2 e2 s2 hq => ?_)
        obtain ⟨rfl, rfl, rfl⟩ := hq
        simp only [blockQ]
        cases hj : Nat.beq j i with
        | true =>
          simp only [hj, cond_true, Option.some.injEq, Prod.mk.injEq] at h
          rw [if_pos (nb hj)]
          exact ⟨h.1, h.2.1, h.2.2⟩
        | false =>
          simp only [hj, cond_false, Option.some.injEq, Prod.mk.injEq] at h
          rw [if_neg (Nat.ne_of_beq_eq_false hj)]
          exact ⟨h.1, h.2.1, h.2.2⟩
      · rename_i hne
        refine W_block ((hW _ _ _ _ _ _ _ h).mono fun o2 e2 s2 hq => ?_)
        obtain ⟨rfl, rfl, rfl⟩ := hq
        cases o2 with
        | exit j => exact absurd h (hne _ _ _)
        | _ => exact ⟨rfl, rfl, rfl⟩
    | loop c' => exact W_of_WL (hloop c' rfl)
    | region id ops draw =>
      cases draw with
      | false =>
        simp only [runE] at h
        cases hd : dstsOk n ops.toList with
        | false => simp [hd] at h
        | true =>
          simp only [hd, cond_true] at h
          exact W_region hd (runOps_sound (fnE_sound hx fun n c env σ o e s => hW n c env σ o e s) (yldE_sound hW) h)
      | true =>
        simp only [runE] at h
        split at h
        · rename_i r hr
          obtain rfl := Option.some.inj h
          cases hd : planOk n ops (mkPlan ops) with
          | false => simp [hd] at hr
          | true =>
            simp only [hd, cond_true] at hr
            exact W_draw hm (mkPlan ops) hd (planE_sound (fnE_sound hx fun n c env σ o e s => hW n c env σ o e s) (yldE_sound hW) hr)
        · cases hd : planOk n ops (mkPlan2 ops) with
          | false => simp [hd] at h
          | true =>
            simp only [hd, cond_true] at h
            exact W_draw hm (mkPlan2 ops) hd (planE_sound (fnE_sound hx fun n c env σ o e s => hW n c env σ o e s) (yldE_sound hW) h)
    | rangeFunc g ps asg body =>
      simp only [runE] at h
      split at h
      · rename_i gf caps hg
        cases hb : bodyOk P gf with
        | false => rw [hb] at h; cases h
        | true =>
          rw [hb] at h
          simp only [cond_true] at h
          split at h
          · rename_i d s1 h1
            refine W_rangeFunc hg hb ((fnE_sound hx (fun n c env σ o e s => hW n c env σ o e s) _ _ _ _ _ h1).mono fun r s2 hq => ?_)
            obtain ⟨rfl, rfl⟩ := hq
            split at h
            · rename_i n1 env1 ps1 asg1 body1 st jump hob
              refine ⟨n1, env1, ps1, asg1, body1, st, jump, hob, ?_⟩
              split at h
              · cases h
              · rename_i hst
                refine ⟨fun e => hst e, ?_⟩
                split at h
                · simp only [Option.some.injEq, Prod.mk.injEq] at h
                  exact ⟨h.1, h.2.1, h.2.2⟩
                · rename_i c
                  cases hf : flatC c with
                  | false => rw [hf] at h; cases h
                  | true =>
                    rw [hf] at h
                    simp only [cond_true] at h
                    exact ⟨hf, hW _ _ _ _ _ _ _ h⟩
            · cases h
          · rename_i d s1 h1
            refine W_rangeFunc hg hb ((fnE_sound hx (fun n c env σ o e s => hW n c env σ o e s) _ _ _ _ _ h1).mono fun r s2 hq => ?_)
            obtain ⟨rfl, rfl⟩ := hq
            simp only [Option.some.injEq, Prod.mk.injEq] at h
            exact ⟨h.1, h.2.1, h.2.2⟩
          · cases h
      · cases h
    | _ => simp [runE] at h

/-- A closed run. -/
theorem DCalls_run {P : Program} {ext : CallE} (hm : P.follows .mixedOrders = true) (hx : CallOk P ext) (k : Nat) {f : FuncId} {ds : List DVal} {σ : St} {r : Res} {s : St} (h : fnE P ext (runE P ext k) f ds σ = some (r, s)) : DCalls P f ds σ (isC r s) :=
  fnE_sound hx (fun n c env σ o e s h => (runE_sound hm hx k n c env σ o e s h).1) f ds σ r s h
end Go.DL
