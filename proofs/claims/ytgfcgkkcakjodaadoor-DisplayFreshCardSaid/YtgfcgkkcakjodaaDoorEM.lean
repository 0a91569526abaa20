/-
  D-LOGIC, part M: code and calls.
-/
import Derived.Test.YtgfcgkkcakjodaaDoorEL
set_option linter.unusedVariables false
set_option linter.unusedSimpArgs false
namespace Go.DL
open Go.RowKit

inductive Out where
  | norm
  | exit (id : Nat)
  | ret
  | pan (d : DVal)

inductive Res where
  | ret (d : DVal)
  | pan (d : DVal)

def matchE (σ : St) (κ : Kap) (w : World) : Out → Exit → Prop
  | .norm, .normal => True
  | .exit i, .exit j => i = j
  | .ret, .ret => True
  | .pan d, .panic chain => ∃ v, chain = [{ v, recovered := false }] ∧ Rep1 σ κ w d v
  | _, _ => False

def lift (M B : Nat) (σ : St) (κ : Kap) (w : World) (n : Nat) (Q : Out → Env → St → Prop) : Exit → Act → World → Prop := fun e a' w' =>
  ∃ o env' σ' κ', Q o env' σ' ∧ matchE σ' κ' w' o e ∧ Inv B σ' κ' w' ∧ Ext B σ κ w σ' κ' w' ∧ REnv σ' κ' w' env' a' ∧ a'.tmps.size = n ∧ Marks M κ' w' a'.defers

/-- Code, run from a state: whatever the memory that stands for the state, it ends in one that stands for a state of Q. -/
def W (P : Program) (n : Nat) (c : Code) (env : Env) (σ : St) (Q : Out → Env → St → Prop) : Prop :=
  ∀ (ro : Option Nat), (ro = none ∨ flatC c = true) → ∀ (M B : Nat) (κ : Kap) (w : World) (a : Act), M ≤ w.heap.size → Inv B σ κ w → REnv σ κ w env a → a.tmps.size = n → Marks M κ w a.defers → c.wpIn (fen ro) 0 P (lift M B σ κ w n Q) a w

def liftR (B : Nat) (σ : St) (κ : Kap) (w : World) (R : Res → St → Prop) : Ending → World → Prop := fun e w' =>
  ∃ r σ' κ', R r σ' ∧ Inv B σ' κ' w' ∧ Ext B σ κ w σ' κ' w' ∧ match r, e with
    | .ret d, .returned v => Rep1 σ' κ' w' d v
    | .pan d, .panicked chain => ∃ v, chain = [{ v, recovered := false }] ∧ Rep1 σ' κ' w' d v
    | _, _ => False

def DCalls (P : Program) (f : FuncId) (ds : List DVal) (σ : St) (R : Res → St → Prop) : Prop :=
  ∀ (B : Nat) (κ : Kap) (w : World) (args : List Value), Inv B σ κ w → RepD σ κ w ds args → Calls P f args.toArray w (liftR B σ κ w R)

theorem DCalls.mono {P : Program} {f : FuncId} {ds : List DVal} {σ : St} {R R' : Res → St → Prop} (h : DCalls P f ds σ R) (hr : ∀ r σ', R r σ' → R' r σ') : DCalls P f ds σ R' :=
  fun B κ w args hI hd => (h B κ w args hI hd).mono fun e w' ⟨r, σ', κ', h1, h2⟩ => ⟨r, σ', κ', hr _ _ h1, h2⟩

theorem W.mono {P : Program} {n : Nat} {c : Code} {env : Env} {σ : St} {Q Q' : Out → Env → St → Prop} (h : W P n c env σ Q) (hq : ∀ o e s, Q o e s → Q' o e s) : W P n c env σ Q' :=
  fun ro hf M B κ w a hM hI he hn hd => wpIn_mono (h ro hf M B κ w a hM hI he hn hd) fun e a w ⟨o, env', σ', κ', h1, h2⟩ => ⟨o, env', σ', κ', hq _ _ _ h1, h2⟩

section
variable {P : Program} {n : Nat} {env : Env} {σ : St} {Q : Out → Env → St → Prop}

theorem lift_ext {M B : Nat} {κ κ1 : Kap} {w w1 : World} {σ1 : St} (hE : Ext B σ κ w σ1 κ1 w1) {e : Exit} {a : Act} {w' : World} (h : lift M B σ1 κ1 w1 n Q e a w') : lift M B σ κ w n Q e a w' := by
  obtain ⟨o, env', σ', κ', h1, h2, h3, h4, h5⟩ := h
  exact ⟨o, env', σ', κ', h1, h2, h3, hE.trans h4, h5⟩

theorem W_skip (h : Q .norm env σ) : W P n .skip env σ Q := fun ro hf M B κ w a hM hI he hn hd => wpIn_skip ⟨.norm, env, σ, κ, h, trivial, hI, Ext.refl _ _ _ _, he, hn, hd⟩
theorem W_exit {id : Nat} (h : Q (.exit id) env σ) : W P n (.exit id) env σ Q := fun ro hf M B κ w a hM hI he hn hd => wpIn_exit ⟨.exit id, env, σ, κ, h, rfl, hI, Ext.refl _ _ _ _, he, hn, hd⟩
theorem W_ret (h : Q .ret env σ) : W P n .ret env σ Q := fun ro hf M B κ w a hM hI he hn hd => wpIn_ret ⟨.ret, env, σ, κ, h, trivial, hI, Ext.refl _ _ _ _, he, hn, hd⟩

theorem flat_l {ro : Option Nat} {x y : Bool} (h : ro = none ∨ (x && y) = true) : ro = none ∨ x = true := h.imp id fun h => by simp at h; exact h.1
theorem flat_r {ro : Option Nat} {x y : Bool} (h : ro = none ∨ (x && y) = true) : ro = none ∨ y = true := h.imp id fun h => by simp at h; exact h.2

def thenQ (next : Env → St → Prop) (Q : Out → Env → St → Prop) : Out → Env → St → Prop
  | .norm, env, σ => next env σ
  | o, env, σ => Q o env σ
theorem W_seq {x y : Code} (h : W P n x env σ (thenQ (fun env' σ' => W P n y env' σ' Q) Q)) : W P n (.seq x y) env σ Q := by
  intro ro hf M B κ w a hM hI he hn hd
  refine wpIn_seq (wpIn_mono (h ro (flat_l hf) M B κ w a hM hI he hn hd) ?_)
  rintro e a' w' ⟨o, env', σ', κ', hq, hm, hI', hE, he', hn', hd'⟩
  cases o with
  | norm =>
    cases e <;> simp only [matchE] at hm
    exact wpIn_mono (hq ro (flat_r hf) M B κ' w' a' (Nat.le_trans hM hE.below.size) hI' he' hn' hd') fun e a w hl => lift_ext hE hl
  | exit i =>
    cases e <;> simp only [matchE] at hm
    exact ⟨.exit i, env', σ', κ', hq, hm, hI', hE, he', hn', hd'⟩
  | ret =>
    cases e <;> simp only [matchE] at hm
    exact ⟨.ret, env', σ', κ', hq, trivial, hI', hE, he', hn', hd'⟩
  | pan d =>
    cases e <;> simp only [matchE] at hm
    exact ⟨.pan d, env', σ', κ', hq, hm, hI', hE, he', hn', hd'⟩

theorem W_cond {c : Operand} {x y : Code} {t : Bool} (hc : evalX env c = some (.f (.lit (.bool t)))) (h : W P n (bif t then x else y) env σ Q) : W P n (.cond c x y) env σ Q := by
  intro ro hf M B κ w a hM hI he hn hd
  have hv : a.eval c = .bool t := by
    have := evalX_sound he hc
    cases this with
    | f h _ => exact h.of_lit.1
  refine wpIn_cond hv ?_
  have := h ro (by cases t; exact flat_r hf; exact flat_l hf) M B κ w a hM hI he hn hd
  cases t <;> simpa using this

def blockQ (id : Nat) (Q : Out → Env → St → Prop) : Out → Env → St → Prop
  | .exit i, env, σ => if i = id then Q .norm env σ else Q (.exit i) env σ
  | o, env, σ => Q o env σ
theorem W_block {id : Nat} {c : Code} (h : W P n c env σ (blockQ id Q)) : W P n (.block id c) env σ Q := by
  intro ro hf M B κ w a hM hI he hn hd
  refine wpIn_block (wpIn_mono (h ro hf M B κ w a hM hI he hn hd) ?_)
  rintro e a' w' ⟨o, env', σ', κ', hq, hm, hI', hE, he', hn', hd'⟩
  cases o with
  | norm =>
    cases e <;> simp only [matchE] at hm
    exact ⟨.norm, env', σ', κ', hq, trivial, hI', hE, he', hn', hd'⟩
  | exit i =>
    cases e <;> simp only [matchE] at hm
    subst hm
    simp only [blockQ] at hq
    simp only [Exit.inBlock]
    split
    · rename_i hi
      rw [if_pos hi] at hq
      exact ⟨.norm, env', σ', κ', hq, trivial, hI', hE, he', hn', hd'⟩
    · rename_i hi
      rw [if_neg hi] at hq
      exact ⟨.exit i, env', σ', κ', hq, rfl, hI', hE, he', hn', hd'⟩
  | ret =>
    cases e <;> simp only [matchE] at hm
    exact ⟨.ret, env', σ', κ', hq, trivial, hI', hE, he', hn', hd'⟩
  | pan d =>
    cases e <;> simp only [matchE] at hm
    exact ⟨.pan d, env', σ', κ', hq, hm, hI', hE, he', hn', hd'⟩
end

/-! ### Regions -/
def wantD (ops : Array Oper) (o : Oper) (env : Env) : Option Bool :=
  match o.guard with
  | none => some true
  | some (j, want) => ((ops[j]?).bind (·.dst)).bind fun t => (env.get t).bind fun d => match d with
    | .f (.lit (.bool b)) => some (b == want)
    | .tup [] => some false
    | _ => none

def isCall : Op → Bool
  | .call { callee := .value _, .. } => true
  | _ => false
def bodyOk (P : Program) (g : FuncId) : Bool := match P.funcs[g]? with | some fn => fn.body.isSome && fn.name != "runtime.NumGoroutine" | none => false
/-- The function that is called, and its arguments. -/
def callD (P : Program) (o : Oper) (env : Env) : Option (FuncId × List DVal) :=
  match o.op with
  | .call { callee := .value f, args := as, .. } => (evalX env f).bind fun d => match d with
    | .fn (.func g) caps => (evalXs env as.toList).bind fun ds => bif bodyOk P g then some (g, ds ++ caps) else none
    | _ => none
  | _ => none

/-- A call of yield: the record, and the arguments. -/
def yieldD (o : Oper) (env : Env) : Option (Nat × List DVal) :=
  match o.op with
  | .call { callee := .value f, args := as, .. } => (evalX env f).bind fun d => match d with
    | .yld i => (evalXs env as.toList).map fun ds => (i, ds)
    | _ => none
  | _ => none
def putPs (env : Env) : List Nat → List DVal → Env
  | p :: ps, d :: ds => putPs ((p, d) :: env) ps ds
  | _, _ => env
/-- One round: the record is ready; the assignments; the body; the record is turned. -/
def DYield (P : Program) (i : Nat) (ds : List DVal) (σ : St) (K : Bool → St → Prop) : Prop :=
  match σ.objs[i]? with
  | some (.loop n env ps asg body .ready jump) => ps.size = ds.length ∧ (ps.toList.all fun p => Nat.blt p n) = true ∧ flatC asg = true ∧ flatC body = true ∧
    W P n asg (putPs env ps.toList ds) σ (thenQ (fun e s => ∃ n1 env1 ps1 asg1 body1 jump1, s.objs[i]? = some (.loop n1 env1 ps1 asg1 body1 .ready jump1) ∧
      W P n body e (s.setOb i (.loop n1 env1 ps1 asg1 body1 .busy jump1)) fun o e' s' => ∃ n2 env2 ps2 asg2 body2 jump2, s'.objs[i]? = some (.loop n2 env2 ps2 asg2 body2 .busy jump2) ∧ match o with
        | .norm => K true (s'.setOb i (.loop n2 env2 ps2 asg2 body2 .ready none))
        | .exit id => K false (s'.setOb i (.loop n2 env2 ps2 asg2 body2 .done (some (.exit id))))
        | .ret => K false (s'.setOb i (.loop n2 env2 ps2 asg2 body2 .done (some .ret)))
        | .pan _ => False) fun _ _ _ => False)
  | _ => False

def DOps (P : Program) (n : Nat) (ops : Array Oper) (Q : Out → Env → St → Prop) : List Oper → Env → St → Prop
  | [], env, σ => Q .norm env σ
  | o :: rest, env, σ =>
    match wantD ops o env with
    | some true =>
      match callD P o env with
      | some (f, ds) => DCalls P f ds σ fun r σ' => match r with
        | .ret d => DOps P n ops Q rest (env.put o.dst d) σ'
        | .pan d => Q (.pan d) env σ'
      | none =>
        match yieldD o env with
        | some (i, ds) => DYield P i ds σ fun b σ' => DOps P n ops Q rest (env.put o.dst (.f (.lit (.bool b)))) σ'
        | none =>
        match o.op with
        | .panic x => ∃ t v, evalX env x = some (.f (.lit (.iface t v))) ∧ Q (.pan (.f (.lit (.iface t v)))) env σ
        | _ => match evalOp P o env σ with
          | some (d, σ') => DOps P n ops Q rest (env.put o.dst d) σ'
          | none => False
    | some false => DOps P n ops Q rest (env.put o.dst (.tup [])) σ
    | none => False

def dstsOk (n : Nat) (ops : List Oper) : Bool := ops.all fun o => match o.dst with | some t => Nat.blt t n | none => true

section
variable {P : Program} {n : Nat} {Q : Out → Env → St → Prop}

theorem wantD_sound {σ : St} {κ : Kap} {w : World} {ops : Array Oper} {o : Oper} {env : Env} {a : Act} {b : Bool} (he : REnv σ κ w env a) (h : wantD ops o env = some b) : Region.wanted o (yielded ops a.tmps) = b := by
  unfold wantD at h
  unfold Region.wanted
  split at h
  · rename_i hg; rw [hg]; simpa using h
  · rename_i j want hg
    rw [hg]
    simp only [Option.bind_eq_some_iff] at h
    obtain ⟨t, ht, d, hd, h⟩ := h
    obtain ⟨v, hv, hr⟩ := he t d hd
    have hy : ((ops[j]?).bind (·.dst)).bind (fun x => a.tmps[x]?) = some v := by
      obtain ⟨oj, hoj, hdst⟩ := ht
      simp [hoj, hdst, hv]
    split at h
    · rename_i bb
      cases hr with
      | f hr _ =>
        have := hr.of_lit.1; subst this
        simp only [Option.some.injEq] at h
        subst h
        simp only [yielded]
        rw [hy]
        simp
    · cases hr with
      | tup r _ =>
        have := r.nil_inv; subst this
        simp only [Option.some.injEq] at h; subst h
        simp only [yielded]
        rw [hy]
        simp
    · cases h

theorem run_callFunc {g : FuncId} (h : bodyOk P g = true) (args : Array Value) (w : World) : (callFunc g args).run P w = .ok (.enter g args) w := by
  unfold bodyOk at h
  split at h
  · rename_i fn hf
    simp only [Bool.and_eq_true, bne_iff_ne, ne_eq] at h
    have h2 : fn.body ≠ none := by cases hb : fn.body <;> simp_all
    simp [callFunc, hf, h.2, h2]
  · cases h


theorem semAt_fen {o : Oper} (h : ∀ c, o.op ≠ .defer c) (ro : Option Nat) (ρ : Operand → Value) : Oper.semAt (fen ro).round ρ o = execOp ρ o := Oper.semAt_eq _ ρ o h
theorem notDefer_call {P : Program} {o : Oper} {env : Env} {r} (h : callD P o env = some r) : ∀ c, o.op ≠ .defer c := by
  intro c he; unfold callD at h; rw [he] at h; simp at h
theorem notDefer_yield {o : Oper} {env : Env} {r} (h : yieldD o env = some r) : ∀ c, o.op ≠ .defer c := by
  intro c he; unfold yieldD at h; rw [he] at h; simp at h
theorem notDefer_op {P : Program} {o : Oper} {env : Env} {σ : St} {r} (h : evalOp P o env σ = some r) : ∀ c, o.op ≠ .defer c := by
  intro c he; unfold evalOp at h; rw [he] at h; simp at h

theorem wpOpsIn_weak {F : Fence} {m : Nat} {ops : Array Oper} {Q Q' : Exit → Act → World → Prop} (hq : ∀ e a w, Q e a w → Q' e a w) : ∀ (rest : List Nat) (a : Act) (w : World), wpOpsIn F m P ops Q rest a w → wpOpsIn F m P ops Q' rest a w := by
  have hl : LetsOut Q → LetsOut Q' := fun ⟨a, w, h⟩ => ⟨a, w, hq _ _ _ h⟩
  intro rest
  induction rest with
  | nil => intro a w h; exact hq _ _ _ h
  | cons i rest ih =>
    intro a w h
    simp only [wpOpsIn] at h ⊢
    split
    · rename_i ho; simp only [ho] at h; exact ih _ _ h
    · rename_i o ho
      simp only [ho] at h
      split
      · rename_i hw
        rw [if_pos hw] at h
        unfold Oper.wpIn at h ⊢
        refine ⟨h.1, ?_⟩
        have h := h.2
        generalize (o.semAt F.round a.eval).run P w = r at *
        cases r with
        | ok nx w' =>
          cases nx <;> simp only [Oper.uponIn] at h ⊢
          case value v => exact ih _ _ h
          case skip => exact ih _ _ h
          case defer d => exact ih _ _ h
          case enter f args =>
            refine ⟨h.1, CallsIn.mono h.2 fun e w'' he => ?_⟩
            cases e with
            | returned v => exact ih _ _ he
            | panicked c => exact hq _ _ _ he
            | outgrown => exact hl he
          case row row args => exact ⟨h.1, RowsIn.mono h.2 fun v w'' hv => ih _ _ hv⟩
          case round =>
            refine ⟨h.1, RoundIn.mono h.2 fun e w'' he => ?_⟩
            cases e with
            | returned v => exact ih _ _ he
            | panicked c => exact hq _ _ _ he
            | outgrown => exact hl he
        | halt x w' => cases x <;> simp only [Oper.uponIn] at h ⊢; exact hq _ _ _ h
      · rename_i hw
        rw [if_neg hw] at h
        exact ⟨h.1, ih _ _ h.2⟩

theorem wpOps_mono' {M B : Nat} {ro : Option Nat} {ops : Array Oper} {rest : List Nat} {σ σ1 : St} {κ κ1 : Kap} {w w1 : World} {a : Act} {w' : World} (hE : Ext B σ κ w σ1 κ1 w1) (h : wpOpsIn (fen ro) 0 P ops (lift M B σ1 κ1 w1 n Q) rest a w') : wpOpsIn (fen ro) 0 P ops (lift M B σ κ w n Q) rest a w' :=
  wpOpsIn_weak (fun _ _ _ h => lift_ext hE h) rest a w' h

theorem putPs_sound {σ : St} {κ : Kap} {w : World} {tm : Array Value} : ∀ {ps : List Nat} {ds : List DVal} {args : List Value} {env : Env}, (∀ p ∈ ps, p < tm.size) → ps.length = ds.length → RepD σ κ w ds args → REnv σ κ w env { tmps := tm, defers := [] } →
    REnv σ κ w (putPs env ps ds) { tmps := (ps.zip args).foldl (fun tmps (p : Nat × Value) => tmps.setIfInBounds p.1 p.2) tm, defers := [] } ∧ ((ps.zip args).foldl (fun tmps (p : Nat × Value) => tmps.setIfInBounds p.1 p.2) tm).size = tm.size := by
  intro ps
  induction ps generalizing tm with
  | nil => intro ds args env hp hl hr he; cases ds with | nil => exact ⟨he, rfl⟩ | cons => simp at hl
  | cons p ps ih =>
    intro ds args env hp hl hr he
    cases ds with
    | nil => simp at hl
    | cons d ds =>
      obtain ⟨v, vs, rfl, h0, ht⟩ := hr.cons_inv
      have hp0 : p < tm.size := hp p (List.mem_cons_self ..)
      have h1 : REnv σ κ w ((p, d) :: env) { tmps := tm.setIfInBounds p v, defers := [] } := by
        intro t x hx
        have hx' : (if p = t then some d else Env.get env t) = some x := by
          have : Env.get ((p, d) :: env) t = (bif Nat.beq p t then some d else Env.get env t) := rfl
          rw [this] at hx
          cases hb : Nat.beq p t with
          | true => have := Nat.eq_of_beq_eq_true hb; simpa [hb, this] using hx
          | false => have : p ≠ t := Nat.ne_of_beq_eq_false hb; simpa [hb, this] using hx
        split at hx'
        · rename_i heq; subst heq; cases hx'
          exact ⟨v, by simp [hp0], h0⟩
        · rename_i hne
          obtain ⟨u, hu, hr⟩ := he t x hx'
          exact ⟨u, by simpa [hne] using hu, hr⟩
      obtain ⟨h2, h3⟩ := ih (tm := tm.setIfInBounds p v) (fun q hq => by simpa using hp q (List.mem_cons_of_mem _ hq)) (by simpa using hl) ht h1
      exact ⟨h2, by rw [List.zip_cons_cons, List.foldl_cons, h3]; simp⟩

/-- A round, as the machine makes it. -/
theorem yield_sound {ro : Option Nat} {B : Nat} {σ : St} {κ : Kap} {w : World} {o : Oper} {env : Env} {a : Act} {i : Nat} {ds : List DVal} {K : Bool → St → Prop} {KK : Act → World → Prop} {QQ : Exit → Act → World → Prop} (hI : Inv B σ κ w) (he : REnv σ κ w env a) (hy : yieldD o env = some (i, ds)) (h : DYield P i ds σ K)
    (hK : ∀ b σ' κ' w', K b σ' → Inv B σ' κ' w' → Ext B σ κ w σ' κ' w' → KK (a.put o.dst (.bool b)) w') : o.wpIn (fen ro) 0 P a w KK QQ := by
  have hnd := notDefer_yield hy
  unfold yieldD at hy
  split at hy
  · rename_i f as ts heq
    simp only [Option.bind_eq_some_iff] at hy
    obtain ⟨df, hdf, hy⟩ := hy
    split at hy
    · rename_i i'
      simp only [Option.map_eq_some_iff, Prod.mk.injEq] at hy
      obtain ⟨ds', hds, rfl, rfl⟩ := hy
      have hfv := evalX_sound he hdf
      have hyv : a.eval f = .func (.yield (κ.ob i')) #[] #[] := by
        generalize a.eval f = v at hfv
        cases hfv with | yld _ _ => rfl
      have hargs := evalXs_sound he hds
      unfold DYield at h
      split at h
      · rename_i n env0 ps asg body jump hob
        obtain ⟨hps, hpn, hfa, hfb, hW⟩ := h
        obtain ⟨L, hL, h1, h2, h3, h4, h5, h6, h7, h8⟩ := hI.loop_set hob
        have hasz : (as.map a.eval).size = L.params.size := by
          rw [h3]; have := hargs.length; simp only [List.length_map] at this; rw [Array.size_map]; rw [hps]; simpa using this
        have hrun : (execOp a.eval o).run P w = .ok (.round (κ.ob i') L.fn ((L.params.zip (as.map a.eval)).foldl (fun tmps (t, a) => tmps.setIfInBounds t a) L.tmps) L.assign L.body) w := by
          have := run_yield (P := P) (args := as.map a.eval) hL hasz
          simp only [execOp, heq, resolve, hyv, Deferred.ofValue, Sem.run_bind, Sem.run_pure, Result.andThen_ok, invoke, Array.empty_append, Array.append_empty, this]
        refine ⟨fun _ _ => trivial, ?_⟩
        rw [semAt_fen hnd, hrun]
        refine ⟨fen_depth, ?_⟩
        have hfold : (L.params.zip (as.map a.eval)).foldl (fun tmps (x : Tmp × Value) => tmps.setIfInBounds x.1 x.2) L.tmps = (ps.toList.zip (as.toList.map a.eval)).foldl (fun tmps (p : Nat × Value) => tmps.setIfInBounds p.1 p.2) L.tmps := by
          rw [h3, ← Array.foldl_toList]; simp [Array.toList_zip]
        obtain ⟨hre, hsz⟩ := putPs_sound (tm := L.tmps) (ps := ps.toList) (ds := ds') (args := as.toList.map a.eval) (env := env0) (fun p hp => by
            rw [h6]; have := List.all_eq_true.1 hpn p hp; exact Nat.le_of_ble_eq_true this) (by simpa using hps) hargs (fun t d ht => h7 t d ht)
        have hround : RoundIn (fen none) 0 P (κ.ob i') L.fn ((L.params.zip (as.map a.eval)).foldl (fun tmps (x : Tmp × Value) => tmps.setIfInBounds x.1 x.2) L.tmps) L.assign L.body w fun e w' =>
            ∃ b, e = .returned (.bool b) ∧ ∃ σ' κ', K b σ' ∧ Inv B σ' κ' w' ∧ Ext B σ κ w σ' κ' w' := by
          refine roundIn_of_wpIn (F := fen none) trivial ?_
          rw [hfold, h4, h5]
          refine wpIn_mono (hW (some (κ.ob i')) (.inr hfa) 0 B κ w _ (Nat.zero_le _) hI hre (by rw [hsz, h6]) Marks.nil) ?_
          rintro e a1 w1 ⟨o1, e1, σ1, κ1, hq, hm, hI1, hE1, he1, hn1, hd1⟩
          cases o1 with
          | norm =>
            cases e <;> simp only [matchE] at hm
            obtain ⟨n1, env1, ps1, asg1, body1, jump1, hob1, hWb⟩ := hq
            obtain ⟨L1, hL1, k1, k2, k3, k4, k5, k6, k7, k8⟩ := hI1.loop_set hob1
            have hκ : κ1.ob i' = κ.ob i' := hE1.ob i' (List.getElem?_eq_some_iff.1 hob).1
            have hL1' : w1.heap[κ.ob i']? = some (.loop L1) := by rw [← hκ]; exact hL1
            refine ⟨_, run_beginRound hL1' k1, ?_⟩
            obtain ⟨hI2, hE2⟩ := k8 .busy jump1
            rw [hκ] at hI2 hE2
            have hjj : ({ L1 with state := .busy, pending := jump1 } : Loop) = { L1 with state := .busy } := by rw [← k2]
            rw [hjj] at hI2 hE2
            refine wpIn_mono (hWb (some (κ.ob i')) (.inr hfb) 0 B κ1 _ a1 (Nat.zero_le _) hI2 (he1.ext hE2) hn1 (hd1.ext hE2)) ?_
            rintro e a3 w3 ⟨o3, e3, σ3, κ3, ⟨n2, env2, ps2, asg2, body2, jump2, hob3, hq3⟩, hm3, hI3, hE3, he3, hn3, hd3⟩
            obtain ⟨L3, hL3, l1, l2, l3, l4, l5, l6, l7, l8⟩ := hI3.loop_set hob3
            have hκ3 : κ3.ob i' = κ.ob i' := by
              rw [hE3.ob i' (by have := hE2.objs; have h0 := (List.getElem?_eq_some_iff.1 hob1).1; omega), hκ]
            have hL3' : w3.heap[κ.ob i']? = some (.loop L3) := by rw [← hκ3]; exact hL3
            have hEE := (hE1.trans hE2).trans hE3
            cases o3 with
            | norm =>
              cases e <;> simp only [matchE] at hm3
              obtain ⟨hI4, hE4⟩ := l8 .ready none
              rw [hκ3] at hI4 hE4
              exact ⟨_, _, run_endRound none hL3', true, rfl, _, _, hq3, hI4, hEE.trans hE4⟩
            | exit id =>
              cases e <;> simp only [matchE] at hm3
              subst hm3
              obtain ⟨hI4, hE4⟩ := l8 .done (some (.exit id))
              rw [hκ3] at hI4 hE4
              exact ⟨_, _, run_endRound (some (.exit id)) hL3', false, rfl, _, _, hq3, hI4, hEE.trans hE4⟩
            | ret =>
              cases e <;> simp only [matchE] at hm3
              obtain ⟨hI4, hE4⟩ := l8 .done (some .ret)
              rw [hκ3] at hI4 hE4
              exact ⟨_, _, run_endRound (some .ret) hL3', false, rfl, _, _, hq3, hI4, hEE.trans hE4⟩
            | pan d => exact hq3.elim
          | _ => exact hq.elim
        refine RoundIn.mono (F := fen ro) (n := 0 - 1) (R := fun e w' => ∃ b, e = .returned (.bool b) ∧ ∃ σ' κ', K b σ' ∧ Inv B σ' κ' w' ∧ Ext B σ κ w σ' κ' w') ?_ ?_
        · exact hround
        · rintro e w' ⟨b, rfl, σ', κ', hk, hI', hE⟩
          exact hK b σ' κ' w' hk hI' hE
      · exact h.elim
    · cases hy
  · cases hy
end
end Go.DL
