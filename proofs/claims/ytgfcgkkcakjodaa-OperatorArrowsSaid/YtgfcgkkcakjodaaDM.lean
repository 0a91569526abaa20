/-
  D-LOGIC, part M: code and calls.
-/
import Derived.Test.YtgfcgkkcakjodaaDK
set_option linter.unusedVariables false
set_option linter.unusedSimpArgs false
namespace Go.DL
open Go.RowKit

inductive Out where
  | norm
  | exit (id : Nat)
  | ret
  | pan (d : DVal)

inductive Res where
  | ret (d : DVal)
  | pan (d : DVal)

def matchE (σ : St) (κ : Kap) (w : World) : Out → Exit → Prop
  | .norm, .normal => True
  | .exit i, .exit j => i = j
  | .ret, .ret => True
  | .pan d, .panic chain => ∃ v, chain = [{ v, recovered := false }] ∧ Rep1 σ κ w d v
  | _, _ => False

def lift (B : Nat) (σ : St) (κ : Kap) (w : World) (n : Nat) (Q : Out → Env → St → Prop) : Exit → Act → World → Prop := fun e a' w' =>
  ∃ o env' σ' κ', Q o env' σ' ∧ matchE σ' κ' w' o e ∧ Inv B σ' κ' w' ∧ Ext B σ κ w σ' κ' w' ∧ REnv σ' κ' w' env' a' ∧ a'.tmps.size = n ∧ a'.defers = []

/-- Code, run from a state: whatever the memory that stands for the state, it ends in one that stands for a state of Q. -/
def W (P : Program) (n : Nat) (c : Code) (env : Env) (σ : St) (Q : Out → Env → St → Prop) : Prop :=
  ∀ (B : Nat) (κ : Kap) (w : World) (a : Act), Inv B σ κ w → REnv σ κ w env a → a.tmps.size = n → a.defers = [] → c.wp P (lift B σ κ w n Q) a w

def liftR (B : Nat) (σ : St) (κ : Kap) (w : World) (R : Res → St → Prop) : Ending → World → Prop := fun e w' =>
  ∃ r σ' κ', R r σ' ∧ Inv B σ' κ' w' ∧ Ext B σ κ w σ' κ' w' ∧ match r, e with
    | .ret d, .returned v => Rep1 σ' κ' w' d v
    | .pan d, .panicked chain => ∃ v, chain = [{ v, recovered := false }] ∧ Rep1 σ' κ' w' d v
    | _, _ => False

def DCalls (P : Program) (f : FuncId) (ds : List DVal) (σ : St) (R : Res → St → Prop) : Prop :=
  ∀ (B : Nat) (κ : Kap) (w : World) (args : List Value), Inv B σ κ w → RepD σ κ w ds args → Calls P f args.toArray w (liftR B σ κ w R)

theorem DCalls.mono {P : Program} {f : FuncId} {ds : List DVal} {σ : St} {R R' : Res → St → Prop} (h : DCalls P f ds σ R) (hr : ∀ r σ', R r σ' → R' r σ') : DCalls P f ds σ R' :=
  fun B κ w args hI hd => (h B κ w args hI hd).mono fun e w' ⟨r, σ', κ', h1, h2⟩ => ⟨r, σ', κ', hr _ _ h1, h2⟩

theorem W.mono {P : Program} {n : Nat} {c : Code} {env : Env} {σ : St} {Q Q' : Out → Env → St → Prop} (h : W P n c env σ Q) (hq : ∀ o e s, Q o e s → Q' o e s) : W P n c env σ Q' :=
  fun B κ w a hI he hn hd => wp_mono (h B κ w a hI he hn hd) fun e a w ⟨o, env', σ', κ', h1, h2⟩ => ⟨o, env', σ', κ', hq _ _ _ h1, h2⟩

section
variable {P : Program} {n : Nat} {env : Env} {σ : St} {Q : Out → Env → St → Prop}

theorem lift_ext {B : Nat} {κ κ1 : Kap} {w w1 : World} {σ1 : St} (hE : Ext B σ κ w σ1 κ1 w1) {e : Exit} {a : Act} {w' : World} (h : lift B σ1 κ1 w1 n Q e a w') : lift B σ κ w n Q e a w' := by
  obtain ⟨o, env', σ', κ', h1, h2, h3, h4, h5⟩ := h
  exact ⟨o, env', σ', κ', h1, h2, h3, hE.trans h4, h5⟩

theorem W_skip (h : Q .norm env σ) : W P n .skip env σ Q := fun B κ w a hI he hn hd => wp_skip ⟨.norm, env, σ, κ, h, trivial, hI, Ext.refl _ _ _ _, he, hn, hd⟩
theorem W_exit {id : Nat} (h : Q (.exit id) env σ) : W P n (.exit id) env σ Q := fun B κ w a hI he hn hd => wp_exit ⟨.exit id, env, σ, κ, h, rfl, hI, Ext.refl _ _ _ _, he, hn, hd⟩
theorem W_ret (h : Q .ret env σ) : W P n .ret env σ Q := fun B κ w a hI he hn hd => wp_ret ⟨.ret, env, σ, κ, h, trivial, hI, Ext.refl _ _ _ _, he, hn, hd⟩

def thenQ (next : Env → St → Prop) (Q : Out → Env → St → Prop) : Out → Env → St → Prop
  | .norm, env, σ => next env σ
  | o, env, σ => Q o env σ
theorem W_seq {x y : Code} (h : W P n x env σ (thenQ (fun env' σ' => W P n y env' σ' Q) Q)) : W P n (.seq x y) env σ Q := by
  intro B κ w a hI he hn hd
  refine wp_seq (wp_mono (h B κ w a hI he hn hd) ?_)
  rintro e a' w' ⟨o, env', σ', κ', hq, hm, hI', hE, he', hn', hd'⟩
  cases o with
  | norm =>
    cases e <;> simp only [matchE] at hm
    exact wp_mono (hq B κ' w' a' hI' he' hn' hd') fun e a w hl => lift_ext hE hl
  | exit i =>
    cases e <;> simp only [matchE] at hm
    exact ⟨.exit i, env', σ', κ', hq, hm, hI', hE, he', hn', hd'⟩
  | ret =>
    cases e <;> simp only [matchE] at hm
    exact ⟨.ret, env', σ', κ', hq, trivial, hI', hE, he', hn', hd'⟩
  | pan d =>
    cases e <;> simp only [matchE] at hm
    exact ⟨.pan d, env', σ', κ', hq, hm, hI', hE, he', hn', hd'⟩

theorem W_cond {c : Operand} {x y : Code} {t : Bool} (hc : evalX env c = some (.f (.lit (.bool t)))) (h : W P n (bif t then x else y) env σ Q) : W P n (.cond c x y) env σ Q := by
  intro B κ w a hI he hn hd
  have hv : a.eval c = .bool t := by
    have := evalX_sound he hc
    cases this with
    | f h _ => exact h.of_lit.1
  refine wp_cond hv ?_
  have := h B κ w a hI he hn hd
  cases t <;> simpa using this

def blockQ (id : Nat) (Q : Out → Env → St → Prop) : Out → Env → St → Prop
  | .exit i, env, σ => if i = id then Q .norm env σ else Q (.exit i) env σ
  | o, env, σ => Q o env σ
theorem W_block {id : Nat} {c : Code} (h : W P n c env σ (blockQ id Q)) : W P n (.block id c) env σ Q := by
  intro B κ w a hI he hn hd
  refine wp_block (wp_mono (h B κ w a hI he hn hd) ?_)
  rintro e a' w' ⟨o, env', σ', κ', hq, hm, hI', hE, he', hn', hd'⟩
  cases o with
  | norm =>
    cases e <;> simp only [matchE] at hm
    exact ⟨.norm, env', σ', κ', hq, trivial, hI', hE, he', hn', hd'⟩
  | exit i =>
    cases e <;> simp only [matchE] at hm
    subst hm
    simp only [blockQ] at hq
    simp only [Exit.inBlock]
    split
    · rename_i hi
      rw [if_pos hi] at hq
      exact ⟨.norm, env', σ', κ', hq, trivial, hI', hE, he', hn', hd'⟩
    · rename_i hi
      rw [if_neg hi] at hq
      exact ⟨.exit i, env', σ', κ', hq, rfl, hI', hE, he', hn', hd'⟩
  | ret =>
    cases e <;> simp only [matchE] at hm
    exact ⟨.ret, env', σ', κ', hq, trivial, hI', hE, he', hn', hd'⟩
  | pan d =>
    cases e <;> simp only [matchE] at hm
    exact ⟨.pan d, env', σ', κ', hq, hm, hI', hE, he', hn', hd'⟩

/-- A loop: what holds at each round's head, and a number that every round lowers. -/
theorem W_loop {c : Code} (I : Env → St → Prop) (m : Env → St → Nat) (h0 : I env σ) (round : ∀ env σ, I env σ → W P n c env σ (thenQ (fun env' σ' => I env' σ' ∧ m env' σ' < m env σ) Q)) : W P n (.loop c) env σ Q := by
  have key : ∀ (k : Nat) (env : Env) (σ : St), m env σ = k → I env σ → ∀ (B : Nat) (κ : Kap) (w : World) (a : Act), Inv B σ κ w → REnv σ κ w env a → a.tmps.size = n → a.defers = [] → ∀ (b : Frame) (kk : List Item) (cs : List Frame),
      ∃ e a' w', lift B σ κ w n Q e a' w' ∧ Arrives P (lone (b.at a (.code c :: .inLoop c :: kk)) cs w) b kk cs e a' w' := by
    intro k
    induction k using Nat.strongRecOn with
    | _ k ih =>
      intro env σ hk hI0 B κ w a hI he hn hd b kk cs
      obtain ⟨e, a1, w1, hq, harr⟩ := round env σ hI0 B κ w a hI he hn hd b (.inLoop c :: kk) cs
      obtain ⟨o, env', σ', κ', hq, hm, hI', hE, he', hn', hd'⟩ := hq
      cases o with
      | norm =>
        cases e <;> simp only [matchE] at hm
        obtain ⟨hI1, hlt⟩ := hq
        obtain ⟨e2, a2, w2, hq2, harr2⟩ := ih (m env' σ') (by omega) env' σ' rfl hI1 B κ' w1 a1 hI' he' hn' hd' b kk cs
        exact ⟨e2, a2, w2, lift_ext hE hq2, .of_steps (Steps.trans harr (.one step_inLoop)) harr2⟩
      | exit i =>
        cases e <;> simp only [matchE] at hm
        rename_i j
        exact ⟨.exit j, a1, w1, ⟨.exit i, env', σ', κ', hq, hm, hI', hE, he', hn', hd'⟩, .pass (x := .inLoop c) rfl (fun _ _ => .inl (by simp)) harr⟩
      | ret =>
        cases e <;> simp only [matchE] at hm
        exact ⟨.ret, a1, w1, ⟨.ret, env', σ', κ', hq, trivial, hI', hE, he', hn', hd'⟩, .pass (x := .inLoop c) rfl (fun _ _ => .inl (by simp)) harr⟩
      | pan d =>
        cases e <;> simp only [matchE] at hm
        rename_i ch
        exact ⟨.panic ch, a1, w1, ⟨.pan d, env', σ', κ', hq, hm, hI', hE, he', hn', hd'⟩, .pass (x := .inLoop c) rfl (fun _ _ => .inl (by simp)) harr⟩
  intro B κ w a hI he hn hd b kk cs
  obtain ⟨e, a', w', hq, harr⟩ := key _ env σ rfl h0 B κ w a hI he hn hd b kk cs
  exact ⟨e, a', w', hq, .of_steps (.one step_loop) harr⟩
end

/-! ### Regions -/
def wantD (ops : Array Oper) (o : Oper) (env : Env) : Option Bool :=
  match o.guard with
  | none => some true
  | some (j, want) => ((ops[j]?).bind (·.dst)).bind fun t => (env.get t).bind fun d => match d with
    | .f (.lit (.bool b)) => some (b == want)
    | .tup [] => some false
    | _ => none

def isCall : Op → Bool
  | .call { callee := .value _, .. } => true
  | _ => false
def bodyOk (P : Program) (g : FuncId) : Bool := match P.funcs[g]? with | some fn => fn.body.isSome && fn.name != "runtime.NumGoroutine" | none => false
/-- The function that is called, and its arguments. -/
def callD (P : Program) (o : Oper) (env : Env) : Option (FuncId × List DVal) :=
  match o.op with
  | .call { callee := .value f, args := as, .. } => (evalX env f).bind fun d => match d with
    | .fn (.func g) caps => (evalXs env as.toList).bind fun ds => bif bodyOk P g then some (g, ds ++ caps) else none
    | _ => none
  | _ => none

def DOps (P : Program) (n : Nat) (ops : Array Oper) (Q : Out → Env → St → Prop) : List Oper → Env → St → Prop
  | [], env, σ => Q .norm env σ
  | o :: rest, env, σ =>
    match wantD ops o env with
    | some true =>
      match callD P o env with
      | some (f, ds) => DCalls P f ds σ fun r σ' => match r with
        | .ret d => DOps P n ops Q rest (env.put o.dst d) σ'
        | .pan d => Q (.pan d) env σ'
      | none =>
        match o.op with
        | .panic x => ∃ t v, evalX env x = some (.f (.lit (.iface t v))) ∧ Q (.pan (.f (.lit (.iface t v)))) env σ
        | _ => match evalOp P o env σ with
          | some (d, σ') => DOps P n ops Q rest (env.put o.dst d) σ'
          | none => False
    | some false => DOps P n ops Q rest (env.put o.dst (.tup [])) σ
    | none => False

def dstsOk (n : Nat) (ops : List Oper) : Bool := ops.all fun o => match o.dst with | some t => Nat.blt t n | none => true

section
variable {P : Program} {n : Nat} {Q : Out → Env → St → Prop}

theorem wantD_sound {σ : St} {κ : Kap} {w : World} {ops : Array Oper} {o : Oper} {env : Env} {a : Act} {b : Bool} (he : REnv σ κ w env a) (h : wantD ops o env = some b) : Region.wanted o (yielded ops a.tmps) = b := by
  unfold wantD at h
  unfold Region.wanted
  split at h
  · rename_i hg; rw [hg]; simpa using h
  · rename_i j want hg
    rw [hg]
    simp only [Option.bind_eq_some_iff] at h
    obtain ⟨t, ht, d, hd, h⟩ := h
    obtain ⟨v, hv, hr⟩ := he t d hd
    have hy : ((ops[j]?).bind (·.dst)).bind (fun x => a.tmps[x]?) = some v := by
      obtain ⟨oj, hoj, hdst⟩ := ht
      simp [hoj, hdst, hv]
    split at h
    · rename_i bb
      cases hr with
      | f hr _ =>
        have := hr.of_lit.1; subst this
        simp only [Option.some.injEq] at h
        subst h
        simp only [yielded]
        rw [hy]
        simp
    · cases hr with
      | tup r _ =>
        have := r.nil_inv; subst this
        simp only [Option.some.injEq] at h; subst h
        simp only [yielded]
        rw [hy]
        simp
    · cases h

theorem run_callFunc {g : FuncId} (h : bodyOk P g = true) (args : Array Value) (w : World) : (callFunc g args).run P w = .ok (.enter g args) w := by
  unfold bodyOk at h
  split at h
  · rename_i fn hf
    simp only [Bool.and_eq_true, bne_iff_ne, ne_eq] at h
    have h2 : fn.body ≠ none := by cases hb : fn.body <;> simp_all
    simp [callFunc, hf, h.2, h2]
  · cases h

theorem wpOps_weak {ops : Array Oper} {Q Q' : Exit → Act → World → Prop} (hq : ∀ e a w, Q e a w → Q' e a w) : ∀ (rest : List Nat) (a : Act) (w : World), wpOps P ops Q rest a w → wpOps P ops Q' rest a w := by
  have hl : LetsOut Q → LetsOut Q' := fun ⟨a, w, h⟩ => ⟨a, w, hq _ _ _ h⟩
  intro rest
  induction rest with
  | nil => intro a w h; exact hq _ _ _ h
  | cons i rest ih =>
    intro a w h
    simp only [wpOps] at h ⊢
    split
    · rename_i ho; simp only [ho] at h; exact ih _ _ h
    · rename_i o ho
      simp only [ho] at h
      split
      · rename_i hw
        rw [if_pos hw] at h
        rcases h with h | ⟨h1, h2⟩
        · refine .inl ?_
          unfold Oper.wp at h ⊢
          generalize (execOp a.eval o).run P w = r at *
          cases r with
          | ok nx w' =>
            cases nx <;> simp only [Oper.upon] at h ⊢
            case value v => exact ih _ _ h
            case skip => exact ih _ _ h
            case defer d => exact ih _ _ h
            case enter f args =>
              refine Calls.mono h fun e w'' he => ?_
              cases e with
              | returned v => exact ih _ _ he
              | panicked c => exact hq _ _ _ he
              | outgrown => exact hl he
            case row row args => exact Rows.mono h fun v w'' hv => ih _ _ hv
          | halt x w' => cases x <;> simp only [Oper.upon] at h ⊢; exact hq _ _ _ h
        · exact .inr ⟨h1, hl h2⟩
      · rename_i hw
        rw [if_neg hw] at h
        exact ih _ _ h

theorem wpOps_mono' {B : Nat} {ops : Array Oper} {rest : List Nat} {σ σ1 : St} {κ κ1 : Kap} {w w1 : World} {a : Act} {w' : World} (hE : Ext B σ κ w σ1 κ1 w1) (h : wpOps P ops (lift B σ1 κ1 w1 n Q) rest a w') : wpOps P ops (lift B σ κ w n Q) rest a w' :=
  wpOps_weak (fun _ _ _ h => lift_ext hE h) rest a w' h

/-- Operations one behind the other. -/
theorem ops_sound (ops : Array Oper) : ∀ (rest : List Nat) (os : List Oper) (env : Env) (σ : St), rest.map (ops[·]?) = os.map some → dstsOk n os = true → DOps P n ops Q os env σ →
    ∀ (B : Nat) (κ : Kap) (w : World) (a : Act), Inv B σ κ w → REnv σ κ w env a → a.tmps.size = n → a.defers = [] → wpOps P ops (lift B σ κ w n Q) rest a w := by
  intro rest
  induction rest with
  | nil =>
    intro os env σ hl hds h B κ w a hI he hn hd
    have : os = [] := by cases os with | nil => rfl | cons o os => simp at hl
    subst this
    exact ⟨.norm, env, σ, κ, h, trivial, hI, Ext.refl _ _ _ _, he, hn, hd⟩
  | cons i rest ih =>
    intro os env σ hl hds h B κ w a hI he hn hd
    cases os with
    | nil => simp at hl
    | cons o os =>
      simp only [List.map_cons, List.cons.injEq] at hl
      obtain ⟨hi, hl⟩ := hl
      simp only [dstsOk, List.all_cons, Bool.and_eq_true] at hds
      obtain ⟨hd0, hds⟩ := hds
      have hlt : ∀ t, o.dst = some t → t < a.tmps.size := fun t ht => by
        rw [ht] at hd0; rw [hn]; exact Nat.le_of_ble_eq_true hd0
      have hputn : ∀ v, (a.put o.dst v).tmps.size = n := fun v => by cases hdst : o.dst <;> simp [Act.put, hn]
      have hputd : ∀ v, (a.put o.dst v).defers = [] := fun v => by cases hdst : o.dst <;> simp [Act.put, hd]
      simp only [wpOps, hi]
      unfold DOps at h
      split at h
      · rename_i hw
        have hw := wantD_sound he hw
        rw [if_pos hw]
        refine .inl ?_
        split at h
        · -- a call
          rename_i f ds hc
          unfold callD at hc
          split at hc
          · rename_i g as ts heq
            simp only [Option.bind_eq_some_iff] at hc
            obtain ⟨dg, hdg, hc⟩ := hc
            split at hc
            · rename_i gf caps
              simp only [Option.bind_eq_some_iff] at hc
              obtain ⟨das, hdas, hc⟩ := hc
              cases hb : bodyOk P gf with
              | false => simp [hb] at hc
              | true =>
                simp only [hb, cond_true, Option.some.injEq, Prod.mk.injEq] at hc
                obtain ⟨rfl, rfl⟩ := hc
                have hgv := evalX_sound he hdg
                obtain ⟨cv, hcv, hcr⟩ : ∃ cv : List Value, a.eval g = .func (.func gf) #[] cv.toArray ∧ RepD σ κ w caps cv := by
                  generalize a.eval g = v at hgv
                  cases hgv with
                  | fn r _ => exact ⟨_, rfl, r⟩
                have hargs := (evalXs_sound he hdas).append hcr
                have hcall := h B κ w _ hI hargs
                unfold Oper.wp
                have hrun : (execOp a.eval o).run P w = .ok (.enter gf (as.toList.map a.eval ++ cv).toArray) w := by
                  have : as.map a.eval ++ cv.toArray = (as.toList.map a.eval ++ cv).toArray := by apply Array.ext'; simp
                  simp only [execOp, heq, resolve, hcv, Deferred.ofValue, Sem.run_bind, Sem.run_pure, Result.andThen_ok, invoke, Array.empty_append, this, run_callFunc hb]
                rw [hrun]
                simp only [Oper.upon]
                refine hcall.mono fun e w' ⟨r, σ', κ', hr, hI', hE, hm⟩ => ?_
                cases r with
                | ret d =>
                  cases e with
                  | returned v =>
                    simp only at hm hr ⊢
                    have := ih os _ σ' hl hds hr B κ' w' (a.put o.dst v) hI' ((he.ext hE).put hm hlt) (hputn v) (hputd v)
                    exact wpOps_mono' hE this
                  | _ => exact hm.elim
                | pan d =>
                  cases e with
                  | panicked chain =>
                    simp only at hm hr ⊢
                    exact ⟨.pan d, env, σ', κ', hr, hm, hI', hE, he.ext hE, hn, hd⟩
                  | _ => exact hm.elim
            · cases hc
          · cases hc
        · split at h
          · -- panic
            rename_i x heq
            obtain ⟨t, v, hx, hq⟩ := h
            have hv := evalX_sound he hx
            have hve : a.eval x = .iface t v := by cases hv with | f h _ => exact h.of_lit.1
            unfold Oper.wp
            have hrun : (execOp a.eval o).run P w = .halt (.panic (.iface t v)) w := by
              simp [execOp, heq, hve, Instr.panic, goPanic, Sem.run]
            rw [hrun]
            simp only [Oper.upon]
            rw [hve] at hv
            exact ⟨.pan _, env, σ, κ, hq, ⟨_, rfl, hv⟩, hI, Ext.refl _ _ _ _, he, hn, hd⟩
          · split at h
            · rename_i d σ' hev
              obtain ⟨v, w', κ', hrun, hI', hE, hr⟩ := evalOp_sound hI he hev
              have := ih os _ σ' hl hds h B κ' w' (a.put o.dst v) hI' ((he.ext hE).put hr hlt) (hputn v) (hputd v)
              have := wpOps_mono' hE this
              unfold Oper.wp
              rcases hrun with hrun | ⟨hrun, rfl⟩ <;> (rw [hrun]; exact this)
            · exact h.elim
      · rename_i hw
        have hw := wantD_sound he hw
        rw [if_neg (by rw [hw]; simp)]
        have := ih os _ σ hl hds h B κ w (a.put o.dst undef) hI (he.put (.tup (us := []) .nil .nil) hlt) (hputn _) (hputd _)
        exact this
      · exact h.elim

theorem W_region {id : Nat} {ops : Array Oper} {env : Env} {σ : St} (hds : dstsOk n ops.toList = true) (h : DOps P n ops Q ops.toList env σ) : W P n (.region id ops false) env σ Q := by
  intro B κ w a hI he hn hd
  refine wp_region (ops_sound ops (List.range ops.size) ops.toList env σ ?_ hds h B κ w a hI he hn hd)
  apply List.ext_getElem?
  intro i
  simp only [List.getElem?_map]
  rcases Nat.lt_or_ge i ops.size with hi | hi
  · simp [List.getElem?_range hi, hi]
  · rw [List.getElem?_eq_none (by simpa using hi), List.getElem?_eq_none (by simpa using hi)]; rfl

/-! ### A function -/
def resD (P : Program) (σ : St) (env : Env) : List ResultVar → Option (List DVal)
  | [] => some []
  | .tmp t :: r => (env.get t).bind fun d => (resD P σ env r).bind fun ds => some (d :: ds)
  | .cell t ty :: r => (env.get t).bind fun p => (evalLoad P ty p σ).bind fun d => (resD P σ env r).bind fun ds => some (d :: ds)
def tupD : List DVal → DVal
  | [d] => d
  | ds => .tup ds

def bodyQ (P : Program) (fn : Func) (R : Res → St → Prop) : Out → Env → St → Prop
  | .norm, env, σ | .ret, env, σ => ∃ ds, resD P σ env fn.results.toList = some ds ∧ R (.ret (tupD ds)) σ
  | .pan d, env, σ => R (.pan d) σ
  | .exit _, _, _ => False

def mkEnv (n : Nat) (ds : List DVal) : Env := (ds.zipIdx.map fun p => (p.2, p.1)) ++ ((List.range' ds.length (n - ds.length)).map fun i => (i, .tup []))

theorem resD_sound {B : Nat} {σ : St} {κ : Kap} {w : World} {env : Env} {a : Act} (hI : Inv B σ κ w) (he : REnv σ κ w env a) : ∀ {rs : List ResultVar} {ds : List DVal}, resD P σ env rs = some ds →
    ∃ vs, (rs.mapM fun | .tmp t => pure (a.tmps.getD t undef) | .cell x t => do loadVar t (← asAddr (a.tmps.getD x undef)) : Sem (List Value)).run P w = .ok vs w ∧ RepD σ κ w ds vs
  | [], ds, h => by simp only [resD, Option.some.injEq] at h; subst h; exact ⟨[], rfl, .nil⟩
  | .tmp t :: rs, ds, h => by
    simp only [resD, Option.bind_eq_some_iff, Option.some.injEq] at h
    obtain ⟨d, hd, ds', hds, rfl⟩ := h
    obtain ⟨v, hv, hr⟩ := he t d hd
    obtain ⟨vs, hvs, hrs⟩ := resD_sound hI he hds
    refine ⟨v :: vs, ?_, RepD.cons hr hrs⟩
    simp only [List.mapM_cons, Sem.run_bind, Sem.run_pure, Result.andThen_ok, hvs]
    simp [hv]
  | .cell t ty :: rs, ds, h => by
    simp only [resD, Option.bind_eq_some_iff, Option.some.injEq] at h
    obtain ⟨p, hp, d, hd, ds', hds, rfl⟩ := h
    obtain ⟨v, hv, hr⟩ := he t p hp
    obtain ⟨u, hu, hru⟩ := evalLoad_sound (P := P) hI hr hd
    obtain ⟨vs, hvs, hrs⟩ := resD_sound hI he hds
    have hptr : ∃ q, v = .pointer (some q) := by
      simp only [evalLoad, Option.bind_eq_some_iff] at hd
      obtain ⟨_, _, _, _, cs, hcs, _⟩ := hd
      obtain ⟨q, _, hq, _⟩ := cellsAt_sound hI hr hcs
      exact ⟨q, hq⟩
    obtain ⟨q, rfl⟩ := hptr
    have hl : (loadVar ty q).run P w = .ok u w := by simpa [Instr.loadAt, Instr.sureAddr] using hu
    have hg : a.tmps.getD t undef = .pointer (some q) := by simp [hv]
    refine ⟨u :: vs, ?_, RepD.cons hru hrs⟩
    have hA : (asAddr (a.tmps.getD t undef)).run P w = .ok q w := by rw [hg]; rfl
    simp only [List.mapM_cons, Sem.run_bind, Sem.run_pure, Result.andThen_ok, hvs, hA, hl]

theorem results_sound {B : Nat} {σ : St} {κ : Kap} {w : World} {env : Env} {a : Act} (hI : Inv B σ κ w) (he : REnv σ κ w env a) {fn : Func} {ds : List DVal} (h : resD P σ env fn.results.toList = some ds) :
    ∃ v, (results fn a.tmps).run P w = .ok v w ∧ Rep1 σ κ w (tupD ds) v := by
  obtain ⟨vs, hvs, hr⟩ := resD_sound hI he h
  have hm : (fn.results.mapM fun | .tmp t => pure (a.tmps.getD t undef) | .cell x t => do loadVar t (← asAddr (a.tmps.getD x undef)) : Sem (Array Value)).run P w = .ok vs.toArray w := by
    rw [Array.mapM_eq_mapM_toList, ← bind_pure_comp, Sem.run_bind, hvs]; rfl
  refine ⟨if h : vs.toArray.size = 1 then vs.toArray[0] else .tuple vs.toArray, ?_, ?_⟩
  · have e : results fn a.tmps = (do let vs ← (fn.results.mapM fun | .tmp t => pure (a.tmps.getD t undef) | .cell x t => do loadVar t (← asAddr (a.tmps.getD x undef)) : Sem (Array Value)); pure (if h : vs.size = 1 then vs[0] else .tuple vs)) := rfl
    rw [e, Sem.run_bind, hm]; rfl
  · have hl := hr.length
    match ds, vs, hl, hr with
    | [], [], _, hr => exact .tup (us := []) hr .nil
    | [d], [v], _, hr => exact hr
    | d :: d' :: ds, v :: v' :: vs, _, hr => 
      have : ¬ ((v :: v' :: vs).toArray.size = 1) := by simp
      rw [dif_neg this]
      exact .tup (us := v :: v' :: vs) hr .nil

theorem get_append : ∀ (e1 e2 : Env) (t : Nat), Env.get (e1 ++ e2) t = match Env.get e1 t with | some d => some d | none => Env.get e2 t
  | [], e2, t => rfl
  | (k, d) :: e1, e2, t => by
    simp only [List.cons_append, Env.get]
    cases Nat.beq k t with
    | true => rfl
    | false => exact get_append e1 e2 t
theorem get_zip : ∀ (ds : List DVal) (s t : Nat) (d : DVal), Env.get ((ds.zipIdx s).map fun p => (p.2, p.1)) t = some d → s ≤ t ∧ ds[t - s]? = some d
  | [], s, t, d, h => by simp [Env.get] at h
  | x :: ds, s, t, d, h => by
    simp only [List.zipIdx_cons, List.map_cons, Env.get] at h
    cases hb : Nat.beq s t with
    | true =>
      simp only [hb, cond_true, Option.some.injEq] at h
      have := Nat.eq_of_beq_eq_true hb; subst this; subst h; simp
    | false =>
      simp only [hb, cond_false] at h
      obtain ⟨h1, h2⟩ := get_zip ds (s + 1) t d h
      refine ⟨by omega, ?_⟩
      have : t - s = (t - (s + 1)) + 1 := by omega
      rw [this]; simpa using h2
theorem get_range : ∀ (m s t : Nat) (d : DVal), Env.get ((List.range' s m).map fun i => (i, DVal.tup [])) t = some d → s ≤ t ∧ t < s + m ∧ d = .tup []
  | 0, s, t, d, h => by simp [Env.get] at h
  | m + 1, s, t, d, h => by
    simp only [List.range'_succ, List.map_cons, Env.get] at h
    cases hb : Nat.beq s t with
    | true =>
      simp only [hb, cond_true, Option.some.injEq] at h
      have := Nat.eq_of_beq_eq_true hb; exact ⟨by omega, by omega, h.symm⟩
    | false =>
      simp only [hb, cond_false] at h
      obtain ⟨h1, h2, h3⟩ := get_range m (s + 1) t d h
      exact ⟨by omega, by omega, h3⟩

/-- A function's contract, by its body. -/
theorem DCalls_of {f : FuncId} {fn : Func} {c : Code} {ds : List DVal} {σ : St} {R : Res → St → Prop} (hf : P.funcs[f]? = some fn) (hb : fn.body = some c) (hl : ds.length ≤ fn.ntmps)
    (h : W P fn.ntmps c (mkEnv fn.ntmps ds) σ (bodyQ P fn R)) : DCalls P f ds σ R := by
  intro B κ w args hI hd
  have hal := hd.length
  refine calls_of_wp hf hb (wp_mono (h B κ w _ hI ?_ ?_ rfl) ?_)
  · intro t d hget
    have hsz : args.toArray.size = args.length := by simp
    unfold mkEnv at hget
    rw [get_append] at hget
    split at hget
    · rename_i d' hd'
      cases hget
      obtain ⟨_, h2⟩ := get_zip ds 0 t d hd'
      obtain ⟨v, hv, hr⟩ := hd.get h2
      have : t < args.length := (List.getElem?_eq_some_iff.1 hv).1
      exact ⟨v, by rw [Array.getElem?_append_left (by simpa using this)]; simpa using hv, hr⟩
    · obtain ⟨h1, h2, rfl⟩ := get_range _ _ t d hget
      refine ⟨undef, ?_, .tup (us := []) .nil .nil⟩
      rw [Array.getElem?_append_right (by simp; omega)]
      simp only [List.size_toArray]
      rw [Array.getElem?_replicate, if_pos (by omega)]
  · simp; omega
  · rintro e a' w' ⟨o, env', σ', κ', hq, hm, hI', hE, he', hn', hd'⟩
    cases o with
    | norm =>
      cases e <;> simp only [matchE] at hm
      obtain ⟨rs, hrs, hR⟩ := hq
      obtain ⟨v, hv, hr⟩ := results_sound hI' he' hrs
      exact ⟨hd', v, hv, .ret (tupD rs), σ', κ', hR, hI', hE, hr⟩
    | ret =>
      cases e <;> simp only [matchE] at hm
      obtain ⟨rs, hrs, hR⟩ := hq
      obtain ⟨v, hv, hr⟩ := results_sound hI' he' hrs
      exact ⟨hd', v, hv, .ret (tupD rs), σ', κ', hR, hI', hE, hr⟩
    | pan d =>
      cases e <;> simp only [matchE] at hm
      exact ⟨hd', .pan d, σ', κ', hq, hI', hE, hm⟩
    | exit i => exact hq.elim
end
end Go.DL
