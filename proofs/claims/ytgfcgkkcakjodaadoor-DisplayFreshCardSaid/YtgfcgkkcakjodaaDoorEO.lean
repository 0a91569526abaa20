/-
  D-LOGIC, part O: regions that draw the order of their operations.
-/
import Derived.Test.YtgfcgkkcakjodaaDoorEN
set_option linter.unusedVariables false
set_option linter.unusedSimpArgs false
namespace Go.DL
open Go.RowKit

/-! ### What an operation looks at -/
theorem evalX_congr {e1 e2 : Env} {x : Operand} (h : ∀ t, x = .tmp t → e1.get t = e2.get t) : evalX e1 x = evalX e2 x := by
  cases x with
  | tmp t => exact h t rfl
  | _ => rfl
theorem evalXs_congr {e1 e2 : Env} : ∀ {xs : List Operand}, (∀ x ∈ xs, evalX e1 x = evalX e2 x) → evalXs e1 xs = evalXs e2 xs
  | [], _ => rfl
  | x :: r, h => by
    simp only [evalXs]
    rw [h x (List.mem_cons_self ..), evalXs_congr fun y hy => h y (List.mem_cons_of_mem _ hy)]
theorem evalOpt_congr {e1 e2 : Env} {x : Option Operand} (h : ∀ y, x = some y → evalX e1 y = evalX e2 y) : evalOpt e1 x = evalOpt e2 x := by
  cases x with
  | none => rfl
  | some y => simp only [evalOpt, h y rfl]
theorem evalPlain_congr {P : Program} {o : Oper} {e1 e2 : Env} (h : ∀ x ∈ o.op.operands, evalX e1 x = evalX e2 x) : evalPlain P o e1 = evalPlain P o e2 := by
  have hp : ∀ x ∈ o.op.operands, plainX e1 x = plainX e2 x := fun x hx => by simp only [plainX, h x hx]
  have h1 : o.op.operands.toList.all (fun x => (plainX e1 x).isSome) = o.op.operands.toList.all (fun x => (plainX e2 x).isSome) := by
    rw [Bool.eq_iff_iff]
    simp only [List.all_eq_true]
    exact ⟨fun k x hx => by rw [← hp x (by simpa using hx)]; exact k x hx, fun k x hx => by rw [hp x (by simpa using hx)]; exact k x hx⟩
  unfold evalPlain
  rw [h1]
  cases hs : isSelect o.op with
  | true => simp
  | false =>
    have hsel : ∀ cs b, o.op ≠ .select cs b := fun cs b e => by rw [e] at hs; simp [isSelect] at hs
    rw [execOp_congr o hsel (ρ := fun x => (plainX e1 x).getD undef) (ρ' := fun x => (plainX e2 x).getD undef) fun x hx => by simp only [hp x hx]]

theorem evalOp_congr {P : Program} {o : Oper} {e1 e2 : Env} {σ : St} (h : ∀ x ∈ o.op.operands, evalX e1 x = evalX e2 x) : evalOp P o e1 σ = evalOp P o e2 σ := by
  have hp := evalPlain_congr (P := P) h
  unfold evalOp
  rw [hp]
  split
  all_goals rename_i heq
  all_goals try rfl
  all_goals rw [heq] at h
  all_goals simp only [Op.operands] at h
  all_goals try (simp only [Array.mem_def, List.mem_cons, List.not_mem_nil, or_false, forall_eq_or_imp, forall_eq] at h; simp only [h]; done)
  case h_6 => rw [evalXs_congr fun x hx => h x (by simpa using hx)]
  case h_7 => rw [evalXs_congr fun x hx => h x (by simpa using hx)]
  case h_14 => rw [evalXs_congr fun x hx => h x (by simp only [Array.mem_append]; exact .inr (by simpa using hx))]
  case h_16 =>
    rw [h _ (by simp), evalOpt_congr fun y hy => h y (by subst hy; simp), evalOpt_congr fun y hy => h y (by subst hy; simp), evalOpt_congr fun y hy => h y (by subst hy; simp)]
  case h_25 =>
    simp only [Call.operands] at h
    split
    · rename_i ha hb
      rw [h _ (by simp [Array.mem_def, ha])]
    · rfl
  case h_26 =>
    simp only [Call.operands] at h
    split
    · rename_i ha hb
      rw [h _ (by simp [Array.mem_def, ha]), h _ (by simp [Array.mem_def, ha])]
    · rfl
  case h_27 =>
    simp only [Call.operands] at h
    split
    · rename_i ha
      rw [h _ (by simp [Array.mem_def, ha]), h _ (by simp [Array.mem_def, ha])]
    · rfl
theorem callD_congr {P : Program} {o : Oper} {e1 e2 : Env} (h : ∀ x ∈ o.op.operands, evalX e1 x = evalX e2 x) : callD P o e1 = callD P o e2 := by
  unfold callD
  split
  · rename_i heq
    rw [heq] at h
    simp only [Op.operands, Call.operands] at h
    rw [h _ (by simp), evalXs_congr fun x hx => h x (by simp only [Array.mem_append]; exact .inr (by simpa using hx))]
  · rfl
theorem wantD_congr {ops : Array Oper} {o : Oper} {e1 e2 : Env} (h : ∀ j b t, o.guard = some (j, b) → (ops[j]?).bind (·.dst) = some t → e1.get t = e2.get t) : wantD ops o e1 = wantD ops o e2 := by
  unfold wantD
  split
  · rfl
  · rename_i j want hg
    cases ht : (ops[j]?).bind (·.dst) with
    | none => rfl
    | some t => simp only [Option.bind_some]; rw [h j want t hg ht]

/-! ### One operation -/
def DOp (P : Program) (o : Oper) (env : Env) (σ : St) (K : DVal → St → Prop) (Qp : DVal → St → Prop) : Prop :=
  match callD P o env with
  | some (f, ds) => DCalls P f ds σ fun r σ' => match r with
    | .ret d => K d σ'
    | .pan d => Qp d σ'
  | none => match yieldD o env with
    | some (i, ds) => DYield P i ds σ fun b σ' => K (.f (.lit (.bool b))) σ'
    | none => match evalOp P o env σ with
      | some (d, σ') => K d σ'
      | none => False
theorem yieldD_congr {o : Oper} {e1 e2 : Env} (h : ∀ x ∈ o.op.operands, evalX e1 x = evalX e2 x) : yieldD o e1 = yieldD o e2 := by
  unfold yieldD
  split
  · rename_i heq
    rw [heq] at h
    simp only [Op.operands, Call.operands] at h
    rw [h _ (by simp), evalXs_congr fun x hx => h x (by simp only [Array.mem_append]; exact .inr (by simpa using hx))]
  · rfl
theorem DOp_congr {P : Program} {o : Oper} {e1 e2 : Env} {σ : St} {K : DVal → St → Prop} {Qp : DVal → St → Prop} (h : ∀ x ∈ o.op.operands, evalX e1 x = evalX e2 x) (hd : DOp P o e1 σ K Qp) : DOp P o e2 σ K Qp := by
  unfold DOp at *
  rw [callD_congr h, yieldD_congr h, evalOp_congr h] at hd
  exact hd

theorem DOp_sound {P : Program} {ro : Option Nat} {B : Nat} {σ : St} {κ : Kap} {w : World} {o : Oper} {env : Env} {a : Act} {K : DVal → St → Prop} {Qp : DVal → St → Prop} {KK : Act → World → Prop} {QQ : Exit → Act → World → Prop} (hI : Inv B σ κ w) (he : REnv σ κ w env a) (h : DOp P o env σ K Qp)
    (hK : ∀ d σ' κ' w' v, K d σ' → Inv B σ' κ' w' → Ext B σ κ w σ' κ' w' → Rep1 σ' κ' w' d v → KK (a.put o.dst v) w')
    (hP : ∀ d σ' κ' w' v, Qp d σ' → Inv B σ' κ' w' → Ext B σ κ w σ' κ' w' → Rep1 σ' κ' w' d v → QQ (.panic [{ v, recovered := false }]) a w') : o.wpIn (fen ro) 0 P a w KK QQ := by
  unfold DOp at h
  split at h
  · rename_i f ds hc
    have hnd := notDefer_call hc
    unfold callD at hc
    split at hc
    · rename_i g as ts heq
      simp only [Option.bind_eq_some_iff] at hc
      obtain ⟨dg, hdg, hc⟩ := hc
      split at hc
      · rename_i gf caps
        simp only [Option.bind_eq_some_iff] at hc
        obtain ⟨das, hdas, hc⟩ := hc
        cases hb : bodyOk P gf with
        | false => simp [hb] at hc
        | true =>
          simp only [hb, cond_true, Option.some.injEq, Prod.mk.injEq] at hc
          obtain ⟨rfl, rfl⟩ := hc
          have hgv := evalX_sound he hdg
          obtain ⟨cv, hcv, hcr⟩ : ∃ cv : List Value, a.eval g = .func (.func gf) #[] cv.toArray ∧ RepD σ κ w caps cv := by
            generalize a.eval g = v at hgv
            cases hgv with
            | fn r _ => exact ⟨_, rfl, r⟩
          have hargs := (evalXs_sound he hdas).append hcr
          have hcall := h B κ w _ hI hargs
          refine ⟨fun _ _ => trivial, ?_⟩
          rw [semAt_fen hnd]
          have hrun : (execOp a.eval o).run P w = .ok (.enter gf (as.toList.map a.eval ++ cv).toArray) w := by
            have : as.map a.eval ++ cv.toArray = (as.toList.map a.eval ++ cv).toArray := by apply Array.ext'; simp
            simp only [execOp, heq, resolve, hcv, Deferred.ofValue, Sem.run_bind, Sem.run_pure, Result.andThen_ok, invoke, Array.empty_append, this, run_callFunc hb]
          rw [hrun]
          refine ⟨fen_depth, CallsIn.mono (callsIn_fen hcall) fun e w' ⟨r, σ', κ', hr, hI', hE, hm⟩ => ?_⟩
          cases r with
          | ret d =>
            cases e with
            | returned v => exact hK d σ' κ' w' v hr hI' hE hm
            | _ => exact hm.elim
          | pan d =>
            cases e with
            | panicked chain =>
              obtain ⟨v, rfl, hv⟩ := hm
              exact hP d σ' κ' w' v hr hI' hE hv
            | _ => exact hm.elim
      · cases hc
    · cases hc
  · split at h
    · rename_i i ds hy
      exact yield_sound hI he hy h fun b σ' κ' w' hk hI' hE => hK _ σ' κ' w' (.bool b) hk hI' hE (.f (.mk_lit rfl) .nil)
    · split at h
      · rename_i d σ' hev
        have hnd := notDefer_op hev
        obtain ⟨v, w', κ', hrun, hI', hE, hr⟩ := evalOp_sound hI he hev
        have := hK d σ' κ' w' v h hI' hE hr
        refine ⟨fun _ _ => trivial, ?_⟩
        rw [semAt_fen hnd]
        rcases hrun with hrun | ⟨hrun, rfl⟩
        · rw [hrun]; exact this
        · rw [hrun]; exact this
      · exact h.elim

/-! ### The plan of a region -/
def Env.only (L : List Nat) : Env → Env
  | [] => []
  | (k, d) :: r => bif L.contains k then (k, d) :: Env.only L r else Env.only L r
theorem get_only {L : List Nat} {t : Nat} (ht : t ∈ L) : ∀ env : Env, (Env.only L env).get t = env.get t
  | [] => rfl
  | (k, d) :: r => by
    simp only [Env.only]
    cases hb : Nat.beq k t with
    | true =>
      have := Nat.eq_of_beq_eq_true hb; subst this
      have : L.contains k = true := by simpa using ht
      simp only [this, cond_true, Env.get, hb]
    | false =>
      cases hc : L.contains k with
      | true => simp only [cond_true, Env.get, hb, cond_false]; exact get_only ht r
      | false => simp only [cond_false, Env.get, hb]; exact get_only ht r
theorem get_only' {L : List Nat} {t : Nat} {d : DVal} : ∀ {env : Env}, (Env.only L env).get t = some d → t ∈ L ∧ env.get t = some d
  | [], h => by cases h
  | (k, x) :: r, h => by
    have key : t ∈ L := by
      by_cases ht : t ∈ L
      · exact ht
      · exfalso
        have none : ∀ e : Env, (Env.only L e).get t = none := by
          intro e
          induction e with
          | nil => rfl
          | cons p e ih =>
            obtain ⟨k, x⟩ := p
            simp only [Env.only]
            cases hc : L.contains k with
            | false => exact ih
            | true =>
              simp only [cond_true, Env.get]
              cases hb : Nat.beq k t with
              | true => exact absurd (by have := Nat.eq_of_beq_eq_true hb; subst this; simpa using hc) ht
              | false => exact ih
        rw [none] at h; cases h
    exact ⟨key, by rw [← get_only key]; exact h⟩

/-- What is ahead of each operation, which operations are effects, and which of the others are new, and which are looked at again, at each stage. -/
structure RPlan where
  tb : List Nat
  effs : List Nat
  stages : List (List Nat × List Nat)

def bitsOf (tb : List Nat) (o : Oper) : Nat := o.after.toList.foldl (fun s e => bif Region.binds .any e then s ||| (2 ^ e.on ||| tb.getD e.on 0) else s) 0
def tbOk (ops : Array Oper) (tb : List Nat) : Bool := (List.range ops.size).all fun i => match ops[i]? with
  | some o => o.after.toList.all (fun e => !Region.binds .any e || Nat.blt e.on i) && Nat.beq (tb.getD i 0) (bitsOf tb o)
  | none => true
def chainOk (tb : List Nat) : List Nat → Bool
  | [] => true
  | e :: r => r.all (fun e' => (tb.getD e' 0).testBit e) && chainOk tb r
def floatOk (ops : Array Oper) (p : RPlan) (j : Nat) : Bool := p.effs.contains j || match ops[j]? with
  | some oj => (match oj.dst with
    | some t => (List.range ops.size).all fun i => match ops[i]? with
      | some o => (Nat.beq i j || !(o.dst == some t)) && (!(o.looksAt ops).contains t || (Nat.blt j i && (p.tb.getD i 0).testBit j))
      | none => true
    | none => true)
  | none => true
def mayAt (tb : List Nat) (done pend : List Nat) (i : Nat) : Bool := pend.all (fun e => !(tb.getD i 0).testBit e) && done.all (fun e => !(tb.getD e 0).testBit i)
def newsOk (p : RPlan) (last : Option Nat) : List Nat → Bool
  | [] => true
  | i :: r => !p.effs.contains i && (match last with | some e => (p.tb.getD i 0).testBit e | none => true) && r.all (fun j => Nat.blt i j) && newsOk p last r
def stagesOk (ops : Array Oper) (p : RPlan) : List (List Nat × List Nat) → List Nat → List Nat → Option Nat → Bool
  | [], _, _, _ => false
  | (news, olds) :: rest, done, pend, last =>
    newsOk p last news && ((List.range ops.size).all fun i => p.effs.contains i || !mayAt p.tb done pend i || news.contains i || olds.contains i) &&
    match pend with
    | [] => true
    | e :: es => stagesOk ops p rest (done ++ [e]) es (some e)
def planOk (n : Nat) (ops : Array Oper) (p : RPlan) : Bool :=
  tbOk ops p.tb && chainOk p.tb p.effs && (List.range ops.size).all (floatOk ops p) && dstsOk n ops.toList && stagesOk ops p p.stages [] p.effs none

def DNews (P : Program) (ops : Array Oper) : List Nat → Env → St → (Env → Prop) → Prop
  | [], env, σ, K => K env
  | i :: r, env, σ, K => match ops[i]? with
    | none => False
    | some o => match wantD ops o env with
      | some true => match evalOp P o env σ with
        | some (d, σ') => σ' = σ ∧ DNews P ops r (env.put o.dst d) σ K
        | none => False
      | some false => DNews P ops r (env.put o.dst (.tup [])) σ K
      | none => False
def getO (env : Env) : Option Nat → DVal → Prop
  | some t, d => env.get t = some d
  | none, _ => True
def Agree (P : Program) (ops : Array Oper) (env : Env) (σ : St) (i : Nat) : Prop := match ops[i]? with
  | none => False
  | some o => match wantD ops o env with
    | some true => match evalOp P o env σ with
      | some (d, σ') => σ' = σ ∧ getO env o.dst d
      | none => False
    | some false => getO env o.dst (.tup [])
    | none => False
def DOlds (P : Program) (ops : Array Oper) : List Nat → Env → St → Prop
  | [], _, _ => True
  | i :: r, env, σ => Agree P ops env σ i ∧ DOlds P ops r env σ
def DPlan (P : Program) (ops : Array Oper) (Q : Out → Env → St → Prop) : List (List Nat × List Nat) → List Nat → Env → St → Prop
  | [], _, _, _ => False
  | (news, olds) :: rest, effs, env, σ => DNews P ops news env σ fun env' => DOlds P ops olds env' σ ∧ match effs with
    | [] => Q .norm env' σ
    | e :: es => match ops[e]? with
      | none => False
      | some o => match wantD ops o env' with
        | some true => DOp P o env' σ (fun d σ' => DPlan P ops Q rest es (env'.put o.dst d) σ') fun d σ' => Q (.pan d) [] σ'
        | some false => DPlan P ops Q rest es (env'.put o.dst (.tup [])) σ
        | none => False

/-! ### That a plan stands for every order -/
def Lst (listed : Array Bool) (i : Nat) : Prop := listed.getD i false = true
def Closed (ops : Array Oper) (listed : Array Bool) : Prop := ∀ i o, ops[i]? = some o → Lst listed i → ∀ e ∈ o.after, Region.binds .any e = true → Lst listed e.on

theorem foldl_bit (tb : List Nat) (j : Nat) : ∀ (l : List Edge) (s : Nat), (l.foldl (fun s e => bif Region.binds .any e then s ||| (2 ^ e.on ||| tb.getD e.on 0) else s) s).testBit j = true →
    s.testBit j = true ∨ ∃ e ∈ l, Region.binds .any e = true ∧ (e.on = j ∨ (tb.getD e.on 0).testBit j = true)
  | [], s, h => .inl h
  | e :: l, s, h => by
    simp only [List.foldl_cons] at h
    rcases foldl_bit tb j l _ h with h1 | ⟨e', he', h1⟩
    · cases hb : Region.binds .any e with
      | false => simp only [hb, cond_false] at h1; exact .inl h1
      | true =>
        simp only [hb, cond_true, Nat.testBit_or, Bool.or_eq_true, Nat.testBit_two_pow, decide_eq_true_eq] at h1
        rcases h1 with h1 | h1 | h1
        · exact .inl h1
        · exact .inr ⟨e, List.mem_cons_self .., hb, .inl h1⟩
        · exact .inr ⟨e, List.mem_cons_self .., hb, .inr h1⟩
    · exact .inr ⟨e', List.mem_cons_of_mem _ he', h1⟩

theorem tb_at {ops : Array Oper} {tb : List Nat} (h : tbOk ops tb = true) {i : Nat} {o : Oper} (ho : ops[i]? = some o) {j : Nat} (hj : (tb.getD i 0).testBit j = true) :
    ∃ e ∈ o.after, Region.binds .any e = true ∧ e.on < i ∧ (e.on = j ∨ (tb.getD e.on 0).testBit j = true) := by
  unfold tbOk at h
  rw [List.all_eq_true] at h
  have h1 := h i (List.mem_range.2 (Array.getElem?_eq_some_iff.1 ho).1)
  simp only [ho, Bool.and_eq_true, List.all_eq_true, Bool.or_eq_true, Bool.not_eq_true'] at h1
  obtain ⟨h1, h2⟩ := h1
  have := Nat.eq_of_beq_eq_true h2
  rw [this] at hj
  rcases foldl_bit tb j _ _ hj with h3 | ⟨e, he, hb, h3⟩
  · simp at h3
  · refine ⟨e, by simpa using he, hb, ?_, h3⟩
    rcases h1 e he with h4 | h4
    · rw [hb] at h4; cases h4
    · exact Nat.le_of_ble_eq_true h4

theorem tb_closed {ops : Array Oper} {tb : List Nat} (h : tbOk ops tb = true) {listed : Array Bool} (hs : listed.size = ops.size) (hc : Closed ops listed) (i : Nat) : ∀ j, Lst listed i → (tb.getD i 0).testBit j = true → Lst listed j := by
  induction i using Nat.strongRecOn with
  | _ i ih =>
    intro j hl hj
    have hi : i < ops.size := by
      rcases Nat.lt_or_ge i listed.size with h' | h'
      · omega
      · simp [Lst, Array.getElem?_eq_none h'] at hl
    obtain ⟨o, ho⟩ : ∃ o, ops[i]? = some o := ⟨_, Array.getElem?_eq_getElem hi⟩
    obtain ⟨e, he, hb, hlt, h3⟩ := tb_at h ho hj
    have hle := hc i o ho hl e he hb
    rcases h3 with rfl | h3
    · exact hle
    · exact ih e.on hlt j hle h3

theorem tb_ready {ops : Array Oper} {tb : List Nat} (h : tbOk ops tb = true) {listed : Array Bool} (hs : listed.size = ops.size) (hc : Closed ops listed) {i : Nat} (hr : i ∈ Region.ready .any ops listed) {j : Nat} (hj : (tb.getD i 0).testBit j = true) : Lst listed j := by
  obtain ⟨h0, o, ho, hall⟩ := mem_ready.1 hr
  obtain ⟨e, he, hb, _, h3⟩ := tb_at h ho hj
  have := hall e he hb
  rcases h3 with rfl | h3
  · exact this
  · exact tb_closed h hs hc e.on j this h3

theorem Lst_set {listed : Array Bool} {i j : Nat} (hi : i < listed.size) : Lst (listed.setIfInBounds i true) j ↔ j = i ∨ Lst listed j := by
  unfold Lst
  by_cases hij : i = j
  · subst hij; simp [hi]
  · rw [getD_set_ne false hij]
    exact ⟨.inr, fun h => h.resolve_left (Ne.symm hij)⟩

theorem ready_facts {ops : Array Oper} {listed : Array Bool} (hs : listed.size = ops.size) (hc : Closed ops listed) {i : Nat} (hr : i ∈ Region.ready .any ops listed) :
    i < ops.size ∧ ¬ Lst listed i ∧ Closed ops (listed.setIfInBounds i true) := by
  obtain ⟨h0, o, ho, hall⟩ := mem_ready.1 hr
  have hi : i < ops.size := (Array.getElem?_eq_some_iff.1 ho).1
  refine ⟨hi, ?_, ?_⟩
  · intro hl
    unfold Lst at hl
    rw [← hs] at hi
    simp [Array.getElem?_eq_getElem hi] at h0 hl
    rw [h0] at hl; cases hl
  · intro k ok hk hl e he hb
    rw [Lst_set (by omega)] at hl ⊢
    rcases hl with rfl | hl
    · rw [ho] at hk; cases hk
      exact .inr (hall e he hb)
    · exact .inr (hc k ok hk hl e he hb)

/-- How many are left. -/
def left (ops : Array Oper) (listed : Array Bool) : Nat := (List.range ops.size).countP fun i => !listed.getD i false
theorem countP_lt {p q : Nat → Bool} : ∀ {l : List Nat} {i : Nat}, (∀ j, q j = true → p j = true) → i ∈ l → p i = true → q i = false → l.countP q < l.countP p
  | x :: l, i, h, hm, hp, hq => by
    have le : ∀ l : List Nat, l.countP q ≤ l.countP p := fun l => List.countP_mono_left fun j _ => h j
    rw [List.countP_cons, List.countP_cons]
    rcases List.mem_cons.1 hm with rfl | hm
    · have := le l
      simp only [hp, hq]
      simp; omega
    · have := countP_lt h hm hp hq
      have hx : (if q x = true then 1 else 0) ≤ (if p x = true then 1 else 0) := by
        cases hqx : q x with
        | false => simp
        | true => simp [h x hqx]
      omega
theorem left_lt {ops : Array Oper} {listed : Array Bool} {i : Nat} (hs : listed.size = ops.size) (hi : i < ops.size) (hn : ¬ Lst listed i) : left ops (listed.setIfInBounds i true) < left ops listed := by
  refine countP_lt (i := i) (fun j hj => ?_) (List.mem_range.2 hi) ?_ ?_
  · have : ¬ Lst (listed.setIfInBounds i true) j := by unfold Lst; cases hx : (listed.setIfInBounds i true).getD j false <;> simp_all
    rw [Lst_set (by omega)] at this
    have h2 : ¬ Lst listed j := fun h => this (.inr h)
    unfold Lst at h2; cases hx : listed.getD j false <;> simp_all
  · unfold Lst at hn; cases hx : listed.getD i false <;> simp_all
  · have : Lst (listed.setIfInBounds i true) i := (Lst_set (by omega)).2 (.inl rfl)
    unfold Lst at this; simp only [this]; rfl
theorem left_zero {ops : Array Oper} {listed : Array Bool} (h : left ops listed = 0) {i : Nat} (hi : i < ops.size) : Lst listed i := by
  unfold left at h
  rw [List.countP_eq_zero] at h
  have := h i (List.mem_range.2 hi)
  unfold Lst; cases hx : listed.getD i false <;> simp_all

theorem all_of_none_ready {ops : Array Oper} {tb : List Nat} (h : tbOk ops tb = true) {listed : Array Bool} (hs : listed.size = ops.size) (hr : Region.ready .any ops listed = []) (i : Nat) : i < ops.size → Lst listed i := by
  induction i using Nat.strongRecOn with
  | _ i ih =>
    intro hi
    by_cases hl : Lst listed i
    · exact hl
    exfalso
    have : i ∈ Region.ready .any ops listed := by
      rw [mem_ready]
      refine ⟨?_, ops[i], Array.getElem?_eq_getElem hi, fun e he hb => ?_⟩
      · unfold Lst at hl
        simp only [Array.getD_eq_getD_getElem?, Array.getElem?_eq_getElem (show i < listed.size by omega), Option.getD_some] at hl ⊢
        simpa using hl
      · unfold tbOk at h
        rw [List.all_eq_true] at h
        have h1 := h i (List.mem_range.2 hi)
        simp only [Array.getElem?_eq_getElem hi, Bool.and_eq_true, List.all_eq_true, Bool.or_eq_true, Bool.not_eq_true'] at h1
        have := h1.1 e (by simpa using he)
        rcases this with h4 | h4
        · rw [hb] at h4; cases h4
        · have hlt : e.on < i := Nat.le_of_ble_eq_true h4
          exact ih e.on hlt (by omega)
    rw [hr] at this; cases this

theorem chain_head {tb : List Nat} {e : Nat} {es : List Nat} (h : chainOk tb (e :: es) = true) : (∀ e' ∈ es, (tb.getD e' 0).testBit e = true) ∧ chainOk tb es = true := by
  simp only [chainOk, Bool.and_eq_true, List.all_eq_true] at h
  exact ⟨fun e' he' => h.1 e' he', h.2⟩

theorem float_ok {ops : Array Oper} {p : RPlan} (h : (List.range ops.size).all (floatOk ops p) = true) {j : Nat} {oj : Oper} {t : Nat} (hj : ops[j]? = some oj) (hf : j ∉ p.effs) (ht : oj.dst = some t) {i : Nat} {o : Oper} (hi : ops[i]? = some o) :
    (i ≠ j → o.dst ≠ some t) ∧ (t ∈ o.looksAt ops → j < i ∧ (p.tb.getD i 0).testBit j = true) := by
  rw [List.all_eq_true] at h
  have h1 := h j (List.mem_range.2 (Array.getElem?_eq_some_iff.1 hj).1)
  unfold floatOk at h1
  simp only [hj, ht, Bool.or_eq_true, List.all_eq_true, List.contains_eq_mem, decide_eq_true_eq] at h1
  rcases h1 with h1 | h1
  · exact absurd h1 hf
  · have h2 := h1 i (List.mem_range.2 (Array.getElem?_eq_some_iff.1 hi).1)
    simp only [hi, Bool.and_eq_true, Bool.or_eq_true, Bool.not_eq_true', decide_eq_true_eq, beq_eq_false_iff_ne, ne_eq, decide_eq_false_iff_not] at h2
    refine ⟨fun hne => ?_, fun hm => ?_⟩
    · rcases h2.1 with h3 | h3
      · exact absurd (Nat.eq_of_beq_eq_true h3) hne
      · exact h3
    · rcases h2.2 with h3 | h3
      · exact absurd hm h3
      · exact ⟨Nat.le_of_ble_eq_true h3.1, h3.2⟩

theorem looks_operand {ops : Array Oper} {o : Oper} {t : Tmp} (h : Operand.tmp t ∈ o.op.operands) : t ∈ o.looksAt ops :=
  List.mem_append_left _ (List.mem_filterMap.2 ⟨.tmp t, by simpa using h, rfl⟩)
theorem looks_guard {ops : Array Oper} {o : Oper} {j : Nat} {b : Bool} {t : Tmp} (hg : o.guard = some (j, b)) (ht : (ops[j]?).bind (·.dst) = some t) : t ∈ o.looksAt ops := by
  refine List.mem_append_right _ ?_
  simp only [hg, ht]; simp
theorem looks_congr {P : Program} {ops : Array Oper} {o : Oper} {e1 e2 : Env} (h : ∀ t ∈ o.looksAt ops, e1.get t = e2.get t) :
    (∀ x ∈ o.op.operands, evalX e1 x = evalX e2 x) ∧ wantD ops o e1 = wantD ops o e2 :=
  ⟨fun x hx => evalX_congr fun t ht => h t (looks_operand (ht ▸ hx)), wantD_congr fun j b t hg ht => h t (looks_guard hg ht)⟩

theorem Agree_congr {P : Program} {ops : Array Oper} {e1 e2 : Env} {σ : St} {i : Nat} {o : Oper} (ho : ops[i]? = some o) (h : ∀ t ∈ o.looksAt ops, e1.get t = e2.get t) (hd : ∀ t, o.dst = some t → e1.get t = e2.get t) (ha : Agree P ops e1 σ i) : Agree P ops e2 σ i := by
  unfold Agree at *
  simp only [ho] at ha ⊢
  obtain ⟨h1, h2⟩ := looks_congr (P := P) h
  rw [h2, evalOp_congr h1] at ha
  have hg : ∀ d, getO e1 o.dst d → getO e2 o.dst d := fun d => by
    cases hdst : o.dst with
    | none => exact fun h => h
    | some t => simp only [getO]; rw [hd t hdst]; exact fun h => h
  split
  · rename_i heq
    simp only [heq] at ha
    split
    · rename_i heq2
      simp only [heq2] at ha
      exact ⟨ha.1, hg _ ha.2⟩
    · rename_i heq2; simp only [heq2] at ha
  · rename_i heq; simp only [heq] at ha; exact hg _ ha
  · rename_i heq; simp only [heq] at ha

theorem get_put_ne {env : Env} {dst : Option Nat} {d : DVal} {t : Nat} (h : dst ≠ some t) : (env.put dst d).get t = env.get t := by
  cases dst with
  | none => rfl
  | some s =>
    rw [put_some, get_cons, if_neg (fun e => h (by rw [e]))]

/-- The new values of a stage. -/
theorem news_run {P : Program} {ops : Array Oper} {p : RPlan} {last : Option Nat} (hfl : (List.range ops.size).all (floatOk ops p) = true) {σ : St} {K : Env → Prop} : ∀ {news : List Nat} {env : Env}, newsOk p last news = true → DNews P ops news env σ K →
    ∃ env', K env' ∧ (∀ i ∈ news, i < ops.size ∧ Agree P ops env' σ i) ∧ ∀ t, (∀ i ∈ news, ∀ o, ops[i]? = some o → o.dst ≠ some t) → env'.get t = env.get t
  | [], env, _, h => ⟨env, h, by simp, fun _ _ => rfl⟩
  | i :: r, env, hn, h => by
    simp only [newsOk, Bool.and_eq_true, List.all_eq_true, Bool.not_eq_true', List.contains_eq_mem, decide_eq_false_iff_not] at hn
    obtain ⟨⟨⟨hni, _⟩, hlt⟩, hr⟩ := hn
    unfold DNews at h
    cases ho : ops[i]? with
    | none => simp only [ho] at h
    | some o =>
      simp only [ho] at h
      have key : ∀ d, DNews P ops r (env.put o.dst d) σ K → (∀ env', (∀ t ∈ o.looksAt ops, env'.get t = env.get t) → getO env' o.dst d → Agree P ops env' σ i) →
          ∃ env', K env' ∧ (∀ k ∈ i :: r, k < ops.size ∧ Agree P ops env' σ k) ∧ ∀ t, (∀ k ∈ i :: r, ∀ o, ops[k]? = some o → o.dst ≠ some t) → env'.get t = env.get t := by
        intro d h hag
        obtain ⟨env', hK, hA, hG⟩ := news_run hfl hr h
        refine ⟨env', hK, fun k hk => ?_, fun t ht => ?_⟩
        · rcases List.mem_cons.1 hk with rfl | hk
          · refine ⟨(Array.getElem?_eq_some_iff.1 ho).1, hag env' (fun t ht => ?_) ?_⟩
            · rw [hG t fun k hk ok hok hd => ?_]
              · refine get_put_ne fun hd => ?_
                have := (float_ok hfl ho hni hd ho).2 ht
                omega
              · have hkl : k < ops.size := (Array.getElem?_eq_some_iff.1 hok).1
                have hkf : k ∉ p.effs := by
                  clear hA hG hK h hag
                  have : ∀ {r : List Nat}, newsOk p last r = true → k ∈ r → k ∉ p.effs := by
                    intro r
                    induction r with
                    | nil => intro _ h; cases h
                    | cons x r ih =>
                      intro hn hm
                      simp only [newsOk, Bool.and_eq_true, List.all_eq_true, Bool.not_eq_true', List.contains_eq_mem, decide_eq_false_iff_not] at hn
                      rcases List.mem_cons.1 hm with rfl | hm
                      · exact hn.1.1.1
                      · exact ih hn.2 hm
                  exact this hr hk
                have := (float_ok hfl hok hkf hd ho).2 ht
                have := Nat.le_of_ble_eq_true (hlt k hk)
                omega
            · cases hd : o.dst with
              | none => trivial
              | some t =>
                simp only [getO]
                rw [hG t fun k hk ok hok hdk => ?_, hd, put_some, get_cons, if_pos rfl]
                have := Nat.le_of_ble_eq_true (hlt k hk)
                exact (float_ok hfl ho hni hd hok).1 (by omega) hdk
          · exact hA k hk
        · rw [hG t fun k hk => ht k (List.mem_cons_of_mem _ hk)]
          exact get_put_ne (ht i (List.mem_cons_self ..) o ho)
      split at h
      · rename_i hw
        split at h
        · rename_i d σ' hev
          obtain ⟨rfl, h⟩ := h
          refine key d h fun env' hl hg => ?_
          unfold Agree
          obtain ⟨h1, h2⟩ := looks_congr (P := P) hl
          simp only [ho, h2, hw, evalOp_congr h1, hev]
          exact ⟨trivial, hg⟩
        · exact h.elim
      · rename_i hw
        refine key _ h fun env' hl hg => ?_
        unfold Agree
        obtain ⟨h1, h2⟩ := looks_congr (P := P) hl
        simp only [ho, h2, hw]
        exact hg
      · exact h.elim

theorem olds_mem {P : Program} {ops : Array Oper} {env : Env} {σ : St} : ∀ {olds : List Nat}, DOlds P ops olds env σ → ∀ i ∈ olds, Agree P ops env σ i
  | i :: r, h, k, hk => by
    rcases List.mem_cons.1 hk with rfl | hk
    · exact h.1
    · exact olds_mem h.2 k hk

def REnvX (ops : Array Oper) (effs : List Nat) (listed : Array Bool) (σ : St) (κ : Kap) (w : World) (env : Env) (a : Act) : Prop :=
  ∀ t d, env.get t = some d → (∀ j o, ops[j]? = some o → j ∉ effs → ¬ Lst listed j → o.dst ≠ some t) → ∃ v, a.tmps[t]? = some v ∧ Rep1 σ κ w d v

/-- What comes at a stage behind its new values. -/
def Cont (P : Program) (ops : Array Oper) (Q : Out → Env → St → Prop) (rest : List (List Nat × List Nat)) (pend : List Nat) (env' : Env) (σ : St) : Prop := match pend with
  | [] => Q .norm env' σ
  | e :: es => match ops[e]? with
    | none => False
    | some o => match wantD ops o env' with
      | some true => DOp P o env' σ (fun d σ' => DPlan P ops Q rest es (env'.put o.dst d) σ') fun d σ' => Q (.pan d) [] σ'
      | some false => DPlan P ops Q rest es (env'.put o.dst (.tup [])) σ
      | none => False

theorem wpAny_zero {ro : Option Nat} {P : Program} {ops : Array Oper} {Q : Exit → Act → World → Prop} {listed : Array Bool} {a : Act} {w : World} (h1 : Region.ready .any ops listed = []) (h : Q .normal a w) : wpAnyIn (fen ro) 0 P .any ops Q 0 listed a w := ⟨h1, h⟩

section
variable {P : Program} {ops : Array Oper} {n : Nat} {p : RPlan} {Q : Out → Env → St → Prop}

/-- A stage begins. -/
theorem stage_in {rest : List (List Nat × List Nat)} {done pend : List Nat} {last : Option Nat} {env : Env} {σ : St} (hfl : (List.range ops.size).all (floatOk ops p) = true) (hst : stagesOk ops p rest done pend last = true) (h : DPlan P ops Q rest pend env σ) :
    ∃ news rest' env', newsOk p last news = true ∧ (∀ e es, pend = e :: es → stagesOk ops p rest' (done ++ [e]) es (some e) = true) ∧ (∀ i, i < ops.size → i ∉ p.effs → mayAt p.tb done pend i = true → Agree P ops env' σ i) ∧
      Cont P ops Q rest' pend env' σ ∧ ∀ t, (∀ i ∈ news, ∀ o, ops[i]? = some o → o.dst ≠ some t) → env'.get t = env.get t := by
  cases rest with
  | nil => exact h.elim
  | cons s rest =>
    obtain ⟨news, olds⟩ := s
    simp only [stagesOk, Bool.and_eq_true, List.all_eq_true, List.mem_range, Bool.or_eq_true, Bool.not_eq_true', List.contains_eq_mem, decide_eq_true_eq] at hst
    obtain ⟨⟨hn, hall⟩, hrest⟩ := hst
    simp only [DPlan] at h
    obtain ⟨env', ⟨ho, hc⟩, hA, hG⟩ := news_run hfl hn h
    refine ⟨news, rest, env', hn, fun e es he => by subst he; exact hrest, fun i hi hf hm => ?_, ?_, hG⟩
    · rcases hall i hi with ((h1 | h1) | h1) | h1
      · exact absurd h1 hf
      · rw [hm] at h1; cases h1
      · exact (hA i h1).2
      · exact olds_mem ho i h1
    · unfold Cont
      exact hc

theorem sim (hok : planOk n ops p = true) {ro : Option Nat} {M B : Nat} {σ0 : St} {κ0 : Kap} {w0 : World} : ∀ (fuel : Nat) (listed : Array Bool) (done pend : List Nat) (rest : List (List Nat × List Nat)) (env : Env) (σ : St) (κ : Kap) (w : World) (a : Act),
    p.effs = done ++ pend → chainOk p.tb pend = true → (∀ e es, pend = e :: es → stagesOk ops p rest (done ++ [e]) es (some e) = true) →
    (∀ i, i < ops.size → i ∉ p.effs → mayAt p.tb done pend i = true → Agree P ops env σ i) → Cont P ops Q rest pend env σ →
    listed.size = ops.size → Closed ops listed → (∀ e ∈ done, Lst listed e) → (∀ e ∈ pend, ¬ Lst listed e) → left ops listed ≤ fuel →
    Inv B σ κ w → Ext B σ0 κ0 w0 σ κ w → REnvX ops p.effs listed σ κ w env a → a.tmps.size = n → Marks M κ w a.defers → wpAnyIn (fen ro) 0 P .any ops (lift M B σ0 κ0 w0 n Q) fuel listed a w := by
  have hok' := hok
  simp only [planOk, Bool.and_eq_true] at hok'
  obtain ⟨⟨⟨⟨htb, _⟩, hfl⟩, hdst⟩, _⟩ := hok'
  have hdlt : ∀ (i : Nat) (o : Oper) (t : Nat), ops[i]? = some o → o.dst = some t → t < n := fun i o t ho ht => by
    unfold dstsOk at hdst
    rw [List.all_eq_true] at hdst
    have := hdst o (by rw [← Array.mem_def]; exact Array.mem_of_getElem? ho)
    rw [ht] at this
    exact Nat.le_of_ble_eq_true this
  intro fuel
  induction fuel with
  | zero =>
    intro listed done pend rest env σ κ w a he hch hst hag hco hs hcl hdn hpd hf hI hE hr hn hd
    have hall : ∀ i, i < ops.size → Lst listed i := fun i hi => left_zero (Nat.le_zero.1 hf) hi
    have hp : pend = [] := by
      cases pend with
      | nil => rfl
      | cons e es =>
        unfold Cont at hco
        cases ho : ops[e]? with
        | none => simp only [ho] at hco
        | some o => exact absurd (hall e (Array.getElem?_eq_some_iff.1 ho).1) (hpd e (List.mem_cons_self ..))
    subst hp
    refine wpAny_zero ?_ ⟨.norm, env, σ, κ, hco, trivial, hI, hE, fun t d hg => hr t d hg fun j o hj _ hu => absurd (hall j (Array.getElem?_eq_some_iff.1 hj).1) hu, hn, hd⟩
    cases hrd : Region.ready .any ops listed with
    | nil => rfl
    | cons i r =>
      have := ready_facts hs hcl (i := i) (by rw [hrd]; exact List.mem_cons_self ..)
      exact absurd (hall i this.1) this.2.1
  | succ fuel ih =>
    intro listed done pend rest env σ κ w a he hch hst hag hco hs hcl hdn hpd hf hI hE hr hn hd
    refine ⟨fun hrd => ?_, fun i hi => ?_⟩
    · have hall : ∀ i, i < ops.size → Lst listed i := fun i hi => all_of_none_ready htb hs hrd i hi
      have hp : pend = [] := by
        cases pend with
        | nil => rfl
        | cons e es =>
          unfold Cont at hco
          cases ho : ops[e]? with
          | none => simp only [ho] at hco
          | some o => exact absurd (hall e (Array.getElem?_eq_some_iff.1 ho).1) (hpd e (List.mem_cons_self ..))
      subst hp
      exact ⟨.norm, env, σ, κ, hco, trivial, hI, hE, fun t d hg => hr t d hg fun j o hj _ hu => absurd (hall j (Array.getElem?_eq_some_iff.1 hj).1) hu, hn, hd⟩
    · obtain ⟨hlt, hnl, hcl'⟩ := ready_facts hs hcl hi
      obtain ⟨o, ho⟩ : ∃ o, ops[i]? = some o := ⟨_, Array.getElem?_eq_getElem hlt⟩
      have hs' : (listed.setIfInBounds i true).size = ops.size := by simpa using hs
      have hf' : left ops (listed.setIfInBounds i true) ≤ fuel := by have := left_lt hs hlt hnl; omega
      have hset : ∀ j, Lst (listed.setIfInBounds i true) j ↔ j = i ∨ Lst listed j := fun j => Lst_set (by omega)
      -- what the operation sees
      have hre : REnv σ κ w (Env.only (o.looksAt ops) env) a := fun t d hg => by
        obtain ⟨h1, h2⟩ := get_only' hg
        refine hr t d h2 fun j oj hj hjf hju hjd => ?_
        obtain ⟨_, h3⟩ := (float_ok hfl hj hjf hjd ho).2 h1
        exact hju (tb_ready htb hs hcl hi h3)
      obtain ⟨hx, hwd⟩ := looks_congr (P := P) (ops := ops) (o := o) (e1 := env) (e2 := Env.only (o.looksAt ops) env) fun t ht => (get_only ht env).symm
      have hputn : ∀ v, (a.put o.dst v).tmps.size = n := fun v => by cases hdst : o.dst <;> simp [Act.put, hn]
      have hputd : ∀ v, (a.put o.dst v).defers = a.defers := fun v => by cases hdst : o.dst <;> simp [Act.put]
      have hput : ∀ t v, o.dst = some t → (a.put o.dst v).tmps[t]? = some v := fun t v ht => by
        have : t < a.tmps.size := by rw [hn]; exact hdlt i o t ho ht
        simp [Act.put, ht, this]
      have hput' : ∀ t v, o.dst ≠ some t → (a.put o.dst v).tmps[t]? = a.tmps[t]? := fun t v ht => by
        cases hdst : o.dst with
        | none => rfl
        | some s =>
          have : s ≠ t := fun e => ht (by rw [hdst, e])
          simp [Act.put, this]
      unfold wpOpIn
      simp only [ho]
      by_cases hie : i ∈ p.effs
      · -- the next effect
        have hip : i ∈ pend := by
          rw [he] at hie
          rcases List.mem_append.1 hie with h | h
          · exact absurd (hdn i h) hnl
          · exact h
        cases pend with
        | nil => cases hip
        | cons e es =>
          obtain ⟨hc1, hc2⟩ := chain_head hch
          have hei : e = i := by
            rcases List.mem_cons.1 hip with h | h
            · exact h.symm
            · exact absurd (tb_ready htb hs hcl hi (hc1 i h)) (hpd e (List.mem_cons_self ..))
          subst hei
          unfold Cont at hco
          simp only [ho] at hco
          have hst1 := hst e es rfl
          -- the stage behind it
          have next : ∀ d σ' κ' w' v, DPlan P ops Q rest es (env.put o.dst d) σ' → Inv B σ' κ' w' → Ext B σ κ w σ' κ' w' → Rep1 σ' κ' w' d v → wpAnyIn (fen ro) 0 P .any ops (lift M B σ0 κ0 w0 n Q) fuel (listed.setIfInBounds e true) (a.put o.dst v) w' := by
            intro d σ' κ' w' v hpl hI' hE' hd'
            obtain ⟨news, rest', env', hnw, hst', hag', hco', hG⟩ := stage_in hfl hst1 hpl
            have hes : ∀ e' ∈ es, e' ≠ e := fun e' he' heq => by
              subst heq
              have h1 := hc1 _ he'
              obtain ⟨e2, _, _, hlt2, h3⟩ := tb_at htb ho h1
              rcases h3 with h3 | h3
              · omega
              · -- a cycle: impossible, since all that is ahead is listed
                exact hnl (tb_ready htb hs hcl hi h1)
            refine ih _ (done ++ [e]) es rest' env' σ' κ' w' _ (by rw [he]; simp) hc2 hst' hag' hco' hs' hcl' ?_ ?_ hf' hI' (hE.trans hE') ?_ (hputn v) (by rw [hputd]; exact hd.ext hE')
            · intro e' he'
              rw [hset]
              rcases List.mem_append.1 he' with h | h
              · exact .inr (hdn e' h)
              · exact .inl (by simpa using h)
            · intro e' he' hl
              rw [hset] at hl
              rcases hl with hl | hl
              · exact hes e' he' hl
              · exact hpd e' (List.mem_cons_of_mem _ he') hl
            · intro t d' hg hu
              have hnews : ∀ k ∈ news, k ∉ p.effs ∧ (p.tb.getD k 0).testBit e = true := by
                have : ∀ {l : List Nat}, newsOk p (some e) l = true → ∀ k ∈ l, k ∉ p.effs ∧ (p.tb.getD k 0).testBit e = true := by
                  intro l
                  induction l with
                  | nil => intro _ k h; cases h
                  | cons x l ihl =>
                    intro hn k hk
                    simp only [newsOk, Bool.and_eq_true, Bool.not_eq_true', List.contains_eq_mem, decide_eq_false_iff_not] at hn
                    rcases List.mem_cons.1 hk with rfl | hk
                    · exact ⟨hn.1.1.1, hn.1.1.2⟩
                    · exact ihl hn.2 k hk
                exact this hnw
              have hgt : env'.get t = (env.put o.dst d).get t := hG t fun k hk ok hok hkd => by
                obtain ⟨hkf, hkb⟩ := hnews k hk
                refine hu k ok hok hkf (fun hl => ?_) hkd
                rw [hset] at hl
                rcases hl with rfl | hl
                · exact hkf hie
                · exact hnl (tb_closed htb hs hcl k e hl hkb)
              rw [hgt] at hg
              by_cases ht : o.dst = some t
              · rw [ht, put_some, get_cons, if_pos rfl] at hg
                cases hg
                exact ⟨v, hput t v ht, hd'⟩
              · rw [get_put_ne ht] at hg
                obtain ⟨v', h1, h2⟩ := hr t d' hg fun j oj hj hjf hju hjd => hu j oj hj hjf (fun hl => by
                  rw [hset] at hl
                  rcases hl with rfl | hl
                  · exact hjf hie
                  · exact hju hl) hjd
                exact ⟨v', by rw [hput' t v ht]; exact h1, h2.ext hE'⟩
          split at hco
          · rename_i hw
            rw [hwd] at hw
            rw [if_pos (wantD_sound hre hw)]
            refine DOp_sound hI hre (DOp_congr hx hco) next ?_
            intro d σ' κ' w' v hq hI' hE' hd'
            exact ⟨.pan d, [], σ', κ', hq, ⟨v, rfl, hd'⟩, hI', hE.trans hE', (fun t d h => by cases h), hn, hd.ext hE'⟩
          · rename_i hw
            rw [hwd] at hw
            have := wantD_sound hre hw
            rw [if_neg (by rw [this]; simp)]
            exact ⟨fun _ _ => trivial, next _ σ κ w undef hco hI (Ext.refl _ _ _ _) (.tup (us := []) .nil .nil)⟩
          · exact hco.elim
      · -- another operation
        have hm : mayAt p.tb done pend i = true := by
          simp only [mayAt, Bool.and_eq_true, List.all_eq_true, Bool.not_eq_true']
          refine ⟨fun e hep => ?_, fun e hed => ?_⟩
          · cases hb : (p.tb.getD i 0).testBit e with
            | false => rfl
            | true => exact absurd (tb_ready htb hs hcl hi hb) (hpd e hep)
          · cases hb : (p.tb.getD e 0).testBit i with
            | false => rfl
            | true => exact absurd (tb_closed htb hs hcl e i (hdn e hed) hb) hnl
        have ha := hag i hlt hie hm
        have next : ∀ d κ' w' v, getO env o.dst d → Inv B σ κ' w' → Ext B σ κ w σ κ' w' → Rep1 σ κ' w' d v → wpAnyIn (fen ro) 0 P .any ops (lift M B σ0 κ0 w0 n Q) fuel (listed.setIfInBounds i true) (a.put o.dst v) w' := by
          intro d κ' w' v hgo hI' hE' hd'
          refine ih _ done pend rest env σ κ' w' _ he hch hst hag hco hs' hcl' (fun e h => (hset e).2 (.inr (hdn e h))) ?_ hf' hI' (hE.trans hE') ?_ (hputn v) (by rw [hputd]; exact hd.ext hE')
          · intro e h hl
            rw [hset] at hl
            rcases hl with rfl | hl
            · exact hie (by rw [he]; exact List.mem_append_right _ h)
            · exact hpd e h hl
          · intro t d' hg hu
            by_cases ht : o.dst = some t
            · rw [ht] at hgo
              simp only [getO] at hgo
              rw [hgo] at hg; cases hg
              exact ⟨v, hput t v ht, hd'⟩
            · obtain ⟨v', h1, h2⟩ := hr t d' hg fun j oj hj hjf hju hjd => hu j oj hj hjf (fun hl => by
                rw [hset] at hl
                rcases hl with rfl | hl
                · rw [ho] at hj; cases hj; exact ht hjd
                · exact hju hl) hjd
              exact ⟨v', by rw [hput' t v ht]; exact h1, h2.ext hE'⟩
        unfold Agree at ha
        simp only [ho] at ha
        split at ha
        · rename_i hw
          rw [hwd] at hw
          rw [if_pos (wantD_sound hre hw)]
          split at ha
          · rename_i d σ' hev
            obtain ⟨rfl, ha⟩ := ha
            rw [evalOp_congr hx] at hev
            have hnd := notDefer_op hev
            obtain ⟨v, w', κ', hrun, hI', hE', hd'⟩ := evalOp_sound hI hre hev
            have := next d κ' w' v ha hI' hE' hd'
            refine ⟨fun _ _ => trivial, ?_⟩
            rw [semAt_fen hnd]
            rcases hrun with hrun | ⟨hrun, rfl⟩
            · rw [hrun]; exact this
            · rw [hrun]; exact this
          · exact ha.elim
        · rename_i hw
          rw [hwd] at hw
          have := wantD_sound hre hw
          rw [if_neg (by rw [this]; simp)]
          exact ⟨fun _ _ => trivial, next _ κ w undef ha hI (Ext.refl _ _ _ _) (.tup (us := []) .nil .nil)⟩
        · exact ha.elim

/-- A region that draws its order. -/
theorem W_draw {id : Nat} {env : Env} {σ : St} (hm : P.follows .mixedOrders = true) (p : RPlan) (hok : planOk n ops p = true) (h : DPlan P ops Q p.stages p.effs env σ) : W P n (.region id ops true) env σ Q := by
  intro ro hf M B κ w a hM hI he hn hd
  obtain ⟨hI', hE⟩ := hI.grow_same (below_drew' w)
  refine wpIn_region_any hm ?_
  have hok' := hok
  simp only [planOk, Bool.and_eq_true] at hok'
  obtain ⟨⟨⟨⟨htb, hch⟩, hfl⟩, hdst⟩, hst⟩ := hok'
  obtain ⟨news, rest', env', hnw, hst', hag', hco', hG⟩ := stage_in hfl hst h
  have hnone : ∀ i, ¬ Lst (Array.replicate ops.size false) i := fun i hl => by
    unfold Lst at hl
    simp only [Array.getD_eq_getD_getElem?, Array.getElem?_replicate] at hl
    split at hl <;> simp at hl
  refine sim hok ops.size _ [] p.effs rest' env' σ κ w.drew a rfl hch hst' hag' hco' (by simp) (fun i o _ hl => absurd hl (hnone i)) (by simp) (fun e _ => hnone e) ?_ hI' hE ?_ hn (hd.ext hE)
  · unfold left
    exact Nat.le_trans (List.countP_le_length) (by simp)
  · intro t d hg hu
    rw [hG t fun k hk ok hok hkd => ?_] at hg
    · exact (he.ext hE) t d hg
    · refine hu k ok hok ?_ (hnone k) hkd
      have : ∀ {l : List Nat}, newsOk p none l = true → k ∈ l → k ∉ p.effs := by
        intro l
        induction l with
        | nil => intro _ h; cases h
        | cons x l ihl =>
          intro hn hk
          simp only [newsOk, Bool.and_eq_true, Bool.not_eq_true', List.contains_eq_mem, decide_eq_false_iff_not] at hn
          rcases List.mem_cons.1 hk with rfl | hk
          · exact hn.1.1.1
          · exact ihl hn.2 hk
      exact this hnw hk
end
end Go.DL
