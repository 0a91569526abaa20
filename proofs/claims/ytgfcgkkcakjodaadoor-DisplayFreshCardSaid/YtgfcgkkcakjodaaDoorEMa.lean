/-
  D-LOGIC, part Ma: regions, functions, ranges over functions.
-/
import Derived.Test.YtgfcgkkcakjodaaDoorEM
set_option linter.unusedVariables false
set_option linter.unusedSimpArgs false
namespace Go.DL
open Go.RowKit

section
variable {P : Program} {n : Nat} {Q : Out → Env → St → Prop}

/-- Operations one behind the other. -/
theorem ops_sound (ops : Array Oper) (ro : Option Nat) (M : Nat) : ∀ (rest : List Nat) (os : List Oper) (env : Env) (σ : St), rest.map (ops[·]?) = os.map some → dstsOk n os = true → DOps P n ops Q os env σ →
    ∀ (B : Nat) (κ : Kap) (w : World) (a : Act), Inv B σ κ w → REnv σ κ w env a → a.tmps.size = n → Marks M κ w a.defers → wpOpsIn (fen ro) 0 P ops (lift M B σ κ w n Q) rest a w := by
  intro rest
  induction rest with
  | nil =>
    intro os env σ hl hds h B κ w a hI he hn hd
    have : os = [] := by cases os with | nil => rfl | cons o os => simp at hl
    subst this
    exact ⟨.norm, env, σ, κ, h, trivial, hI, Ext.refl _ _ _ _, he, hn, hd⟩
  | cons i rest ih =>
    intro os env σ hl hds h B κ w a hI he hn hd
    cases os with
    | nil => simp at hl
    | cons o os =>
      simp only [List.map_cons, List.cons.injEq] at hl
      obtain ⟨hi, hl⟩ := hl
      simp only [dstsOk, List.all_cons, Bool.and_eq_true] at hds
      obtain ⟨hd0, hds⟩ := hds
      have hlt : ∀ t, o.dst = some t → t < a.tmps.size := fun t ht => by
        rw [ht] at hd0; rw [hn]; exact Nat.le_of_ble_eq_true hd0
      have hputn : ∀ v, (a.put o.dst v).tmps.size = n := fun v => by cases hdst : o.dst <;> simp [Act.put, hn]
      have hputd : ∀ v, (a.put o.dst v).defers = a.defers := fun v => by cases hdst : o.dst <;> simp [Act.put]
      simp only [wpOpsIn, hi]
      unfold DOps at h
      split at h
      · rename_i hw
        have hw := wantD_sound he hw
        rw [if_pos hw]
        split at h
        · -- a call
          rename_i f ds hc
          have hnd := notDefer_call hc
          unfold callD at hc
          split at hc
          · rename_i g as ts heq
            simp only [Option.bind_eq_some_iff] at hc
            obtain ⟨dg, hdg, hc⟩ := hc
            split at hc
            · rename_i gf caps
              simp only [Option.bind_eq_some_iff] at hc
              obtain ⟨das, hdas, hc⟩ := hc
              cases hb : bodyOk P gf with
              | false => simp [hb] at hc
              | true =>
                simp only [hb, cond_true, Option.some.injEq, Prod.mk.injEq] at hc
                obtain ⟨rfl, rfl⟩ := hc
                have hgv := evalX_sound he hdg
                obtain ⟨cv, hcv, hcr⟩ : ∃ cv : List Value, a.eval g = .func (.func gf) #[] cv.toArray ∧ RepD σ κ w caps cv := by
                  generalize a.eval g = v at hgv
                  cases hgv with
                  | fn r _ => exact ⟨_, rfl, r⟩
                have hargs := (evalXs_sound he hdas).append hcr
                have hcall := h B κ w _ hI hargs
                refine ⟨fun _ _ => trivial, ?_⟩
                rw [semAt_fen hnd]
                have hrun : (execOp a.eval o).run P w = .ok (.enter gf (as.toList.map a.eval ++ cv).toArray) w := by
                  have : as.map a.eval ++ cv.toArray = (as.toList.map a.eval ++ cv).toArray := by apply Array.ext'; simp
                  simp only [execOp, heq, resolve, hcv, Deferred.ofValue, Sem.run_bind, Sem.run_pure, Result.andThen_ok, invoke, Array.empty_append, this, run_callFunc hb]
                rw [hrun]
                refine ⟨fen_depth, CallsIn.mono (callsIn_fen hcall) fun e w' ⟨r, σ', κ', hr, hI', hE, hm⟩ => ?_⟩
                cases r with
                | ret d =>
                  cases e with
                  | returned v =>
                    simp only at hm hr ⊢
                    have := ih os _ σ' hl hds hr B κ' w' (a.put o.dst v) hI' ((he.ext hE).put hm hlt) (hputn v) (by rw [hputd]; exact hd.ext hE)
                    exact wpOps_mono' hE this
                  | _ => exact hm.elim
                | pan d =>
                  cases e with
                  | panicked chain =>
                    simp only at hm hr ⊢
                    exact ⟨.pan d, env, σ', κ', hr, hm, hI', hE, he.ext hE, hn, hd.ext hE⟩
                  | _ => exact hm.elim
            · cases hc
          · cases hc
        · split at h
          · -- a round
            rename_i i ds hy
            refine yield_sound hI he hy h fun b σ' κ' w' hk hI' hE => ?_
            have := ih os _ σ' hl hds hk B κ' w' (a.put o.dst (.bool b)) hI' ((he.ext hE).put (.f (.mk_lit rfl) .nil) hlt) (hputn _) (by rw [hputd]; exact hd.ext hE)
            exact wpOps_mono' hE this
          · split at h
            · -- panic
              rename_i x heq
              obtain ⟨t, v, hx, hq⟩ := h
              have hv := evalX_sound he hx
              have hve : a.eval x = .iface t v := by cases hv with | f h _ => exact h.of_lit.1
              have hnd : ∀ c, o.op ≠ .defer c := by intro c e; rw [heq] at e; cases e
              refine ⟨fun _ _ => trivial, ?_⟩
              rw [semAt_fen hnd]
              have hrun : (execOp a.eval o).run P w = .halt (.panic (.iface t v)) w := by
                simp [execOp, heq, hve, Instr.panic, goPanic, Sem.run]
              rw [hrun]
              rw [hve] at hv
              exact ⟨.pan _, env, σ, κ, hq, ⟨_, rfl, hv⟩, hI, Ext.refl _ _ _ _, he, hn, hd⟩
            · split at h
              · rename_i d σ' hev
                have hnd := notDefer_op hev
                obtain ⟨v, w', κ', hrun, hI', hE, hr⟩ := evalOp_sound hI he hev
                have := ih os _ σ' hl hds h B κ' w' (a.put o.dst v) hI' ((he.ext hE).put hr hlt) (hputn v) (by rw [hputd]; exact hd.ext hE)
                have := wpOps_mono' hE this
                refine ⟨fun _ _ => trivial, ?_⟩
                rw [semAt_fen hnd]
                rcases hrun with hrun | ⟨hrun, rfl⟩ <;> (rw [hrun]; exact this)
              · exact h.elim
      · rename_i hw
        have hw := wantD_sound he hw
        rw [if_neg (by rw [hw]; simp)]
        have := ih os _ σ hl hds h B κ w (a.put o.dst undef) hI (he.put (.tup (us := []) .nil .nil) hlt) (hputn _) (by rw [hputd]; exact hd)
        exact ⟨fun _ _ => trivial, this⟩
      · exact h.elim

theorem W_region {id : Nat} {ops : Array Oper} {env : Env} {σ : St} (hds : dstsOk n ops.toList = true) (h : DOps P n ops Q ops.toList env σ) : W P n (.region id ops false) env σ Q := by
  intro ro hf M B κ w a hM hI he hn hd
  refine wpIn_region (ops_sound ops ro M (List.range ops.size) ops.toList env σ ?_ hds h B κ w a hI he hn hd)
  apply List.ext_getElem?
  intro i
  simp only [List.getElem?_map]
  rcases Nat.lt_or_ge i ops.size with hi | hi
  · simp [List.getElem?_range hi, hi]
  · rw [List.getElem?_eq_none (by simpa using hi), List.getElem?_eq_none (by simpa using hi)]; rfl

/-! ### A function -/
def resD (P : Program) (σ : St) (env : Env) : List ResultVar → Option (List DVal)
  | [] => some []
  | .tmp t :: r => (env.get t).bind fun d => (resD P σ env r).bind fun ds => some (d :: ds)
  | .cell t ty :: r => (env.get t).bind fun p => (evalLoad P ty p σ).bind fun d => (resD P σ env r).bind fun ds => some (d :: ds)
def tupD : List DVal → DVal
  | [d] => d
  | ds => .tup ds

def bodyQ (P : Program) (fn : Func) (R : Res → St → Prop) : Out → Env → St → Prop
  | .norm, env, σ | .ret, env, σ => ∃ ds, resD P σ env fn.results.toList = some ds ∧ R (.ret (tupD ds)) σ
  | .pan d, env, σ => R (.pan d) σ
  | .exit _, _, _ => False

def mkEnv (n : Nat) (ds : List DVal) : Env := (ds.zipIdx.map fun p => (p.2, p.1)) ++ ((List.range' ds.length (n - ds.length)).map fun i => (i, .tup []))

theorem resD_sound {B : Nat} {σ : St} {κ : Kap} {w : World} {env : Env} {a : Act} (hI : Inv B σ κ w) (he : REnv σ κ w env a) : ∀ {rs : List ResultVar} {ds : List DVal}, resD P σ env rs = some ds →
    ∃ vs, (rs.mapM fun | .tmp t => pure (a.tmps.getD t undef) | .cell x t => do loadVar t (← asAddr (a.tmps.getD x undef)) : Sem (List Value)).run P w = .ok vs w ∧ RepD σ κ w ds vs
  | [], ds, h => by simp only [resD, Option.some.injEq] at h; subst h; exact ⟨[], rfl, .nil⟩
  | .tmp t :: rs, ds, h => by
    simp only [resD, Option.bind_eq_some_iff, Option.some.injEq] at h
    obtain ⟨d, hd, ds', hds, rfl⟩ := h
    obtain ⟨v, hv, hr⟩ := he t d hd
    obtain ⟨vs, hvs, hrs⟩ := resD_sound hI he hds
    refine ⟨v :: vs, ?_, RepD.cons hr hrs⟩
    simp only [List.mapM_cons, Sem.run_bind, Sem.run_pure, Result.andThen_ok, hvs]
    simp [hv]
  | .cell t ty :: rs, ds, h => by
    simp only [resD, Option.bind_eq_some_iff, Option.some.injEq] at h
    obtain ⟨p, hp, d, hd, ds', hds, rfl⟩ := h
    obtain ⟨v, hv, hr⟩ := he t p hp
    obtain ⟨u, hu, hru⟩ := evalLoad_sound (P := P) hI hr hd
    obtain ⟨vs, hvs, hrs⟩ := resD_sound hI he hds
    have hptr : ∃ q, v = .pointer (some q) := by
      simp only [evalLoad, Option.bind_eq_some_iff] at hd
      obtain ⟨_, _, _, _, cs, hcs, _⟩ := hd
      obtain ⟨q, _, hq, _⟩ := cellsAt_sound hI hr hcs
      exact ⟨q, hq⟩
    obtain ⟨q, rfl⟩ := hptr
    have hl : (loadVar ty q).run P w = .ok u w := by simpa [Instr.loadAt, Instr.sureAddr] using hu
    have hg : a.tmps.getD t undef = .pointer (some q) := by simp [hv]
    refine ⟨u :: vs, ?_, RepD.cons hru hrs⟩
    have hA : (asAddr (a.tmps.getD t undef)).run P w = .ok q w := by rw [hg]; rfl
    simp only [List.mapM_cons, Sem.run_bind, Sem.run_pure, Result.andThen_ok, hvs, hA, hl]

theorem results_sound {B : Nat} {σ : St} {κ : Kap} {w : World} {env : Env} {a : Act} (hI : Inv B σ κ w) (he : REnv σ κ w env a) {fn : Func} {ds : List DVal} (h : resD P σ env fn.results.toList = some ds) :
    ∃ v, (results fn a.tmps).run P w = .ok v w ∧ Rep1 σ κ w (tupD ds) v := by
  obtain ⟨vs, hvs, hr⟩ := resD_sound hI he h
  have hm : (fn.results.mapM fun | .tmp t => pure (a.tmps.getD t undef) | .cell x t => do loadVar t (← asAddr (a.tmps.getD x undef)) : Sem (Array Value)).run P w = .ok vs.toArray w := by
    rw [Array.mapM_eq_mapM_toList, ← bind_pure_comp, Sem.run_bind, hvs]; rfl
  refine ⟨if h : vs.toArray.size = 1 then vs.toArray[0] else .tuple vs.toArray, ?_, ?_⟩
  · have e : results fn a.tmps = (do let vs ← (fn.results.mapM fun | .tmp t => pure (a.tmps.getD t undef) | .cell x t => do loadVar t (← asAddr (a.tmps.getD x undef)) : Sem (Array Value)); pure (if h : vs.size = 1 then vs[0] else .tuple vs)) := rfl
    rw [e, Sem.run_bind, hm]; rfl
  · have hl := hr.length
    match ds, vs, hl, hr with
    | [], [], _, hr => exact .tup (us := []) hr .nil
    | [d], [v], _, hr => exact hr
    | d :: d' :: ds, v :: v' :: vs, _, hr => 
      have : ¬ ((v :: v' :: vs).toArray.size = 1) := by simp
      rw [dif_neg this]
      exact .tup (us := v :: v' :: vs) hr .nil

theorem get_append : ∀ (e1 e2 : Env) (t : Nat), Env.get (e1 ++ e2) t = match Env.get e1 t with | some d => some d | none => Env.get e2 t
  | [], e2, t => rfl
  | (k, d) :: e1, e2, t => by
    simp only [List.cons_append, Env.get]
    cases Nat.beq k t with
    | true => rfl
    | false => exact get_append e1 e2 t
theorem get_zip : ∀ (ds : List DVal) (s t : Nat) (d : DVal), Env.get ((ds.zipIdx s).map fun p => (p.2, p.1)) t = some d → s ≤ t ∧ ds[t - s]? = some d
  | [], s, t, d, h => by simp [Env.get] at h
  | x :: ds, s, t, d, h => by
    simp only [List.zipIdx_cons, List.map_cons, Env.get] at h
    cases hb : Nat.beq s t with
    | true =>
      simp only [hb, cond_true, Option.some.injEq] at h
      have := Nat.eq_of_beq_eq_true hb; subst this; subst h; simp
    | false =>
      simp only [hb, cond_false] at h
      obtain ⟨h1, h2⟩ := get_zip ds (s + 1) t d h
      refine ⟨by omega, ?_⟩
      have : t - s = (t - (s + 1)) + 1 := by omega
      rw [this]; simpa using h2
theorem get_range : ∀ (m s t : Nat) (d : DVal), Env.get ((List.range' s m).map fun i => (i, DVal.tup [])) t = some d → s ≤ t ∧ t < s + m ∧ d = .tup []
  | 0, s, t, d, h => by simp [Env.get] at h
  | m + 1, s, t, d, h => by
    simp only [List.range'_succ, List.map_cons, Env.get] at h
    cases hb : Nat.beq s t with
    | true =>
      simp only [hb, cond_true, Option.some.injEq] at h
      have := Nat.eq_of_beq_eq_true hb; exact ⟨by omega, by omega, h.symm⟩
    | false =>
      simp only [hb, cond_false] at h
      obtain ⟨h1, h2, h3⟩ := get_range m (s + 1) t d h
      exact ⟨by omega, by omega, h3⟩

/-- A function's contract, by its body; its frame may leave with marks. -/
theorem leave_sound {fn : Func} {B : Nat} {σ σ' : St} {κ κ' : Kap} {w w' : World} {R : Res → St → Prop} {a' : Act} {u : FrameMode} (hu : u ≠ .run) (hB : B ≤ w.heap.size) (hT : ∀ b, κ.T b → b < w.heap.size) (hI' : Inv B σ' κ' w') (hE : Ext B σ κ w σ' κ' w') (hd : Marks w.heap.size κ' w' a'.defers)
    (h : ∀ κ2 w2, Inv B σ' κ2 w2 → Ext B σ κ w σ' κ2 w2 → (∀ ds vs, RepD σ' κ' w' ds vs → RepD σ' κ2 w2 ds vs) → LeavesIn (fen none) 0 P fn a'.tmps (liftR B σ κ w R) [] u w2) : LeavesInM (fen none) 0 P fn a'.tmps (liftR B σ κ w R) a'.defers u w' := by
  obtain ⟨rs, hrs, hnd, hm⟩ := hd
  rw [hrs]
  have hI2 := hI'.restrict κ.T fun b hb => hE.T b hb
  refine leave_marks (M := w.heap.size) hu hB rs σ' (κ'.withT κ.T) w' hI2 hT hnd (fun r hr => ⟨(hm r hr).1, (hm r hr).2.2, fun i hi => hI'.tObj r (hm r hr).2.1 i hi, fun i hi => hI'.tArr r (hm r hr).2.1 i hi⟩) fun w2 hI3 hE3 => ?_
  exact h _ w2 hI3 ((Ext.fromT (κ1 := κ) (σ1 := σ) (w1 := w) hE).trans hE3) fun ds vs hr => (hr.withT (T := κ.T)).ext hE3

theorem DCalls_of {f : FuncId} {fn : Func} {c : Code} {ds : List DVal} {σ : St} {R : Res → St → Prop} (hf : P.funcs[f]? = some fn) (hb : fn.body = some c) (hl : ds.length ≤ fn.ntmps)
    (h : W P fn.ntmps c (mkEnv fn.ntmps ds) σ (bodyQ P fn R)) : DCalls P f ds σ R := by
  intro B κ w args hI hd
  have hal := hd.length
  refine callsIn_wide.1 (callsIn_of_wp_marks (F := fen none) (n := 0) hf hb trivial (wpIn_mono (h none (.inl rfl) w.heap.size B κ w _ (Nat.le_refl _) hI ?_ ?_ Marks.nil) ?_) rfl)
  · intro t d hget
    have hsz : args.toArray.size = args.length := by simp
    unfold mkEnv at hget
    rw [get_append] at hget
    split at hget
    · rename_i d' hd'
      cases hget
      obtain ⟨_, h2⟩ := get_zip ds 0 t d hd'
      obtain ⟨v, hv, hr⟩ := hd.get h2
      have : t < args.length := (List.getElem?_eq_some_iff.1 hv).1
      exact ⟨v, by rw [Array.getElem?_append_left (by simpa using this)]; simpa using hv, hr⟩
    · obtain ⟨h1, h2, rfl⟩ := get_range _ _ t d hget
      refine ⟨undef, ?_, .tup (us := []) .nil .nil⟩
      rw [Array.getElem?_append_right (by simp; omega)]
      simp only [List.size_toArray]
      rw [Array.getElem?_replicate, if_pos (by omega)]
  · simp; omega
  · rintro e a' w' ⟨o, env', σ', κ', hq, hm, hI', hE, he', hn', hd'⟩
    have retOk : (∃ rs, resD P σ' env' fn.results.toList = some rs ∧ R (.ret (tupD rs)) σ') → LeavesInM (fen none) 0 P fn a'.tmps (liftR B σ κ w R) a'.defers .returning w' := by
      rintro ⟨rs, hrs, hR⟩
      refine leave_sound (by simp) hI.base hI.tLt hI' hE hd' fun κ2 w2 hI2 hE2 hrep => ?_
      have he2 : REnv σ' κ2 w2 env' a' := fun t d hg => by
        obtain ⟨v, hv, hr⟩ := he' t d hg
        exact ⟨v, hv, hrep _ _ hr⟩
      obtain ⟨v, hv, hr⟩ := results_sound hI2 he2 hrs
      exact ⟨v, hv, .ret (tupD rs), σ', κ2, hR, hI2, hE2, hr⟩
    cases o with
    | norm =>
      cases e <;> simp only [matchE] at hm
      exact retOk hq
    | ret =>
      cases e <;> simp only [matchE] at hm
      exact retOk hq
    | pan d =>
      cases e <;> simp only [matchE] at hm
      obtain ⟨v, rfl, hv⟩ := hm
      refine leave_sound (by simp) hI.base hI.tLt hI' hE hd' fun κ2 w2 hI2 hE2 hrep => ?_
      exact ⟨.pan d, σ', κ2, hq, hI2, hE2, v, rfl, hrep _ _ hv⟩
    | exit i => exact hq.elim

/-! ### A range over a function -/
theorem W_rangeFunc {g : Operand} {ps : Array Tmp} {asg body : Code} {env : Env} {σ : St} {gf : FuncId} {caps : List DVal} (hg : evalX env g = some (.fn (.func gf) caps)) (hb : bodyOk P gf = true)
    (h : DCalls P gf (.yld σ.objs.length :: caps) { σ with objs := σ.objs ++ [.loop n env ps asg body .ready none] } fun r s => match r with
      | .ret _ => ∃ n1 env1 ps1 asg1 body1 st jump, s.objs[σ.objs.length]? = some (.loop n1 env1 ps1 asg1 body1 st jump) ∧ st ≠ .busy ∧ match jump with
        | none => Q .norm env (s.setOb σ.objs.length .dead)
        | some c => flatC c = true ∧ W P n c env (s.setOb σ.objs.length .dead) Q
      | .pan d => Q (.pan d) env s) : W P n (.rangeFunc g ps asg body) env σ Q := by
  intro ro hf M B κ w a hM hI he hn hd
  have hro : ro = none := hf.resolve_right (by simp [flatC])
  subst hro
  have hgv := evalX_sound he hg
  obtain ⟨cv, hcv, hcr⟩ : ∃ cv : List Value, a.eval g = .func (.func gf) #[] cv.toArray ∧ RepD σ κ w caps cv := by
    generalize a.eval g = v at hgv
    cases hgv with
    | fn r _ => exact ⟨_, rfl, r⟩
  obtain ⟨hI1, hE1⟩ := hI.mark_on
  have hd1 := hd.on hI hM
  have he1 := he.ext hE1
  refine wpIn_rangeFunc fun fn _ => ?_
  obtain ⟨hI2, hE2⟩ := hI1.loop_new he1 fn ps asg body w.heap.size
  rw [hn] at hI2 hE2
  obtain ⟨W1, hW1⟩ : ∃ x, x = (w.alloc (.deferred (some []))).alloc (.loop { state := .ready, pending := none, fn := fn, tmps := a.tmps, params := ps, assign := asg, body := body, defers := w.heap.size }) := ⟨_, rfl⟩
  rw [← hW1] at hI2 hE2
  have hE12 := hE1.trans hE2
  have hsz : (w.alloc (.deferred (some []))).heap.size = w.heap.size + 1 := by simp
  refine ⟨w.heap.size + 1, [markOf w.heap.size], W1, ⟨.fn (.func gf) cv.toArray, #[.func (.yield (w.heap.size + 1)) #[] #[]]⟩, W1, gf, (([.func (.yield (w.heap.size + 1)) #[] #[]] : List Value) ++ cv).toArray, W1,
    by rw [hW1]; exact run_enterLoop_outer fn a.tmps ps asg body, ?_, fun _ _ => trivial, ?_, fen_depth, ?_⟩
  · simp only [resolve, rangeCall, hcv, Deferred.ofValue, Sem.run_bind, Sem.run_pure, Result.andThen_ok]
    simp [Act.eval]
  · have : #[Value.func (.yield (w.heap.size + 1)) #[] #[]] ++ cv.toArray = (([.func (.yield (w.heap.size + 1)) #[] #[]] : List Value) ++ cv).toArray := by apply Array.ext'; simp
    simp only [invoke, this, run_callFunc hb]
  · have hargs : RepD { σ with objs := σ.objs ++ [.loop n env ps asg body .ready none] } ((κ.withT fun b => κ.T b ∨ b = w.heap.size).setOb σ.objs.length (w.alloc (.deferred (some []))).heap.size) W1 (.yld σ.objs.length :: caps) ([.func (.yield (w.heap.size + 1)) #[] #[]] ++ cv) := by
      have hk : ((κ.withT fun b => κ.T b ∨ b = w.heap.size).setOb σ.objs.length (w.alloc (.deferred (some []))).heap.size).ob σ.objs.length = w.heap.size + 1 := by simp [Kap.setOb]
      have := RepD.yld (κ := (κ.withT fun b => κ.T b ∨ b = w.heap.size).setOb σ.objs.length (w.alloc (.deferred (some []))).heap.size) (σ := { σ with objs := σ.objs ++ [.loop n env ps asg body .ready none] }) (o := σ.objs.length) (by simp) (hcr.ext hE12)
      rw [hk] at this
      exact this
    refine CallsIn.mono (callsIn_fen (h B _ _ _ hI2 hargs)) fun e w' ⟨r, σ', κ', hr, hI', hE, hm⟩ => ?_
    have hEE := hE12.trans hE
    cases r with
    | ret d =>
      cases e with
      | returned v =>
        obtain ⟨n1, env1, ps1, asg1, body1, st, jump, hob, hst, hr⟩ := hr
        obtain ⟨L, hL, h1, h2, h3, h4, h5, h6, h7, h8⟩ := hI'.loop_set hob
        have hκ : κ'.ob σ.objs.length = w.heap.size + 1 := by
          rw [hE.ob σ.objs.length (by simp)]; simp [Kap.setOb]
        rw [hκ] at hL
        have hend := run_endLoop (P := P) hL (by rw [h1]; exact hst)
        obtain ⟨hI3', hE3'⟩ := h8 .exhausted jump
        obtain ⟨hI3, hE3k⟩ := hI3'.kill (i := σ.objs.length) (by have := (List.getElem?_eq_some_iff.1 hob).1; simpa [St.setOb] using this)
        have hE3 := hE3'.trans hE3k
        rw [setOb_setOb] at hI3 hE3
        rw [hκ] at hI3 hE3
        have hjj : ({ L with state := .exhausted, pending := jump } : Loop) = { L with state := .exhausted } := by rw [← h2]
        rw [hjj] at hI3 hE3
        obtain ⟨W4, hW4⟩ : ∃ x, x = w'.putObj (w.heap.size + 1) (.loop { L with state := .exhausted }) := ⟨_, rfl⟩
        rw [← hW4] at hend hI3 hE3
        refine ⟨L.pending, W4, hend, ?_⟩
        rw [h2]
        have hE4 := hEE.trans hE3
        have hd4 : Marks M κ' W4 (markOf w.heap.size :: a.defers) := hd1.ext ((hE2.trans hE).trans hE3)
        cases jump with
        | none => exact ⟨.norm, env, _, κ', hr, trivial, hI3, hE4, fun t d ht => (he.ext hE4) t d ht, hn, hd4⟩
        | some c =>
          obtain ⟨hfc, hW⟩ := hr
          refine wpIn_mono (hW none (.inl rfl) M B κ' _ { a with defers := markOf w.heap.size :: a.defers } (Nat.le_trans hM hE4.below.size) hI3 (fun t d ht => (he.ext hE4) t d ht) hn hd4) fun e a2 w2 hl => lift_ext hE4 hl
      | _ => exact hm.elim
    | pan d =>
      cases e with
      | panicked chain => exact ⟨.pan d, env, σ', κ', hr, hm, hI', hEE, fun t d ht => (he.ext hEE) t d ht, hn, hd1.ext (hE2.trans hE)⟩
      | _ => exact hm.elim
end
end Go.DL
