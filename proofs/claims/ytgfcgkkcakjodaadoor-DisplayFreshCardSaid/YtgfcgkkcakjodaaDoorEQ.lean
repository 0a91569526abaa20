/-
  D-LOGIC, part Q: an empty slice, nil or not.
-/
import Derived.Test.YtgfcgkkcakjodaaDoorEP
set_option linter.unusedVariables false
set_option linter.unusedSimpArgs false
namespace Go.DL
open Go.RowKit

theorem rep_nil {σ : St} {κ : Kap} {w : World} {k : Nat} {v : Value} (h : Rep1 σ κ w (.full k []) v) : Rep1 σ κ w (.full 0 []) v := by
  cases h with
  | fnil t => exact .fnil t
  | full r hk hm t =>
    have := r.nil_inv; subst this
    exact .full .nil (by simp) (by simp [flat]) t

/-- The same result under another name. -/
theorem DCalls.coe {P : Program} {f : FuncId} {ds : List DVal} {σ : St} {R R' : Res → St → Prop} (h : DCalls P f ds σ R)
    (hr : ∀ r σ', R r σ' → ∃ d d', r = .ret d ∧ R' (.ret d') σ' ∧ ∀ (κ : Kap) (w : World) (v : Value), Rep1 σ' κ w d v → Rep1 σ' κ w d' v) : DCalls P f ds σ R' := by
  intro B κ w args hI hd
  refine (h B κ w args hI hd).mono fun e w' ⟨r, σ', κ', hR, hI', hE, hm⟩ => ?_
  obtain ⟨d, d', rfl, hR', hc⟩ := hr r σ' hR
  refine ⟨.ret d', σ', κ', hR', hI', hE, ?_⟩
  cases e with
  | returned v => exact hc _ _ _ hm
  | _ => exact hm.elim

def emptyD : DVal → Bool
  | .full _ [] => true
  | .f (.sl _ []) => true
  | _ => false
theorem emptyD_sound {σ : St} {κ : Kap} {w : World} {d : DVal} {v : Value} (h : Rep1 σ κ w d v) (hb : emptyD d = true) : ∃ A l c, v = .slice A l c := by
  cases h with
  | @f fv _ _ _ h _ =>
    cases fv with
    | lit _ => simp [emptyD] at hb
    | agg _ => simp [emptyD] at hb
    | sl k es => obtain ⟨us, A, c, rfl, _⟩ := h.of_sl; exact ⟨_, _, _, rfl⟩
  | fnil _ => exact ⟨_, _, _, rfl⟩
  | full _ _ _ _ => exact ⟨_, _, _, rfl⟩
  | _ => simp [emptyD] at hb

section
variable {P : Program} {n : Nat} {Q : Out → Env → St → Prop}

theorem equal_slice {t : TypeId} {w : World} {e : TypeId} (hu : P.underlying t = some (.slice e)) (A : Option Addr) (l c l' c' : Nat) : ∃ b : Bool, (binOp .eql t (.slice A l c) (.slice none l' c')).run P w = .ok (.bool b) w ∧ ∀ op p q, (eqGuard op t p q (.slice A l c) (.slice none l' c')).run P w = .ok () w := by
  have key : ∀ d, (Op.equalIn (d + 1) t (.slice A l c) (.slice none l' c')).run P w = .ok A.isNone w := by
    intro d
    cases A <;> (unfold Op.equalIn; simp [run_underlying hu])
  have key : (Op.equal t (.slice A l c) (.slice none l' c')).run P w = .ok A.isNone w := key 9999
  exact ⟨A.isNone, by simp [binOp, key], fun op p q => by cases op <;> simp [eqGuard]⟩

/-- 's == nil' of an empty slice: true or false. -/
theorem W_nilcmp {id : Nat} {o1 o2 : Oper} {x : Operand} {d1 d2 t ty e l' c' : Nat} {d : DVal} {env : Env} {σ : St} (h1 : o1.op = .move x) (h1d : o1.dst = some d1) (h1g : o1.guard = none)
    (h2 : o2.op = .binOp .eql t (.tmp d1) (.const (.slice none l' c')) ty) (h2d : o2.dst = some d2) (h2g : o2.guard = none) (hd1 : d1 < n) (hd2 : d2 < n) (hu : P.underlying t = some (.slice e)) (hx : evalX env x = some d) (hem : emptyD d = true)
    (hk : ∀ b, Q .norm ((d2, .f (.lit (.bool b))) :: (d1, d) :: env) σ) : W P n (.region id #[o1, o2] false) env σ Q := by
  intro ro hf M B κ w a hM hI he hn hd
  refine wpIn_region ?_
  have hv := evalX_sound he hx
  obtain ⟨A, l, c, hA⟩ := emptyD_sound hv hem
  have he1 : REnv σ κ w ((d1, d) :: env) (a.put (some d1) (a.eval x)) := he.put (dst := some d1) hv fun t ht => by injection ht with ht; subst ht; rw [hn]; exact hd1
  have hev : (a.put (some d1) (a.eval x)).eval (.tmp d1) = a.eval x := by
    have hlt : d1 < a.tmps.size := by omega
    simp [Act.put, Act.eval, hlt]
  obtain ⟨b, hb, hg⟩ := equal_slice (P := P) (w := w) hu A l c l' c'
  have hr1 : (execOp a.eval o1).run P w = .ok (.value (a.eval x)) w := by simp [execOp, h1]
  have hr2 : (execOp (a.put (some d1) (a.eval x)).eval o2).run P w = .ok (.value (.bool b)) w := by
    simp only [execOp, h2, hev]
    rw [hA]
    simp [Act.eval, hg, hb]
  have hw1 : Region.wanted o1 (yielded #[o1, o2] a.tmps) = true := by simp [Region.wanted, h1g]
  have hw2 : Region.wanted o2 (yielded #[o1, o2] (a.put (some d1) (a.eval x)).tmps) = true := by simp [Region.wanted, h2g]
  have n1 : ∀ c, o1.op ≠ .defer c := fun c e => by rw [h1] at e; cases e
  have n2 : ∀ c, o2.op ≠ .defer c := fun c e => by rw [h2] at e; cases e
  show wpOpsIn (fen ro) 0 P #[o1, o2] _ [0, 1] a w
  simp only [wpOpsIn, List.getElem?_toArray, List.getElem?_cons_zero, List.getElem?_cons_succ, hw1, if_true]
  refine ⟨fun _ _ => trivial, ?_⟩
  rw [semAt_fen n1, hr1]
  simp only [Oper.uponIn, h1d, hw2, if_true]
  refine ⟨fun _ _ => trivial, ?_⟩
  rw [semAt_fen n2, hr2]
  simp only [Oper.uponIn, h2d]
  have he2 : REnv σ κ w ((d2, .f (.lit (.bool b))) :: (d1, d) :: env) ((a.put (some d1) (a.eval x)).put (some d2) (.bool b)) := he1.put (dst := some d2) (.f (.mk_lit rfl) .nil) fun t ht => by injection ht with ht; subst ht; simp [Act.put]; rw [hn]; exact hd2
  exact ⟨.norm, _, σ, κ, hk b, trivial, hI, Ext.refl _ _ _ _, he2, by simp [Act.put, hn], by simpa [Act.put] using hd⟩
end
end Go.DL
