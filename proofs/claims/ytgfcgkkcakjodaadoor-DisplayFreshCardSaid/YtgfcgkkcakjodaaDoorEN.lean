/-
  D-LOGIC, part N: what a call leaves behind is forgotten; steps for proofs.
-/
import Derived.Test.YtgfcgkkcakjodaaDoorEMa
set_option linter.unusedVariables false
set_option linter.unusedSimpArgs false
namespace Go.DL
open Go.RowKit

/-- σ' goes on from σ. -/
def Pre (σ σ' : St) : Prop := (∃ l, σ'.objs = σ.objs ++ l) ∧ ∃ l, σ'.arrs = σ.arrs ++ l
theorem Pre.refl (σ : St) : Pre σ σ := ⟨⟨[], by simp⟩, ⟨[], by simp⟩⟩
theorem Pre.trans {a b c : St} (h : Pre a b) (k : Pre b c) : Pre a c := by
  obtain ⟨⟨l, h1⟩, ⟨m, h2⟩⟩ := h
  obtain ⟨⟨l', k1⟩, ⟨m', k2⟩⟩ := k
  exact ⟨⟨l ++ l', by rw [k1, h1, List.append_assoc]⟩, ⟨m ++ m', by rw [k2, h2, List.append_assoc]⟩⟩
theorem Pre.obj {σ σ' : St} (h : Pre σ σ') {i : Nat} {o : Ob} (hi : σ.objs[i]? = some o) : σ'.objs[i]? = some o := by
  obtain ⟨⟨l, h1⟩, _⟩ := h
  rw [h1, List.getElem?_append_left (List.getElem?_eq_some_iff.1 hi).1]; exact hi
theorem Pre.arr {σ σ' : St} (h : Pre σ σ') {i : Nat} {a : Ar} (hi : σ.arrs[i]? = some a) : σ'.arrs[i]? = some a := by
  obtain ⟨_, ⟨l, h1⟩⟩ := h
  rw [h1, List.getElem?_append_left (List.getElem?_eq_some_iff.1 hi).1]; exact hi

theorem RepD.back {σ σ' : St} {κ κ' : Kap} {w w' : World} (hp : Pre σ σ') {ds vs} (h : RepD σ' κ' w' ds vs) : ∀ {us}, RepD σ κ w ds us → RepD σ κ' w' ds vs := by
  induction h with
  | nil => intro us _; exact .nil
  | f h t ih => intro us h0; cases h0 with | f _ t0 => exact .f h (ih t0)
  | fnil t ih => intro us h0; cases h0 with
    | fnil t0 => exact .fnil (ih t0)
    | full _ _ _ t0 => exact .fnil (ih t0)
  | full r hk hm t ih => intro us h0; cases h0 with
    | fnil t0 => exact .full r hk hm (ih t0)
    | full _ _ _ t0 => exact .full r hk hm (ih t0)
  | arr h t ih => intro us h0; cases h0 with
    | arr h' t0 =>
      obtain ⟨a, ha, hg, hx⟩ := h
      obtain ⟨a', ha', hg', _⟩ := h'
      have := hp.arr ha'
      rw [ha] at this; cases this
      exact .arr ⟨a, ha', hg, hx⟩ (ih t0)
  | ptr h t ih => intro us h0; cases h0 with | ptr h' t0 => exact .ptr h' (ih t0)
  | ep r h1 hm t ih => intro us h0; cases h0 with | ep _ _ _ t0 => exact .ep r h1 hm (ih t0)
  | ap h t ih => intro us h0; cases h0 with
    | ap h' t0 =>
      obtain ⟨a, ha, hg, hx⟩ := h
      obtain ⟨a', ha', hg', _⟩ := h'
      have := hp.arr ha'
      rw [ha] at this; cases this
      exact .ap ⟨a, ha', hg, hx⟩ (ih t0)
  | fn r t ih1 ih2 => intro us h0; cases h0 with | fn r0 t0 => exact .fn (ih1 r0) (ih2 t0)
  | map h t ih => intro us h0; cases h0 with | map h' t0 => exact .map h' (ih t0)
  | agg r h1 t ih1 ih2 => intro us h0; cases h0 with | agg r0 _ t0 => exact .agg (ih1 r0) h1 (ih2 t0)
  | tup r t ih1 ih2 => intro us h0; cases h0 with | tup r0 t0 => exact .tup (ih1 r0) (ih2 t0)
  | yld h t ih => intro us h0; cases h0 with | yld h' t0 => exact .yld h' (ih t0)

theorem ObOK.back {σ σ' : St} {κ κ' : Kap} {w w' : World} (hp : Pre σ σ') {b b' : Nat} {o : Ob} (h : ObOK σ' κ' w' b o) (h0 : ObOK σ κ w b' o) : ObOK σ κ' w' b o := by
  cases o with
  | cells cs =>
    obtain ⟨us, T, h1, h2, h3⟩ := h
    obtain ⟨us', T', _, k2, _⟩ := h0
    exact ⟨us, T, h1, h2.back hp k2, h3⟩
  | map es =>
    obtain ⟨xs, c, h1, h2, h3⟩ := h
    obtain ⟨xs', c', _, k2, _⟩ := h0
    exact ⟨xs, c, h1, h2.back hp k2, h3⟩
  | loop n env ps asg body st jump =>
    obtain ⟨fn, tm, r, h1, h2, h3⟩ := h
    obtain ⟨fn', tm', r', _, _, k3⟩ := h0
    exact ⟨fn, tm, r, h1, h2, fun t d ht => by
      obtain ⟨v, hv, hr⟩ := h3 t d ht
      obtain ⟨v', _, hr'⟩ := k3 t d ht
      exact ⟨v, hv, hr.back hp hr'⟩⟩
  | dead => trivial

/-- What was made since is forgotten. -/
theorem Inv.back {B : Nat} {σ σ' : St} {κ κ' : Kap} {w w' : World} (hI : Inv B σ κ w) (hI' : Inv B σ' κ' w') (hE : Ext B σ κ w σ' κ' w') (hp : Pre σ σ') : Inv B σ κ' w' ∧ Ext B σ κ w σ κ' w' := by
  have hol : σ.objs.length ≤ σ'.objs.length := hE.objs
  have hal : σ.arrs.length ≤ σ'.arrs.length := by obtain ⟨_, ⟨l, h1⟩⟩ := hp; rw [h1]; simp
  refine ⟨⟨hI'.base, fun i o ho => (hI'.obj i o (hp.obj ho)).back hp (hI.obj i o ho), fun i hi => hI'.objB i (by omega), fun t a ha => hI'.arr t a (hp.arr ha), fun i j hi hj => hI'.injO i j (by omega) (by omega), fun i j hi hj => hI'.injA i j (by omega) (by omega),
    fun i j hi hj => hI'.disj i j (by omega) (by omega), fun p hp' i hi => hI'.sObj p hp' i (by omega), fun p hp' t a ha => hI'.sArr p hp' t a (hp.arr ha), hI'.sLt, fun t a ha => hI'.fl t a (hp.arr ha), hI'.old, hI'.tLt, fun b hb i hi => hI'.tObj b hb i (by omega), fun b hb i hi => hI'.tArr b hb i (by omega)⟩, ?_⟩
  exact ⟨Nat.le_refl _, hE.ob, fun t a ha => by
    obtain ⟨a', ha', hg, he⟩ := hE.arrs t a ha
    have := hp.arr ha
    rw [ha'] at this; cases this
    exact ⟨a, ha, hg, he⟩, hE.S, hE.cell, hE.below, hE.T, hE.blk⟩

def closed1 : DVal → Bool
  | .f _ => true
  | _ => false
/-- A result that names nothing of the state. -/
def closedR : Res → Bool
  | .ret (.tup ds) => ds.all closed1
  | .ret d => closed1 d
  | .pan d => closed1 d
theorem closed1_back {σ σ' : St} {κ' : Kap} {w' : World} : ∀ {ds vs}, ds.all closed1 = true → RepD σ' κ' w' ds vs → RepD σ κ' w' ds vs
  | [], vs, _, h => by have := h.nil_inv; subst this; exact .nil
  | d :: ds, vs, hc, h => by
    simp only [List.all_cons, Bool.and_eq_true] at hc
    obtain ⟨v, vs', rfl, h0, ht⟩ := h.cons_inv
    have := closed1_back (σ := σ) hc.2 ht
    cases d <;> simp [closed1] at hc
    cases h0 with
    | f h0 _ => exact .f h0 this

theorem DCalls.trunc {P : Program} {f : FuncId} {ds : List DVal} {σ : St} {R : Res → St → Prop} {Q : Res → Prop} (h : DCalls P f ds σ R) (hr : ∀ r σ', R r σ' → Q r ∧ Pre σ σ' ∧ closedR r = true) : DCalls P f ds σ fun r σ' => Q r ∧ σ' = σ := by
  intro B κ w args hI hd
  refine (h B κ w args hI hd).mono fun e w' ⟨r, σ', κ', hR, hI', hE, hm⟩ => ?_
  obtain ⟨hQ, hp, hc⟩ := hr r σ' hR
  obtain ⟨hI2, hE2⟩ := Inv.back hI hI' hE hp
  refine ⟨r, σ, κ', ⟨hQ, rfl⟩, hI2, hE2, ?_⟩
  have one : ∀ d v, closed1 d = true → Rep1 σ' κ' w' d v → Rep1 σ κ' w' d v := fun d v hd h => closed1_back (by simpa using hd) h
  cases r with
  | ret d =>
    cases e with
    | returned v =>
      simp only at hm ⊢
      cases d with
      | tup ds =>
        cases hm with
        | tup r _ => exact .tup (closed1_back hc r) .nil
      | f v' => exact one _ _ rfl hm
      | _ => simp [closedR, closed1] at hc
    | _ => exact hm.elim
  | pan d =>
    cases e with
    | panicked ch =>
      obtain ⟨v, h1, h2⟩ := hm
      exact ⟨v, h1, one _ _ hc h2⟩
    | _ => exact hm.elim

/-! ### Steps of a proof -/
theorem get_cons (k : Nat) (d : DVal) (r : Env) (t : Nat) : Env.get ((k, d) :: r) t = if k = t then some d else Env.get r t := by
  show (bif Nat.beq k t then some d else Env.get r t) = _
  cases hb : Nat.beq k t with
  | true => have := Nat.eq_of_beq_eq_true hb; simp [this]
  | false => have : k ≠ t := Nat.ne_of_beq_eq_false hb; simp [this]
theorem put_some (env : Env) (t : Nat) (d : DVal) : env.put (some t) d = (t, d) :: env := rfl
theorem put_none (env : Env) (d : DVal) : env.put none d = env := rfl

/-- A test, both ways. -/
theorem W_if {P : Program} {n : Nat} {env : Env} {σ : St} {Q : Out → Env → St → Prop} {c : Operand} {x y : Code} {t : Bool} (hc : evalX env c = some (.f (.lit (.bool t)))) (h1 : t = true → W P n x env σ Q) (h2 : t = false → W P n y env σ Q) : W P n (.cond c x y) env σ Q :=
  W_cond hc (by cases t; exact h2 rfl; exact h1 rfl)
theorem W_if_dec {P : Program} {n : Nat} {env : Env} {σ : St} {Q : Out → Env → St → Prop} {c : Operand} {x y : Code} {p : Prop} [Decidable p] (hc : evalX env c = some (.f (.lit (.bool (decide p))))) (h1 : p → W P n x env σ Q) (h2 : ¬ p → W P n y env σ Q) : W P n (.cond c x y) env σ Q :=
  W_if hc (fun h => h1 (of_decide_eq_true h)) (fun h => h2 (of_decide_eq_false h))

theorem W_seq_k {P : Program} {n : Nat} {x y : Code} {env : Env} {σ : St} {Q : Out → Env → St → Prop} (h : ∀ K : Env → St → Prop, (∀ e s, W P n y e s Q → K e s) → W P n x env σ (thenQ K Q)) : W P n (.seq x y) env σ Q :=
  W_seq (h _ fun _ _ h => h)
theorem beq_dec (a b : Nat) : Nat.beq a b = decide (a = b) := by
  cases h : Nat.beq a b with
  | true => simp [Nat.eq_of_beq_eq_true h]
  | false => simp [Nat.ne_of_beq_eq_false h]
theorem ble_dec (a b : Nat) : Nat.ble a b = decide (a ≤ b) := by
  cases h : Nat.ble a b with
  | true => simp [Nat.le_of_ble_eq_true h]
  | false => 
    have : ¬ a ≤ b := fun hh => by rw [Nat.ble_eq_true_of_le hh] at h; cases h
    simp [this]
theorem blt_dec (a b : Nat) : Nat.blt a b = decide (a < b) := by
  show Nat.ble (a + 1) b = _
  rw [ble_dec]; rfl

attribute [go_sem] beq_dec ble_dec blt_dec decide_true decide_false
attribute [go_sem] DOps wantD callD yieldD evalOp evalX evalXs get_cons put_some put_none evalBox cellsOK thenQ blockQ constD plainV plain0 cellsD evalLoad cellsAt loadC evalStore evalAlloc evalLen evalAppend srcD fz fzL fzA fzAL listD evalIndexAddr evalFieldAddr evalField evalExtract evalConv evalMax evalOpt evalSlice evalCutS evalCutL bndD intOfD
  evalBuild evalBuildSlice fillD placesOf mkAgg allF putAt evalMakeMap evalLookup evalUpdate findD evalIndexS evalBin evalUn evalPlain plainX nonNil curD epOf elemsOk FVal.size St.setOb St.setAr litInt litBool litStr isSelect mkEnv resD tupD bodyQ isArr
attribute [go_sem] List.zipIdx_cons List.zipIdx_nil List.map_cons List.map_nil List.cons_append List.nil_append Option.bind_some Option.map_some Option.bind_none Option.map_none cond_true cond_false List.range'_succ List.range'_zero List.drop_zero List.drop_succ_cons List.take_succ_cons List.take_zero List.set_cons_zero List.set_cons_succ List.length_cons List.length_nil
  List.getElem?_cons_zero List.getElem?_cons_succ List.getElem?_append List.head?_cons List.all_cons List.all_nil Bool.and_true Bool.true_and Bool.and_false Bool.false_and List.zip_cons_cons List.zip_nil_left List.zip_nil_right if_true if_false Option.some.injEq Prod.mk.injEq
end Go.DL
