/-
  D-LOGIC, part K: one operation, calls aside.
-/
import Derived.Test.YtgfcgkkcakjodaaDoorEJ
import Derived.Laws.BytesArg
import Derived.Orders
set_option linter.unusedVariables false
set_option linter.unusedSimpArgs false
namespace Go.DL
open Go.RowKit

def numsF : List FVal → Option (List Int)
  | [] => some []
  | .lit (.int .u8 n) :: r => (numsF r).map (n :: ·)
  | _ => none
section
variable {P : Program} {B : Nat} {σ : St} {κ : Kap} {w : World}

theorem numsF_sound {S : Addr → Prop} : ∀ {es : List FVal} {us : List Value} {xs : List Int}, RepL S w es us → numsF es = some xs → us = xs.map (.int .u8)
  | [], us, xs, h, hn => by simp only [numsF, Option.some.injEq] at hn; subst hn; exact h.nil_inv
  | e :: es, us, xs, h, hn => by
    obtain ⟨v, us', rfl, h0, ht⟩ := h.cons_inv
    unfold numsF at hn
    split at hn
    · rename_i he; cases he
    · rename_i n r he
      simp only [List.cons.injEq] at he
      obtain ⟨rfl, rfl⟩ := he
      simp only [Option.map_eq_some_iff] at hn
      obtain ⟨xs', hx, rfl⟩ := hn
      rw [h0.of_lit.1, numsF_sound ht hx]; rfl
    · cases hn

def evalConv (P : Program) (s d : TypeId) (x : DVal) (σ : St) : Option (DVal × St) :=
  match x with
  | .f (.lit (.int _ n)) => match P.underlying s, P.underlying d with
    | some _, some (.int k) => some (.f (.lit (.int k (k.wrap n))), σ)
    | _, _ => none
  | .f (.lit (.string t)) => match P.underlying s, P.underlying d with
    | some .string, some .string => some (.f (.lit (.string t)), σ)
    | _, _ => none
  | _ => match P.underlying s, P.underlying d with
    | some (.slice e), some .string => (match P.underlying e with
      | some (.int .u8) => (listD σ x).bind fun l => (numsF l.2).map fun xs => (litStr (strOfNums xs), σ)
      | _ => none)
    | _, _ => none
theorem evalConv_sound (hI : Inv B σ κ w) {s t : TypeId} {x d : DVal} {v : Value} {σ' : St} (hx : Rep1 σ κ w x v) (h : evalConv P s t x σ = some (d, σ')) : Does P (convert s t v) B σ κ w d σ' := by
  unfold evalConv at h
  split at h
  · split at h
    · rename_i q n u k hs hd
      simp only [Option.some.injEq, Prod.mk.injEq] at h
      obtain ⟨rfl, rfl⟩ := h
      cases hx with
      | f hx _ =>
        have := hx.of_lit.1; subst this
        exact Does.same hI (v := .int k (k.wrap _)) (by simp [convert, run_underlying hs, run_underlying hd, Conv.intToInt]) (.f (.mk_lit rfl) .nil)
    · cases h
  · split at h
    · rename_i q hs hd
      simp only [Option.some.injEq, Prod.mk.injEq] at h
      obtain ⟨rfl, rfl⟩ := h
      cases hx with
      | f hx _ =>
        have := hx.of_lit.1; subst this
        exact Does.same hI (v := .string _) (by simp [convert, run_underlying hs, run_underlying hd]) (.f (.mk_lit rfl) .nil)
    · cases h
  · split at h
    · rename_i e hs hd
      split at h
      · rename_i he
        simp only [Option.bind_eq_some_iff, Option.map_eq_some_iff, Prod.mk.injEq] at h
        obtain ⟨⟨k, es⟩, hl, xs, hn, rfl, rfl⟩ := h
        obtain ⟨us, A, c, rfl, hr, hc, hks, hA, hm, _⟩ := listD_sound hI hx hl
        have hus := numsF_sound hr hn
        refine Does.same hI (v := .string (strOfNums xs)) ?_ (.f (.mk_lit rfl) .nil)
        cases us with
        | nil =>
          have : xs = [] := by simpa using hus.symm
          subst this
          rw [run_convert_bytes_string w s t e A _ c hs he hd]
          cases A <;> simp [Conv.bytesToString, loadCells, loadCellsFrom, strOfNums] <;> rfl
        | cons u us =>
          have hfl : flat (u :: us) = u :: us := by
            rw [hus]
            have : ∀ l : List Int, flat (l.map (Value.int .u8)) = l.map (Value.int .u8) := fun l => by
              induction l with
              | nil => rfl
              | cons b l ih => simp only [List.map_cons, flat_cons, ih]; rfl
            exact this _
          cases A with
          | none => have := (hA rfl).1; cases this
          | some a =>
            have hm := hm a rfl
            rw [hfl] at hm
            have h0 := hm 0 u rfl
            have hsp : a.spot = none := by
              have ha : a.add 0 = a := rfl
              rw [ha] at h0
              unfold World.cell? at h0
              split at h0
              · split at h0
                · cases h0
                · rename_i hs; cases ha' : a.spot <;> simp_all
              · cases h0
            obtain ⟨b, off, sp⟩ := a
            simp only at hsp; subst hsp
            refine run_convert_bytes_arg w s e hs he b off (u :: us).length c xs (by rw [hus]; simp) (fun i hi => ?_) t hd
            have := hm i (.int .u8 (xs.getD i 0)) (by rw [hus]; rw [hus] at hi; simp at hi; simp [List.getElem?_eq_getElem hi, List.getD_eq_getElem?_getD])
            rwa [add_none] at this
      · cases h
    · cases h

/-- What comes of plain values alone, whatever the operation. -/
def plainX (env : Env) (x : Operand) : Option Value := (evalX env x).bind DVal.plain?
def isSelect : Op → Bool | .select _ _ => true | _ => false
def evalPlain (P : Program) (o : Oper) (env : Env) : Option DVal :=
  bif o.op.operands.toList.all (fun x => (plainX env x).isSome) && !isSelect o.op then
    (pureRun P (execOp (fun x => (plainX env x).getD undef) o)).bind fun r => match r with | .value v => ofPlain v | _ => none
  else none
theorem evalPlain_sound {o : Oper} {env : Env} {a : Act} {d : DVal} (henv : REnv σ κ w env a) (h : evalPlain P o env = some d) : ∃ v, (execOp a.eval o).run P w = .ok (.value v) w ∧ Rep1 σ κ w d v := by
  unfold evalPlain at h
  cases hb : (o.op.operands.toList.all (fun x => (plainX env x).isSome) && !isSelect o.op) with
  | false => rw [hb] at h; cases h
  | true =>
    simp only [hb, cond_true, Option.bind_eq_some_iff] at h
    simp only [Bool.and_eq_true, Bool.not_eq_true'] at hb
    obtain ⟨r, hr, h⟩ := h
    have hsel : ∀ cs b, o.op ≠ .select cs b := fun cs b e => by rw [e] at hb; simp [isSelect] at hb
    have hcongr : execOp a.eval o = execOp (fun x => (plainX env x).getD undef) o := execOp_congr o hsel fun x hx => by
      obtain ⟨v, hv⟩ := Option.isSome_iff_exists.1 (List.all_eq_true.1 hb.1 x (by simpa using hx))
      simp only [hv, Option.getD_some]
      simp only [plainX, Option.bind_eq_some_iff] at hv
      obtain ⟨dx, hdx, hpx⟩ := hv
      exact DVal.plain_sound (evalX_sound henv hdx) hpx
    rw [hcongr]
    have := pureRun_sound P _ hr w
    split at h
    · exact ⟨_, this, ofPlain_sound h⟩
    · cases h

def evalOpt (env : Env) : Option Operand → Option (Option DVal)
  | none => some none
  | some x => (evalX env x).map some
theorem evalOpt_sound {env : Env} {a : Act} (henv : REnv σ κ w env a) {x : Option Operand} {o : Option DVal} (h : evalOpt env x = some o) : RepO σ κ w o (x.map a.eval) := by
  cases x with
  | none => simp only [evalOpt, Option.some.injEq] at h; subst h; trivial
  | some x =>
    simp only [evalOpt, Option.map_eq_some_iff] at h
    obtain ⟨d, hd, rfl⟩ := h
    exact evalX_sound henv hd

def evalMax (x y : DVal) : Option DVal := match x, y with
  | .f (.lit (.int k a)), .f (.lit (.int _ b)) => some (.f (.lit (.int k (if a < b then b else a))))
  | _, _ => none

def nonNil (σ : St) : DVal → Bool
  | .ptr _ _ | .ep _ => true
  | .fn (.func _) _ => true
  | .ap t g i off => curD σ (.ap t g i off)
  | _ => false

/-- Surely not nil. -/
def fullSl (σ : St) : DVal → Bool
  | .full _ (_ :: _) => true
  | .f (.sl _ (_ :: _)) => true
  | .arr t g => curD σ (.arr t g)
  | _ => false
def isNilC (P : Program) (t : TypeId) (σ : St) (dx : DVal) : Operand → Bool
  | .const (.slice none _ _) => (match P.underlying t with | some (.slice _) => fullSl σ dx | _ => false)
  | .const (.pointer none) => (match P.underlying t, dx with | some (.pointer _), .ptr _ _ => true | some (.pointer _), .ep _ => true | _, _ => false)
  | .const .nilFunc => (match P.underlying t, dx with | some (.func _ _ _), .fn _ _ => true | _, _ => false)
  | .const (.map none) => (match P.underlying t, dx with | some (.map _ _), .map _ => true | _, _ => false)
  | _ => false
def evalNil (P : Program) (op : BinOp) (t : TypeId) (y : Operand) (dx : DVal) (σ : St) : Option Bool :=
  match op with
  | .eql => bif isNilC P t σ dx y then some false else none
  | .neq => bif isNilC P t σ dx y then some true else none
  | _ => none
theorem fullSl_sound (hI : Inv B σ κ w) {d : DVal} {v : Value} (h : Rep1 σ κ w d v) (hb : fullSl σ d = true) : ∃ a l c, v = .slice (some a) l c := by
  cases h with
  | @f fv _ _ _ h _ =>
    cases fv with
    | lit _ => simp [fullSl] at hb
    | agg _ => simp [fullSl] at hb
    | sl k es =>
      cases es with
      | nil => simp [fullSl] at hb
      | cons e es =>
        obtain ⟨us, A, c, rfl, hr, _, _, hA, _⟩ := h.of_sl
        cases A with
        | some A => exact ⟨A, _, c, rfl⟩
        | none => obtain ⟨rfl, _⟩ := hA rfl; have := hr.length; simp at this
  | fnil _ => simp [fullSl] at hb
  | full _ _ _ _ => exact ⟨_, _, _, rfl⟩
  | arr h _ =>
    obtain ⟨a, ha, hg, hx⟩ := h
    simp only [fullSl, curD, ha] at hb
    have := hx (Nat.eq_of_beq_eq_true hb)
    subst this
    obtain ⟨us, _, _, _, hown⟩ := hI.arr _ a ha
    cases hv : κ.av _ with
    | slice A l c =>
      cases A with
      | some A => exact ⟨A, l, c, rfl⟩
      | none => rw [hv] at hown; simp [Value.ownBlock] at hown
    | _ => rw [hv] at hown; simp [Value.ownBlock] at hown
  | _ => simp [fullSl] at hb
theorem equal_nil {t : TypeId} {x y : Value} {w : World} (h : (∃ e a l c l' c', P.underlying t = some (.slice e) ∧ x = .slice (some a) l c ∧ y = .slice none l' c') ∨ (∃ e a, P.underlying t = some (.pointer e) ∧ x = .pointer (some a) ∧ y = .pointer none) ∨
    (∃ p q r f a b, P.underlying t = some (.func p q r) ∧ x = .func f a b ∧ y = .nilFunc) ∨ (∃ p q a, P.underlying t = some (.map p q) ∧ x = .map (some a) ∧ y = .map none)) :
    (binOp .eql t x y).run P w = .ok (.bool false) w ∧ (binOp .neq t x y).run P w = .ok (.bool true) w ∧ ∀ op a b, (eqGuard op t a b x y).run P w = .ok () w := by
  have key : ∀ d, (Op.equalIn (d + 1) t x y).run P w = .ok false w := by
    intro d
    rcases h with ⟨e, a, l, c, l', c', hu, rfl, rfl⟩ | ⟨e, a, hu, rfl, rfl⟩ | ⟨p, q, r, f, a, b, hu, rfl, rfl⟩ | ⟨p, q, a, hu, rfl, rfl⟩
    all_goals (unfold Op.equalIn; simp [run_underlying hu])
  have key : (Op.equal t x y).run P w = .ok false w := key 9999
  rcases h with ⟨e, a, l, c, l', c', hu, rfl, rfl⟩ | ⟨e, a, hu, rfl, rfl⟩ | ⟨p, q, r, f, a, b, hu, rfl, rfl⟩ | ⟨p, q, a, hu, rfl, rfl⟩
  all_goals refine ⟨?_, ?_, fun op a b => ?_⟩
  all_goals first
    | (cases op <;> simp [eqGuard]; done)
    | (simp [binOp, key]; done)
theorem isNilC_sound (hI : Inv B σ κ w) {t : TypeId} {d : DVal} {y : Operand} {v : Value} {a : Act} (h : Rep1 σ κ w d v) (hb : isNilC P t σ d y = true) :
    (binOp .eql t v (a.eval y)).run P w = .ok (.bool false) w ∧ (binOp .neq t v (a.eval y)).run P w = .ok (.bool true) w ∧ ∀ op p q, (eqGuard op t p q v (a.eval y)).run P w = .ok () w := by
  unfold isNilC at hb
  split at hb
  · split at hb
    · rename_i e hu
      obtain ⟨A, l, c, rfl⟩ := fullSl_sound hI h hb
      exact equal_nil (.inl ⟨e, A, l, c, _, _, hu, rfl, rfl⟩)
    · cases hb
  · split at hb
    · rename_i hu; cases h with | ptr _ _ => exact equal_nil (.inr (.inl ⟨_, _, hu, rfl, rfl⟩))
    · rename_i hu; cases h with | ep _ _ _ _ => exact equal_nil (.inr (.inl ⟨_, _, hu, rfl, rfl⟩))
    · cases hb
  · split at hb
    · rename_i hu; cases h with | fn _ _ => exact equal_nil (.inr (.inr (.inl ⟨_, _, _, _, _, _, hu, rfl, rfl⟩)))
    · cases hb
  · split at hb
    · rename_i hu; cases h with | map _ _ => exact equal_nil (.inr (.inr (.inr ⟨_, _, _, hu, rfl, rfl⟩)))
    · cases hb
  · cases hb

/-- One operation that is no call of a function. -/
def evalOp (P : Program) (o : Oper) (env : Env) (σ : St) : Option (DVal × St) :=
  match o.op with
  | .move x => (evalX env x).map (·, σ)
  | .assign x => (evalX env x).map (·, σ)
  | .pick c a b => (evalX env c).bind fun d => match d with
    | .f (.lit (.bool t)) => (bif t then evalX env a else evalX env b).map (·, σ)
    | _ => none
  | .alloc t => evalAlloc P t σ
  | .box t x => (evalX env x).bind fun d => evalBox t d σ
  | .build t ps => (evalXs env (ps.toList.map (·.2))).bind fun ds => (evalBuild P t ((ps.toList.map (·.1)).zip ds) σ).map (·, σ)
  | .buildSlice t n ps => (evalXs env (ps.toList.map (·.2))).bind fun ds => evalBuildSlice P t n ((ps.toList.map (·.1)).zip ds) σ
  | .load t a => (evalX env a).bind fun d => (evalLoad P t d σ).map (·, σ)
  | .store t a x => (evalX env a).bind fun p => (evalX env x).bind fun d => (evalStore P t p d σ).map fun σ' => (.tup [], σ')
  | .nilCheck x => (evalX env x).bind fun d => bif nonNil σ d then some (d, σ) else none
  | .binOp op t x y ty => (evalX env x).bind fun dx => (evalX env y).bind fun dy => match dx, dy with
    | .f (.lit (.int k a)), .f (.lit b) => (evalBin op (.int k a) b).map fun v => (.f (.lit v), σ)
    | .f (.lit (.string s)), .f (.lit b) => (evalBin op (.string s) b).map fun v => (.f (.lit v), σ)
    | dx, dy => match evalNil P op t y dx σ with
      | some b => some (.f (.lit (.bool b)), σ)
      | none => (evalPlain P o env).map (·, σ)
  | .unOp op t x => (evalX env x).bind fun d => match d with
    | .f (.lit v) => (evalUn op v).map fun u => (.f (.lit u), σ)
    | _ => none
  | .convert s t x => (evalX env x).bind fun d => evalConv P s t d σ
  | .makeFunc fn first caps => bif Nat.beq first.size 0 then (evalXs env caps.toList).map fun ds => (.fn fn ds, σ) else none
  | .makeMap t none => some (evalMakeMap σ)
  | .slice t x lo hi mx => (evalX env x).bind fun d => (evalOpt env lo).bind fun l => (evalOpt env hi).bind fun h => (evalOpt env mx).bind fun m => evalSlice P t d l h m σ
  | .fieldAddr s x f => (evalX env x).bind fun d => (evalFieldAddr P s d f σ).map (·, σ)
  | .field s x f => (evalX env x).bind fun d => (evalField P s d f).map (·, σ)
  | .indexAddr t x i => (evalX env x).bind fun d => (evalX env i).bind fun j => (evalIndexAddr P t d j σ).map (·, σ)
  | .index t x i => (evalX env x).bind fun d => (evalX env i).bind fun j => (evalIndexS P t d j).map (·, σ)
  | .lookup t x k ok => (evalX env x).bind fun d => (evalX env k).bind fun j => (evalLookup P t d j ok σ).map (·, σ)
  | .mapUpdate t m k x => (evalX env m).bind fun d => (evalX env k).bind fun j => (evalX env x).bind fun y => (evalUpdate P t d j y σ).map fun σ' => (.tup [], σ')
  | .insert t m k x => (evalX env m).bind fun d => (evalX env k).bind fun j => (evalX env x).bind fun y => (evalUpdate P t d j y σ).map fun σ' => (.tup [], σ')
  | .extract x i => (evalX env x).bind fun d => (evalExtract d i).map (·, σ)
  | .call { callee := .builtin .len, args := as, argTypes := ts } => match as.toList, ts.toList with
    | [x], [t] => (evalX env x).bind fun d => (evalLen P t d σ).map (·, σ)
    | _, _ => none
  | .call { callee := .builtin .append, args := as, argTypes := ts } => match as.toList, ts.toList with
    | [s, x], [t, tx] => (evalX env s).bind fun d => (evalX env x).bind fun e => evalAppend P t tx d e σ
    | _, _ => none
  | .call { callee := .builtin .max, args := as, argTypes := _ } => match as.toList with
    | [x, y] => (evalX env x).bind fun d => (evalX env y).bind fun e => (evalMax d e).map (·, σ)
    | _ => none
  | .makeInterface .. => (evalPlain P o env).map (·, σ)
  | .typeAssert .. => (evalPlain P o env).map (·, σ)
  | .call { callee := .value _, .. } => (evalPlain P o env).map (·, σ)
  | _ => none

def DoesN (P : Program) (s : Sem Next) (B : Nat) (σ : St) (κ : Kap) (w : World) (d : DVal) (σ' : St) : Prop :=
  ∃ v w' κ', (s.run P w = .ok (.value v) w' ∨ (s.run P w = .ok .skip w' ∧ v = undef)) ∧ Inv B σ' κ' w' ∧ Ext B σ κ w σ' κ' w' ∧ Rep1 σ' κ' w' d v
theorem DoesN.of {s : Sem Value} {d : DVal} {σ' : St} (h : Does P s B σ κ w d σ') : DoesN P (do pure (.value (← s))) B σ κ w d σ' := by
  obtain ⟨v, w', κ', h1, h2, h3, h4⟩ := h
  exact ⟨v, w', κ', .inl (by simp only [Sem.run_bind, h1, Result.andThen_ok, Sem.run_pure]), h2, h3, h4⟩
theorem DoesN.pure (hI : Inv B σ κ w) {s : Sem Value} {d : DVal} (h : ∃ u, s.run P w = .ok u w ∧ Rep1 σ κ w d u) : DoesN P (do pure (.value (← s))) B σ κ w d σ := by
  obtain ⟨u, h1, h2⟩ := h
  exact DoesN.of (Does.same hI h1 h2)
theorem zip_fst_snd {α β : Type} : ∀ {l : List α} {m : List β}, l.length = m.length → ((l.zip m).map (·.1) = l ∧ (l.zip m).map (·.2) = m)
  | [], [], _ => ⟨rfl, rfl⟩
  | a :: l, b :: m, h => by
    have := zip_fst_snd (l := l) (m := m) (by simpa using h)
    simp [this.1, this.2]
  | [], b :: m, h => by simp at h
  | a :: l, [], h => by simp at h
theorem evalXs_length {env : Env} : ∀ {xs : List Operand} {ds : List DVal}, evalXs env xs = some ds → ds.length = xs.length
  | [], ds, h => by simp only [evalXs, Option.some.injEq] at h; subst h; rfl
  | x :: xs, ds, h => by
    simp only [evalXs, Option.bind_eq_some_iff, Option.some.injEq] at h
    obtain ⟨d, _, ds', h', rfl⟩ := h
    simp [evalXs_length h']
theorem parts_map (ps : Array (Nat × Operand)) (ρ : Operand → Value) : (ps.map fun (i, x) => (i, ρ x)) = ((ps.toList.map (·.1)).zip ((ps.toList.map (·.2)).map ρ)).toArray := by
  apply Array.ext'
  simp only [Array.toList_map]
  generalize ps.toList = l
  induction l with
  | nil => rfl
  | cons p l ih => obtain ⟨i, x⟩ := p; simp only [List.map_cons, List.zip_cons_cons, ih]

theorem evalOp_sound (hI : Inv B σ κ w) {o : Oper} {env : Env} {a : Act} {d : DVal} {σ' : St} (henv : REnv σ κ w env a) (h : evalOp P o env σ = some (d, σ')) : DoesN P (execOp a.eval o) B σ κ w d σ' := by
  have one : ∀ {s : Sem Value} {d' : DVal}, (∃ u, s.run P w = .ok u w ∧ Rep1 σ κ w d' u) → d' = d → σ = σ' → DoesN P (do pure (.value (← s))) B σ κ w d σ' := fun h1 h2 h3 => by subst h2; subst h3; exact DoesN.pure hI h1
  have X := fun {x : Operand} {e : DVal} (hx : evalX env x = some e) => evalX_sound henv hx
  have plain : (evalPlain P o env).map (·, σ) = some (d, σ') → DoesN P (execOp a.eval o) B σ κ w d σ' := fun h => by
    simp only [Option.map_eq_some_iff, Prod.mk.injEq] at h
    obtain ⟨d', hd, rfl, rfl⟩ := h
    obtain ⟨v, hv, hr⟩ := evalPlain_sound henv hd
    exact ⟨v, w, κ, .inl hv, hI, Ext.refl _ _ _ _, hr⟩
  unfold evalOp at h
  split at h
  · rename_i x heq
    simp only [Option.map_eq_some_iff, Prod.mk.injEq] at h
    obtain ⟨d', hd, rfl, rfl⟩ := h
    exact ⟨a.eval x, w, κ, .inl (by simp only [execOp, heq, Sem.run_pure]), hI, Ext.refl _ _ _ _, X hd⟩
  · rename_i x heq
    simp only [Option.map_eq_some_iff, Prod.mk.injEq] at h
    obtain ⟨d', hd, rfl, rfl⟩ := h
    exact ⟨a.eval x, w, κ, .inl (by simp only [execOp, heq, Sem.run_pure]), hI, Ext.refl _ _ _ _, X hd⟩
  · rename_i c x y heq
    simp only [Option.bind_eq_some_iff] at h
    obtain ⟨dc, hc, h⟩ := h
    split at h
    · rename_i t
      simp only [Option.map_eq_some_iff, Prod.mk.injEq] at h
      obtain ⟨d', hd, rfl, rfl⟩ := h
      have hcv : a.eval c = .bool t := by have := X hc; cases this with | f h _ => exact h.of_lit.1
      cases t with
      | true => exact ⟨a.eval x, w, κ, .inl (by simp [execOp, heq, hcv, asBool]), hI, Ext.refl _ _ _ _, X hd⟩
      | false => exact ⟨a.eval y, w, κ, .inl (by simp [execOp, heq, hcv, asBool]), hI, Ext.refl _ _ _ _, X hd⟩
    · cases h
  · rename_i t heq
    have := DoesN.of (evalAlloc_sound (P := P) hI h)
    simpa only [execOp, heq] using this
  · rename_i t x heq
    simp only [Option.bind_eq_some_iff] at h
    obtain ⟨dx, hx, h⟩ := h
    have := DoesN.of (evalBox_sound (P := P) hI (X hx) h)
    simpa only [execOp, heq] using this
  · rename_i t ps heq
    simp only [Option.bind_eq_some_iff, Option.map_eq_some_iff, Prod.mk.injEq] at h
    obtain ⟨ds, hds, d', hd, rfl, rfl⟩ := h
    have hz := zip_fst_snd (l := ps.toList.map (·.1)) (m := ds) (by have := evalXs_length hds; simpa using this.symm)
    have := DoesN.of (evalBuild_sound (P := P) hI (by rw [hz.2]; exact evalXs_sound henv hds) hd)
    rw [hz.1] at this
    simpa only [execOp, heq, parts_map] using this
  · rename_i t n ps heq
    simp only [Option.bind_eq_some_iff] at h
    obtain ⟨ds, hds, hd⟩ := h
    have hz := zip_fst_snd (l := ps.toList.map (·.1)) (m := ds) (by have := evalXs_length hds; simpa using this.symm)
    have := DoesN.of (evalBuildSlice_sound (P := P) hI (by rw [hz.2]; exact evalXs_sound henv hds) hd)
    rw [hz.1] at this
    simpa only [execOp, heq, parts_map] using this
  · rename_i t x heq
    simp only [Option.bind_eq_some_iff, Option.map_eq_some_iff, Prod.mk.injEq] at h
    obtain ⟨dx, hx, d', hd, h1, h2⟩ := h
    have := one (evalLoad_sound (P := P) hI (X hx) hd) h1 h2
    simpa only [execOp, heq] using this
  · rename_i t p x heq
    simp only [Option.bind_eq_some_iff, Option.map_eq_some_iff, Prod.mk.injEq] at h
    obtain ⟨dp, hp, dx, hx, σ1, hd, rfl, rfl⟩ := h
    obtain ⟨w', κ', hrun, hI', hE⟩ := evalStore_sound (P := P) hI (X hp) (X hx) hd
    exact ⟨undef, w', κ', .inr ⟨by simp only [execOp, heq, Sem.run_bind, hrun, Result.andThen_ok, Sem.run_pure], rfl⟩, hI', hE, .tup (us := []) .nil .nil⟩
  · rename_i x heq
    simp only [Option.bind_eq_some_iff] at h
    obtain ⟨dx, hx, h⟩ := h
    cases hb : nonNil σ dx with
    | false => simp [hb] at h
    | true =>
      simp only [hb, cond_true, Option.some.injEq, Prod.mk.injEq] at h
      obtain ⟨rfl, rfl⟩ := h
      have hr := X hx
      refine ⟨a.eval x, w, κ, .inl ?_, hI, Ext.refl _ _ _ _, hr⟩
      have hform : (∃ q, a.eval x = .pointer (some q)) ∨ ∃ q ys zs, a.eval x = .func (.func q) ys zs := by
        generalize a.eval x = v at hr
        cases hr with
        | ptr => exact .inl ⟨_, rfl⟩
        | ep => exact .inl ⟨_, rfl⟩
        | ap hap ht0 =>
          simp only [nonNil, curD] at hb
          split at hb
          · rename_i aa ha
            obtain ⟨a', ha', _, hx'⟩ := hap
            rw [ha] at ha'; cases ha'
            exact .inl ⟨_, hx' (Nat.eq_of_beq_eq_true hb)⟩
          · cases hb
        | fn r ht0 =>
          rename_i g caps us
          cases g <;> simp [nonNil] at hb
          exact .inr ⟨_, _, _, rfl⟩
        | _ => simp [nonNil] at hb
      rcases hform with ⟨q, hq⟩ | ⟨q, ys, zs, hq⟩ <;> simp [execOp, heq, hq]
  · rename_i op t x y ty heq
    simp only [Option.bind_eq_some_iff] at h
    obtain ⟨dx, hx, dy, hy, h⟩ := h
    have hex : execOp a.eval o = (do let v ← (do eqGuard op t x y (a.eval x) (a.eval y); binOp op t (a.eval x) (a.eval y)); pure (.value v)) := by simp only [execOp, heq]
    split at h
    · rename_i k n b
      simp only [Option.map_eq_some_iff, Prod.mk.injEq] at h
      obtain ⟨v, hv, rfl, rfl⟩ := h
      have h1 : a.eval x = .int k n := by have := X hx; cases this with | f h _ => exact h.of_lit.1
      have h2 : a.eval y = b := by have := X hy; cases this with | f h _ => exact h.of_lit.1
      obtain ⟨hr, hp⟩ := evalBin_sound P w op t x y hv
      rw [hex, h1, h2]
      exact DoesN.pure hI ⟨v, hr, .f (.mk_lit hp) .nil⟩
    · rename_i s b
      simp only [Option.map_eq_some_iff, Prod.mk.injEq] at h
      obtain ⟨v, hv, rfl, rfl⟩ := h
      have h1 : a.eval x = .string s := by have := X hx; cases this with | f h _ => exact h.of_lit.1
      have h2 : a.eval y = b := by have := X hy; cases this with | f h _ => exact h.of_lit.1
      obtain ⟨hr, hp⟩ := evalBin_sound P w op t x y hv
      rw [hex, h1, h2]
      exact DoesN.pure hI ⟨v, hr, .f (.mk_lit hp) .nil⟩
    · split at h
      · rename_i b hb
        simp only [Option.some.injEq, Prod.mk.injEq] at h
        obtain ⟨rfl, rfl⟩ := h
        unfold evalNil at hb
        split at hb
        · cases hn : isNilC P t σ dx y with
          | false => simp [hn] at hb
          | true =>
            simp only [hn, cond_true, Option.some.injEq] at hb; subst hb
            obtain ⟨h1, _, h2⟩ := isNilC_sound (P := P) (a := a) hI (X hx) hn
            rw [hex]
            refine DoesN.pure hI ⟨.bool false, ?_, .f (.mk_lit rfl) .nil⟩
            simp only [Sem.run_bind, h2, Result.andThen_ok, h1]
        · cases hn : isNilC P t σ dx y with
          | false => simp [hn] at hb
          | true =>
            simp only [hn, cond_true, Option.some.injEq] at hb; subst hb
            obtain ⟨_, h1, h2⟩ := isNilC_sound (P := P) (a := a) hI (X hx) hn
            rw [hex]
            refine DoesN.pure hI ⟨.bool true, ?_, .f (.mk_lit rfl) .nil⟩
            simp only [Sem.run_bind, h2, Result.andThen_ok, h1]
        · cases hb
      · exact plain h
  · rename_i op t x heq
    simp only [Option.bind_eq_some_iff] at h
    obtain ⟨dx, hx, h⟩ := h
    split at h
    · rename_i b
      simp only [Option.map_eq_some_iff, Prod.mk.injEq] at h
      obtain ⟨v, hv, rfl, rfl⟩ := h
      have h1 : a.eval x = b := by have := X hx; cases this with | f h _ => exact h.of_lit.1
      obtain ⟨hr, hp⟩ := evalUn_sound P w op hv
      have := DoesN.pure (P := P) (d := .f (.lit v)) hI ⟨v, hr, .f (.mk_lit hp) .nil⟩
      simpa only [execOp, heq, h1] using this
    · cases h
  · rename_i s t x heq
    simp only [Option.bind_eq_some_iff] at h
    obtain ⟨dx, hx, h⟩ := h
    have := DoesN.of (evalConv_sound (P := P) hI (X hx) h)
    simpa only [execOp, heq] using this
  · rename_i fn first caps heq
    cases hb : Nat.beq first.size 0 with
    | false => simp [hb] at h
    | true =>
      simp only [hb, cond_true, Option.map_eq_some_iff, Prod.mk.injEq] at h
      obtain ⟨ds, hds, rfl, rfl⟩ := h
      have hf : first = #[] := Array.eq_empty_of_size_eq_zero (Nat.eq_of_beq_eq_true hb)
      have hr := evalXs_sound henv hds
      have hc : caps.map a.eval = (caps.toList.map a.eval).toArray := by apply Array.ext'; simp
      exact ⟨.func fn #[] (caps.toList.map a.eval).toArray, w, κ, .inl (by simp [execOp, heq, hf, Instr.makeFunc]; exact hc), hI, Ext.refl _ _ _ _, .fn hr .nil⟩
  · rename_i t heq
    simp only [Option.some.injEq] at h
    have := DoesN.of (evalMakeMap_sound (P := P) (t := t) hI)
    rw [h] at this
    simpa only [execOp, heq, Option.map_none] using this
  · rename_i t x lo hi mx heq
    simp only [Option.bind_eq_some_iff] at h
    obtain ⟨dx, hx, l, hl, hh, hhh, m, hm, h⟩ := h
    have := DoesN.of (evalSlice_sound (P := P) hI (X hx) (evalOpt_sound henv hl) (evalOpt_sound henv hhh) (evalOpt_sound henv hm) h)
    simpa only [execOp, heq] using this
  · rename_i s x f heq
    simp only [Option.bind_eq_some_iff, Option.map_eq_some_iff, Prod.mk.injEq] at h
    obtain ⟨dx, hx, d', hd, h1, h2⟩ := h
    have := one (evalFieldAddr_sound (P := P) hI (X hx) hd) h1 h2
    simpa only [execOp, heq] using this
  · rename_i s x f heq
    simp only [Option.bind_eq_some_iff, Option.map_eq_some_iff, Prod.mk.injEq] at h
    obtain ⟨dx, hx, d', hd, h1, h2⟩ := h
    have := one (evalField_sound (P := P) (X hx) hd) h1 h2
    simpa only [execOp, heq] using this
  · rename_i t x i heq
    simp only [Option.bind_eq_some_iff, Option.map_eq_some_iff, Prod.mk.injEq] at h
    obtain ⟨dx, hx, di, hi, d', hd, h1, h2⟩ := h
    have := one (evalIndexAddr_sound (P := P) hI (X hx) (X hi) hd) h1 h2
    simpa only [execOp, heq] using this
  · rename_i t x i heq
    simp only [Option.bind_eq_some_iff, Option.map_eq_some_iff, Prod.mk.injEq] at h
    obtain ⟨dx, hx, di, hi, d', hd, h1, h2⟩ := h
    have := one (evalIndexS_sound (P := P) (X hx) (X hi) hd) h1 h2
    simpa only [execOp, heq] using this
  · rename_i t x k ok heq
    simp only [Option.bind_eq_some_iff, Option.map_eq_some_iff, Prod.mk.injEq] at h
    obtain ⟨dx, hx, di, hi, d', hd, h1, h2⟩ := h
    have := one (evalLookup_sound (P := P) hI (X hx) (X hi) hd) h1 h2
    simpa only [execOp, heq] using this
  · rename_i t m k x heq
    simp only [Option.bind_eq_some_iff, Option.map_eq_some_iff, Prod.mk.injEq] at h
    obtain ⟨dm, hm, dk, hk, dx, hx, σ1, hd, rfl, rfl⟩ := h
    obtain ⟨w', hrun, hI', hE⟩ := evalUpdate_sound (P := P) hI (X hm) (X hk) (X hx) hd
    exact ⟨undef, w', κ, .inr ⟨by simp only [execOp, heq, Sem.run_bind, hrun, Result.andThen_ok, Sem.run_pure], rfl⟩, hI', hE, .tup (us := []) .nil .nil⟩
  · rename_i t m k x heq
    simp only [Option.bind_eq_some_iff, Option.map_eq_some_iff, Prod.mk.injEq] at h
    obtain ⟨dm, hm, dk, hk, dx, hx, σ1, hd, rfl, rfl⟩ := h
    obtain ⟨w', hrun, hI', hE⟩ := evalUpdate_sound (P := P) hI (X hm) (X hk) (X hx) hd
    exact ⟨undef, w', κ, .inr ⟨by simp only [execOp, heq, Sem.run_bind, hrun, Result.andThen_ok, Sem.run_pure], rfl⟩, hI', hE, .tup (us := []) .nil .nil⟩
  · rename_i x i heq
    simp only [Option.bind_eq_some_iff, Option.map_eq_some_iff, Prod.mk.injEq] at h
    obtain ⟨dx, hx, d', hd, h1, h2⟩ := h
    have := one (evalExtract_sound (P := P) (X hx) hd) h1 h2
    simpa only [execOp, heq] using this
  · rename_i as ts heq
    split at h
    · rename_i x t hx ht
      obtain ⟨as⟩ := as; obtain ⟨ts⟩ := ts
      simp only at hx ht; subst hx; subst ht
      simp only [Option.bind_eq_some_iff, Option.map_eq_some_iff, Prod.mk.injEq] at h
      obtain ⟨dx, hx, d', hd, h1, h2⟩ := h
      have := one (evalLen_sound (P := P) (ty := o.type) hI (X hx) hd) h1 h2
      simpa [execOp, heq, resolve, invoke, builtin] using this
    · cases h
  · rename_i as ts heq
    split at h
    · rename_i s x t tx hx ht
      obtain ⟨as⟩ := as; obtain ⟨ts⟩ := ts
      simp only at hx ht; subst hx; subst ht
      simp only [Option.bind_eq_some_iff] at h
      obtain ⟨ds, hs, dx, hx, h⟩ := h
      have := DoesN.of (evalAppend_sound (P := P) (ty := o.type) hI (X hs) (X hx) h)
      simpa [execOp, heq, resolve, invoke, builtin] using this
    · cases h
  · rename_i as ts heq
    split at h
    · rename_i x y hx
      obtain ⟨as⟩ := as
      simp only at hx; subst hx
      simp only [Option.bind_eq_some_iff, Option.map_eq_some_iff, Prod.mk.injEq] at h
      obtain ⟨dx, hx, dy, hy, d', hd, rfl, rfl⟩ := h
      unfold evalMax at hd
      split at hd
      · rename_i k m k' n
        simp only [Option.some.injEq] at hd; subst hd
        have h1 : a.eval x = .int k m := by have := X hx; cases this with | f h _ => exact h.of_lit.1
        have h2 : a.eval y = .int k' n := by have := X hy; cases this with | f h _ => exact h.of_lit.1
        exact ⟨.int k (if m < n then n else m), w, κ, .inl (by simp [execOp, heq, resolve, invoke, builtin, Builtin.max_, Builtin.max2, h1, h2]), hI, Ext.refl _ _ _ _, .f (.mk_lit rfl) .nil⟩
      · cases hd
    · cases h
  · exact plain h
  · exact plain h
  · exact plain h
  · cases h
end
end Go.DL
