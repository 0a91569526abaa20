/-
  D-LOGIC, part L: fences, marks among the deferred calls, the records of ranges over functions.
-/
import Derived.Test.YtgfcgkkcakjodaaDoorEK
set_option linter.unusedVariables false
set_option linter.unusedSimpArgs false
namespace Go.DL
open Go.RowKit

/-! ### Fences -/
def fen (ro : Option Nat) : Fence := { Fence.wide with round := ro }
theorem fen_room (ro : Option Nat) (n : Nat) : (fen ro).room n := fun _ h => by simp [fen, Fence.wide] at h
theorem fen_depth {ro : Option Nat} {n : Nat} : (fen ro).depth.isSome = true → 1 ≤ n := by simp [fen, Fence.wide]
theorem callsIn_fen {ro : Option Nat} {n : Nat} {P : Program} {f : FuncId} {args : Array Value} {w : World} {R : Ending → World → Prop} (h : Calls P f args w R) : CallsIn (fen ro) n P f args w R := by
  cases ro with
  | none => exact callsIn_wide.2 h
  | some l => exact (callsIn_wide.2 h : CallsIn Fence.wide n P f args w R)

/-- Code without a range over a function. -/
def flatC : Code → Bool
  | .rangeFunc _ _ _ _ => false
  | .seq a b | .cond _ a b => flatC a && flatC b
  | .block _ a | .loop a | .scope a => flatC a
  | _ => true

/-! ### Marks -/
def markOf (r : Nat) : Deferred := { target := .collected r, args := #[] }
def Marks (M : Nat) (κ : Kap) (w : World) (ds : List Deferred) : Prop := ∃ rs : List Nat, ds = rs.map markOf ∧ rs.Nodup ∧ ∀ r ∈ rs, M ≤ r ∧ κ.T r ∧ w.heap[r]? = some (.deferred (some []))
def Kap.withT (κ : Kap) (T : Nat → Prop) : Kap := { κ with T := T }
section
variable {B M : Nat} {σ σ' : St} {κ κ' : Kap} {w w' : World}
theorem Marks.nil : Marks M κ w [] := ⟨[], rfl, List.nodup_nil, by simp⟩
theorem Marks.ext {ds : List Deferred} (h : Marks M κ w ds) (e : Ext B σ κ w σ' κ' w') : Marks M κ' w' ds := by
  obtain ⟨rs, h1, h2, h3⟩ := h
  exact ⟨rs, h1, h2, fun r hr => ⟨(h3 r hr).1, e.T r (h3 r hr).2.1, (e.blk r (h3 r hr).2.1).trans (h3 r hr).2.2⟩⟩
theorem RepD.withT {T : Nat → Prop} {ds vs} (h : RepD σ κ w ds vs) : RepD σ (κ.withT T) w ds vs := by
  induction h with
  | nil => exact .nil
  | f h t ih => exact .f h ih
  | fnil t ih => exact .fnil ih
  | full r hk hm t ih => exact .full r hk hm ih
  | arr h t ih => exact .arr h ih
  | ptr h t ih => exact .ptr (κ := κ.withT T) h ih
  | ep r h1 hm t ih => exact .ep r h1 hm ih
  | ap h t ih => exact .ap h ih
  | fn r t ih1 ih2 => exact .fn ih1 ih2
  | map h t ih => exact .map (κ := κ.withT T) h ih
  | agg r h1 t ih1 ih2 => exact .agg ih1 h1 ih2
  | tup r t ih1 ih2 => exact .tup ih1 ih2
  | yld h t ih => exact .yld (κ := κ.withT T) h ih
theorem ObOK.withT {T : Nat → Prop} {b : Nat} {o : Ob} (h : ObOK σ κ w b o) : ObOK σ (κ.withT T) w b o := by
  cases o with
  | cells cs =>
    obtain ⟨us, t, h1, h2, h3⟩ := h
    exact ⟨us, t, h1, h2.withT, h3⟩
  | map es =>
    obtain ⟨xs, c, h1, h2, h3⟩ := h
    exact ⟨xs, c, h1, h2.withT, h3⟩
  | loop n env ps asg body st jump =>
    obtain ⟨fn, tm, r, h1, h2, h3⟩ := h
    exact ⟨fn, tm, r, h1, h2, fun t d ht => by
      obtain ⟨v, hv, hr⟩ := h3 t d ht
      exact ⟨v, hv, hr.withT⟩⟩
  | dead => trivial
/-- Other blocks that are to stay. -/
theorem Inv.withT (h : Inv B σ κ w) (T : Nat → Prop) (h1 : ∀ b, T b → b < w.heap.size) (h2 : ∀ b, T b → ∀ i, i < σ.objs.length → b ≠ κ.ob i) (h3 : ∀ b, T b → ∀ i, i < σ.arrs.length → b ≠ κ.ab i) : Inv B σ (κ.withT T) w :=
  ⟨h.base, fun i o ho => (h.obj i o ho).withT, h.objB, fun t a ha => h.arr t a ha, h.injO, h.injA, h.disj, h.sObj, h.sArr, h.sLt, h.fl, h.old, h1, h2, h3⟩
theorem Inv.restrict (h : Inv B σ κ w) (T : Nat → Prop) (hs : ∀ b, T b → κ.T b) : Inv B σ (κ.withT T) w :=
  h.withT T (fun b hb => h.tLt b (hs b hb)) (fun b hb => h.tObj b (hs b hb)) (fun b hb => h.tArr b (hs b hb))

/-- A new mark's block. -/
theorem Inv.mark_on (h : Inv B σ κ w) : Inv B σ (κ.withT fun b => κ.T b ∨ b = w.heap.size) (w.alloc (.deferred (some []))) ∧ Ext B σ κ w σ (κ.withT fun b => κ.T b ∨ b = w.heap.size) (w.alloc (.deferred (some []))) := by
  obtain ⟨h', e⟩ := h.grow_same (below_alloc' w (.deferred (some [])))
  refine ⟨h'.withT _ ?_ ?_ ?_, ⟨e.objs, e.ob, e.arrs, e.S, e.cell, e.below, fun b hb => .inl hb, e.blk⟩⟩
  · rintro b (hb | rfl)
    · exact h'.tLt b hb
    · simp
  · rintro b (hb | rfl) i hi
    · exact h.tObj b hb i hi
    · exact (Nat.ne_of_lt (h.objB i hi).2).symm
  · rintro b (hb | rfl) i hi
    · exact h.tArr b hb i hi
    · obtain ⟨a, ha⟩ : ∃ a, σ.arrs[i]? = some a := ⟨_, List.getElem?_eq_getElem hi⟩
      exact (Nat.ne_of_lt (h.arr i a ha).lt.1).symm

theorem Marks.on {ds : List Deferred} (hI : Inv B σ κ w) (h : Marks M κ w ds) (hM : M ≤ w.heap.size) : Marks M (κ.withT fun b => κ.T b ∨ b = w.heap.size) (w.alloc (.deferred (some []))) (markOf w.heap.size :: ds) := by
  have hE := hI.mark_on.2
  obtain ⟨rs, h1, h2, h3⟩ := h.ext hE
  obtain ⟨rs', h1', _, h3'⟩ := h
  refine ⟨w.heap.size :: rs, by rw [h1]; rfl, List.nodup_cons.2 ⟨fun hm => ?_, h2⟩, fun r hr => ?_⟩
  · have hrr : rs = rs' := by
      have : rs.map markOf = rs'.map markOf := by rw [← h1, ← h1']
      have inj : ∀ (a b : List Nat), a.map markOf = b.map markOf → a = b := by
        intro a
        induction a with
        | nil => intro b hb; cases b with | nil => rfl | cons => simp at hb
        | cons x a ih => intro b hb; cases b with
          | nil => simp at hb
          | cons y b =>
            simp only [List.map_cons, List.cons.injEq] at hb
            have hxy : x = y := by have := hb.1; simp only [markOf, Deferred.mk.injEq, Target.collected.injEq] at this; exact this.1
            rw [hxy, ih b hb.2]
      exact inj _ _ this
    rw [hrr] at hm
    have := hI.tLt _ (h3' _ hm).2.1
    omega
  · rcases List.mem_cons.1 hr with rfl | hr
    · exact ⟨hM, .inr rfl, heap_alloc_new _ _⟩
    · exact h3 r hr

/-- A mark's block is shut. -/
theorem Inv.mark_off (h : Inv B σ κ w) {r : Nat} {o : Option (List Deferred)} (hr : w.heap[r]? = some (.deferred o)) (hB : B ≤ r) (hT : ∀ b, κ.T b → b ≠ r) (hO : ∀ i, i < σ.objs.length → r ≠ κ.ob i) (hA : ∀ i, i < σ.arrs.length → r ≠ κ.ab i) :
    Inv B σ κ (w.putObj r (.deferred none)) ∧ Ext B σ κ w σ κ (w.putObj r (.deferred none)) := by
  have hoth : ∀ b, b ≠ r → (w.putObj r (.deferred none)).heap[b]? = w.heap[b]? := fun b hb => World.putObj_heap_other hb
  have hrl : r < w.heap.size := (Array.getElem?_eq_some_iff.1 hr).1
  have hc : ∀ p, (w.putObj r (.deferred none)).cell? p = w.cell? p := fun p => by
    by_cases hp : p.block = r
    · have h1 : (w.putObj r (.deferred none)).heap[p.block]? = some (.deferred none) := by rw [hp]; exact World.putObj_heap_same hrl
      have h2 : w.heap[p.block]? = some (.deferred o) := by rw [hp]; exact hr
      simp [World.cell?, h1, h2]
    · exact World.cell?_of_block (hoth _ hp)
  have e : Ext B σ κ w σ κ (w.putObj r (.deferred none)) := ⟨Nat.le_refl _, fun _ _ => rfl, fun t a ha => ⟨a, ha, Nat.le_refl _, fun _ => ⟨rfl, rfl, rfl⟩⟩, fun _ h => h, fun p _ => hc p,
    ⟨rfl, rfl, rfl, by simp, fun k hk => hoth k (by omega)⟩, fun _ h => h, fun b hb => hoth b (hT b hb)⟩
  refine ⟨⟨by simpa using h.base, fun i x hx => ?_, fun i hi => by simpa using h.objB i hi, fun t a ha => ?_, h.injO, h.injA, h.disj, h.sObj, h.sArr, fun p hp => by simpa using h.sLt p hp, h.fl, h.old, fun b hb => by simpa using h.tLt b hb, h.tObj, h.tArr⟩, e⟩
  · exact (h.obj i x hx).keep e (hoth _ fun he => hO i (List.getElem?_eq_some_iff.1 hx).1 he.symm)
  · exact (h.arr t a ha).keep (fun _ h => h) (fun p _ => hc p) rfl rfl (hoth _ fun he => hA t (List.getElem?_eq_some_iff.1 ha).1 he.symm)

theorem Ext.fromT {κ1 : Kap} {σ1 : St} {w1 : World} (e : Ext B σ κ w σ' κ' w') : Ext B σ κ w σ' (κ'.withT κ.T) w' :=
  ⟨e.objs, e.ob, e.arrs, e.S, e.cell, e.below, fun _ h => h, e.blk⟩

/-- A function's frame leaves: its marks are taken, one by one. -/
theorem leave_marks {P : Program} {fn : Func} {tmps : Array Value} {R : Ending → World → Prop} {u : FrameMode} (hu : u ≠ .run) (hMB : B ≤ M) : ∀ (rs : List Nat) (σ : St) (κ : Kap) (w : World), Inv B σ κ w → (∀ b, κ.T b → b < M) → rs.Nodup →
    (∀ r ∈ rs, M ≤ r ∧ w.heap[r]? = some (.deferred (some [])) ∧ (∀ i, i < σ.objs.length → r ≠ κ.ob i) ∧ ∀ i, i < σ.arrs.length → r ≠ κ.ab i) →
    (∀ w', Inv B σ κ w' → Ext B σ κ w σ κ w' → LeavesIn (fen none) 0 P fn tmps R [] u w') → LeavesInM (fen none) 0 P fn tmps R (rs.map markOf) u w
  | [], σ, κ, w, hI, _, _, _, h => h w hI (Ext.refl _ _ _ _)
  | r :: rs, σ, κ, w, hI, hlt, hnd, hr, h => by
    obtain ⟨h1, h2, h3, h4⟩ := hr r (List.mem_cons_self ..)
    obtain ⟨hI', hE⟩ := hI.mark_off h2 (by omega) (fun b hb => by have := hlt b hb; omega) h3 h4
    have hnd' := List.nodup_cons.1 hnd
    refine ⟨hu, .inl ⟨r, _, rfl, run_takeDeferred h2, ?_⟩⟩
    refine leave_marks hu hMB rs σ κ _ hI' hlt hnd'.2 (fun q hq => ?_) fun w' hI2 hE2 => h w' hI2 (hE.trans hE2)
    obtain ⟨k1, k2, k3, k4⟩ := hr q (List.mem_cons_of_mem _ hq)
    exact ⟨k1, by rw [World.putObj_heap_other (fun e => hnd'.1 (by rw [← e]; exact hq))]; exact k2, k3, k4⟩

/-! ### Records -/
theorem envGet_eq : ∀ (env : Env) (t : Nat), envGet env t = Env.get env t
  | [], t => rfl
  | (k, d) :: r, t => by
    show (bif Nat.beq k t then some d else envGet r t) = (bif Nat.beq k t then some d else Env.get r t)
    rw [envGet_eq r t]
theorem Inv.loop_new (h : Inv B σ κ w) {env : Env} {a : Act} (he : REnv σ κ w env a) (fn : FuncId) (ps : Array Tmp) (asg body : Code) (r : Nat) :
    Inv B { σ with objs := σ.objs ++ [.loop a.tmps.size env ps asg body .ready none] } (κ.setOb σ.objs.length w.heap.size) (w.alloc (.loop { state := .ready, pending := none, fn := fn, tmps := a.tmps, params := ps, assign := asg, body := body, defers := r })) ∧
    Ext B σ κ w { σ with objs := σ.objs ++ [.loop a.tmps.size env ps asg body .ready none] } (κ.setOb σ.objs.length w.heap.size) (w.alloc (.loop { state := .ready, pending := none, fn := fn, tmps := a.tmps, params := ps, assign := asg, body := body, defers := r })) := by
  obtain ⟨h', e⟩ := h.grow_same (below_alloc' w (.loop { state := .ready, pending := none, fn := fn, tmps := a.tmps, params := ps, assign := asg, body := body, defers := r }))
  obtain ⟨h'', e'⟩ := h'.push w.heap.size (.loop a.tmps.size env ps asg body .ready none) h.base (by simp) (fun p hp => Nat.ne_of_lt (h.sLt p hp)) (fun i hi => Nat.ne_of_lt (h.objB i hi).2) (fun i hi => by
      obtain ⟨x, hx⟩ : ∃ x, σ.arrs[i]? = some x := ⟨σ.arrs[i], List.getElem?_eq_getElem hi⟩
      exact Nat.ne_of_lt (h.arr i x hx).lt.1) (fun b' hb' => Nat.ne_of_lt (h.tLt b' hb'))
    ⟨fn, a.tmps, r, heap_alloc_new _ _, rfl, fun t d ht => by
      rw [envGet_eq] at ht
      obtain ⟨v, hv, hr⟩ := he t d ht
      exact ⟨v, hv, hr.ext e⟩⟩
  exact ⟨h'', e.trans e'⟩
/-- An object that nobody looks at any more. -/
theorem Inv.kill (h : Inv B σ κ w) {i : Nat} (hi : i < σ.objs.length) : Inv B (σ.setOb i .dead) κ w ∧ Ext B σ κ w (σ.setOb i .dead) κ w :=
  h.turn hi .dead (fun _ _ => rfl) rfl rfl rfl rfl fun _ => trivial
theorem setOb_setOb (σ : St) (i : Nat) (a b : Ob) : (σ.setOb i a).setOb i b = σ.setOb i b := by simp [St.setOb]
/-- A record's state is turned. -/
theorem Inv.loop_set (h : Inv B σ κ w) {i n : Nat} {env : Env} {ps : Array Tmp} {asg body : Code} {st : LoopState} {jump : Option Code} (hi : σ.objs[i]? = some (.loop n env ps asg body st jump)) :
    ∃ L : Loop, w.heap[κ.ob i]? = some (.loop L) ∧ L.state = st ∧ L.pending = jump ∧ L.params = ps ∧ L.assign = asg ∧ L.body = body ∧ L.tmps.size = n ∧ (∀ t d, env.get t = some d → ∃ v, L.tmps[t]? = some v ∧ Rep1 σ κ w d v) ∧
      ∀ st' jump', Inv B (σ.setOb i (.loop n env ps asg body st' jump')) κ (w.putObj (κ.ob i) (.loop { L with state := st', pending := jump' })) ∧ Ext B σ κ w (σ.setOb i (.loop n env ps asg body st' jump')) κ (w.putObj (κ.ob i) (.loop { L with state := st', pending := jump' })) := by
  have hil : i < σ.objs.length := (List.getElem?_eq_some_iff.1 hi).1
  obtain ⟨fn, tm, r, h1, h2, h3⟩ := h.obj i _ hi
  refine ⟨_, h1, rfl, rfl, rfl, rfl, rfl, h2, fun t d ht => h3 t d (by rw [envGet_eq]; exact ht), fun st' jump' => ?_⟩
  have hl : κ.ob i < w.heap.size := (Array.getElem?_eq_some_iff.1 h1).1
  refine h.turn hil _ (fun b hb => World.putObj_heap_other hb) (by simp) rfl rfl rfl fun e => ⟨fn, tm, r, World.putObj_heap_same hl, h2, fun t d ht => ?_⟩
  obtain ⟨v, hv, hr⟩ := h3 t d ht
  exact ⟨v, hv, hr.ext e⟩
end
end Go.DL
