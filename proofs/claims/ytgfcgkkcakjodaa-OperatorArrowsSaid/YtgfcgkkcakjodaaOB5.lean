/-
  A part of the proof of OperatorArrows: operator.Resolve of a name, of a chain with one kind of arrow, and of one that begins with both kinds. No condition of its own.
-/
import Derived.Test.YtgfcgkkcakjodaaOB4
set_option linter.unusedVariables false
set_option linter.unusedSimpArgs false
namespace Go.Proofs
open Go Go.DL

theorem T.noOps (σ : St) : DCalls Try.prog 11 [.full 0 [], .fn (.func 12) []] σ (isC (.ret (.f (T.B false))) σ) :=
  DCalls_closed T.hm T.ext_ok 10000 rfl rfl (by kernel_rfl)
def T.Word (s : ByteArray) : Prop := T.isArrow s = true ∨ T.Nm s
theorem T.badOps {σ : St} (ss : List ByteArray) (hn : ss.length ≤ 1000) (hs : ∀ x ∈ ss, T.Word x) (w : Int) (hw : w ≠ 0) (l : List Ob) (a : List Ar) (k : Nat) (hk : l[k]? = some (.cells [.f (T.I w)])) :
    DCalls Try.prog 14 [.f (.sl 5 (ss.map T.op)), .fn (.func 15) [.ptr (σ.objs.length + k) 0]] ⟨σ.objs ++ l, a⟩ (isC (.ret (.f (T.B false))) ⟨σ.objs ++ l, a⟩) := by
  refine T.containsOps (T.indexOps _ (by rw [List.length_map]; omega) _ 15 _ rfl T.ok15 _ fun x hx => ?_)
  obtain ⟨s, hs', rfl⟩ := List.mem_map.1 hx
  exact ⟨⟨_, _, _, _, _, rfl⟩, T.resolve2 (hs s hs') hw (by rw [T.gal]; exact hk)⟩

theorem AT.r_ok : ∀ (cs : List ByteArray), cs ≠ [] → (∀ x ∈ cs, T.Nm x) → (AT.r cs).ok
  | [], h, _ => absurd rfl h
  | [c], _, hs => hs c (by simp)
  | c :: d :: cs, _, hs => ⟨hs c (by simp), AT.r_ok (d :: cs) (by simp) fun x hx => hs x (List.mem_cons_of_mem _ hx)⟩
theorem AT.r_size : ∀ (cs : List ByteArray), (AT.r cs).size ≤ 2 * cs.length + 1
  | [] => by simp [AT.r, AT.size]
  | [c] => by simp [AT.r, AT.size]
  | c :: d :: cs => by
    have := AT.r_size (d :: cs)
    simp only [AT.r, AT.size, List.length_cons] at *
    omega
theorem AT.r_depth : ∀ (cs : List ByteArray), (AT.r cs).depth ≤ cs.length + 1
  | [] => by simp [AT.r, AT.depth]
  | [c] => by simp [AT.r, AT.depth]
  | c :: d :: cs => by
    have := AT.r_depth (d :: cs)
    simp only [AT.r, AT.depth, List.length_cons] at *
    omega
theorem AT.l_ok : ∀ (cs : List ByteArray) (a : AT), a.ok → (∀ x ∈ cs, T.Nm x) → (AT.l a cs).ok
  | [], a, h, _ => h
  | c :: cs, a, h, hs => AT.l_ok cs _ ⟨hs c (by simp), h⟩ fun x hx => hs x (List.mem_cons_of_mem _ hx)
theorem AT.l_size : ∀ (cs : List ByteArray) (a : AT), (AT.l a cs).size = a.size + 2 * cs.length
  | [], a => by simp [AT.l]
  | c :: cs, a => by
    have := AT.l_size cs (.node (.leaf c) a)
    simp only [AT.l, this, AT.size, List.length_cons]
    omega
theorem AT.l_depth : ∀ (cs : List ByteArray) (a : AT), 1 ≤ a.depth → (AT.l a cs).depth = a.depth + cs.length
  | [], a, _ => by simp [AT.l]
  | c :: cs, a, h => by
    have := AT.l_depth cs (.node (.leaf c) a) (by simp [AT.depth])
    simp only [AT.l, this, AT.depth, List.length_cons]
    omega
theorem T.tree_fit (q : ByteArray) (c : ByteArray) (cs : List ByteArray) (hn : cs.length ≤ 100) (hs : ∀ x ∈ c :: cs, T.Nm x) : (T.tree q (c :: cs)).ok ∧ (T.tree q (c :: cs)).size ≤ 4096 ∧ (T.tree q (c :: cs)).depth ≤ 128 := by
  have hT : T.tree q (c :: cs) = if q = ⟨#[45, 62]⟩ then AT.r (c :: cs) else AT.l (.leaf c) cs := rfl
  rw [hT]
  split
  · have h1 := AT.r_size (c :: cs)
    have h2 := AT.r_depth (c :: cs)
    simp only [List.length_cons] at h1 h2
    exact ⟨AT.r_ok _ (by simp) hs, by omega, by omega⟩
  · have h1 := AT.l_size cs (.leaf c)
    have h2 := AT.l_depth cs (.leaf c) (by simp [AT.depth])
    simp only [AT.size, AT.depth] at h1 h2
    exact ⟨AT.l_ok _ _ (hs c (by simp)) fun x hx => hs x (List.mem_cons_of_mem _ hx), by omega, by omega⟩
theorem T.chn_word {q : ByteArray} (hq : T.isArrow q = true) : ∀ (cs : List ByteArray), (∀ x ∈ cs, T.Nm x) → ∀ x ∈ T.chn q cs, T.Word x
  | [], _, x, hx => by simp [T.chn] at hx
  | [c], hs, x, hx => by
    have : x = c := by simpa [T.chn] using hx
    subst this; exact .inr (hs _ (by simp))
  | c :: d :: cs, hs, x, hx => by
    have hx : x ∈ c :: q :: T.chn q (d :: cs) := hx
    rcases List.mem_cons.1 hx with rfl | hx
    · exact .inr (hs _ (by simp))
    rcases List.mem_cons.1 hx with rfl | hx
    · exact .inl hq
    · exact T.chn_word hq (d :: cs) (fun x hx => hs x (List.mem_cons_of_mem _ hx)) x hx

set_option maxRecDepth 8000 in
set_option maxHeartbeats 16000000 in
/-- A single name. -/
theorem T.Resolve1 (s : ByteArray) (hs : T.Nm s) (σ : St) : DCalls Try.prog 7 [.full 0 [], .f (.sl 5 [T.op s])] σ (isC (.ret (.tup [.f (AT.leaf s).f, .f (T.I 0)])) σ) := by
  have hb := fun w hw => T.badOps (σ := σ) [s] (by simp) (by simp [T.Word, hs]) w hw
  have hc := fun σ => T.clone s σ
  have ha := fun σ => T.arrow s σ
  rw [T.arrow_name hs] at ha
  simp only [AT.f, T.op, List.map_cons, List.map_nil] at hb hc ha ⊢
  refine DCalls.pure1 rfl ?_
  refine DCalls_args_of Try.func7 rfl (by simp [Try.ntmps7]) ?_
  simp only [Try.ntmps7]
  repeat' first
    | refine W_seq_c fun K hK => ?_
    | (refine W_region (by decide) ?_; simp [go_sem])
    | refine K_use (by assumption) ?_
    | (refine W_ret ?_; simp [go_sem])
    | (refine W_skip ?_; simp [go_sem])
    | (refine W_exit ?_; simp [go_sem])
    | refine W_block ?_
    | refine W_of_WL ?_
    | refine WL_of_k fun K hK => ?_
    | (refine W_cond (by simp [go_sem]; rfl) ?_; simp only [cond_true, cond_false])
    | (refine DCalls.mono (by first | exact T.noOps _ | exact hb 1 (by decide) _ _ _ rfl | exact hb 2 (by decide) _ _ _ rfl | exact hc _ | exact ha _) ?_; rintro _ _ ⟨rfl, rfl⟩; simp [go_sem])
    | (refine W_draw T.hm ⟨[0, 0, 1, 7], [2, 3], [([0, 1], []), ([], [1]), ([], [])]⟩ (by decide +kernel) ?_; simp [go_sem])
    | (refine W_draw T.hm ⟨[0, 0, 2, 1, 15], [3, 4], [([0, 1, 2], []), ([], [1, 2]), ([], [])]⟩ (by decide +kernel) ?_; simp [go_sem])
  exact ⟨_, rfl, Pre.mk _ [] rfl (List.append_nil _).symm⟩

set_option maxRecDepth 8000 in
set_option maxHeartbeats 16000000 in
/-- A chain. -/
theorem T.ResolveC (q : ByteArray) (hq : T.isArrow q = true) (c d : ByteArray) (ds : List ByteArray) (hn : ds.length ≤ 90) (hs : ∀ x ∈ c :: d :: ds, T.Nm x) (σ : St) :
    DCalls Try.prog 7 [.full 0 [], .f (.sl 5 ((T.chn q (c :: d :: ds)).map T.op))] σ (isC (.ret (.tup [.f (T.tree q (c :: d :: ds)).f, .f (T.I 0)])) σ) := by
  have hlen : (T.chn q (c :: d :: ds)).length = 2 * ds.length + 3 := by rw [T.chn_len q _ (by simp)]; simp; omega
  have hb := fun w hw => T.badOps (σ := σ) (T.chn q (c :: d :: ds)) (by omega) (T.chn_word hq _ hs) w hw
  have hr : ∀ (l : List Ob) (a : List Ar) (k j : Nat), l[k]? = some (.cells [.map (σ.objs.length + j), .f (T.I 0)]) → l[j]? = some (.map T.arrows) →
      DCalls Try.prog 19 [.ptr (σ.objs.length + k) 0, .f (.sl 5 ((T.chn q (c :: d :: ds)).map T.op))] ⟨σ.objs ++ l, a⟩ (isC (.ret (.tup [.f (T.tree q (c :: d :: ds)).f, .f (T.B true)])) ⟨σ.objs ++ l, a⟩) :=
    fun l a k j h1 h2 => T.resolveC ⟨by rw [T.gal]; exact h1, by rw [T.gal]; exact h2⟩ q hq c d ds (by omega) hs
  obtain ⟨hf1, hf2, hf3⟩ := T.tree_fit q c (d :: ds) (by simp; omega) hs
  have hw := fun σ => T.wellFormed _ hf1 hf2 hf3 σ
  obtain ⟨x1, x2, x3, x4, hx⟩ := (T.tree q (c :: d :: ds)).f_agg
  have hel : ((T.chn q (c :: d :: ds)).map T.op).length = 2 * ds.length + 3 := by simpa using hlen
  rw [hx] at hr hw ⊢
  generalize (T.chn q (c :: d :: ds)).map T.op = es at *
  have hne : ¬ ((es.length : Int) = 1) := by omega
  have hne3 : ¬ (es.length = 1) := by omega
  refine DCalls.pure1 rfl ?_
  refine DCalls_args_of Try.func7 rfl (by simp [Try.ntmps7]) ?_
  simp only [Try.ntmps7]
  repeat' first
    | refine W_seq_c fun K hK => ?_
    | (refine W_region (by decide) ?_; simp [go_sem, hne, hne3])
    | refine K_use (by assumption) ?_
    | (refine W_ret ?_; simp [go_sem, hne, hne3])
    | (refine W_skip ?_; simp [go_sem, hne, hne3])
    | (refine W_exit ?_; simp [go_sem, hne, hne3])
    | refine W_block ?_
    | refine W_of_WL ?_
    | refine WL_of_k fun K hK => ?_
    | (refine W_cond (by simp [go_sem, hne, hne3]; rfl) ?_; simp only [cond_true, cond_false])
    | (refine DCalls.mono (by first | exact T.noOps _ | exact hb 1 (by decide) _ _ _ rfl | exact hb 2 (by decide) _ _ _ rfl | exact hr _ _ _ _ rfl rfl | exact hw _) ?_; rintro _ _ ⟨rfl, rfl⟩; simp [go_sem, hne, hne3])
    | (refine W_draw T.hm ⟨[0, 0, 1, 7], [2, 3], [([0, 1], []), ([], [1]), ([], [])]⟩ (by decide +kernel) ?_; simp [go_sem, hne, hne3])
    | (refine W_draw T.hm ⟨[0, 0, 2, 1, 15], [3, 4], [([0, 1, 2], []), ([], [1, 2]), ([], [])]⟩ (by decide +kernel) ?_; simp [go_sem, hne, hne3])
  exact ⟨_, rfl, Pre.mk _ [] rfl (List.append_nil _).symm⟩

set_option maxRecDepth 8000 in
set_option maxHeartbeats 16000000 in
/-- Both arrows. -/
theorem T.ResolveM (c d : ByteArray) (ss : List ByteArray) (hn : ss.length ≤ 900) (hc : T.Nm c) (hd : T.Nm d) (hs : ∀ x ∈ ss, T.Word x) (σ : St) :
    DCalls Try.prog 7 [.full 0 [], .f (.sl 5 ((c :: ⟨#[60, 45]⟩ :: d :: ⟨#[45, 62]⟩ :: ss).map T.op))] σ (isC (.ret (.tup [.f T.rawZ, .f (T.I 22)])) σ) := by
  have hW : ∀ x ∈ c :: ⟨#[60, 45]⟩ :: d :: ⟨#[45, 62]⟩ :: ss, T.Word x := fun x hx => by
    rcases List.mem_cons.1 hx with rfl | hx
    · exact .inr hc
    rcases List.mem_cons.1 hx with rfl | hx
    · exact .inl (by decide)
    rcases List.mem_cons.1 hx with rfl | hx
    · exact .inr hd
    rcases List.mem_cons.1 hx with rfl | hx
    · exact .inl (by decide)
    · exact hs x hx
  have hb := fun w hw => T.badOps (σ := σ) (c :: ⟨#[60, 45]⟩ :: d :: ⟨#[45, 62]⟩ :: ss) (by simp; omega) hW w hw
  have hr : ∀ (l : List Ob) (a : List Ar) (k j : Nat), l[k]? = some (.cells [.map (σ.objs.length + j), .f (T.I 0)]) → l[j]? = some (.map T.arrows) →
      DCalls Try.prog 19 [.ptr (σ.objs.length + k) 0, .f (.sl 5 ((c :: ⟨#[60, 45]⟩ :: d :: ⟨#[45, 62]⟩ :: ss).map T.op))] ⟨σ.objs ++ l, a⟩ (T.Failed ⟨σ.objs ++ l, a⟩ (σ.objs.length + k) (σ.objs.length + j) 22) :=
    fun l a k j h1 h2 => T.resolveM ⟨by rw [T.gal]; exact h1, by rw [T.gal]; exact h2⟩ c d ss hn hc hd
  simp only [List.map_cons] at hr hb ⊢
  generalize ss.map T.op = es at *
  generalize T.op c = oc at *
  generalize T.op d = od at *
  generalize T.op ⟨#[60, 45]⟩ = o1 at *
  generalize T.op ⟨#[45, 62]⟩ = o2 at *
  have hne : ¬ ((es.length : Int) + 1 + 1 + 1 + 1 = 1) := by omega
  refine DCalls.pure1 rfl ?_
  refine DCalls_args_of Try.func7 rfl (by simp [Try.ntmps7]) ?_
  simp only [Try.ntmps7]
  repeat' first
    | refine W_seq_c fun K hK => ?_
    | (refine W_region (by decide) ?_; simp [go_sem, hne])
    | refine K_use (by assumption) ?_
    | (refine W_ret ?_; simp [go_sem, hne])
    | (refine W_skip ?_; simp [go_sem, hne])
    | (refine W_exit ?_; simp [go_sem, hne])
    | refine W_block ?_
    | refine W_of_WL ?_
    | refine WL_of_k fun K hK => ?_
    | (refine W_cond (by simp [go_sem, hne]; rfl) ?_; simp only [cond_true, cond_false])
    | (refine DCalls.mono (by first | exact T.noOps _ | exact hb 1 (by decide) _ _ _ rfl | exact hb 2 (by decide) _ _ _ rfl) ?_; rintro _ _ ⟨rfl, rfl⟩; simp [go_sem, hne])
    | (refine W_draw T.hm ⟨[0, 0, 1, 7], [2, 3], [([0, 1], []), ([], [1]), ([], [])]⟩ (by decide +kernel) ?_; simp [go_sem, hne])
    | (refine W_draw T.hm ⟨[0, 0, 2, 1, 15], [3, 4], [([0, 1, 2], []), ([], [1, 2]), ([], [])]⟩ (by decide +kernel) ?_; simp [go_sem, hne])
  refine DCalls.mono (hr _ _ _ _ rfl rfl) ?_
  rintro _ _ ⟨rfl, l, a, rfl⟩
  simp [go_sem, T.rawZ]
  repeat' first
    | refine W_seq_c fun K hK => ?_
    | (refine W_region (by decide) ?_; simp [go_sem, hne])
    | refine K_use (by assumption) ?_
    | (refine W_ret ?_; simp [go_sem, hne])
    | (refine W_skip ?_; simp [go_sem, hne])
    | (refine W_exit ?_; simp [go_sem, hne])
    | refine W_block ?_
    | refine W_of_WL ?_
    | refine WL_of_k fun K hK => ?_
    | (refine W_cond (by simp [go_sem, hne]; rfl) ?_; simp only [cond_true, cond_false])
    | (refine W_draw T.hm ⟨[0, 0, 1, 7], [2, 3], [([0, 1], []), ([], [1]), ([], [])]⟩ (by decide +kernel) ?_; simp [go_sem, hne])
    | (refine W_draw T.hm ⟨[0, 0, 2, 1, 15], [3, 4], [([0, 1, 2], []), ([], [1, 2]), ([], [])]⟩ (by decide +kernel) ?_; simp [go_sem, hne])
  exact ⟨_, rfl, Pre.mk _ _ rfl rfl⟩
end Go.Proofs
