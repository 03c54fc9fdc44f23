/- A region whose operations may come up in several orders, walked once: each operation by itself, under what those ahead of it left. -/
import Derived.WalkKit
import Derived.Orders
namespace Go.Proofs.YtfcfddfjifofgaaDoor
open Go.RowKit

/-- What was there stays. -/
def Ext (w w' : World) : Prop := Below w.heap.size w w'
theorem Ext.refl (w : World) : Ext w w := Below.refl _ w
theorem Ext.trans {a b c : World} (h : Ext a b) (k : Ext b c) : Ext a c := Below.trans h (Below.mono k h.size)
theorem Ext.drew (w : World) : Ext w w.drew := (Below.refl _ w).drew
theorem Ext.alloc (w : World) (o : Obj) : Ext w (w.alloc o) := (Below.refl _ w).alloc (Nat.le_refl _) o
theorem Ext.size {w w' : World} (h : Ext w w') : w.heap.size ≤ w'.heap.size := Below.size h
theorem Ext.row {w w' : World} (h : Ext w w') {b : Nat} {o : Obj} (hr : w.heap[b]? = some o) : w'.heap[b]? = some o :=
  (Below.block h b (by
    rcases Nat.lt_or_ge b w.heap.size with h' | h'
    · exact h'
    · rw [Array.getElem?_eq_none h'] at hr; cases hr)).trans hr
theorem row_lt {w : World} {b : Nat} {o : Obj} (hr : w.heap[b]? = some o) : b < w.heap.size := by
  rcases Nat.lt_or_ge b w.heap.size with h' | h'
  · exact h'
  · rw [Array.getElem?_eq_none h'] at hr; cases hr

abbrev _root_.Go.Act.at (a : Act) (t : Nat) : Value := a.tmps.getD t undef
def FalseQ : Exit → Act → World → Prop := fun _ _ _ => False
def isFresh (op : Op) : Bool := match op with | .alloc _ | .box _ _ => true | _ => false
/-- A new variable lies behind what was there. -/
def FrOK (o : Oper) (w : World) (v : Value) (w' : World) : Prop := isFresh o.op = true → ∀ b c s, v = .pointer (some ⟨b, c, s⟩) → w.heap.size ≤ b ∧ b < w'.heap.size
/-- Operation o, carried out: a value that meets φ; what was there stays. -/
def OpRun (P : Program) (o : Oper) (a : Act) (w : World) (φ : Value → World → Prop) : Prop :=
  o.wp P a w (fun a' w' => ∃ v, a' = a.put o.dst v ∧ Ext w w' ∧ φ v w' ∧ FrOK o w v w') FalseQ
/-- .. or passed over, where its guard says so. -/
def OpOK (P : Program) (ops : Array Oper) (o : Oper) (a : Act) (w : World) (φ : Value → World → Prop) : Prop :=
  (Region.wanted o (yielded ops a.tmps) = true ∧ OpRun P o a w φ) ∨ (Region.wanted o (yielded ops a.tmps) = false ∧ φ undef w)
theorem wp_quiet {P : Program} {o : Oper} {a : Act} {w : World} {K : Act → World → Prop} {Q : Exit → Act → World → Prop} (h : o.wp P a w K FalseQ) : o.wp P a w K Q := by
  unfold Oper.wp at *
  generalize (execOp a.eval o).run P w = r at *
  cases r with
  | ok n w' =>
    cases n <;> simp only [Oper.upon] at h ⊢ <;>
      first
        | exact h
        | exact Calls.mono h (fun e w'' he => by
            cases e with
            | returned v => exact he
            | panicked c => exact he.elim
            | outgrown => obtain ⟨_, _, hx⟩ := he; exact hx.elim)
  | halt x w' => cases x <;> simp only [Oper.upon] at h ⊢ <;> first | exact h | exact h.elim
/-- The slot's value of operation i. -/
def dstV (ops : Array Oper) (a : Act) (i : Nat) : Value := match (ops[i]?).bind (·.dst) with | some d => a.at d | none => undef
/-- The slots that the first n operations write. -/
def dstsOf (ops : Array Oper) (n : Nat) : List Nat := (List.range n).filterMap fun i => (ops[i]?).bind (·.dst)
/-- Everything but those slots is as it was. -/
structure FrameOK (ops : Array Oper) (n : Nat) (a0 a : Act) : Prop where
  same : ∀ t, t ∉ dstsOf ops n → a.at t = a0.at t
  size : a.tmps.size = a0.tmps.size
  defers : a.defers = a0.defers
theorem at_put (a : Act) (d : Nat) (v : Value) (t : Nat) : (a.put (some d) v).at t = if d = t ∧ d < a.tmps.size then v else a.at t := by
  unfold Act.at Act.put
  simp only [Array.getD_eq_getD_getElem?, Array.getElem?_setIfInBounds]
  by_cases h : d = t
  · subst h
    by_cases h2 : d < a.tmps.size <;> simp [h2]
  · simp [h]
theorem put_none (a : Act) (v : Value) : a.put none v = a := rfl
theorem put_size (a : Act) (d : Option Nat) (v : Value) : (a.put d v).tmps.size = a.tmps.size := by
  cases d <;> simp [Act.put]
theorem put_defers' (a : Act) (d : Option Nat) (v : Value) : (a.put d v).defers = a.defers := by
  cases d <;> rfl
def freshAt (ops : Array Oper) (i : Nat) : Bool := match ops[i]? with | some o => isFresh o.op | none => false
/-- The new variables are different ones. -/
def Apart (ops : Array Oper) (n : Nat) (a : Act) : Prop := ∀ i j, i < n → j < n → i ≠ j → freshAt ops i = true → freshAt ops j = true → ∀ b c s b' c' s', dstV ops a i = .pointer (some ⟨b, c, s⟩) → dstV ops a j = .pointer (some ⟨b', c', s'⟩) → b ≠ b'
/-- A fact of a slot's value that goes on while memory only grows. -/
def Stab (φ : Value → World → Prop) : Prop := ∀ v w w', Ext w w' → φ v w → φ v w'
/-- What is known when the operations of 'done' have come up. -/
structure RInv (ops : Array Oper) (n : Nat) (φ : Nat → Value → World → Prop) (a0 : Act) (w0 : World) (listed : Array Bool) (a : Act) (w : World) : Prop where
  ext : Ext w0 w
  frame : FrameOK ops n a0 a
  facts : ∀ i, i < n → listed.getD i false = true → φ i (dstV ops a i) w
  lt : ∀ i, i < n → listed.getD i false = true → freshAt ops i = true → ∀ b c s, dstV ops a i = .pointer (some ⟨b, c, s⟩) → b < w.heap.size
  ap : ∀ i j, i < n → j < n → i ≠ j → listed.getD i false = true → listed.getD j false = true → freshAt ops i = true → freshAt ops j = true → ∀ b c s b' c' s', dstV ops a i = .pointer (some ⟨b, c, s⟩) → dstV ops a j = .pointer (some ⟨b', c', s'⟩) → b ≠ b'
/-- The closed facts of a region: n operations come up in whatever order, those behind them in the order of the text. -/
def depsOk (ops : Array Oper) (deps : List (List Nat)) : Bool :=
  (List.range ops.size).all fun i => (deps.getD i []).all fun j => decide (j < i) && match ops[i]? with
    | some o => o.after.any fun e => Region.binds .any e && (e.on == j || (deps.getD e.on []).contains j)
    | none => false
def edgesOk (ops : Array Oper) : Bool :=
  (List.range ops.size).all fun i => match ops[i]? with
    | some o => o.after.all fun e => !Region.binds .any e || decide (e.on < i)
    | none => false
def lateOk (ops : Array Oper) (n : Nat) (deps : List (List Nat)) (E : List Nat) : Bool :=
  (List.range ops.size).all fun i => decide (i < n) || (List.range i).all fun j => (deps.getD i []).contains j || (E.contains j && (deps.getD j []).all fun x => (deps.getD i []).contains x)
/-- Operations that look at no memory and may be taken as soon as they can come up. -/
def freeOk (ops : Array Oper) (n : Nat) (deps : List (List Nat)) (E : List Nat) : Bool :=
  E.all fun e => decide (e < n) && match ops[e]? with
    | none => false
    | some oi => (oi.after.all fun x => !Region.binds .any x || (deps.getD e []).contains x.on) && (List.range ops.size).all fun j => j == e || (deps.getD e []).contains j || match ops[j]? with
      | some oj => oj.after.any (fun x => Region.binds .any x && x.on == e) || oi.apart ops oj
      | none => true
def nodupB : List Nat → Bool
  | [] => true
  | x :: l => !l.contains x && nodupB l
def dstOk (ops : Array Oper) (n N : Nat) : Bool := nodupB (dstsOf ops n) && (dstsOf ops n).all fun d => decide (d < N)
structure RegionOK (ops : Array Oper) (n N : Nat) (deps : List (List Nat)) (E : List Nat) : Prop where
  dep : depsOk ops deps = true
  edge : edgesOk ops = true
  late : lateOk ops n deps E = true
  free : freeOk ops n deps E = true
  sel : Region.noSelect ops = true
  dst : dstOk ops n N = true
  le : n ≤ ops.size
theorem nodupB_spec : ∀ {l : List Nat}, nodupB l = true → l.Nodup
  | [], _ => List.nodup_nil
  | x :: l, h => by
    simp only [nodupB, Bool.and_eq_true, Bool.not_eq_true'] at h
    exact List.nodup_cons.2 ⟨by simpa using h.1, nodupB_spec h.2⟩
theorem mem_dstsOf {ops : Array Oper} {n i d : Nat} (hi : i < n) (h : (ops[i]?).bind (·.dst) = some d) : d ∈ dstsOf ops n :=
  List.mem_filterMap.2 ⟨i, List.mem_range.2 hi, h⟩
theorem filterMap_inj {f : Nat → Option Nat} : ∀ {n : Nat}, ((List.range n).filterMap f).Nodup → ∀ {i j d : Nat}, i < n → j < n → f i = some d → f j = some d → i = j
  | 0, _, i, _, _, hi, _, _, _ => absurd hi (Nat.not_lt_zero i)
  | n + 1, h, i, j, d, hi, hj, h1, h2 => by
    rw [List.range_succ, List.filterMap_append] at h
    obtain ⟨ha, _, hd⟩ := List.nodup_append.1 h
    by_cases e1 : i = n <;> by_cases e2 : j = n
    · rw [e1, e2]
    · subst e1
      exact absurd rfl (hd d (List.mem_filterMap.2 ⟨j, List.mem_range.2 (by omega), h2⟩) d (by simp [h1]))
    · subst e2
      exact absurd rfl (hd d (List.mem_filterMap.2 ⟨i, List.mem_range.2 (by omega), h1⟩) d (by simp [h2]))
    · exact filterMap_inj ha (by omega) (by omega) h1 h2
section
variable {P : Program} {ops : Array Oper} {n N : Nat} {deps : List (List Nat)} {E : List Nat} {φ : Nat → Value → World → Prop} {a0 : Act} {w0 : World}
/-- The n operations' own facts: each runs where those that it waits for have come up. -/
def RunsAll (P : Program) (ops : Array Oper) (n : Nat) (deps : List (List Nat)) (φ : Nat → Value → World → Prop) (a0 : Act) (w0 : World) : Prop :=
  ∀ i, i < n → ∀ o, ops[i]? = some o → ∀ a w, Ext w0 w → FrameOK ops n a0 a → (∀ j ∈ deps.getD i [], φ j (dstV ops a j) w) → OpOK P ops o a w (φ i)
theorem dstV_put (hdst : dstOk ops n N = true) {i : Nat} {o : Oper} (hi : i < n) (hio : ops[i]? = some o) (a : Act) (hN : a.tmps.size = N) (v : Value) : (match o.dst with | some _ => dstV ops (a.put o.dst v) i = v | none => dstV ops (a.put o.dst v) i = undef) ∧ ∀ j, j < n → j ≠ i → dstV ops (a.put o.dst v) j = dstV ops a j := by
  simp only [dstOk, Bool.and_eq_true] at hdst
  have hnd := nodupB_spec hdst.1
  cases hd : o.dst with
  | none =>
    refine ⟨?_, fun j _ _ => rfl⟩
    simp [dstV, hio, hd]
  | some d =>
    have hid : (ops[i]?).bind (·.dst) = some d := by simp [hio, hd]
    have hlt : d < N := of_decide_eq_true (List.all_eq_true.1 hdst.2 d (mem_dstsOf hi hid))
    refine ⟨?_, fun j hj hne => ?_⟩
    · simp only [dstV, hid]
      rw [at_put, if_pos ⟨rfl, by rw [hN]; exact hlt⟩]
    · unfold dstV
      cases hjd : (ops[j]?).bind (·.dst) with
      | none => rfl
      | some d' =>
        have : d ≠ d' := fun e => hne (filterMap_inj hnd hj hi hjd (e ▸ hid))
        simp only
        rw [at_put, if_neg (fun h => this h.1)]
theorem FrameOK.put {a : Act} (h : FrameOK ops n a0 a) {i : Nat} {o : Oper} (hi : i < n) (hio : ops[i]? = some o) (v : Value) : FrameOK ops n a0 (a.put o.dst v) := by
  refine ⟨fun t ht => ?_, (put_size _ _ _).trans h.size, (put_defers' _ _ _).trans h.defers⟩
  cases hd : o.dst with
  | none => rw [put_none]; exact h.same t ht
  | some d =>
    have hmem : d ∈ dstsOf ops n := mem_dstsOf hi (by simp [hio, hd])
    rw [at_put, if_neg (fun (e : d = t ∧ _) => ht (e.1 ▸ hmem))]
    exact h.same t ht
theorem wpOp_of_ok {Q : Exit → Act → World → Prop} {i : Nat} {o : Oper} (hio : ops[i]? = some o) {a : Act} {w : World} {ψ : Value → World → Prop} (h : OpOK P ops o a w ψ) {K : Act → World → Prop}
    (hK : ∀ v w', Ext w w' → ψ v w' → FrOK o w v w' → K (a.put o.dst v) w') : wpOp P ops Q i K a w := by
  unfold Go.wpOp
  simp only [hio]
  rcases h with ⟨hw, hr⟩ | ⟨hw, hu⟩
  · simp only [hw, if_true]
    exact .inl (Oper.wp_mono (fun a' w' ⟨v, e, h1, h2, h3⟩ => e ▸ hK v w' h1 h2 h3) (wp_quiet hr))
  · simp only [hw, Bool.false_eq_true, if_false]
    exact hK undef w (Ext.refl w) hu (fun _ b c s e => by simp [undef] at e)
theorem RInv.step' (ho : dstOk ops n N = true) (hst : ∀ i, i < n → Stab (φ i)) (hnone : ∀ i o, i < n → ops[i]? = some o → o.dst = none → ∀ v w, φ i v w → φ i undef w) {listed : Array Bool} {a : Act} {w w' : World} (hN : a.tmps.size = N) (h : RInv ops n φ a0 w0 listed a w) {i : Nat} {o : Oper} (hi : i < n) (hio : ops[i]? = some o) {v : Value} (he : Ext w w') (hv : φ i v w') (hfr : FrOK o w v w') :
    RInv ops n φ a0 w0 (listed.setIfInBounds i true) (a.put o.dst v) w' := by
  obtain ⟨h1, h2⟩ := dstV_put ho hi hio a hN v
  have hf : freshAt ops i = true → ∀ b c s, dstV ops (a.put o.dst v) i = .pointer (some ⟨b, c, s⟩) → w.heap.size ≤ b ∧ b < w'.heap.size := by
    intro hfr' b c s e
    have hfo : isFresh o.op = true := by simpa [freshAt, hio] using hfr'
    cases hd : o.dst with
    | none => rw [hd] at h1 e; simp only at h1; rw [h1] at e; simp [undef] at e
    | some d => rw [hd] at h1 e; simp only at h1; rw [h1] at e; exact hfr hfo b c s e
  refine ⟨h.ext.trans he, h.frame.put hi hio v, fun j hj hl => ?_, fun j hj hl hjf b c s e => ?_, fun j k hj hk hjk hlj hlk hjf hkf b c s b' c' s' e e' => ?_⟩
  rotate_left 1
  · by_cases ej : j = i
    · subst ej; exact (hf hjf b c s e).2
    · rw [h2 j hj ej] at e
      exact Nat.lt_of_lt_of_le (h.lt j hj (by rw [← getD_set_ne false (Ne.symm ej)]; exact hl) hjf b c s e) he.size
  · by_cases ej : j = i
    · subst ej
      have hb := (hf hjf b c s e).1
      rw [h2 k hk (Ne.symm hjk)] at e'
      have := h.lt k hk (by rw [← getD_set_ne false hjk]; exact hlk) hkf b' c' s' e'
      omega
    · rw [h2 j hj ej] at e
      have hb := h.lt j hj (by rw [← getD_set_ne false (Ne.symm ej)]; exact hlj) hjf b c s e
      by_cases ek : k = i
      · subst ek
        have := (hf hkf b' c' s' e').1
        omega
      · rw [h2 k hk ek] at e'
        exact h.ap j k hj hk hjk (by rw [← getD_set_ne false (Ne.symm ej)]; exact hlj) (by rw [← getD_set_ne false (Ne.symm ek)]; exact hlk) hjf hkf b c s b' c' s' e e'
  by_cases e : j = i
  · subst e
    cases hd : o.dst with
    | none => rw [hd] at h1; simp only at h1; rw [h1]; exact hnone _ _ hi hio hd v w' hv
    | some d => rw [hd] at h1; simp only at h1; rw [h1]; exact hv
  · rw [h2 j hj e]
    exact hst j hj _ _ _ he (h.facts j hj (by rw [← getD_set_ne false (Ne.symm e)]; exact hl))
theorem RInv.step (ho : RegionOK ops n N deps E) (hst : ∀ i, i < n → Stab (φ i)) (hnone : ∀ i o, i < n → ops[i]? = some o → o.dst = none → ∀ v w, φ i v w → φ i undef w) {listed : Array Bool} {a : Act} {w w' : World} (hN : a.tmps.size = N) (h : RInv ops n φ a0 w0 listed a w) {i : Nat} {o : Oper} (hi : i < n) (hio : ops[i]? = some o) {v : Value} (he : Ext w w') (hv : φ i v w') (hfr : FrOK o w v w') :
    RInv ops n φ a0 w0 (listed.setIfInBounds i true) (a.put o.dst v) w' := RInv.step' ho.dst hst hnone hN h hi hio he hv hfr
/-- The state of 'listed' in which the first k have come up. -/
def firsts (m k : Nat) : Array Bool := (Array.range m).map fun i => decide (i < k)
theorem firsts_get {m k i : Nat} (h : i < m) : (firsts m k).getD i false = decide (i < k) := by simp [firsts, h]
theorem firsts_set {m k : Nat} : (firsts m k).setIfInBounds k true = firsts m (k + 1) := by
  apply Array.ext
  · simp [firsts]
  · intro i h1 h2
    have hi : i < m := by simpa [firsts] using h2
    rw [Array.getElem_setIfInBounds (by simpa [firsts] using hi)]
    split
    · subst_vars; simp [firsts]
    · simp [firsts]; omega
theorem closed_mem {listed : Array Bool} (ho : depsOk ops deps = true) (hc : ∀ i, listed.getD i false = true → ∀ j ∈ deps.getD i [], listed.getD j false = true) {i : Nat} {o : Oper} (hio : ops[i]? = some o)
    (hr : ∀ e ∈ o.after, Region.binds .any e = true → listed.getD e.on false = true) : ∀ j ∈ deps.getD i [], listed.getD j false = true := by
  intro j hj
  have hlt : i < ops.size := (Array.getElem?_eq_some_iff.1 hio).1
  have h1 := List.all_eq_true.1 (List.all_eq_true.1 ho i (List.mem_range.2 hlt)) j hj
  simp only [hio, Bool.and_eq_true] at h1
  obtain ⟨e, he, hb⟩ := Array.any_eq_true'.1 h1.2
  simp only [Bool.and_eq_true, Bool.or_eq_true, beq_iff_eq] at hb
  have hl := hr e he hb.1
  rcases hb.2 with e1 | e1
  · rw [← e1]; exact hl
  · exact hc _ hl j (by simpa using e1)
theorem dep_lt (ho : depsOk ops deps = true) {i j : Nat} (hi : i < ops.size) (hj : j ∈ deps.getD i []) : j < i := by
  have h1 := List.all_eq_true.1 (List.all_eq_true.1 ho i (List.mem_range.2 hi)) j hj
  simp only [Bool.and_eq_true] at h1
  exact of_decide_eq_true h1.1
theorem edge_lt (ho : edgesOk ops = true) {i : Nat} {o : Oper} (hio : ops[i]? = some o) {e : Edge} (he : e ∈ o.after) (hb : Region.binds .any e = true) : e.on < i := by
  have h1 := List.all_eq_true.1 ho i (List.mem_range.2 (Array.getElem?_eq_some_iff.1 hio).1)
  simp only [hio] at h1
  have h2 := Array.all_eq_true_iff_forall_mem.1 h1 e he
  simpa [hb] using h2
theorem ready_first (ho : edgesOk ops = true) {listed : Array Bool} {k : Nat} (hk : k < ops.size) (h0 : listed.getD k true = false) (h : ∀ j, j < k → listed.getD j false = true) : k ∈ Region.ready .any ops listed :=
  mem_ready.2 ⟨h0, ops[k], Array.getElem?_eq_getElem hk, fun _ he hb => h _ (edge_lt ho (Array.getElem?_eq_getElem hk) he hb)⟩
theorem ready_lt {listed : Array Bool} {i : Nat} (h : i ∈ Region.ready .any ops listed) : i < ops.size := by
  obtain ⟨_, o, ho, _⟩ := mem_ready.1 h
  exact (Array.getElem?_eq_some_iff.1 ho).1
/-- The tail: in the order of the text. -/
theorem wpAny_tail {Q : Exit → Act → World → Prop} (ho : RegionOK ops n N deps E) : ∀ (m k : Nat) (a : Act) (w : World) (fuel : Nat), m ≤ fuel → n ≤ k → k + m = ops.size → wpOps P ops Q ((List.range m).map (k + ·)) a w → wpAny P .any ops Q fuel (firsts ops.size k) a w := by
  intro m
  induction m with
  | zero =>
    intro k a w fuel _ _ hk h
    have hr : Region.ready .any ops (firsts ops.size k) = [] := by
      apply List.eq_nil_iff_forall_not_mem.2
      intro i hi
      have hlt := ready_lt hi
      have h0 := (mem_ready.1 hi).1
      have : (firsts ops.size k).getD i true = decide (i < k) := by simp [firsts, hlt]
      rw [this] at h0
      simp at h0; omega
    exact wpAny_done hr (by simpa [wpOps] using h) fuel
  | succ m ih =>
    intro k a w fuel hf hn hk h
    obtain ⟨fuel, rfl⟩ : ∃ f, fuel = f + 1 := ⟨fuel - 1, by omega⟩
    have hlist : (List.range (m + 1)).map (k + ·) = k :: (List.range m).map (k + 1 + ·) := by
      rw [List.range_succ_eq_map, List.map_cons, List.map_map]
      congr 1
      apply List.map_congr_left
      intro x _
      simp only [Function.comp]; omega
    rw [hlist, wpOps_cons] at h
    have hklt : k < ops.size := by omega
    have hone : ∀ i ∈ Region.ready .any ops (firsts ops.size k), i = k := by
      intro i hi
      have hlt := ready_lt hi
      obtain ⟨h0, o, hio, hall⟩ := mem_ready.1 hi
      have hge : k ≤ i := by
        have : (firsts ops.size k).getD i true = decide (i < k) := by simp [firsts, hlt]
        rw [this] at h0
        simpa using h0
      rcases Nat.lt_or_ge k i with hki | hki
      · exfalso
        have hd := List.all_eq_true.1 ho.late i (List.mem_range.2 hlt)
        simp only [Bool.or_eq_true, decide_eq_true_eq] at hd
        have hmem : k ∈ deps.getD i [] := by
          rcases hd with hd | hd
          · omega
          · have hx := List.all_eq_true.1 hd k (List.mem_range.2 hki)
            simp only [Bool.or_eq_true, Bool.and_eq_true] at hx
            rcases hx with hx | hx
            · simpa using hx
            · have he := List.all_eq_true.1 ho.free k (by simpa using hx.1)
              simp only [Bool.and_eq_true, decide_eq_true_eq] at he
              omega
        -- everything that i waits for has come up, so has k
        have hcl : ∀ x, (firsts ops.size k).getD x false = true → ∀ j ∈ deps.getD x [], (firsts ops.size k).getD j false = true := by
          intro x hx j hj
          have hxs : x < ops.size := by
            rcases Nat.lt_or_ge x ops.size with h' | h'
            · exact h'
            · simp [firsts, h'] at hx
          rw [firsts_get hxs] at hx
          simp at hx
          have := dep_lt ho.dep hxs hj
          rw [firsts_get (by omega)]
          simp; omega
        have := closed_mem ho.dep hcl hio hall k hmem
        rw [firsts_get hklt] at this
        simp at this
      · omega
    refine ⟨fun hr => ?_, fun i hi => ?_⟩
    · have hin := ready_first ho.edge (listed := firsts ops.size k) hklt (by simp [firsts, hklt]) (fun j hj => by rw [firsts_get (by omega)]; simpa using hj)
      rw [hr] at hin; cases hin
    · obtain rfl := hone i hi
      rw [firsts_set]
      exact wpOp_mono (fun a' w' h' => ih (i + 1) a' w' fuel (by omega) (by omega) (by omega) h') h
/-- How many are still to come. -/
def undone (listed : Array Bool) (m : Nat) : Nat := (List.range m).countP fun i => !listed.getD i false
theorem undone_set {listed : Array Bool} {i : Nat} (hs : i < listed.size) (h0 : listed.getD i false = false) : ∀ m, undone (listed.setIfInBounds i true) m + (if i < m then 1 else 0) = undone listed m := by
  intro m
  induction m with
  | zero => simp [undone]
  | succ m ih =>
    unfold undone at *
    rw [List.range_succ, List.countP_append, List.countP_append]
    by_cases e : i = m
    · subst e
      rw [if_neg (Nat.lt_irrefl _)] at ih
      have e1 : (listed.setIfInBounds i true).getD i false = true := by simp [hs]
      rw [if_pos (Nat.lt_succ_self i)]
      simp only [List.countP_cons, List.countP_nil, e1, h0, Bool.not_true, Bool.not_false, if_true, Bool.false_eq_true, if_false]
      omega
    · have : (listed.setIfInBounds i true).getD m false = listed.getD m false := getD_set_ne false e
      by_cases h2 : i < m
      · rw [if_pos h2] at ih
        rw [if_pos (by omega)]
        simp only [List.countP_cons, List.countP_nil, this]
        omega
      · rw [if_neg h2] at ih
        rw [if_neg (by omega)]
        simp only [List.countP_cons, List.countP_nil, this]
        omega
theorem undone_ge {listed : Array Bool} (h : ∀ i, n ≤ i → listed.getD i false = false) : ∀ m, m - n ≤ undone listed m := by
  intro m
  induction m with
  | zero => simp
  | succ m ih =>
    unfold undone at *
    rw [List.range_succ, List.countP_append]
    by_cases e : n ≤ m
    · simp only [List.countP_cons, List.countP_nil, h m e, Bool.not_false, if_true]
      omega
    · omega
/-- No panic is let by. -/
def NP (Q : Exit → Act → World → Prop) : Exit → Act → World → Prop
  | .panic _, _, _ => False
  | e, a, w => Q e a w
/-- The operations of E: their values, in whatever world. -/
def FreeRuns (P : Program) (ops : Array Oper) (n : Nat) (deps : List (List Nat)) (E : List Nat) (φ : Nat → Value → World → Prop) (a0 : Act) (w0 : World) : Prop :=
  ∀ i ∈ E, ∀ o, ops[i]? = some o → ∀ a w, Ext w0 w → FrameOK ops n a0 a → (∀ j ∈ deps.getD i [], φ j (dstV ops a j) w) → ∃ v, Yields P ops o v a ∧ φ i v w ∧ isFresh o.op = false
theorem wpAny_region {Q : Exit → Act → World → Prop} (hfree : FreeRuns P ops n deps E φ a0 w0) (ho : RegionOK ops n N deps E) (hst : ∀ i, i < n → Stab (φ i)) (hnone : ∀ i o, i < n → ops[i]? = some o → o.dst = none → ∀ v w, φ i v w → φ i undef w)
    (hN : a0.tmps.size = N) (hrun : RunsAll P ops n deps φ a0 w0)
    (hfin : ∀ a w, Ext w0 w → FrameOK ops n a0 a → (∀ i, i < n → φ i (dstV ops a i) w) → Apart ops n a → wpOps P ops (NP Q) ((List.range (ops.size - n)).map (n + ·)) a w) :
    ∀ (fuel : Nat) (listed : Array Bool) (a : Act) (w : World), listed.size = ops.size → undone listed ops.size ≤ fuel →
      (∀ i, listed.getD i false = true → ∀ j ∈ deps.getD i [], listed.getD j false = true) → (∀ i, n ≤ i → listed.getD i false = false) → RInv ops n φ a0 w0 listed a w → wpAny P .any ops (NP Q) fuel listed a w := by
  intro fuel
  induction fuel with
  | zero =>
    intro listed a w hls hu hc hlate h
    -- nothing is left: the region is done
    have hsz : ops.size - n ≤ 0 := Nat.le_trans (undone_ge hlate _) hu
    have hn : n = ops.size := by have := ho.le; omega
    have hall : ∀ i, i < ops.size → listed.getD i false = true := by
      intro i hi
      cases h0 : listed.getD i false with
      | true => rfl
      | false =>
        have := undone_set (listed := listed) (by omega) h0 ops.size
        rw [if_pos hi] at this
        omega
    have hr : Region.ready .any ops listed = [] := by
      apply List.eq_nil_iff_forall_not_mem.2
      intro i hi
      have hlt := ready_lt hi
      have h0 := (mem_ready.1 hi).1
      have h1 := hall i hlt
      simp [hls, hlt] at h0 h1
      rw [h0] at h1; cases h1
    refine wpAny_done hr ?_ 0
    have := hfin a w h.ext h.frame (fun i hi => h.facts i hi (hall i (by omega))) (fun i j hi hj hij => h.ap i j hi hj hij (hall i (by omega)) (hall j (by omega)))
    rw [hn, Nat.sub_self] at this
    simpa [wpOps] using this
  | succ fuel ih =>
    intro listed a w hls hu hc hlate h
    by_cases hdone : ∀ i, i < n → listed.getD i false = true
    · have e : listed = firsts ops.size n := by
        apply Array.ext
        · simp [firsts, hls]
        · intro i h1 h2
          have hi : i < ops.size := by omega
          have hx : listed[i] = listed.getD i false := by simp [h1]
          rw [hx]
          simp only [firsts, Array.getElem_map, Array.getElem_range]
          by_cases e : i < n
          · rw [hdone i e]; simp [e]
          · rw [hlate i (by omega)]; simp [e]
      subst e
      exact wpAny_tail ho (ops.size - n) n a w (fuel + 1) (Nat.le_trans (undone_ge hlate _) hu) (Nat.le_refl _) (by have := ho.le; omega) (hfin a w h.ext h.frame (fun i hi => h.facts i hi (hdone i hi)) (fun i j hi hj hij => h.ap i j hi hj hij (hdone i hi) (hdone j hj)))
    · by_cases hE : ∃ e ∈ E, e ∈ Region.ready .any ops listed
      · obtain ⟨e, heE, her⟩ := hE
        obtain ⟨h0, o, hio, hall⟩ := mem_ready.1 her
        have hes := ready_lt her
        have hf := List.all_eq_true.1 ho.free e heE
        simp only [hio, Bool.and_eq_true, decide_eq_true_eq] at hf
        have hen := hf.1
        have h0' : listed.getD e false = false := by
          have hls' : e < listed.size := by omega
          simp [hls'] at h0 ⊢
          exact h0
        have hcl := closed_mem ho.dep hc hio hall
        obtain ⟨v, hy, hv, hfr⟩ := hfree e heE o hio a w h.ext h.frame (fun j hj => h.facts j (by have := dep_lt ho.dep hes hj; omega) (hcl j hj))
        refine wpAny_first hio (Region.noSelect_spec ho.sel) (fun _ _ _ hx => hx.elim) fuel listed a w (fun j oj hj hne hun hno => ?_) her hy ?_
        · have hx := List.all_eq_true.1 hf.2.2 j (List.mem_range.2 (Array.getElem?_eq_some_iff.1 hj).1)
          simp only [hj, Bool.or_eq_true, beq_iff_eq] at hx
          rcases hx with (hx | hx) | hx
          · exact absurd hx hne
          · have h1 := hcl j (by simpa using hx)
            rcases Nat.lt_or_ge j listed.size with h' | h'
            · simp [h'] at h1 hun
              rw [h1] at hun; cases hun
            · have := dep_lt ho.dep hes (show j ∈ deps.getD e [] by simpa using hx)
              omega
          · rcases hx with hx | hx
            · obtain ⟨x, hx1, hx2⟩ := Array.any_eq_true'.1 hx
              simp only [Bool.and_eq_true, beq_iff_eq] at hx2
              exact absurd hx2.2 (hno x hx1 hx2.1)
            · exact hx
        · refine ih _ _ _ (by simp [hls]) ?_ ?_ ?_ (h.step ho hst hnone (by rw [h.frame.size, hN]) hen hio (Ext.refl w) hv (fun e => by rw [hfr] at e; cases e))
          · have := undone_set (listed := listed) (i := e) (by omega) h0' ops.size
            rw [if_pos hes] at this
            omega
          · intro x hx j hj
            by_cases ex : x = e
            · subst ex
              exact getD_set_true (hcl j hj)
            · rw [getD_set_ne false (Ne.symm ex)] at hx
              exact getD_set_true (hc x hx j hj)
          · intro x hx
            rw [getD_set_ne false (by omega)]
            exact hlate x hx
      have hlt : ∀ i ∈ Region.ready .any ops listed, i < n := by
        intro i hi
        rcases Nat.lt_or_ge i n with h' | h'
        · exact h'
        · exfalso
          refine hdone fun j hj => ?_
          have his := ready_lt hi
          obtain ⟨_, o, hio, hall⟩ := mem_ready.1 hi
          have hd := List.all_eq_true.1 ho.late i (List.mem_range.2 his)
          simp only [Bool.or_eq_true, decide_eq_true_eq] at hd
          rcases hd with hd | hd
          · omega
          · have hx := List.all_eq_true.1 hd j (List.mem_range.2 (by omega))
            simp only [Bool.or_eq_true, Bool.and_eq_true] at hx
            rcases hx with hx | ⟨hx, hx2⟩
            · exact closed_mem ho.dep hc hio hall j (by simpa using hx)
            · cases hb : listed.getD j false with
              | true => rfl
              | false =>
                exfalso
                have hjE : j ∈ E := by simpa using hx
                refine hE ⟨j, hjE, ?_⟩
                have hf := List.all_eq_true.1 ho.free j hjE
                have hjs : j < ops.size := by have := ho.le; omega
                have hjo : ops[j]? = some ops[j] := Array.getElem?_eq_getElem hjs
                simp only [hjo, Bool.and_eq_true, decide_eq_true_eq] at hf
                refine mem_ready.2 ⟨?_, _, hjo, fun x hx1 hb1 => ?_⟩
                · have hls' : j < listed.size := by omega
                  simp [hls'] at hb ⊢
                  exact hb
                · have h1 := Array.all_eq_true_iff_forall_mem.1 hf.2.1 x hx1
                  simp only [hb1, Bool.not_true, Bool.false_or] at h1
                  have h2 := List.all_eq_true.1 hx2 x.on (by simpa using h1)
                  exact closed_mem ho.dep hc hio hall x.on (by simpa using h2)
      refine ⟨fun hr => ?_, fun i hi => ?_⟩
      · exfalso
        -- the first that is still to come may come up
        have hex : ∃ k, k < ops.size ∧ listed.getD k false = false ∧ ∀ j, j < k → listed.getD j false = true := by
          by_cases hx : ∃ k, listed.getD k false = false ∧ k < n
          · obtain ⟨k, hk⟩ := hx
            have hle := ho.le
            have key : ∀ m k, k < m → listed.getD k false = false → k < n → ∃ k, k < ops.size ∧ listed.getD k false = false ∧ ∀ j, j < k → listed.getD j false = true := by
              intro m
              induction m with
              | zero => intro k hk; omega
              | succ m ihm =>
                intro k hkm hk0 hkn
                by_cases hy : ∀ j, j < k → listed.getD j false = true
                · exact ⟨k, by omega, hk0, hy⟩
                · have : ∃ j, j < k ∧ listed.getD j false = false := by
                    apply Classical.byContradiction
                    intro hne
                    apply hy
                    intro j hj
                    cases hb : listed.getD j false with
                    | true => rfl
                    | false => exact absurd ⟨j, hj, hb⟩ hne
                  obtain ⟨j, hj, hj0⟩ := this
                  exact ihm j (by omega) hj0 (by omega)
            exact key (k + 1) k (by omega) hk.1 hk.2
          · exfalso
            refine hdone fun i hi => ?_
            cases hb : listed.getD i false with
            | true => rfl
            | false => exact absurd ⟨i, hb, hi⟩ hx
        obtain ⟨k, hk, hk0, hkj⟩ := hex
        have hk1 : listed.getD k true = false := by
          have hls' : k < listed.size := by omega
          simp [hls'] at hk0 ⊢
          exact hk0
        have := ready_first ho.edge hk hk1 hkj
        rw [hr] at this; cases this
      · have hin := hlt i hi
        have his := ready_lt hi
        obtain ⟨h0, o, hio, hall⟩ := mem_ready.1 hi
        have h0' : listed.getD i false = false := by
          have hls' : i < listed.size := by omega
          simp [hls'] at h0 ⊢
          exact h0
        have hcl := closed_mem ho.dep hc hio hall
        refine wpOp_of_ok hio (hrun i hin o hio a w h.ext h.frame (fun j hj => h.facts j (by have := dep_lt ho.dep his hj; omega) (hcl j hj))) fun v w' he hv hfr => ?_
        refine ih _ _ _ (by simp [hls]) ?_ ?_ ?_ (h.step ho hst hnone (by rw [h.frame.size, hN]) hin hio he hv hfr)
        · have := undone_set (listed := listed) (i := i) (by omega) h0' ops.size
          rw [if_pos his] at this
          omega
        · intro x hx j hj
          by_cases e : x = i
          · subst e
            exact getD_set_true (hcl j hj)
          · rw [getD_set_ne false (Ne.symm e)] at hx
            exact getD_set_true (hc x hx j hj)
        · intro x hx
          rw [getD_set_ne false (by omega)]
          exact hlate x hx
/-- The same in the order of the text. -/
theorem wpOps_region {Q : Exit → Act → World → Prop} (hdst : dstOk ops n N = true) (hle : n ≤ ops.size) (hst : ∀ i, i < n → Stab (φ i)) (hnone : ∀ i o, i < n → ops[i]? = some o → o.dst = none → ∀ v w, φ i v w → φ i undef w)
    (hN : a0.tmps.size = N) (hrun : RunsAll P ops n deps φ a0 w0) (hd : ∀ i, i < n → ∀ j ∈ deps.getD i [], j < i)
    (hfin : ∀ a w, Ext w0 w → FrameOK ops n a0 a → (∀ i, i < n → φ i (dstV ops a i) w) → Apart ops n a → wpOps P ops Q ((List.range (ops.size - n)).map (n + ·)) a w) : wpOps P ops Q (List.range ops.size) a0 w0 := by
  have ho' : ∀ (listed : Array Bool) (a : Act) (w w' : World) (_ : a.tmps.size = N) (_ : RInv ops n φ a0 w0 listed a w) {i : Nat} {o : Oper} (_ : i < n) (_ : ops[i]? = some o) {v : Value} (_ : Ext w w') (_ : φ i v w') (_ : FrOK o w v w'), RInv ops n φ a0 w0 (listed.setIfInBounds i true) (a.put o.dst v) w' := by
    intro listed a w w' hN h i o hi hio v he hv hfr
    exact RInv.step' hdst hst hnone hN h hi hio he hv hfr
  have key : ∀ (m k : Nat) (a : Act) (w : World), k + m = n → RInv ops n φ a0 w0 (firsts ops.size k) a w → wpOps P ops Q ((List.range m).map (k + ·) ++ (List.range (ops.size - n)).map (n + ·)) a w := by
    intro m
    induction m with
    | zero =>
      intro k a w hk h
      rw [List.range_zero, List.map_nil, List.nil_append]
      have hd1 : ∀ i, i < n → (firsts ops.size k).getD i false = true := fun i hi => by rw [firsts_get (by omega)]; simp; omega
      exact hfin a w h.ext h.frame (fun i hi => h.facts i hi (hd1 i hi)) (fun i j hi hj hij => h.ap i j hi hj hij (hd1 i hi) (hd1 j hj))
    | succ m ih =>
      intro k a w hk h
      have hlist : (List.range (m + 1)).map (k + ·) = k :: (List.range m).map (k + 1 + ·) := by
        rw [List.range_succ_eq_map, List.map_cons, List.map_map]
        congr 1
        apply List.map_congr_left
        intro x _
        simp only [Function.comp]; omega
      rw [hlist, List.cons_append, wpOps_cons]
      have hks : k < ops.size := by omega
      have hio : ops[k]? = some ops[k] := Array.getElem?_eq_getElem hks
      refine wpOp_of_ok hio (hrun k (by omega) _ hio a w h.ext h.frame (fun j hj => h.facts j (by have := hd k (by omega) j hj; omega) (by have := hd k (by omega) j hj; rw [firsts_get (by omega)]; simpa using this))) fun v w' he hv hfr => ?_
      refine ih (k + 1) _ _ (by omega) ?_
      rw [← firsts_set]
      exact ho' _ _ _ _ (by rw [h.frame.size, hN]) h (by omega) hio he hv hfr
  have := key n 0 a0 w0 (by omega) ⟨Ext.refl _, ⟨fun _ _ => rfl, rfl, rfl⟩, fun i hi hl => by
    rw [firsts_get (by omega)] at hl; simp at hl, fun i hi hl => by
    rw [firsts_get (by omega)] at hl; simp at hl, fun i j hi hj hij hl => by
    rw [firsts_get (by omega)] at hl; simp at hl⟩
  have e : (List.range n).map (0 + ·) ++ (List.range (ops.size - n)).map (n + ·) = List.range ops.size := by
    have : ops.size = n + (ops.size - n) := by omega
    conv => rhs; rw [this, List.range_add]
    simp
  rwa [e] at this
/-- THE RULE: a region that asks for its order. -/
theorem region_draw {id : Nat} {Q : Exit → Act → World → Prop} (hm : P.follows .mixedOrders = true) (ho : RegionOK ops n N deps E) (hst : ∀ i, i < n → Stab (φ i)) (hnone : ∀ i o, i < n → ops[i]? = some o → o.dst = none → ∀ v w, φ i v w → φ i undef w)
    (hN : a0.tmps.size = N) (hrun : RunsAll P ops n deps φ a0 w0)
    (hfree : FreeRuns P ops n deps E φ a0 w0)
    (hfin : ∀ a w, Ext w0 w → FrameOK ops n a0 a → (∀ i, i < n → φ i (dstV ops a i) w) → Apart ops n a → wpOps P ops (NP Q) ((List.range (ops.size - n)).map (n + ·)) a w) : (Code.region id ops true).wp P Q a0 w0 := by
  refine wp_mono (Q := NP Q) ?_ (fun e a w h => by cases e <;> first | exact h | exact h.elim)
  refine wp_region_any hm (wpAny_region hfree ho hst hnone hN hrun hfin ops.size _ a0 _ (by simp) ?_ (fun i hi => ?_) (fun i hi => ?_) ⟨Ext.drew w0, ⟨fun _ _ => rfl, rfl, rfl⟩, fun i hi hl => ?_, fun i hi hl => ?_, fun i j hi hj hij hl => ?_⟩)
  · unfold undone
    exact Nat.le_trans (List.countP_le_length) (by simp)
  · simp [Array.getElem?_replicate] at hi
    split at hi <;> simp at hi
  · simp [Array.getElem?_replicate]
    split <;> rfl
  all_goals
    simp [Array.getElem?_replicate] at hl
    split at hl <;> simp at hl
/-- THE RULE: a region in the order of the text. -/
theorem region_plain {id : Nat} {Q : Exit → Act → World → Prop} (hdst : dstOk ops n N = true) (hle : n ≤ ops.size) (hst : ∀ i, i < n → Stab (φ i)) (hnone : ∀ i o, i < n → ops[i]? = some o → o.dst = none → ∀ v w, φ i v w → φ i undef w)
    (hN : a0.tmps.size = N) (hrun : RunsAll P ops n deps φ a0 w0) (hd : ∀ i, i < n → ∀ j ∈ deps.getD i [], j < i)
    (hfin : ∀ a w, Ext w0 w → FrameOK ops n a0 a → (∀ i, i < n → φ i (dstV ops a i) w) → Apart ops n a → wpOps P ops Q ((List.range (ops.size - n)).map (n + ·)) a w) : (Code.region id ops false).wp P Q a0 w0 :=
  wp_region (wpOps_region hdst hle hst hnone hN hrun hd hfin)
end
end Go.Proofs.YtfcfddfjifofgaaDoor
