/- The engine once more, with draws that only go on: for a closure that the library's sort calls. -/
import Derived.Test.YtfcfddfjifofgaaDoorEngOp
namespace Go.Proofs.YtfcfddfjifofgaaDoor.Mono
open Go.RowKit

/-- What was there stays, and draws only go on. -/
def Ext (w w' : World) : Prop := Below w.heap.size w w' ∧ w.drawn ≤ w'.drawn
theorem Ext.refl (w : World) : Ext w w := ⟨Below.refl _ w, Nat.le_refl _⟩
theorem Ext.trans {a b c : World} (h : Ext a b) (k : Ext b c) : Ext a c := ⟨Below.trans h.1 (Below.mono k.1 h.1.size), Nat.le_trans h.2 k.2⟩
theorem Ext.drew (w : World) : Ext w w.drew := ⟨(Below.refl _ w).drew, Nat.le_succ _⟩
theorem Ext.alloc (w : World) (o : Obj) : Ext w (w.alloc o) := ⟨(Below.refl _ w).alloc (Nat.le_refl _) o, Nat.le_refl _⟩
theorem Ext.size {w w' : World} (h : Ext w w') : w.heap.size ≤ w'.heap.size := Below.size h.1
theorem Ext.row {w w' : World} (h : Ext w w') {b : Nat} {o : Obj} (hr : w.heap[b]? = some o) : w'.heap[b]? = some o :=
  (Below.block h.1 b (by
    rcases Nat.lt_or_ge b w.heap.size with h' | h'
    · exact h'
    · rw [Array.getElem?_eq_none h'] at hr; cases hr)).trans hr
theorem row_lt {w : World} {b : Nat} {o : Obj} (hr : w.heap[b]? = some o) : b < w.heap.size := by
  rcases Nat.lt_or_ge b w.heap.size with h' | h'
  · exact h'
  · rw [Array.getElem?_eq_none h'] at hr; cases hr

def FalseQ : Exit → Act → World → Prop := fun _ _ _ => False
def isFresh (op : Op) : Bool := match op with | .alloc _ | .box _ _ => true | _ => false
/-- A new variable lies behind what was there. -/
def FrOK (o : Oper) (w : World) (v : Value) (w' : World) : Prop := isFresh o.op = true → ∀ b c s, v = .pointer (some ⟨b, c, s⟩) → w.heap.size ≤ b ∧ b < w'.heap.size
/-- Operation o, carried out: a value that meets φ; what was there stays. -/
def OpRun (P : Program) (o : Oper) (a : Act) (w : World) (φ : Value → World → Prop) : Prop :=
  o.wp P a w (fun a' w' => ∃ v, a' = a.put o.dst v ∧ Ext w w' ∧ φ v w' ∧ FrOK o w v w') FalseQ
/-- .. or passed over, where its guard says so. -/
def OpOK (P : Program) (ops : Array Oper) (o : Oper) (a : Act) (w : World) (φ : Value → World → Prop) : Prop :=
  (Region.wanted o (yielded ops a.tmps) = true ∧ OpRun P o a w φ) ∨ (Region.wanted o (yielded ops a.tmps) = false ∧ φ undef w)
theorem wp_quiet {P : Program} {o : Oper} {a : Act} {w : World} {K : Act → World → Prop} {Q : Exit → Act → World → Prop} (h : o.wp P a w K FalseQ) : o.wp P a w K Q := by
  unfold Oper.wp at *
  generalize (execOp a.eval o).run P w = r at *
  cases r with
  | ok n w' =>
    cases n <;> simp only [Oper.upon] at h ⊢ <;>
      first
        | exact h
        | exact Calls.mono h (fun e w'' he => by
            cases e with
            | returned v => exact he
            | panicked c => exact he.elim
            | outgrown => obtain ⟨_, _, hx⟩ := he; exact hx.elim)
  | halt x w' => cases x <;> simp only [Oper.upon] at h ⊢ <;> first | exact h | exact h.elim
/-- The slot's value of operation i. -/
def dstV (ops : Array Oper) (a : Act) (i : Nat) : Value := match (ops[i]?).bind (·.dst) with | some d => a.at d | none => undef
/-- The slots that the first n operations write. -/
def dstsOf (ops : Array Oper) (n : Nat) : List Nat := (List.range n).filterMap fun i => (ops[i]?).bind (·.dst)
/-- Everything but those slots is as it was. -/
structure FrameOK (ops : Array Oper) (n : Nat) (a0 a : Act) : Prop where
  same : ∀ t, t ∉ dstsOf ops n → a.at t = a0.at t
  size : a.tmps.size = a0.tmps.size
  defers : a.defers = a0.defers
theorem at_put (a : Act) (d : Nat) (v : Value) (t : Nat) : (a.put (some d) v).at t = if d = t ∧ d < a.tmps.size then v else a.at t := by
  unfold Act.at Act.put
  simp only [Array.getD_eq_getD_getElem?, Array.getElem?_setIfInBounds]
  by_cases h : d = t
  · subst h
    by_cases h2 : d < a.tmps.size <;> simp [h2]
  · simp [h]
theorem put_none (a : Act) (v : Value) : a.put none v = a := rfl
theorem put_size (a : Act) (d : Option Nat) (v : Value) : (a.put d v).tmps.size = a.tmps.size := by
  cases d <;> simp [Act.put]
theorem put_defers' (a : Act) (d : Option Nat) (v : Value) : (a.put d v).defers = a.defers := by
  cases d <;> rfl
def freshAt (ops : Array Oper) (i : Nat) : Bool := match ops[i]? with | some o => isFresh o.op | none => false
/-- The new variables are different ones. -/
def Apart (ops : Array Oper) (n : Nat) (a : Act) : Prop := ∀ i j, i < n → j < n → i ≠ j → freshAt ops i = true → freshAt ops j = true → ∀ b c s b' c' s', dstV ops a i = .pointer (some ⟨b, c, s⟩) → dstV ops a j = .pointer (some ⟨b', c', s'⟩) → b ≠ b'
/-- A fact of a slot's value that goes on while memory only grows. -/
def Stab (φ : Value → World → Prop) : Prop := ∀ v w w', Ext w w' → φ v w → φ v w'
/-- What is known when the operations of 'done' have come up. -/
structure RInv (ops : Array Oper) (n : Nat) (φ : Nat → Value → World → Prop) (a0 : Act) (w0 : World) (listed : Array Bool) (a : Act) (w : World) : Prop where
  ext : Ext w0 w
  frame : FrameOK ops n a0 a
  facts : ∀ i, i < n → listed.getD i false = true → φ i (dstV ops a i) w
  lt : ∀ i, i < n → listed.getD i false = true → freshAt ops i = true → ∀ b c s, dstV ops a i = .pointer (some ⟨b, c, s⟩) → b < w.heap.size
  ap : ∀ i j, i < n → j < n → i ≠ j → listed.getD i false = true → listed.getD j false = true → freshAt ops i = true → freshAt ops j = true → ∀ b c s b' c' s', dstV ops a i = .pointer (some ⟨b, c, s⟩) → dstV ops a j = .pointer (some ⟨b', c', s'⟩) → b ≠ b'
/-- The closed facts of a region: n operations come up in whatever order, those behind them in the order of the text. -/
def depsOk (ops : Array Oper) (deps : List (List Nat)) : Bool :=
  (List.range ops.size).all fun i => (deps.getD i []).all fun j => decide (j < i) && match ops[i]? with
    | some o => o.after.any fun e => Region.binds .any e && (e.on == j || (deps.getD e.on []).contains j)
    | none => false
def edgesOk (ops : Array Oper) : Bool :=
  (List.range ops.size).all fun i => match ops[i]? with
    | some o => o.after.all fun e => !Region.binds .any e || decide (e.on < i)
    | none => false
def lateOk (ops : Array Oper) (n : Nat) (deps : List (List Nat)) (E : List Nat) : Bool :=
  (List.range ops.size).all fun i => decide (i < n) || (List.range i).all fun j => (deps.getD i []).contains j || (E.contains j && (deps.getD j []).all fun x => (deps.getD i []).contains x)
/-- Operations that look at no memory and may be taken as soon as they can come up. -/
def freeOk (ops : Array Oper) (n : Nat) (deps : List (List Nat)) (E : List Nat) : Bool :=
  E.all fun e => decide (e < n) && match ops[e]? with
    | none => false
    | some oi => (oi.after.all fun x => !Region.binds .any x || (deps.getD e []).contains x.on) && (List.range ops.size).all fun j => j == e || (deps.getD e []).contains j || match ops[j]? with
      | some oj => oj.after.any (fun x => Region.binds .any x && x.on == e) || oi.apart ops oj
      | none => true
def nodupB : List Nat → Bool
  | [] => true
  | x :: l => !l.contains x && nodupB l
def dstOk (ops : Array Oper) (n N : Nat) : Bool := nodupB (dstsOf ops n) && (dstsOf ops n).all fun d => decide (d < N)
structure RegionOK (ops : Array Oper) (n N : Nat) (deps : List (List Nat)) (E : List Nat) : Prop where
  dep : depsOk ops deps = true
  edge : edgesOk ops = true
  late : lateOk ops n deps E = true
  free : freeOk ops n deps E = true
  sel : Region.noSelect ops = true
  dst : dstOk ops n N = true
  le : n ≤ ops.size
theorem nodupB_spec : ∀ {l : List Nat}, nodupB l = true → l.Nodup
  | [], _ => List.nodup_nil
  | x :: l, h => by
    simp only [nodupB, Bool.and_eq_true, Bool.not_eq_true'] at h
    exact List.nodup_cons.2 ⟨by simpa using h.1, nodupB_spec h.2⟩
theorem mem_dstsOf {ops : Array Oper} {n i d : Nat} (hi : i < n) (h : (ops[i]?).bind (·.dst) = some d) : d ∈ dstsOf ops n :=
  List.mem_filterMap.2 ⟨i, List.mem_range.2 hi, h⟩
theorem filterMap_inj {f : Nat → Option Nat} : ∀ {n : Nat}, ((List.range n).filterMap f).Nodup → ∀ {i j d : Nat}, i < n → j < n → f i = some d → f j = some d → i = j
  | 0, _, i, _, _, hi, _, _, _ => absurd hi (Nat.not_lt_zero i)
  | n + 1, h, i, j, d, hi, hj, h1, h2 => by
    rw [List.range_succ, List.filterMap_append] at h
    obtain ⟨ha, _, hd⟩ := List.nodup_append.1 h
    by_cases e1 : i = n <;> by_cases e2 : j = n
    · rw [e1, e2]
    · subst e1
      exact absurd rfl (hd d (List.mem_filterMap.2 ⟨j, List.mem_range.2 (by omega), h2⟩) d (by simp [h1]))
    · subst e2
      exact absurd rfl (hd d (List.mem_filterMap.2 ⟨i, List.mem_range.2 (by omega), h1⟩) d (by simp [h2]))
    · exact filterMap_inj ha (by omega) (by omega) h1 h2
section
variable {P : Program} {ops : Array Oper} {n N : Nat} {deps : List (List Nat)} {E : List Nat} {φ : Nat → Value → World → Prop} {a0 : Act} {w0 : World}
/-- The n operations' own facts: each runs where those that it waits for have come up. -/
def RunsAll (P : Program) (ops : Array Oper) (n : Nat) (deps : List (List Nat)) (φ : Nat → Value → World → Prop) (a0 : Act) (w0 : World) : Prop :=
  ∀ i, i < n → ∀ o, ops[i]? = some o → ∀ a w, Ext w0 w → FrameOK ops n a0 a → (∀ j ∈ deps.getD i [], φ j (dstV ops a j) w) → OpOK P ops o a w (φ i)
theorem dstV_put (hdst : dstOk ops n N = true) {i : Nat} {o : Oper} (hi : i < n) (hio : ops[i]? = some o) (a : Act) (hN : a.tmps.size = N) (v : Value) : (match o.dst with | some _ => dstV ops (a.put o.dst v) i = v | none => dstV ops (a.put o.dst v) i = undef) ∧ ∀ j, j < n → j ≠ i → dstV ops (a.put o.dst v) j = dstV ops a j := by
  simp only [dstOk, Bool.and_eq_true] at hdst
  have hnd := nodupB_spec hdst.1
  cases hd : o.dst with
  | none =>
    refine ⟨?_, fun j _ _ => rfl⟩
    simp [dstV, hio, hd]
  | some d =>
    have hid : (ops[i]?).bind (·.dst) = some d := by simp [hio, hd]
    have hlt : d < N := of_decide_eq_true (List.all_eq_true.1 hdst.2 d (mem_dstsOf hi hid))
    refine ⟨?_, fun j hj hne => ?_⟩
    · simp only [dstV, hid]
      rw [at_put, if_pos ⟨rfl, by rw [hN]; exact hlt⟩]
    · unfold dstV
      cases hjd : (ops[j]?).bind (·.dst) with
      | none => rfl
      | some d' =>
        have : d ≠ d' := fun e => hne (filterMap_inj hnd hj hi hjd (e ▸ hid))
        simp only
        rw [at_put, if_neg (fun h => this h.1)]
theorem FrameOK.put {a : Act} (h : FrameOK ops n a0 a) {i : Nat} {o : Oper} (hi : i < n) (hio : ops[i]? = some o) (v : Value) : FrameOK ops n a0 (a.put o.dst v) := by
  refine ⟨fun t ht => ?_, (put_size _ _ _).trans h.size, (put_defers' _ _ _).trans h.defers⟩
  cases hd : o.dst with
  | none => rw [put_none]; exact h.same t ht
  | some d =>
    have hmem : d ∈ dstsOf ops n := mem_dstsOf hi (by simp [hio, hd])
    rw [at_put, if_neg (fun (e : d = t ∧ _) => ht (e.1 ▸ hmem))]
    exact h.same t ht
theorem wpOp_of_ok {Q : Exit → Act → World → Prop} {i : Nat} {o : Oper} (hio : ops[i]? = some o) {a : Act} {w : World} {ψ : Value → World → Prop} (h : OpOK P ops o a w ψ) {K : Act → World → Prop}
    (hK : ∀ v w', Ext w w' → ψ v w' → FrOK o w v w' → K (a.put o.dst v) w') : wpOp P ops Q i K a w := by
  unfold Go.wpOp
  simp only [hio]
  rcases h with ⟨hw, hr⟩ | ⟨hw, hu⟩
  · simp only [hw, if_true]
    exact .inl (Oper.wp_mono (fun a' w' ⟨v, e, h1, h2, h3⟩ => e ▸ hK v w' h1 h2 h3) (wp_quiet hr))
  · simp only [hw, Bool.false_eq_true, if_false]
    exact hK undef w (Ext.refl w) hu (fun _ b c s e => by simp [undef] at e)
theorem RInv.step' (ho : dstOk ops n N = true) (hst : ∀ i, i < n → Stab (φ i)) (hnone : ∀ i o, i < n → ops[i]? = some o → o.dst = none → ∀ v w, φ i v w → φ i undef w) {listed : Array Bool} {a : Act} {w w' : World} (hN : a.tmps.size = N) (h : RInv ops n φ a0 w0 listed a w) {i : Nat} {o : Oper} (hi : i < n) (hio : ops[i]? = some o) {v : Value} (he : Ext w w') (hv : φ i v w') (hfr : FrOK o w v w') :
    RInv ops n φ a0 w0 (listed.setIfInBounds i true) (a.put o.dst v) w' := by
  obtain ⟨h1, h2⟩ := dstV_put ho hi hio a hN v
  have hf : freshAt ops i = true → ∀ b c s, dstV ops (a.put o.dst v) i = .pointer (some ⟨b, c, s⟩) → w.heap.size ≤ b ∧ b < w'.heap.size := by
    intro hfr' b c s e
    have hfo : isFresh o.op = true := by simpa [freshAt, hio] using hfr'
    cases hd : o.dst with
    | none => rw [hd] at h1 e; simp only at h1; rw [h1] at e; simp [undef] at e
    | some d => rw [hd] at h1 e; simp only at h1; rw [h1] at e; exact hfr hfo b c s e
  refine ⟨h.ext.trans he, h.frame.put hi hio v, fun j hj hl => ?_, fun j hj hl hjf b c s e => ?_, fun j k hj hk hjk hlj hlk hjf hkf b c s b' c' s' e e' => ?_⟩
  rotate_left 1
  · by_cases ej : j = i
    · subst ej; exact (hf hjf b c s e).2
    · rw [h2 j hj ej] at e
      exact Nat.lt_of_lt_of_le (h.lt j hj (by rw [← getD_set_ne false (Ne.symm ej)]; exact hl) hjf b c s e) he.size
  · by_cases ej : j = i
    · subst ej
      have hb := (hf hjf b c s e).1
      rw [h2 k hk (Ne.symm hjk)] at e'
      have := h.lt k hk (by rw [← getD_set_ne false hjk]; exact hlk) hkf b' c' s' e'
      omega
    · rw [h2 j hj ej] at e
      have hb := h.lt j hj (by rw [← getD_set_ne false (Ne.symm ej)]; exact hlj) hjf b c s e
      by_cases ek : k = i
      · subst ek
        have := (hf hkf b' c' s' e').1
        omega
      · rw [h2 k hk ek] at e'
        exact h.ap j k hj hk hjk (by rw [← getD_set_ne false (Ne.symm ej)]; exact hlj) (by rw [← getD_set_ne false (Ne.symm ek)]; exact hlk) hjf hkf b c s b' c' s' e e'
  by_cases e : j = i
  · subst e
    cases hd : o.dst with
    | none => rw [hd] at h1; simp only at h1; rw [h1]; exact hnone _ _ hi hio hd v w' hv
    | some d => rw [hd] at h1; simp only at h1; rw [h1]; exact hv
  · rw [h2 j hj e]
    exact hst j hj _ _ _ he (h.facts j hj (by rw [← getD_set_ne false (Ne.symm e)]; exact hl))
theorem RInv.step (ho : RegionOK ops n N deps E) (hst : ∀ i, i < n → Stab (φ i)) (hnone : ∀ i o, i < n → ops[i]? = some o → o.dst = none → ∀ v w, φ i v w → φ i undef w) {listed : Array Bool} {a : Act} {w w' : World} (hN : a.tmps.size = N) (h : RInv ops n φ a0 w0 listed a w) {i : Nat} {o : Oper} (hi : i < n) (hio : ops[i]? = some o) {v : Value} (he : Ext w w') (hv : φ i v w') (hfr : FrOK o w v w') :
    RInv ops n φ a0 w0 (listed.setIfInBounds i true) (a.put o.dst v) w' := RInv.step' ho.dst hst hnone hN h hi hio he hv hfr
/-- The state of 'listed' in which the first k have come up. -/
def firsts (m k : Nat) : Array Bool := (Array.range m).map fun i => decide (i < k)
theorem firsts_get {m k i : Nat} (h : i < m) : (firsts m k).getD i false = decide (i < k) := by simp [firsts, h]
theorem firsts_set {m k : Nat} : (firsts m k).setIfInBounds k true = firsts m (k + 1) := by
  apply Array.ext
  · simp [firsts]
  · intro i h1 h2
    have hi : i < m := by simpa [firsts] using h2
    rw [Array.getElem_setIfInBounds (by simpa [firsts] using hi)]
    split
    · subst_vars; simp [firsts]
    · simp [firsts]; omega
theorem closed_mem {listed : Array Bool} (ho : depsOk ops deps = true) (hc : ∀ i, listed.getD i false = true → ∀ j ∈ deps.getD i [], listed.getD j false = true) {i : Nat} {o : Oper} (hio : ops[i]? = some o)
    (hr : ∀ e ∈ o.after, Region.binds .any e = true → listed.getD e.on false = true) : ∀ j ∈ deps.getD i [], listed.getD j false = true := by
  intro j hj
  have hlt : i < ops.size := (Array.getElem?_eq_some_iff.1 hio).1
  have h1 := List.all_eq_true.1 (List.all_eq_true.1 ho i (List.mem_range.2 hlt)) j hj
  simp only [hio, Bool.and_eq_true] at h1
  obtain ⟨e, he, hb⟩ := Array.any_eq_true'.1 h1.2
  simp only [Bool.and_eq_true, Bool.or_eq_true, beq_iff_eq] at hb
  have hl := hr e he hb.1
  rcases hb.2 with e1 | e1
  · rw [← e1]; exact hl
  · exact hc _ hl j (by simpa using e1)
theorem dep_lt (ho : depsOk ops deps = true) {i j : Nat} (hi : i < ops.size) (hj : j ∈ deps.getD i []) : j < i := by
  have h1 := List.all_eq_true.1 (List.all_eq_true.1 ho i (List.mem_range.2 hi)) j hj
  simp only [Bool.and_eq_true] at h1
  exact of_decide_eq_true h1.1
theorem edge_lt (ho : edgesOk ops = true) {i : Nat} {o : Oper} (hio : ops[i]? = some o) {e : Edge} (he : e ∈ o.after) (hb : Region.binds .any e = true) : e.on < i := by
  have h1 := List.all_eq_true.1 ho i (List.mem_range.2 (Array.getElem?_eq_some_iff.1 hio).1)
  simp only [hio] at h1
  have h2 := Array.all_eq_true_iff_forall_mem.1 h1 e he
  simpa [hb] using h2
theorem ready_first (ho : edgesOk ops = true) {listed : Array Bool} {k : Nat} (hk : k < ops.size) (h0 : listed.getD k true = false) (h : ∀ j, j < k → listed.getD j false = true) : k ∈ Region.ready .any ops listed :=
  mem_ready.2 ⟨h0, ops[k], Array.getElem?_eq_getElem hk, fun _ he hb => h _ (edge_lt ho (Array.getElem?_eq_getElem hk) he hb)⟩
theorem ready_lt {listed : Array Bool} {i : Nat} (h : i ∈ Region.ready .any ops listed) : i < ops.size := by
  obtain ⟨_, o, ho, _⟩ := mem_ready.1 h
  exact (Array.getElem?_eq_some_iff.1 ho).1
/-- The tail: in the order of the text. -/
theorem wpAny_tail {Q : Exit → Act → World → Prop} (ho : RegionOK ops n N deps E) : ∀ (m k : Nat) (a : Act) (w : World) (fuel : Nat), m ≤ fuel → n ≤ k → k + m = ops.size → wpOps P ops Q ((List.range m).map (k + ·)) a w → wpAny P .any ops Q fuel (firsts ops.size k) a w := by
  intro m
  induction m with
  | zero =>
    intro k a w fuel _ _ hk h
    have hr : Region.ready .any ops (firsts ops.size k) = [] := by
      apply List.eq_nil_iff_forall_not_mem.2
      intro i hi
      have hlt := ready_lt hi
      have h0 := (mem_ready.1 hi).1
      have : (firsts ops.size k).getD i true = decide (i < k) := by simp [firsts, hlt]
      rw [this] at h0
      simp at h0; omega
    exact wpAny_done hr (by simpa [wpOps] using h) fuel
  | succ m ih =>
    intro k a w fuel hf hn hk h
    obtain ⟨fuel, rfl⟩ : ∃ f, fuel = f + 1 := ⟨fuel - 1, by omega⟩
    have hlist : (List.range (m + 1)).map (k + ·) = k :: (List.range m).map (k + 1 + ·) := by
      rw [List.range_succ_eq_map, List.map_cons, List.map_map]
      congr 1
      apply List.map_congr_left
      intro x _
      simp only [Function.comp]; omega
    rw [hlist, wpOps_cons] at h
    have hklt : k < ops.size := by omega
    have hone : ∀ i ∈ Region.ready .any ops (firsts ops.size k), i = k := by
      intro i hi
      have hlt := ready_lt hi
      obtain ⟨h0, o, hio, hall⟩ := mem_ready.1 hi
      have hge : k ≤ i := by
        have : (firsts ops.size k).getD i true = decide (i < k) := by simp [firsts, hlt]
        rw [this] at h0
        simpa using h0
      rcases Nat.lt_or_ge k i with hki | hki
      · exfalso
        have hd := List.all_eq_true.1 ho.late i (List.mem_range.2 hlt)
        simp only [Bool.or_eq_true, decide_eq_true_eq] at hd
        have hmem : k ∈ deps.getD i [] := by
          rcases hd with hd | hd
          · omega
          · have hx := List.all_eq_true.1 hd k (List.mem_range.2 hki)
            simp only [Bool.or_eq_true, Bool.and_eq_true] at hx
            rcases hx with hx | hx
            · simpa using hx
            · have he := List.all_eq_true.1 ho.free k (by simpa using hx.1)
              simp only [Bool.and_eq_true, decide_eq_true_eq] at he
              omega
        -- everything that i waits for has come up, so has k
        have hcl : ∀ x, (firsts ops.size k).getD x false = true → ∀ j ∈ deps.getD x [], (firsts ops.size k).getD j false = true := by
          intro x hx j hj
          have hxs : x < ops.size := by
            rcases Nat.lt_or_ge x ops.size with h' | h'
            · exact h'
            · simp [firsts, h'] at hx
          rw [firsts_get hxs] at hx
          simp at hx
          have := dep_lt ho.dep hxs hj
          rw [firsts_get (by omega)]
          simp; omega
        have := closed_mem ho.dep hcl hio hall k hmem
        rw [firsts_get hklt] at this
        simp at this
      · omega
    refine ⟨fun hr => ?_, fun i hi => ?_⟩
    · have hin := ready_first ho.edge (listed := firsts ops.size k) hklt (by simp [firsts, hklt]) (fun j hj => by rw [firsts_get (by omega)]; simpa using hj)
      rw [hr] at hin; cases hin
    · obtain rfl := hone i hi
      rw [firsts_set]
      exact wpOp_mono (fun a' w' h' => ih (i + 1) a' w' fuel (by omega) (by omega) (by omega) h') h
/-- How many are still to come. -/
def undone (listed : Array Bool) (m : Nat) : Nat := (List.range m).countP fun i => !listed.getD i false
theorem undone_set {listed : Array Bool} {i : Nat} (hs : i < listed.size) (h0 : listed.getD i false = false) : ∀ m, undone (listed.setIfInBounds i true) m + (if i < m then 1 else 0) = undone listed m := by
  intro m
  induction m with
  | zero => simp [undone]
  | succ m ih =>
    unfold undone at *
    rw [List.range_succ, List.countP_append, List.countP_append]
    by_cases e : i = m
    · subst e
      rw [if_neg (Nat.lt_irrefl _)] at ih
      have e1 : (listed.setIfInBounds i true).getD i false = true := by simp [hs]
      rw [if_pos (Nat.lt_succ_self i)]
      simp only [List.countP_cons, List.countP_nil, e1, h0, Bool.not_true, Bool.not_false, if_true, Bool.false_eq_true, if_false]
      omega
    · have : (listed.setIfInBounds i true).getD m false = listed.getD m false := getD_set_ne false e
      by_cases h2 : i < m
      · rw [if_pos h2] at ih
        rw [if_pos (by omega)]
        simp only [List.countP_cons, List.countP_nil, this]
        omega
      · rw [if_neg h2] at ih
        rw [if_neg (by omega)]
        simp only [List.countP_cons, List.countP_nil, this]
        omega
theorem undone_ge {listed : Array Bool} (h : ∀ i, n ≤ i → listed.getD i false = false) : ∀ m, m - n ≤ undone listed m := by
  intro m
  induction m with
  | zero => simp
  | succ m ih =>
    unfold undone at *
    rw [List.range_succ, List.countP_append]
    by_cases e : n ≤ m
    · simp only [List.countP_cons, List.countP_nil, h m e, Bool.not_false, if_true]
      omega
    · omega
/-- No panic is let by. -/
def NP (Q : Exit → Act → World → Prop) : Exit → Act → World → Prop
  | .panic _, _, _ => False
  | e, a, w => Q e a w
/-- The operations of E: their values, in whatever world. -/
def FreeRuns (P : Program) (ops : Array Oper) (n : Nat) (deps : List (List Nat)) (E : List Nat) (φ : Nat → Value → World → Prop) (a0 : Act) (w0 : World) : Prop :=
  ∀ i ∈ E, ∀ o, ops[i]? = some o → ∀ a w, Ext w0 w → FrameOK ops n a0 a → (∀ j ∈ deps.getD i [], φ j (dstV ops a j) w) → ∃ v, Yields P ops o v a ∧ φ i v w ∧ isFresh o.op = false
theorem wpAny_region {Q : Exit → Act → World → Prop} (hfree : FreeRuns P ops n deps E φ a0 w0) (ho : RegionOK ops n N deps E) (hst : ∀ i, i < n → Stab (φ i)) (hnone : ∀ i o, i < n → ops[i]? = some o → o.dst = none → ∀ v w, φ i v w → φ i undef w)
    (hN : a0.tmps.size = N) (hrun : RunsAll P ops n deps φ a0 w0)
    (hfin : ∀ a w, Ext w0 w → FrameOK ops n a0 a → (∀ i, i < n → φ i (dstV ops a i) w) → Apart ops n a → wpOps P ops (NP Q) ((List.range (ops.size - n)).map (n + ·)) a w) :
    ∀ (fuel : Nat) (listed : Array Bool) (a : Act) (w : World), listed.size = ops.size → undone listed ops.size ≤ fuel →
      (∀ i, listed.getD i false = true → ∀ j ∈ deps.getD i [], listed.getD j false = true) → (∀ i, n ≤ i → listed.getD i false = false) → RInv ops n φ a0 w0 listed a w → wpAny P .any ops (NP Q) fuel listed a w := by
  intro fuel
  induction fuel with
  | zero =>
    intro listed a w hls hu hc hlate h
    -- nothing is left: the region is done
    have hsz : ops.size - n ≤ 0 := Nat.le_trans (undone_ge hlate _) hu
    have hn : n = ops.size := by have := ho.le; omega
    have hall : ∀ i, i < ops.size → listed.getD i false = true := by
      intro i hi
      cases h0 : listed.getD i false with
      | true => rfl
      | false =>
        have := undone_set (listed := listed) (by omega) h0 ops.size
        rw [if_pos hi] at this
        omega
    have hr : Region.ready .any ops listed = [] := by
      apply List.eq_nil_iff_forall_not_mem.2
      intro i hi
      have hlt := ready_lt hi
      have h0 := (mem_ready.1 hi).1
      have h1 := hall i hlt
      simp [hls, hlt] at h0 h1
      rw [h0] at h1; cases h1
    refine wpAny_done hr ?_ 0
    have := hfin a w h.ext h.frame (fun i hi => h.facts i hi (hall i (by omega))) (fun i j hi hj hij => h.ap i j hi hj hij (hall i (by omega)) (hall j (by omega)))
    rw [hn, Nat.sub_self] at this
    simpa [wpOps] using this
  | succ fuel ih =>
    intro listed a w hls hu hc hlate h
    by_cases hdone : ∀ i, i < n → listed.getD i false = true
    · have e : listed = firsts ops.size n := by
        apply Array.ext
        · simp [firsts, hls]
        · intro i h1 h2
          have hi : i < ops.size := by omega
          have hx : listed[i] = listed.getD i false := by simp [h1]
          rw [hx]
          simp only [firsts, Array.getElem_map, Array.getElem_range]
          by_cases e : i < n
          · rw [hdone i e]; simp [e]
          · rw [hlate i (by omega)]; simp [e]
      subst e
      exact wpAny_tail ho (ops.size - n) n a w (fuel + 1) (Nat.le_trans (undone_ge hlate _) hu) (Nat.le_refl _) (by have := ho.le; omega) (hfin a w h.ext h.frame (fun i hi => h.facts i hi (hdone i hi)) (fun i j hi hj hij => h.ap i j hi hj hij (hdone i hi) (hdone j hj)))
    · by_cases hE : ∃ e ∈ E, e ∈ Region.ready .any ops listed
      · obtain ⟨e, heE, her⟩ := hE
        obtain ⟨h0, o, hio, hall⟩ := mem_ready.1 her
        have hes := ready_lt her
        have hf := List.all_eq_true.1 ho.free e heE
        simp only [hio, Bool.and_eq_true, decide_eq_true_eq] at hf
        have hen := hf.1
        have h0' : listed.getD e false = false := by
          have hls' : e < listed.size := by omega
          simp [hls'] at h0 ⊢
          exact h0
        have hcl := closed_mem ho.dep hc hio hall
        obtain ⟨v, hy, hv, hfr⟩ := hfree e heE o hio a w h.ext h.frame (fun j hj => h.facts j (by have := dep_lt ho.dep hes hj; omega) (hcl j hj))
        refine wpAny_first hio (Region.noSelect_spec ho.sel) (fun _ _ _ hx => hx.elim) fuel listed a w (fun j oj hj hne hun hno => ?_) her hy ?_
        · have hx := List.all_eq_true.1 hf.2.2 j (List.mem_range.2 (Array.getElem?_eq_some_iff.1 hj).1)
          simp only [hj, Bool.or_eq_true, beq_iff_eq] at hx
          rcases hx with (hx | hx) | hx
          · exact absurd hx hne
          · have h1 := hcl j (by simpa using hx)
            rcases Nat.lt_or_ge j listed.size with h' | h'
            · simp [h'] at h1 hun
              rw [h1] at hun; cases hun
            · have := dep_lt ho.dep hes (show j ∈ deps.getD e [] by simpa using hx)
              omega
          · rcases hx with hx | hx
            · obtain ⟨x, hx1, hx2⟩ := Array.any_eq_true'.1 hx
              simp only [Bool.and_eq_true, beq_iff_eq] at hx2
              exact absurd hx2.2 (hno x hx1 hx2.1)
            · exact hx
        · refine ih _ _ _ (by simp [hls]) ?_ ?_ ?_ (h.step ho hst hnone (by rw [h.frame.size, hN]) hen hio (Ext.refl w) hv (fun e => by rw [hfr] at e; cases e))
          · have := undone_set (listed := listed) (i := e) (by omega) h0' ops.size
            rw [if_pos hes] at this
            omega
          · intro x hx j hj
            by_cases ex : x = e
            · subst ex
              exact getD_set_true (hcl j hj)
            · rw [getD_set_ne false (Ne.symm ex)] at hx
              exact getD_set_true (hc x hx j hj)
          · intro x hx
            rw [getD_set_ne false (by omega)]
            exact hlate x hx
      have hlt : ∀ i ∈ Region.ready .any ops listed, i < n := by
        intro i hi
        rcases Nat.lt_or_ge i n with h' | h'
        · exact h'
        · exfalso
          refine hdone fun j hj => ?_
          have his := ready_lt hi
          obtain ⟨_, o, hio, hall⟩ := mem_ready.1 hi
          have hd := List.all_eq_true.1 ho.late i (List.mem_range.2 his)
          simp only [Bool.or_eq_true, decide_eq_true_eq] at hd
          rcases hd with hd | hd
          · omega
          · have hx := List.all_eq_true.1 hd j (List.mem_range.2 (by omega))
            simp only [Bool.or_eq_true, Bool.and_eq_true] at hx
            rcases hx with hx | ⟨hx, hx2⟩
            · exact closed_mem ho.dep hc hio hall j (by simpa using hx)
            · cases hb : listed.getD j false with
              | true => rfl
              | false =>
                exfalso
                have hjE : j ∈ E := by simpa using hx
                refine hE ⟨j, hjE, ?_⟩
                have hf := List.all_eq_true.1 ho.free j hjE
                have hjs : j < ops.size := by have := ho.le; omega
                have hjo : ops[j]? = some ops[j] := Array.getElem?_eq_getElem hjs
                simp only [hjo, Bool.and_eq_true, decide_eq_true_eq] at hf
                refine mem_ready.2 ⟨?_, _, hjo, fun x hx1 hb1 => ?_⟩
                · have hls' : j < listed.size := by omega
                  simp [hls'] at hb ⊢
                  exact hb
                · have h1 := Array.all_eq_true_iff_forall_mem.1 hf.2.1 x hx1
                  simp only [hb1, Bool.not_true, Bool.false_or] at h1
                  have h2 := List.all_eq_true.1 hx2 x.on (by simpa using h1)
                  exact closed_mem ho.dep hc hio hall x.on (by simpa using h2)
      refine ⟨fun hr => ?_, fun i hi => ?_⟩
      · exfalso
        -- the first that is still to come may come up
        have hex : ∃ k, k < ops.size ∧ listed.getD k false = false ∧ ∀ j, j < k → listed.getD j false = true := by
          by_cases hx : ∃ k, listed.getD k false = false ∧ k < n
          · obtain ⟨k, hk⟩ := hx
            have hle := ho.le
            have key : ∀ m k, k < m → listed.getD k false = false → k < n → ∃ k, k < ops.size ∧ listed.getD k false = false ∧ ∀ j, j < k → listed.getD j false = true := by
              intro m
              induction m with
              | zero => intro k hk; omega
              | succ m ihm =>
                intro k hkm hk0 hkn
                by_cases hy : ∀ j, j < k → listed.getD j false = true
                · exact ⟨k, by omega, hk0, hy⟩
                · have : ∃ j, j < k ∧ listed.getD j false = false := by
                    apply Classical.byContradiction
                    intro hne
                    apply hy
                    intro j hj
                    cases hb : listed.getD j false with
                    | true => rfl
                    | false => exact absurd ⟨j, hj, hb⟩ hne
                  obtain ⟨j, hj, hj0⟩ := this
                  exact ihm j (by omega) hj0 (by omega)
            exact key (k + 1) k (by omega) hk.1 hk.2
          · exfalso
            refine hdone fun i hi => ?_
            cases hb : listed.getD i false with
            | true => rfl
            | false => exact absurd ⟨i, hb, hi⟩ hx
        obtain ⟨k, hk, hk0, hkj⟩ := hex
        have hk1 : listed.getD k true = false := by
          have hls' : k < listed.size := by omega
          simp [hls'] at hk0 ⊢
          exact hk0
        have := ready_first ho.edge hk hk1 hkj
        rw [hr] at this; cases this
      · have hin := hlt i hi
        have his := ready_lt hi
        obtain ⟨h0, o, hio, hall⟩ := mem_ready.1 hi
        have h0' : listed.getD i false = false := by
          have hls' : i < listed.size := by omega
          simp [hls'] at h0 ⊢
          exact h0
        have hcl := closed_mem ho.dep hc hio hall
        refine wpOp_of_ok hio (hrun i hin o hio a w h.ext h.frame (fun j hj => h.facts j (by have := dep_lt ho.dep his hj; omega) (hcl j hj))) fun v w' he hv hfr => ?_
        refine ih _ _ _ (by simp [hls]) ?_ ?_ ?_ (h.step ho hst hnone (by rw [h.frame.size, hN]) hin hio he hv hfr)
        · have := undone_set (listed := listed) (i := i) (by omega) h0' ops.size
          rw [if_pos his] at this
          omega
        · intro x hx j hj
          by_cases e : x = i
          · subst e
            exact getD_set_true (hcl j hj)
          · rw [getD_set_ne false (Ne.symm e)] at hx
            exact getD_set_true (hc x hx j hj)
        · intro x hx
          rw [getD_set_ne false (by omega)]
          exact hlate x hx
/-- The same in the order of the text. -/
theorem wpOps_region {Q : Exit → Act → World → Prop} (hdst : dstOk ops n N = true) (hle : n ≤ ops.size) (hst : ∀ i, i < n → Stab (φ i)) (hnone : ∀ i o, i < n → ops[i]? = some o → o.dst = none → ∀ v w, φ i v w → φ i undef w)
    (hN : a0.tmps.size = N) (hrun : RunsAll P ops n deps φ a0 w0) (hd : ∀ i, i < n → ∀ j ∈ deps.getD i [], j < i)
    (hfin : ∀ a w, Ext w0 w → FrameOK ops n a0 a → (∀ i, i < n → φ i (dstV ops a i) w) → Apart ops n a → wpOps P ops Q ((List.range (ops.size - n)).map (n + ·)) a w) : wpOps P ops Q (List.range ops.size) a0 w0 := by
  have ho' : ∀ (listed : Array Bool) (a : Act) (w w' : World) (_ : a.tmps.size = N) (_ : RInv ops n φ a0 w0 listed a w) {i : Nat} {o : Oper} (_ : i < n) (_ : ops[i]? = some o) {v : Value} (_ : Ext w w') (_ : φ i v w') (_ : FrOK o w v w'), RInv ops n φ a0 w0 (listed.setIfInBounds i true) (a.put o.dst v) w' := by
    intro listed a w w' hN h i o hi hio v he hv hfr
    exact RInv.step' hdst hst hnone hN h hi hio he hv hfr
  have key : ∀ (m k : Nat) (a : Act) (w : World), k + m = n → RInv ops n φ a0 w0 (firsts ops.size k) a w → wpOps P ops Q ((List.range m).map (k + ·) ++ (List.range (ops.size - n)).map (n + ·)) a w := by
    intro m
    induction m with
    | zero =>
      intro k a w hk h
      rw [List.range_zero, List.map_nil, List.nil_append]
      have hd1 : ∀ i, i < n → (firsts ops.size k).getD i false = true := fun i hi => by rw [firsts_get (by omega)]; simp; omega
      exact hfin a w h.ext h.frame (fun i hi => h.facts i hi (hd1 i hi)) (fun i j hi hj hij => h.ap i j hi hj hij (hd1 i hi) (hd1 j hj))
    | succ m ih =>
      intro k a w hk h
      have hlist : (List.range (m + 1)).map (k + ·) = k :: (List.range m).map (k + 1 + ·) := by
        rw [List.range_succ_eq_map, List.map_cons, List.map_map]
        congr 1
        apply List.map_congr_left
        intro x _
        simp only [Function.comp]; omega
      rw [hlist, List.cons_append, wpOps_cons]
      have hks : k < ops.size := by omega
      have hio : ops[k]? = some ops[k] := Array.getElem?_eq_getElem hks
      refine wpOp_of_ok hio (hrun k (by omega) _ hio a w h.ext h.frame (fun j hj => h.facts j (by have := hd k (by omega) j hj; omega) (by have := hd k (by omega) j hj; rw [firsts_get (by omega)]; simpa using this))) fun v w' he hv hfr => ?_
      refine ih (k + 1) _ _ (by omega) ?_
      rw [← firsts_set]
      exact ho' _ _ _ _ (by rw [h.frame.size, hN]) h (by omega) hio he hv hfr
  have := key n 0 a0 w0 (by omega) ⟨Ext.refl _, ⟨fun _ _ => rfl, rfl, rfl⟩, fun i hi hl => by
    rw [firsts_get (by omega)] at hl; simp at hl, fun i hi hl => by
    rw [firsts_get (by omega)] at hl; simp at hl, fun i j hi hj hij hl => by
    rw [firsts_get (by omega)] at hl; simp at hl⟩
  have e : (List.range n).map (0 + ·) ++ (List.range (ops.size - n)).map (n + ·) = List.range ops.size := by
    have : ops.size = n + (ops.size - n) := by omega
    conv => rhs; rw [this, List.range_add]
    simp
  rwa [e] at this
/-- THE RULE: a region that asks for its order. -/
theorem region_draw {id : Nat} {Q : Exit → Act → World → Prop} (hm : P.follows .mixedOrders = true) (ho : RegionOK ops n N deps E) (hst : ∀ i, i < n → Stab (φ i)) (hnone : ∀ i o, i < n → ops[i]? = some o → o.dst = none → ∀ v w, φ i v w → φ i undef w)
    (hN : a0.tmps.size = N) (hrun : RunsAll P ops n deps φ a0 w0)
    (hfree : FreeRuns P ops n deps E φ a0 w0)
    (hfin : ∀ a w, Ext w0 w → FrameOK ops n a0 a → (∀ i, i < n → φ i (dstV ops a i) w) → Apart ops n a → wpOps P ops (NP Q) ((List.range (ops.size - n)).map (n + ·)) a w) : (Code.region id ops true).wp P Q a0 w0 := by
  refine wp_mono (Q := NP Q) ?_ (fun e a w h => by cases e <;> first | exact h | exact h.elim)
  refine wp_region_any hm (wpAny_region hfree ho hst hnone hN hrun hfin ops.size _ a0 _ (by simp) ?_ (fun i hi => ?_) (fun i hi => ?_) ⟨Ext.drew w0, ⟨fun _ _ => rfl, rfl, rfl⟩, fun i hi hl => ?_, fun i hi hl => ?_, fun i j hi hj hij hl => ?_⟩)
  · unfold undone
    exact Nat.le_trans (List.countP_le_length) (by simp)
  · simp [Array.getElem?_replicate] at hi
    split at hi <;> simp at hi
  · simp [Array.getElem?_replicate]
    split <;> rfl
  all_goals
    simp [Array.getElem?_replicate] at hl
    split at hl <;> simp at hl
/-- THE RULE: a region in the order of the text. -/
theorem region_plain {id : Nat} {Q : Exit → Act → World → Prop} (hdst : dstOk ops n N = true) (hle : n ≤ ops.size) (hst : ∀ i, i < n → Stab (φ i)) (hnone : ∀ i o, i < n → ops[i]? = some o → o.dst = none → ∀ v w, φ i v w → φ i undef w)
    (hN : a0.tmps.size = N) (hrun : RunsAll P ops n deps φ a0 w0) (hd : ∀ i, i < n → ∀ j ∈ deps.getD i [], j < i)
    (hfin : ∀ a w, Ext w0 w → FrameOK ops n a0 a → (∀ i, i < n → φ i (dstV ops a i) w) → Apart ops n a → wpOps P ops Q ((List.range (ops.size - n)).map (n + ·)) a w) : (Code.region id ops false).wp P Q a0 w0 :=
  wp_region (wpOps_region hdst hle hst hnone hN hrun hd hfin)
end
open Go.RowKit

section
variable {P : Program} {o : Oper} {a : Act} {w : World} {φ : Value → World → Prop}
/-- Operation i of a region. -/
def OpAt (P : Program) (ops : Array Oper) (i : Nat) (a : Act) (w : World) (φ : Value → World → Prop) : Prop := ∀ o, ops[i]? = some o → OpOK P ops o a w φ
theorem opAt {ops : Array Oper} {i : Nat} (h : ops[i]? = some o) (k : OpOK P ops o a w φ) : OpAt P ops i a w φ := fun o' h' => by
  obtain rfl := Option.some.inj (h.symm.trans h')
  exact k
theorem ok_run {ops : Array Oper} (hg : o.guard = none) (h : OpRun P o a w φ) : OpOK P ops o a w φ := .inl ⟨by simp [Region.wanted, hg], h⟩
theorem yielded_of {ops : Array Oper} {j : Nat} {c : Bool} (h : dstV ops a j = .bool c) : yielded ops a.tmps j = some c := by
  unfold dstV at h
  unfold yielded
  cases hd : (ops[j]?).bind (·.dst) with
  | none => rw [hd] at h; simp [undef] at h
  | some d =>
    rw [hd] at h
    simp only [Act.at, Array.getD_eq_getD_getElem?] at h
    simp only [Option.bind_some]
    cases ht : a.tmps[d]? with
    | none => rw [ht] at h; simp [undef] at h
    | some v => rw [ht] at h; simp at h; rw [h]
theorem ok_guard {ops : Array Oper} {j : Nat} {want c : Bool} (hg : o.guard = some (j, want)) (hj : dstV ops a j = .bool c) (h1 : c = want → OpRun P o a w φ) (h2 : c ≠ want → φ undef w) : OpOK P ops o a w φ := by
  have hy := yielded_of hj
  by_cases e : c = want
  · exact .inl ⟨by simp [Region.wanted, hg, hy, e], h1 e⟩
  · refine .inr ⟨?_, h2 e⟩
    simp [Region.wanted, hg, hy, e]
theorem run_ok {v : Value} {w' : World} (hfr : isFresh o.op = false) (h : (execOp a.eval o).run P w = .ok (.value v) w') (he : Ext w w') (hφ : φ v w') : OpRun P o a w φ := by
  unfold OpRun Oper.wp
  rw [h]
  exact ⟨v, rfl, he, hφ, fun e => by rw [hfr] at e; cases e⟩
theorem run_here {v : Value} (hfr : isFresh o.op = false) (h : (execOp a.eval o).run P w = .ok (.value v) w) (hφ : φ v w) : OpRun P o a w φ := run_ok hfr h (Ext.refl w) hφ
theorem run_new {ob : Obj} (h : (execOp a.eval o).run P w = .ok (.value (.pointer (some ⟨w.heap.size, 0, none⟩))) (w.alloc ob)) (hφ : φ (.pointer (some ⟨w.heap.size, 0, none⟩)) (w.alloc ob)) : OpRun P o a w φ := by
  unfold OpRun Oper.wp
  rw [h]
  exact ⟨_, rfl, Ext.alloc w ob, hφ, fun _ b c s e => by
    simp only [Value.pointer.injEq, Option.some.injEq, Addr.mk.injEq] at e
    obtain ⟨rfl, _, _⟩ := e
    simp⟩
/-- A variable of its own. -/
def IsBox (cs : Array Value) (t : TypeId) (B : Nat) (v : Value) (w : World) : Prop := ∃ b, v = .pointer (some ⟨b, 0, none⟩) ∧ B ≤ b ∧ w.heap[b]? = some (.cells cs t (0, 0))
theorem stab_box (cs : Array Value) (t : TypeId) (B : Nat) : Stab (IsBox cs t B) := fun _ _ _ h ⟨b, e, hb, hr⟩ => ⟨b, e, hb, h.row hr⟩
theorem box_new {cs : Array Value} {t : TypeId} {B : Nat} (hB : B ≤ w.heap.size) : IsBox cs t B (.pointer (some ⟨w.heap.size, 0, none⟩)) (w.alloc (.cells cs t)) := ⟨_, rfl, hB, by
  show (w.heap.push _)[w.heap.size]? = _
  simp⟩
theorem run_call {f : FuncId} {args : Array Operand} {tys : Array TypeId} (ho : o.op = .call ⟨.value (.func f), args, tys⟩) (hf : ∀ args w, (callFunc f args).run P w = .ok (.enter f args) w)
    (hc : Calls P f (args.map a.eval) w fun e w' => ∃ v, e = .returned v ∧ Ext w w' ∧ φ v w') : OpRun P o a w φ := by
  unfold OpRun Oper.wp
  have h : (execOp a.eval o).run P w = .ok (.enter f (args.map a.eval)) w := by
    unfold execOp
    simp [ho, resolve, Act.eval, Deferred.ofValue, invoke, hf]
  rw [h]
  exact hc.mono fun e w' ⟨v, he, h1, h2⟩ => by
    subst he
    exact ⟨v, rfl, h1, h2, fun e => by rw [ho] at e; cases e⟩
theorem ex_move {x : Operand} (ho : o.op = .move x ∨ o.op = .assign x) {v : Value} (hx : a.eval x = v) : (execOp a.eval o).run P w = .ok (.value v) w := by
  unfold execOp
  rcases ho with ho | ho <;> simp [ho, hx]
theorem ex_pick {c x y : Operand} (ho : o.op = .pick c x y) {b : Bool} (hc : a.eval c = .bool b) : (execOp a.eval o).run P w = .ok (.value (if b then a.eval x else a.eval y)) w := by
  unfold execOp
  simp [ho, hc, asBool]
theorem ex_pick_and {c x : Operand} {b e : Bool} (ho : o.op = .pick c x (.const (.bool false))) (hc : a.eval c = .bool b) (hx : b = true → a.eval x = .bool e) : (execOp a.eval o).run P w = .ok (.value (.bool (b && e))) w := by
  rw [ex_pick ho hc]
  cases b with
  | false => rfl
  | true => simp [hx rfl]
theorem ex_pick_or {c x : Operand} {b e : Bool} (ho : o.op = .pick c (.const (.bool true)) x) (hc : a.eval c = .bool b) (hx : b = false → a.eval x = .bool e) : (execOp a.eval o).run P w = .ok (.value (.bool (b || e))) w := by
  rw [ex_pick ho hc]
  cases b with
  | true => rfl
  | false => simp [hx rfl]
theorem and_l {x y : Bool} (h : (x && y) = true) : x = true := by cases x <;> simp_all
theorem and_r {x y : Bool} (h : (x && y) = true) : y = true := by cases x <;> simp_all
theorem or_l {x y : Bool} (h : (x || y) = false) : x = false := by cases x <;> simp_all
theorem or_r {x y : Bool} (h : (x || y) = false) : y = false := by cases x <;> simp_all
theorem not_t' {x : Bool} (h : (!x) = true) : x = false := by cases x <;> simp_all
theorem not_f' {x : Bool} (h : (!x) = false) : x = true := by cases x <;> simp_all
theorem ex_extract {x : Operand} {i : Nat} (ho : o.op = .extract x i) {vs : Array Value} {v : Value} (hx : a.eval x = .tuple vs) (hv : vs[i]? = some v) : (execOp a.eval o).run P w = .ok (.value v) w := by
  unfold execOp
  simp [ho, hx, Instr.extract, hv]
theorem ex_load {x : Operand} {t : TypeId} (ho : o.op = .load t x) {p : Addr} {v : Value} (hx : a.eval x = .pointer (some p)) (hl : (loadVar t p).run P w = .ok v w) : (execOp a.eval o).run P w = .ok (.value v) w := by
  unfold execOp
  simp [ho, hx, Instr.loadAt, Instr.sureAddr, hl]
theorem load_cell {t : TypeId} (hA : ∀ w, (isAgg t).run P w = .ok false w) {b off : Nat} {v : Value} (hc : w.cell? ⟨b, off, none⟩ = some v) : (loadVar t ⟨b, off, none⟩).run P w = .ok v w := by
  unfold loadVar
  simp [hA, go_sem, hc]
theorem load_row {t : TypeId} {b : Nat} {cs : Array Value} {u : TypeId} {fr : Nat × Nat} {d : TypeDesc} (hr : w.heap[b]? = some (.cells cs u fr)) (hu : P.underlying t = some d) (hd : d.isRow = true) (hi : (P.info? t).map (·.size) = some cs.size) : (loadVar t ⟨b, 0, none⟩).run P w = .ok (.agg cs) w :=
  run_loadVar_row w b u t cs fr d hr hu (by cases d <;> simp_all [TypeDesc.isRow]) hi
theorem cell_row {b : Nat} {cs : Array Value} {u : TypeId} {fr : Nat × Nat} (hr : w.heap[b]? = some (.cells cs u fr)) (j : Nat) : w.cell? ⟨b, j, none⟩ = cs[j]? := by simp [World.cell?, hr]
/-- A part of a row, cells o .. o + n. -/
theorem load_part {t : TypeId} {b off n : Nat} {cs part : Array Value} {u : TypeId} {fr : Nat × Nat} {d : TypeDesc} (hr : w.heap[b]? = some (.cells cs u fr)) (hp : cs.extract off (off + n) = part) (hn : part.size = n)
    (hu : P.underlying t = some d) (hd : d.isRow = true) (hi : (P.info? t).map (·.size) = some n) : (loadVar t ⟨b, off, none⟩).run P w = .ok (.agg part) w := by
  have h := run_loadVar_mid (P := P) w b off t part.toList d (fun j v hj => by
    rw [cell_row hr, ← hj, ← hp]
    simp only [Array.getElem?_toList, Array.getElem?_extract]
    have hj2 : j < part.size := by
      have := (List.getElem?_eq_some_iff.1 hj).1
      simpa using this
    rw [← hp] at hj2
    simp only [Array.size_extract] at hj2
    rw [if_pos (by omega)]) hu hd (by rw [hi, ← hn]; rfl)
  simpa using h
theorem ex_fieldAddr {s : TypeId} {x : Operand} {f : Nat} (ho : o.op = .fieldAddr s x f) {p : Addr} {fs : Array Field} {fd : Field} (hx : a.eval x = .pointer (some p)) (hs : P.underlying s = some (.struct fs)) (hf : fs[f]? = some fd)
    (hz : ∀ w, ∃ n, (sizeOf fd.type).run P w = .ok (n + 1) w) {q : Addr} (hq : p.add fd.offset = q) : (execOp a.eval o).run P w = .ok (.value (.pointer (some q))) w := by
  obtain ⟨n, hz⟩ := hz w
  unfold execOp
  simp [ho, hx, Instr.fieldAt, run_underlying hs, hf, Instr.sureAddr, fieldPlace, hz, hq]
theorem ex_field {s : TypeId} {x : Operand} {f : Nat} (ho : o.op = .field s x f) {fs : Array Field} {fd : Field} {cs : Array Value} {v : Value} (hx : a.eval x = .agg cs) (hs : P.underlying s = some (.struct fs)) (hf : fs[f]? = some fd)
    (hp : (part fd.type cs fd.offset).run P w = .ok v w) : (execOp a.eval o).run P w = .ok (.value v) w := by
  unfold execOp
  simp [ho, hx, Instr.field, run_underlying hs, hf, asAgg, hp]
theorem ex_binOp {op : BinOp} {t u : TypeId} {x y : Operand} (ho : o.op = .binOp op t x y u) {v : Value} (hg : (eqGuard op t x y (a.eval x) (a.eval y)).run P w = .ok () w) (hb : (binOp op t (a.eval x) (a.eval y)).run P w = .ok v w) : (execOp a.eval o).run P w = .ok (.value v) w := by
  unfold execOp
  simp [ho, hg, hb]
theorem ex_unOp {op : UnOp} {t : TypeId} {x : Operand} (ho : o.op = .unOp op t x) {v : Value} (hb : (Op.unary op (a.eval x)).run P w = .ok v w) : (execOp a.eval o).run P w = .ok (.value v) w := by
  unfold execOp
  simp [ho, hb]
theorem ex_build {t : TypeId} {ps : Array (Nat × Operand)} (ho : o.op = .build t ps) {v : Value} (hb : (Instr.build t (ps.map fun (i, x) => (i, a.eval x))).run P w = .ok v w) : (execOp a.eval o).run P w = .ok (.value v) w := by
  unfold execOp
  simp [ho, hb]
theorem ex_alloc {t : TypeId} (ho : o.op = .alloc t) {z : Value} (hz : ∀ w, (zeroValue t).run P w = .ok z w) : (execOp a.eval o).run P w = .ok (.value (.pointer (some ⟨w.heap.size, 0, none⟩))) (w.alloc (.cells z.cells t)) := by
  unfold execOp
  simp [ho, Instr.alloc, hz, newVar, newRow, go_sem]
theorem ex_box {t : TypeId} {x : Operand} (ho : o.op = .box t x) {v : Value} (hx : a.eval x = v) : (execOp a.eval o).run P w = .ok (.value (.pointer (some ⟨w.heap.size, 0, none⟩))) (w.alloc (.cells v.cells t)) := by
  subst hx
  unfold execOp
  simp [ho, Instr.box, newVar, newRow, go_sem]
theorem ex_buildSlice {t : TypeId} {n : Nat} {ps : Array (Nat × Operand)} (ho : o.op = .buildSlice t n ps) {v : Value} {w' : World} (hb : (Instr.buildSlice t n (ps.map fun (i, x) => (i, a.eval x))).run P w = .ok v w') : (execOp a.eval o).run P w = .ok (.value v) w' := by
  unfold execOp
  simp [ho, hb]
theorem ex_slice {t : TypeId} {x : Operand} {lo hi : Option Operand} (ho : o.op = .slice t x lo hi none) {v : Value} (hb : (Instr.sliceAt t (a.eval x) (lo.map a.eval) (hi.map a.eval) none).run P w = .ok v w) : (execOp a.eval o).run P w = .ok (.value v) w := by
  unfold execOp
  simp [ho, hb]
theorem ex_indexAddr {t : TypeId} {x i : Operand} (ho : o.op = .indexAddr t x i) {v : Value} (hb : (Instr.indexAt t (a.eval x) (a.eval i)).run P w = .ok v w) : (execOp a.eval o).run P w = .ok (.value v) w := by
  unfold execOp
  simp [ho, hb]
theorem ex_index {t : TypeId} {x i : Operand} (ho : o.op = .index t x i) {v : Value} (hb : (Instr.index t (a.eval x) (a.eval i)).run P w = .ok v w) : (execOp a.eval o).run P w = .ok (.value v) w := by
  unfold execOp
  simp [ho, hb]
theorem ex_convert {s t : TypeId} {x : Operand} (ho : o.op = .convert s t x) {v : Value} {w' : World} (hb : (convert s t (a.eval x)).run P w = .ok v w') : (execOp a.eval o).run P w = .ok (.value v) w' := by
  unfold execOp
  simp [ho, hb]
theorem ex_builtin {b : Builtin} {args : Array Operand} {tys : Array TypeId} (ho : o.op = .call ⟨.builtin b, args, tys⟩) {v : Value} {w' : World} (hb : ∀ consts, (builtin b tys o.type consts (args.map a.eval)).run P w = .ok (.value v) w') : (execOp a.eval o).run P w = .ok (.value v) w' := by
  unfold execOp
  simp [ho, resolve, invoke, hb]
theorem ex_store {t : TypeId} {x y : Operand} (ho : o.op = .store t x y) {p : Addr} {w' : World} (hx : a.eval x = .pointer (some p)) (hs : (storeVar t p (a.eval y)).run P w = .ok () w') : (execOp a.eval o).run P w = .ok .skip w' := by
  unfold execOp
  simp [ho, hx, Instr.storeAt, Instr.sureAddr, hs]
theorem ex_lookup {t : TypeId} {x k : Operand} {c : Bool} (ho : o.op = .lookup t x k c) {v : Value} (hb : (Instr.lookup t (a.eval x) (a.eval k) c).run P w = .ok v w) : (execOp a.eval o).run P w = .ok (.value v) w := by
  unfold execOp
  simp [ho, hb]
theorem ex_mapUpdate {t : TypeId} {m k x : Operand} (ho : o.op = .mapUpdate t m k x) {w' : World} (hb : (Instr.mapUpdate t (a.eval m) (a.eval k) (a.eval x)).run P w = .ok () w') : (execOp a.eval o).run P w = .ok .skip w' := by
  unfold execOp
  simp [ho, hb]
theorem ex_makeMap {t : TypeId} (ho : o.op = .makeMap t none) : (execOp a.eval o).run P w = .ok (.value (.map (some w.heap.size))) (w.alloc (.map #[] 0)) := by
  unfold execOp
  simp [ho, Instr.makeMap, go_sem]
/-! ### Values -/
theorem bin_add {k : IntKind} {x y : Int} {t : TypeId} : (binOp .add t (.int k x) (.int k y)).run P w = .ok (.int k (k.wrap (x + y))) w := by simp [go_sem, binOp]
theorem bin_sub {k : IntKind} {x y : Int} {t : TypeId} : (binOp .sub t (.int k x) (.int k y)).run P w = .ok (.int k (k.wrap (x - y))) w := by simp [go_sem, binOp]
theorem bin_mul {k : IntKind} {x y : Int} {t : TypeId} : (binOp .mul t (.int k x) (.int k y)).run P w = .ok (.int k (k.wrap (x * y))) w := by simp [go_sem, binOp]
theorem bin_eql {k : IntKind} {x y : Int} {t : TypeId} : (binOp .eql t (.int k x) (.int k y)).run P w = .ok (.bool (x == y)) w := by simp [go_sem, binOp]
theorem bin_neq {k : IntKind} {x y : Int} {t : TypeId} : (binOp .neq t (.int k x) (.int k y)).run P w = .ok (.bool (x != y)) w := by simp [go_sem, binOp]
theorem bin_lss {k : IntKind} {x y : Int} {t : TypeId} : (binOp .lss t (.int k x) (.int k y)).run P w = .ok (.bool (decide (x < y))) w := by simp [go_sem, binOp]
theorem bin_leq {k : IntKind} {x y : Int} {t : TypeId} : (binOp .leq t (.int k x) (.int k y)).run P w = .ok (.bool (decide (x ≤ y))) w := by simp [go_sem, binOp]
theorem bin_gtr {k : IntKind} {x y : Int} {t : TypeId} : (binOp .gtr t (.int k x) (.int k y)).run P w = .ok (.bool (decide (y < x))) w := by simp [go_sem, binOp]
theorem bin_geq {k : IntKind} {x y : Int} {t : TypeId} : (binOp .geq t (.int k x) (.int k y)).run P w = .ok (.bool (decide (y ≤ x))) w := by simp [go_sem, binOp]
theorem str_beq (x y : ByteArray) : (x.toList == y.toList) = decide (x = y) := by
  rw [Bool.eq_iff_iff, beq_iff_eq, decide_eq_true_eq, ByteArray.toList_eq, ByteArray.toList_eq, Array.toList_inj]
  cases x; cases y; simp
theorem bin_seql {x y : ByteArray} {t : TypeId} : (binOp .eql t (.string x) (.string y)).run P w = .ok (.bool (decide (x = y))) w := by simp [binOp, Op.stringOp, str_beq]
theorem bin_sneq {x y : ByteArray} {t : TypeId} : (binOp .neq t (.string x) (.string y)).run P w = .ok (.bool (!decide (x = y))) w := by simp [binOp, Op.stringOp, str_beq]
theorem bin_sadd {x y : ByteArray} {t : TypeId} (h : x.size + y.size ≤ 9223372036854775807) : (binOp .add t (.string x) (.string y)).run P w = .ok (.string (x ++ y)) w := by simp [go_sem, binOp, h]
theorem equalIn_bool (d : Nat) {x y : Bool} {t : TypeId} (ht : P.underlying t = some .bool) : (Op.equalIn (d + 1) t (.bool x) (.bool y)).run P w = .ok (x == y) w := by
  unfold Op.equalIn
  simp only [Sem.run_bind, run_underlying ht, Result.andThen_ok, Sem.run_pure]
theorem bin_beql {x y : Bool} {t : TypeId} (ht : P.underlying t = some .bool) : (binOp .eql t (.bool x) (.bool y)).run P w = .ok (.bool (x == y)) w := by
  have h : (Op.equal t (.bool x) (.bool y)).run P w = .ok (x == y) w := equalIn_bool 9999 ht
  simp only [binOp, Sem.run_bind, h, Result.andThen_ok, Sem.run_pure]
theorem bin_bneq {x y : Bool} {t : TypeId} (ht : P.underlying t = some .bool) : (binOp .neq t (.bool x) (.bool y)).run P w = .ok (.bool (x != y)) w := by
  have h : (Op.equal t (.bool x) (.bool y)).run P w = .ok (x == y) w := equalIn_bool 9999 ht
  simp only [binOp, Sem.run_bind, h, Result.andThen_ok, Sem.run_pure]
  rfl
theorem eqg_int {op : BinOp} {t : TypeId} {x y : Operand} {k k' : IntKind} {m n : Int} : (eqGuard op t x y (.int k m) (.int k' n)).run P w = .ok () w := by
  unfold eqGuard; split <;> simp
theorem eqg_str {op : BinOp} {t : TypeId} {x y : Operand} {m n : ByteArray} : (eqGuard op t x y (.string m) (.string n)).run P w = .ok () w := by
  unfold eqGuard; split <;> simp
theorem eqg_bool {op : BinOp} {t : TypeId} {x y : Operand} {m n : Bool} : (eqGuard op t x y (.bool m) (.bool n)).run P w = .ok () w := by
  unfold eqGuard; split <;> simp
theorem eqg_ptr {op : BinOp} {t : TypeId} {x y : Operand} {m n : Option Addr} : (eqGuard op t x y (.pointer m) (.pointer n)).run P w = .ok () w := by
  unfold eqGuard; split <;> simp
theorem un_not {x : Bool} : (Op.unary .not (.bool x)).run P w = .ok (.bool (!x)) w := by simp [go_sem]
theorem len_str {x : ByteArray} {t u : TypeId} {cs : Array Bool} (h : P.underlying t = some .string) : (builtin .len #[t] u cs #[.string x]).run P w = .ok (.value (.int .i64 x.size)) w := by
  simp only [builtin, Builtin.len_, Sem.run_bind, List.getElem?_toArray]
  simp [run_underlying h, goInt]
theorem len_slice {x : Option Addr} {l c : Nat} {t u : TypeId} {cs : Array Bool} {e : TypeId} (h : P.underlying t = some (.slice e)) : (builtin .len #[t] u cs #[.slice x l c]).run P w = .ok (.value (.int .i64 l)) w := by
  simp only [builtin, Builtin.len_, Sem.run_bind, List.getElem?_toArray]
  simp [run_underlying h, goInt]
theorem min_int {x y : Int} {t t' u : TypeId} {cs : Array Bool} : (builtin .min #[t, t'] u cs #[.int .i64 x, .int .i64 y]).run P w = .ok (.value (.int .i64 (min x y))) w := by
  have h : (if y < x then y else x) = min x y := by omega
  simp [builtin, Builtin.min_, Builtin.min2, h]
theorem part_cell {t : TypeId} (hA : ∀ w, (isAgg t).run P w = .ok false w) {cs : Array Value} {off : Nat} {v : Value} (h : cs[off]? = some v) : (part t cs off).run P w = .ok v w := by
  unfold part
  simp [hA, h]
theorem part_agg {t : TypeId} {n : Nat} (hA : ∀ w, (isAgg t).run P w = .ok true w) (hz : ∀ w, (sizeOf t).run P w = .ok n w) {cs p : Array Value} {off : Nat} (h : cs.extract off (off + n) = p) : (part t cs off).run P w = .ok (.agg p) w := by
  unfold part
  simp [hA, hz, h]
theorem wrap_i64 {x : Int} (h0 : -9223372036854775808 ≤ x) (h1 : x ≤ 9223372036854775807) : IntKind.i64.wrap x = x := by
  rw [IntKind.wrap_i64]; omega
theorem bin_addN {x y : Int} {t : TypeId} (h0 : -9223372036854775808 ≤ x + y) (h1 : x + y ≤ 9223372036854775807) : (binOp .add t (.int .i64 x) (.int .i64 y)).run P w = .ok (.int .i64 (x + y)) w := by
  rw [bin_add, wrap_i64 h0 h1]
theorem bin_subN {x y : Int} {t : TypeId} (h0 : -9223372036854775808 ≤ x - y) (h1 : x - y ≤ 9223372036854775807) : (binOp .sub t (.int .i64 x) (.int .i64 y)).run P w = .ok (.int .i64 (x - y)) w := by
  rw [bin_sub, wrap_i64 h0 h1]
theorem bin_mulN {x y : Int} {t : TypeId} (h0 : -9223372036854775808 ≤ x * y) (h1 : x * y ≤ 9223372036854775807) : (binOp .mul t (.int .i64 x) (.int .i64 y)).run P w = .ok (.int .i64 (x * y)) w := by
  rw [bin_mul, wrap_i64 h0 h1]
/-- s[lo:hi] of a string, the bounds as naturals. -/
theorem slice_hi {t : TypeId} (ht : P.underlying t = some .string) {s : ByteArray} {h : Int} (h0 : 0 ≤ h) (h1 : h ≤ s.size) : (Instr.sliceAt t (.string s) none (some (.int .i64 h)) none).run P w = .ok (.string (s.extract 0 h.toNat)) w := by
  simp [Instr.sliceAt, Instr.slice, run_underlying ht, Instr.sliceBounds, Instr.sliceBound, asIntOf, h0, h1]
theorem slice_lo {t : TypeId} (ht : P.underlying t = some .string) {s : ByteArray} {l : Int} (h0 : 0 ≤ l) (h1 : l ≤ s.size) : (Instr.sliceAt t (.string s) (some (.int .i64 l)) none none).run P w = .ok (.string (s.extract l.toNat s.size)) w := by
  simp [Instr.sliceAt, Instr.slice, run_underlying ht, Instr.sliceBounds, Instr.sliceBound, asIntOf, h0, h1]
theorem slice_lohi {t : TypeId} (ht : P.underlying t = some .string) {s : ByteArray} {l h : Int} (h0 : 0 ≤ l) (h1 : l ≤ h) (h2 : h ≤ s.size) : (Instr.sliceAt t (.string s) (some (.int .i64 l)) (some (.int .i64 h)) none).run P w = .ok (.string (s.extract l.toNat h.toNat)) w := by
  have h3 : 0 ≤ h := by omega
  have h4 : (h.toNat : Int) = h := by omega
  simp [Instr.sliceAt, Instr.slice, run_underlying ht, Instr.sliceBounds, Instr.sliceBound, asIntOf, h0, h1, h2, h3, h4]
theorem index_str {t : TypeId} (ht : P.underlying t = some .string) {s : ByteArray} {i : Nat} (h : i < s.size) : (Instr.index t (.string s) (.int .i64 i)).run P w = .ok (.int .u8 s[i].toNat) w := by
  have e : s[i]? = some s[i] := by simp [h]
  simp [Instr.index, asIntOf, run_underlying ht, e]
/-- &l[i] of a slice. -/
theorem index_slice {t e : TypeId} (ht : P.underlying t = some (.slice e)) {g off l c i n : Nat} (h : i < l) (hz : ∀ w, (sizeOf e).run P w = .ok n w) : (Instr.indexAt t (.slice (some ⟨g, off, none⟩) l c) (.int .i64 i)).run P w = .ok (.pointer (some ⟨g, off + i * n, none⟩)) w := by
  have e1 : (⟨g, off, none⟩ : Addr).add (i * n) = ⟨g, off + i * n, none⟩ := by
    unfold Addr.add
    split
    · rename_i h0; rw [h0]; rfl
    · rfl
  simp [Instr.indexAt, asIntOf, run_underlying ht, h, hz, e1]
end
/-! ### The tail of a region: one operation behind the other -/
section
variable {P : Program} {ops : Array Oper} {Q : Exit → Act → World → Prop} {i : Nat} {rest : List Nat} {o : Oper} {a : Act} {w : World}
theorem tail_step (hi : ops[i]? = some o) (hg : o.guard = none) (h : o.wp P a w (wpOps P ops Q rest) Q) : wpOps P ops Q (i :: rest) a w := by
  rw [wpOps_cons]
  unfold Go.wpOp
  simp [hi, Region.wanted, hg, h]
theorem tail_val {d : Nat} {v : Value} {w' : World} (hi : ops[i]? = some o) (hg : o.guard = none) (hd : o.dst = some d) (h : (execOp a.eval o).run P w = .ok (.value v) w') (k : wpOps P ops Q rest (a.put (some d) v) w') : wpOps P ops Q (i :: rest) a w := by
  refine tail_step hi hg ?_
  unfold Oper.wp
  rw [h, Oper.upon_value, hd]
  exact k
theorem tail_do {w' : World} (hi : ops[i]? = some o) (hg : o.guard = none) (hd : o.dst = none) (h : (execOp a.eval o).run P w = .ok .skip w') (k : wpOps P ops Q rest a w') : wpOps P ops Q (i :: rest) a w := by
  refine tail_step hi hg ?_
  unfold Oper.wp
  rw [h, Oper.upon_skip, hd]
  exact k
/-- A call that may write: its contract says what follows. -/
theorem tail_call {f : FuncId} {args : Array Operand} {tys : Array TypeId} (hi : ops[i]? = some o) (hg : o.guard = none) (ho : o.op = .call ⟨.value (.func f), args, tys⟩) (hf : ∀ args w, (callFunc f args).run P w = .ok (.enter f args) w)
    (hc : Calls P f (args.map a.eval) w fun e w' => ∃ v, e = .returned v ∧ wpOps P ops Q rest (a.put o.dst v) w') : wpOps P ops Q (i :: rest) a w := by
  refine tail_step hi hg ?_
  unfold Oper.wp
  have h : (execOp a.eval o).run P w = .ok (.enter f (args.map a.eval)) w := by
    unfold execOp
    simp [ho, resolve, Act.eval, Deferred.ofValue, invoke, hf]
  rw [h, Oper.upon_enter]
  exact hc.mono fun e w' ⟨v, he, k⟩ => by subst he; exact k
theorem put_same {d : Nat} {v : Value} {N : Nat} (hN : a.tmps.size = N) (h : d < N) : (a.put (some d) v).at d = v := by rw [at_put, if_pos ⟨rfl, by omega⟩]
theorem put_other {d t : Nat} {v : Value} (h : (d == t) = false) : (a.put (some d) v).at t = a.at t := by rw [at_put, if_neg (fun e => by simp [e.1] at h)]
theorem FrameOK.at {n : Nat} {a0 : Act} (h : FrameOK ops n a0 a) {t : Nat} (ht : (dstsOf ops n).contains t = false) : a.at t = a0.at t := h.same t (by simpa using ht)
theorem FrameOK.carry {n : Nat} {a0 : Act} {w0 : World} (φ : Value → World → Prop) (h : FrameOK ops n a0 a) {t : Nat} (ht : (dstsOf ops n).contains t = false) (hst : Stab φ) (he : Ext w0 w) (k : φ (a0.at t) w0) : φ (a.at t) w := by
  rw [h.at ht]; exact hst _ _ _ he k
/-- What a contract gives: a value that meets φ; what was there stays. -/
def Ret (φ : Value → World → Prop) (w : World) (e : Ending) (w' : World) : Prop := ∃ v, e = .returned v ∧ Ext w w' ∧ φ v w'
theorem run_callR {φ ψ : Value → World → Prop} {f : FuncId} {args : Array Operand} {tys : Array TypeId} (ho : o.op = .call ⟨.value (.func f), args, tys⟩) (hf : ∀ args w, (callFunc f args).run P w = .ok (.enter f args) w)
    (hc : Calls P f (args.map a.eval) w (Ret ψ w)) (h : ∀ v w', ψ v w' → φ v w') : OpRun P o a w φ :=
  run_call ho hf (hc.mono fun _ _ ⟨v, e, x, k⟩ => ⟨v, e, x, h v _ k⟩)
theorem ev_const {a : Act} {v : Value} : a.eval (.const v) = v := rfl
/-- The rows of the function's own blocks behind a store. -/
theorem store_row {b : Nat} {t ty : TypeId} {old cs : Array Value} (hr : w.heap[b]? = some (.cells old t (0, 0))) (hi : (P.info? ty).map (·.size) = some cs.size) (hs : old.size = cs.size) (h1 : cs.all (·.oneCell') = true) : (storeVar ty ⟨b, 0, none⟩ (.agg cs)).run P w = .ok () (w.setRow b cs) :=
  run_storeVar_row w b t ty old cs hr hi hs h1
theorem below_row {B b : Nat} {w0 : World} {cs : Array Value} (h : Below B w0 w) (hb : B ≤ b) : Below B w0 (w.setRow b cs) := h.trans ⟨rfl, rfl, rfl, by simp [World.setRow], fun k hk => setRow_other w b k cs (by omega)⟩
theorem row_other {b b' : Nat} {cs : Array Value} {ob : Obj} (h : w.heap[b']? = some ob) (hb : b' ≠ b) : (w.setRow b cs).heap[b']? = some ob := (setRow_other w b b' cs hb).trans h
/-! ### Whole functions -/
theorem enter_fn {f : FuncId} {fn : Func} {c : Code} {args : Array Value} {R : Ending → World → Prop} {N : Nat} (hf : P.funcs[f]? = some fn) (hb : fn.body = some c) (hN : fn.ntmps = N) (hl : args.size ≤ N)
    (h : ∀ a : Act, a.tmps.size = N → a.defers = [] → (∀ t, t < args.size → a.at t = args.getD t undef) → c.wp P (bodyPost P fn R) a w) : Calls P f args w R := by
  refine calls_of_wp hf hb (h _ ?_ rfl fun t ht => ?_)
  · simp [hN]; omega
  · simp [Act.at, Array.getElem?_append, ht]
/-- A loop, its measure in the relation. -/
theorem loop_rule {c : Code} {Q : Exit → Act → World → Prop} (I : Nat → Act → World → Prop) (m : Nat) (h0 : I m a w) (h : ∀ m a w, I m a w → c.wp P (Exit.then (fun a' w' => ∃ m', I m' a' w' ∧ m' < m) Q) a w) : (Code.loop c).wp P Q a w := by
  intro b k cs
  have key : ∀ n m a w, m = n → I m a w →
      ∃ e a' w', Q e a' w' ∧ Arrives P (lone (b.at a (.code c :: .inLoop c :: k)) cs w) b k cs e a' w' := by
    intro n
    induction n using Nat.strongRecOn with
    | _ n ih =>
      intro m a w hm hI
      obtain ⟨e, a₁, w₁, hq, harr⟩ := h m a w hI b (.inLoop c :: k) cs
      cases e with
      | normal =>
        obtain ⟨m', hI₁, hlt⟩ := hq
        obtain ⟨e₂, a₂, w₂, hq₂, harr₂⟩ := ih m' (hm ▸ hlt) m' a₁ w₁ rfl hI₁
        exact ⟨e₂, a₂, w₂, hq₂, .of_steps (Steps.trans harr (.one step_inLoop)) harr₂⟩
      | exit id => exact ⟨_, a₁, w₁, hq, .pass (x := .inLoop c) rfl (fun _ _ => .inl (by simp)) harr⟩
      | goto l => exact ⟨_, a₁, w₁, hq, .pass (x := .inLoop c) rfl (fun _ _ => .inl (by simp)) harr⟩
      | ret => exact ⟨_, a₁, w₁, hq, .pass (x := .inLoop c) rfl (fun _ _ => .inl (by simp)) harr⟩
      | panic ch => exact ⟨_, a₁, w₁, hq, .pass (x := .inLoop c) rfl (fun _ _ => .inl (by simp)) harr⟩
      | outgrown => exact ⟨_, a₁, w₁, hq, .pass (x := .inLoop c) rfl (fun _ _ => .inl (by simp)) harr⟩
  obtain ⟨e, a', w', hq, harr⟩ := key _ m a w rfl h0
  exact ⟨e, a', w', hq, .of_steps (.one step_loop) harr⟩
theorem ret_1 {fn : Func} {R : Ending → World → Prop} {t : Tmp} {v : Value} (hr : fn.results = #[.tmp t]) (hd : a.defers = []) (hv : a.at t = v) (h : R (.returned v) w) : bodyPost P fn R .ret a w :=
  bodyPost_ret (by rw [results_tmp hr]; exact congrArg (Result.ok · w) hv) hd h
theorem ret_2 {fn : Func} {R : Ending → World → Prop} {t u : Tmp} {v x : Value} (hr : fn.results = #[.tmp t, .tmp u]) (hd : a.defers = []) (hv : a.at t = v) (hx : a.at u = x) (h : R (.returned (.tuple #[v, x])) w) : bodyPost P fn R .ret a w := by
  subst hv hx
  exact bodyPost_ret (results_tmp2 hr _ _ _) hd h
theorem ret_3 {fn : Func} {R : Ending → World → Prop} {t u z : Tmp} {v x y : Value} (hr : fn.results = #[.tmp t, .tmp u, .tmp z]) (hd : a.defers = []) (hv : a.at t = v) (hx : a.at u = x) (hy : a.at z = y) (h : R (.returned (.tuple #[v, x, y])) w) : bodyPost P fn R .ret a w := by
  subst hv hx hy
  refine bodyPost_ret ?_ hd h
  simp [results, hr, Act.at]
theorem ret_c {fn : Func} {R : Ending → World → Prop} {p : Tmp} {ty : TypeId} {b : Nat} {v : Value} (hr : fn.results = #[.cell p ty]) (hd : a.defers = []) (hp : a.at p = .pointer (some ⟨b, 0, none⟩)) (hl : (loadVar ty ⟨b, 0, none⟩).run P w = .ok v w) (h : R (.returned v) w) : bodyPost P fn R .ret a w := by
  refine bodyPost_ret ?_ hd h
  simp only [Act.at, Array.getD_eq_getD_getElem?] at hp
  simp [results, hr, hp, asAddr, hl]
theorem ret_c1 {fn : Func} {R : Ending → World → Prop} {p u : Tmp} {ty : TypeId} {b : Nat} {v x : Value} (hr : fn.results = #[.cell p ty, .tmp u]) (hd : a.defers = []) (hp : a.at p = .pointer (some ⟨b, 0, none⟩)) (hl : (loadVar ty ⟨b, 0, none⟩).run P w = .ok v w) (hx : a.at u = x) (h : R (.returned (.tuple #[v, x])) w) : bodyPost P fn R .ret a w := by
  subst hx
  refine bodyPost_ret ?_ hd h
  simp only [Act.at, Array.getD_eq_getD_getElem?] at hp
  simp [results, hr, hp, asAddr, hl, Act.at]
theorem ret_c2 {fn : Func} {R : Ending → World → Prop} {p u z : Tmp} {ty : TypeId} {b : Nat} {v x y : Value} (hr : fn.results = #[.cell p ty, .tmp u, .tmp z]) (hd : a.defers = []) (hp : a.at p = .pointer (some ⟨b, 0, none⟩)) (hl : (loadVar ty ⟨b, 0, none⟩).run P w = .ok v w) (hx : a.at u = x) (hy : a.at z = y) (h : R (.returned (.tuple #[v, x, y])) w) : bodyPost P fn R .ret a w := by
  subst hx hy
  refine bodyPost_ret ?_ hd h
  simp only [Act.at, Array.getD_eq_getD_getElem?] at hp
  simp [results, hr, hp, asAddr, hl, Act.at]
/-- The operations of region 'id'. -/
def regIn (id : Nat) : Code → Option (Array Oper)
  | .region i ops _ => if i = id then some ops else none
  | .seq x y => (regIn id x).or (regIn id y)
  | .cond _ x y => (regIn id x).or (regIn id y)
  | .block _ c => regIn id c
  | .loop c => regIn id c
  | .scope c => regIn id c
  | _ => none
def rg (f : Func) (id : Nat) : Array Oper := ((f.body.bind (regIn id)).getD #[])
/-- The operations' facts, as a list. -/
def phi (l : List (Value → World → Prop)) (i : Nat) : Value → World → Prop := l.getD i (fun _ _ => True)
def allOf : List Nat → (Nat → Prop) → Prop
  | [], _ => True
  | j :: l, p => p j ∧ allOf l p
theorem allOf_iff {l : List Nat} {p : Nat → Prop} : allOf l p ↔ ∀ j ∈ l, p j := by
  induction l with
  | nil => simp [allOf]
  | cons x l ih => simp [allOf, ih]
def RunsFrom (P : Program) (ops : Array Oper) (n : Nat) (deps : List (List Nat)) (F : List (Value → World → Prop)) (a0 : Act) (w0 : World) : Nat → List (Value → World → Prop) → Prop
  | _, [] => True
  | i, p :: l => (∀ a w, Ext w0 w → FrameOK ops n a0 a → allOf (deps.getD i []) (fun j => phi F j (dstV ops a j) w) → OpAt P ops i a w p) ∧ RunsFrom P ops n deps F a0 w0 (i + 1) l
theorem runs_of {n : Nat} {deps : List (List Nat)} {F : List (Value → World → Prop)} {a0 : Act} {w0 : World} (h : RunsFrom P ops n deps F a0 w0 0 F) (hn : n = F.length) : RunsAll P ops n deps (phi F) a0 w0 := by
  have key : ∀ (l : List (Value → World → Prop)) (i : Nat), RunsFrom P ops n deps F a0 w0 i l → ∀ j, j < l.length → ∀ o, ops[i + j]? = some o → ∀ a w, Ext w0 w → FrameOK ops n a0 a → (∀ x ∈ deps.getD (i + j) [], phi F x (dstV ops a x) w) → OpOK P ops o a w (phi l j) := by
    intro l
    induction l with
    | nil => intro i _ j hj; simp at hj
    | cons p l ih =>
      intro i hr j hj o ho a w he hf hd
      obtain ⟨h1, h2⟩ := hr
      cases j with
      | zero => exact h1 a w he hf (allOf_iff.2 hd) o ho
      | succ j =>
        have := ih (i + 1) h2 j (by simpa using hj) o (by rw [show i + 1 + j = i + (j + 1) from by omega]; exact ho) a w he hf (by rw [show i + 1 + j = i + (j + 1) from by omega]; exact hd)
        simpa [phi] using this
  intro i hi o ho a w he hf hd
  have := key F 0 h i (by omega) o (by simpa using ho) a w he hf (by simpa using hd)
  exact this
def StabAll : List (Value → World → Prop) → Prop
  | [] => True
  | p :: l => Stab p ∧ StabAll l
theorem stab_of {F : List (Value → World → Prop)} (h : StabAll F) : ∀ i, Stab (phi F i) := by
  induction F with
  | nil => intro i v w w' _ _; simp [phi]
  | cons p l ih =>
    intro i
    cases i with
    | zero => simpa [phi] using h.1
    | succ i => simpa [phi] using ih h.2 i
theorem stab_eq (x : Value) : Stab (fun v _ => v = x) := fun _ _ _ _ h => h
theorem stab_pure (p : Value → Prop) : Stab (fun v _ => p v) := fun _ _ _ _ h => h
theorem stab_imp {c : Prop} {φ : Value → World → Prop} (h : Stab φ) : Stab (fun v w => c → φ v w) := fun v w w' e k hc => h v w w' e (k hc)
theorem free_of {ops : Array Oper} {e : Nat} {o : Oper} {a : Act} {w : World} {φ : Value → World → Prop} {v : Value} (h : ops[e]? = some o) (hg : o.guard = none) (hfr : isFresh o.op = false) (hx : ∀ w, (execOp a.eval o).run P w = .ok (.value v) w) (hφ : φ v w) : ∀ o', ops[e]? = some o' → ∃ v, Yields P ops o' v a ∧ φ v w ∧ isFresh o'.op = false := fun o' h' => by
  obtain rfl := Option.some.inj (h.symm.trans h')
  exact ⟨v, .inl ⟨by simp [Region.wanted, hg], hx⟩, hφ, hfr⟩
def factsOf (ops : Array Oper) (a : Act) (w : World) (F : List (Value → World → Prop)) : Nat → List (Value → World → Prop) → Prop
  | _, [] => True
  | i, p :: l => p (dstV ops a i) w ∧ factsOf ops a w F (i + 1) l
theorem facts_of {F : List (Value → World → Prop)} {n : Nat} (hn : n = F.length) (h : ∀ i, i < n → phi F i (dstV ops a i) w) : factsOf ops a w F 0 F := by
  have key : ∀ (l : List (Value → World → Prop)) (i : Nat), (∀ j, j < l.length → phi l j (dstV ops a (i + j)) w) → factsOf ops a w F i l := by
    intro l
    induction l with
    | nil => intro i _; trivial
    | cons p l ih =>
      intro i h
      refine ⟨by simpa [phi] using h 0 (by simp), ih (i + 1) fun j hj => ?_⟩
      have := h (j + 1) (by simpa using hj)
      rw [show i + (j + 1) = i + 1 + j from by omega] at this
      simpa [phi] using this
  refine key F 0 fun j hj => ?_
  simpa using h j (by omega)
/-- Where an operation leaves nothing in a slot. -/
def noneOK (ops : Array Oper) (n : Nat) : Bool := (List.range n).all fun i => match ops[i]? with | some o => o.dst.isSome | none => true
theorem none_of {n : Nat} {φ : Nat → Value → World → Prop} (h : noneOK ops n = true) : ∀ i o, i < n → ops[i]? = some o → o.dst = none → ∀ v w, φ i v w → φ i undef w := by
  intro i o hi ho hd
  have := List.all_eq_true.1 h i (List.mem_range.2 hi)
  simp [ho, hd] at this
/-- A drawn region, with its facts as a list. -/
theorem draw_list {id n N : Nat} {deps : List (List Nat)} {F : List (Value → World → Prop)} {a0 : Act} {w0 : World} {E : List Nat} (hm : P.follows .mixedOrders = true) (ho : RegionOK ops n N deps E) (hn : n = F.length) (hno : noneOK ops n = true) (hst : StabAll F) (hN : a0.tmps.size = N)
    (hrun : RunsFrom P ops n deps F a0 w0 0 F) (hfree : allOf E fun e => ∀ o, ops[e]? = some o → ∀ a w, Ext w0 w → FrameOK ops n a0 a → allOf (deps.getD e []) (fun j => phi F j (dstV ops a j) w) → ∃ v, Yields P ops o v a ∧ phi F e v w ∧ isFresh o.op = false)
    (hfin : ∀ a w, Ext w0 w → FrameOK ops n a0 a → factsOf ops a w F 0 F → Apart ops n a → wpOps P ops (NP Q) ((List.range (ops.size - n)).map (n + ·)) a w) : (Code.region id ops true).wp P Q a0 w0 :=
  region_draw hm ho (fun i _ => stab_of hst i) (none_of hno) hN (runs_of hrun hn) (fun i hi o hio a w he hf hd => allOf_iff.1 hfree i hi o hio a w he hf (allOf_iff.2 hd)) fun a w he hf h hap => hfin a w he hf (facts_of hn h) hap
theorem plain_list {id n N : Nat} {deps : List (List Nat)} {F : List (Value → World → Prop)} {a0 : Act} {w0 : World} (hdst : dstOk ops n N = true) (hle : (decide (n ≤ ops.size)) = true) (hn : n = F.length) (hno : noneOK ops n = true) (hst : StabAll F) (hN : a0.tmps.size = N)
    (hd : ((List.range n).all fun i => (deps.getD i []).all fun j => decide (j < i)) = true) (hrun : RunsFrom P ops n deps F a0 w0 0 F)
    (hfin : ∀ a w, Ext w0 w → FrameOK ops n a0 a → factsOf ops a w F 0 F → Apart ops n a → wpOps P ops Q ((List.range (ops.size - n)).map (n + ·)) a w) : (Code.region id ops false).wp P Q a0 w0 :=
  region_plain hdst (of_decide_eq_true hle) (fun i _ => stab_of hst i) (none_of hno) hN (runs_of hrun hn) (fun i hi j hj => of_decide_eq_true (List.all_eq_true.1 (List.all_eq_true.1 hd i (List.mem_range.2 hi)) j hj)) fun a w he hf h hap => hfin a w he hf (facts_of hn h) hap
end
end Go.Proofs.YtfcfddfjifofgaaDoor.Mono
