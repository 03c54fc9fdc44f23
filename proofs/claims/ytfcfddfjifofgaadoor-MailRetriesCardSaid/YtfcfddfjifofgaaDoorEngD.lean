/- Slices of strings and messages of a function's own. -/
import Derived.Test.YtfcfddfjifofgaaDoorEngC
import Derived.Test.YtfcfddfjifofgaaDoorRefC
import Derived.Test.YtfcfddfjifofgaaDoorBPlain
import Derived.LoopTactic
import Derived.Test.YtfcfddfjifofgaaDoorMaps
namespace Go.Proofs.YtfcfddfjifofgaaDoor
open Go.RowKit Go.Shelf
/-! ### Slices of strings of the function's own -/
def IsOwnS (B : Nat) (l : List ByteArray) (v : Value) (w : World) : Prop := OwnStrs B l w v
theorem stab_ownS (B : Nat) (l : List ByteArray) : Stab (IsOwnS B l) := fun _ _ _ h s => OwnStrs.ext s h
theorem bs_run {n : Nat} {ps : Array (Nat × Value)} {cs : Array Value} {w : World} (h : (Instr.buildSlice 24 n ps).run Tryd.prog w = .ok (.slice (some ⟨w.heap.size, 0, none⟩) n n) (w.alloc (.cells cs 9))) {l : List ByteArray} (hl : l.length = n) (hc : cs.toList = strs l) (hm : n ≤ maxLen) : OwnStrs w.heap.size l (w.alloc (.cells cs 9)) (.slice (some ⟨w.heap.size, 0, none⟩) n n) := by
  subst hl
  refine ⟨by simp [strs], .inr ⟨w.heap.size, l.length, cs, rfl, Nat.le_refl _, heap_alloc_new _ _, Nat.le_refl _, hm, ?_, ?_⟩⟩
  · have := congrArg List.length hc
    simpa [strs] using this
  · rw [hc]
    simp only [Nat.mul_one]
    exact List.take_of_length_le (by simp [strs])
theorem bs_str1 (x : ByteArray) (w : World) : (Instr.buildSlice 24 1 #[(0, .string x)]).run Tryd.prog w = .ok (.slice (some ⟨w.heap.size, 0, none⟩) 1 1) (w.alloc (.cells #[.string x] 9)) := by
  simp [Instr.buildSlice, Tryd.runUnderlying24, Tryd.sizeOf9, Instr.fill, Value.cells, newRow, go_sem]
theorem bs_str0 (w : World) : (Instr.buildSlice 24 0 #[]).run Tryd.prog w = .ok (.slice (some ⟨w.heap.size, 0, none⟩) 0 0) (w.alloc (.cells #[] 9)) := by
  simp [Instr.buildSlice, Tryd.runUnderlying24, Tryd.sizeOf9, Instr.fill, newRow, go_sem]
theorem builtin_app {P : Program} {w w' : World} {tys : Array TypeId} {ty : TypeId} {cs : Array Bool} {args : Array Value} {v : Value} (h : (Builtin.append_ tys ty args).run P w = .ok v w') : (builtin .append tys ty cs args).run P w = .ok (.value v) w' := by
  simp [builtin, h]
theorem app_none {B : Nat} {l : List ByteArray} {v : Value} {w : World} (h : OwnStrs B l w v) (ty : TypeId) (c : Nat) : (Builtin.append_ #[24, 24] ty #[v, .slice none 0 c]).run Tryd.prog w = .ok v w := by
  have hz := Tryd.sizeOf9 w
  rcases h.2 with ⟨h1, _⟩ | ⟨g, cap, cur, h1, _, _, hc, _⟩
  · rw [h1]
    simp [Builtin.append_, Tryd.runUnderlying24, hz, Builtin.lenOf, Builtin.firstCells]
  · rw [h1]
    simp [Builtin.append_, Tryd.runUnderlying24, hz, Builtin.lenOf, Builtin.firstCells, hc, storeCells]
set_option maxRecDepth 100000 in
theorem app_strs {B : Nat} {l l2 : List ByteArray} {v x : Value} {w : World} (ty : TypeId) (h : OwnStrs B l w v) (hx : StrsAt w x l2) (h1 : l.length + l2.length ≤ 1099511627776) (hB : B ≤ w.heap.size) :
    ∃ v' w', (Builtin.append_ #[24, 24] ty #[v, x]).run Tryd.prog w = .ok v' w' ∧ OwnStrs B (l ++ l2) w' v' ∧ w.grownBy w' v.ownBlock := by
  obtain ⟨i0, hi, hz0, hz1, hz2⟩ := info_parts infoString
  have e : strs (l ++ l2) = strs l ++ strs l2 := by simp [strs]
  have fin : ∀ (ad : Addr) (c : Nat), x = .slice (some ad) l2.length c → (∀ j u, (strs l2)[j]? = some u → w.cell? (ad.add j) = some u) → ∃ v' w', (Builtin.append_ #[24, 24] ty #[v, x]).run Tryd.prog w = .ok v' w' ∧ OwnStrs B (l ++ l2) w' v' ∧ w.grownBy w' v.ownBlock := by
    intro ad c hxe hc
    obtain ⟨v', w', hr, ho, hg, _⟩ := run_append_own (P := Tryd.prog) w B 24 ty 9 i0 (.string ⟨#[]⟩) 1 16 Tryd.underlying24 hi hz0 hz1 hz2 rfl (by decide) v l.length (strs l) h ad l2.length c (strs l2) (by simp [strs]) hc (fun u hu => by
      simp only [strs, List.mem_map] at hu
      obtain ⟨y, _, rfl⟩ := hu
      rfl) (by unfold maxLen; omega) (by omega) hB
    refine ⟨v', w', by rw [hxe]; exact hr, ?_, hg⟩
    unfold OwnStrs
    rw [List.length_append, e]
    exact ho
  rcases hx with ⟨rfl, a, c, rfl⟩ | ⟨b, off, cap, hxe, _, _, hcell⟩
  · cases a with
    | none => exact ⟨v, w, app_none h ty c, by rw [List.append_nil]; exact h, World.grownBy.refl w _⟩
    | some ad => exact fin ad c rfl (fun j u hu => by simp [strs] at hu)
  · refine fin ⟨b, off, none⟩ cap hxe fun j u hu => ?_
    rw [strs, List.getElem?_map] at hu
    obtain ⟨y, hy, rfl⟩ := Option.map_eq_some_iff.1 hu
    have hadd : (⟨b, off, none⟩ : Addr).add j = ⟨b, off + j, none⟩ := by
      unfold Addr.add; split
      · subst_vars; rfl
      · rfl
    rw [hadd]
    exact hcell j y hy
theorem grown_row {B b : Nat} {l : List ByteArray} {v : Value} {w w' : World} {cs : Array Value} {t : TypeId} (h : OwnStrs B l w v) (hg : w.grownBy w' v.ownBlock) (hr : w.heap[b]? = some (.cells cs t (0, 0))) (ht : (t == 9) = false) : w'.heap[b]? = some (.cells cs t (0, 0)) := by
  refine (hg.block b (row_lt hr) fun e => ?_).trans hr
  rcases h.2 with ⟨h1, _⟩ | ⟨g, cap, cur, h1, _, h3, _⟩
  · rw [h1] at e; simp [Value.ownBlock] at e
  · rw [h1] at e
    simp only [Value.ownBlock, Option.some.injEq] at e
    subst e
    rw [hr] at h3
    simp only [Option.some.injEq, Obj.cells.injEq] at h3
    rw [h3.2.1] at ht
    simp at ht
theorem grown_ext {B : Nat} {l : List ByteArray} {v : Value} {w0 w w' : World} (h : OwnStrs B l w v) (hg : w.grownBy w' v.ownBlock) (hE : Ext w0 w) (hB : w0.heap.size ≤ B) : Ext w0 w' :=
  Below.grown hE hg hE.size (fun k hk => by have := h.lt k hk; omega)
theorem store_cell {P : Program} {w : World} {b off : Nat} {t ty : TypeId} {cs : Array Value} {v : Value} (hr : w.heap[b]? = some (.cells cs t (0, 0))) (ho : off < cs.size) (hz : ∀ w, (sizeOf ty).run P w = .ok 1 w) (hv : v.oneCell' = true) (hc : v.cells = #[v]) : (storeVar ty ⟨b, off, none⟩ v).run P w = .ok () (w.setRow b (cs.setIfInBounds off v)) := by
  rw [← setCell_eq_setRow w b off cs t (0, 0) v hr]
  have h1 : w.cell? ⟨b, off, none⟩ = some cs[off] := by rw [cell_row hr, Array.getElem?_eq_getElem ho]
  have h2 : w.frozen? ⟨b, off, none⟩ = false := by simp [World.frozen?, hr]
  have hst : ∀ a : Addr, a = ⟨b, off, none⟩ → (store a v).run P w = .ok () (w.setCell ⟨b, off, none⟩ v) := by
    intro a ha
    subst ha
    rw [run_store P w _ v _ hv, h1]
    simp [h2]
  have hadd : (⟨b, off, none⟩ : Addr).add 0 = ⟨b, off, none⟩ := rfl
  unfold storeVar
  rw [hc]
  simp [hz, storeCells, hst _ hadd]
/-- A message of the function's own, and an error. -/
def IsOwnE (B : Nat) (m : Msg) (n : Nat) (v : Value) (w : World) : Prop := ∃ hv, v = .tuple #[.agg (msgC m hv), .int .i64 (n : Int)] ∧ OwnStrs B m.hops w hv
theorem stab_ownE (B : Nat) (m : Msg) (n : Nat) : Stab (IsOwnE B m n) := fun _ _ _ h ⟨hv, e, s⟩ => ⟨hv, e, s.ext h⟩
def IsOwnB (B : Nat) (m : Msg) (v : Value) (w : World) : Prop := ∃ hv, v = .agg (msgC m hv) ∧ OwnStrs B m.hops w hv
theorem stab_ownB (B : Nat) (m : Msg) : Stab (IsOwnB B m) := fun _ _ _ h ⟨hv, e, s⟩ => ⟨hv, e, s.ext h⟩
theorem IsOwnB.msg {B : Nat} {m : Msg} {v : Value} {w : World} (h : IsOwnB B m v w) : IsMsg m v w := by
  obtain ⟨hv, e, s⟩ := h
  exact ⟨hv, e, s.strsAt⟩
theorem run_ext0 {P : Program} {o : Oper} {a : Act} {w : World} {φ : Value → World → Prop} {x : Operand} {B : Nat} {m : Msg} {n : Nat} (ho : o.op = .extract x 0) (h : IsOwnE B m n (a.eval x) w) (hφ : ∀ v, IsOwnB B m v w → φ v w) : OpRun P o a w φ := by
  obtain ⟨hv, e, s⟩ := h
  exact run_here (by rw [ho]; rfl) (ex_extract ho e rfl) (hφ _ ⟨hv, rfl, s⟩)
theorem ex_ext1 {P : Program} {o : Oper} {a : Act} {w w' : World} {x : Operand} {B : Nat} {m : Msg} {n : Nat} (h : IsOwnE B m n (a.eval x) w) (ho : o.op = .extract x 1) : (execOp a.eval o).run P w' = .ok (.value (.int .i64 (n : Int))) w' := by
  obtain ⟨hv, e, _⟩ := h
  exact ex_extract ho e rfl
theorem contains_e {l : List ByteArray} {v : Value} {w : World} (x : ByteArray) (hl : l.length ≤ maxLen) (h : StrsAt w v l) : Calls Tryd.prog 40 #[v, .string x] w (Ret (fun v _ => v = .bool (Lib.containsS l x)) w) := by
  rcases h with ⟨rfl, a, c, rfl⟩ | ⟨b, off, cap, rfl, _, _, hx⟩
  · exact ret_same' (Tryd.slices_Contains_string_empty a c x w)
  · have := contains_c (l := l) (b := b) (off := off) (cap := cap) x l.length w (Nat.le_refl _) (by unfold maxLen at hl; omega) hx
    rw [List.take_of_length_le (Nat.le_refl _)] at this
    exact ret_same' this
/-- Pass. -/
def passR (m : Msg) (s : ByteArray) : Msg × Nat :=
  if checkE m ≠ 0 then (zeroM, checkE m) else if siteE s ≠ 0 then (zeroM, siteE s) else if Lib.containsS m.hops s = true then (zeroM, 24) else if 16 ≤ m.hops.length then (zeroM, 9) else ({ m with hops := m.hops ++ [s] }, 0)
theorem strs_form {l : List ByteArray} {v : Value} {w : World} (h : IsStrs l v w) : ∃ a c, v = .slice a l.length c := by
  obtain ⟨a, c, h⟩ := StrsAt.slice h
  exact ⟨a, c, by rcases h with h | h <;> exact h.1⟩
theorem owns_form {B : Nat} {l : List ByteArray} {v : Value} {w : World} (h : IsOwnS B l v w) : ∃ a c, v = .slice a l.length c := ownStrs_len h
theorem ownB_cell {B : Nat} {m : Msg} {hv : Value} {w : World} (h : OwnStrs B m.hops w hv) : ((msgC m hv).all (·.oneCell')) = true := by
  obtain ⟨a, c, rfl⟩ := ownStrs_len h
  simp [msgC, Value.oneCell']
theorem clone_e {l : List ByteArray} {v : Value} {w0 w : World} (hB : w0.heap.size ≤ w.heap.size) (hl : l.length ≤ 1099511627776) (h : StrsAt w v l) : Calls Tryd.prog 45 #[v] w (Ret (IsOwnS w0.heap.size l) w) :=
  (clone_c l v w h hl).mono fun _ _ ⟨_, e, o, b⟩ => ⟨_, e, b, o.mono hB⟩
theorem setrow_ownS {B b : Nat} {l : List ByteArray} {v : Value} {w : World} {old cs : Array Value} {t : TypeId} (h : IsOwnS B l v w) (hr : w.heap[b]? = some (.cells old t (0, 0))) (ht : (t == 9) = false) : IsOwnS B l v (w.setRow b cs) := OwnStrs.setRow h hr ht
theorem setrow_ownB {B b : Nat} {m : Msg} {v : Value} {w : World} {old cs : Array Value} {t : TypeId} (h : IsOwnB B m v w) (hr : w.heap[b]? = some (.cells old t (0, 0))) (ht : (t == 9) = false) : IsOwnB B m v (w.setRow b cs) := by
  obtain ⟨hv, e, s⟩ := h
  exact ⟨hv, e, s.setRow hr ht⟩
theorem ownNil (B : Nat) (w : World) : OwnStrs B [] w (.slice none 0 0) := ⟨rfl, .inl ⟨rfl, rfl⟩⟩
theorem pass_zero {B n : Nat} {m : Msg} {s : ByteArray} {w : World} (h : passR m s = (zeroM, n)) : IsOwnE B (passR m s).1 (passR m s).2 (.tuple #[.agg (msgC zeroM (.slice none 0 0)), .int .i64 (n : Int)]) w := by
  rw [h]
  exact ⟨_, rfl, ownNil B w⟩
section
variable {m : Msg} {s : ByteArray} {w : World} (B : Nat)
theorem pass1 (c1 : ((checkE m : Int) != 0) = true) : IsOwnE B (passR m s).1 (passR m s).2 (.tuple #[.agg (msgC zeroM (.slice none 0 0)), .int .i64 (checkE m : Int)]) w := pass_zero (by rw [passR, if_pos (bne_t c1)])
theorem pass2 (c1 : ((checkE m : Int) != 0) = false) (c2 : ((siteE s : Int) != 0) = true) : IsOwnE B (passR m s).1 (passR m s).2 (.tuple #[.agg (msgC zeroM (.slice none 0 0)), .int .i64 (siteE s : Int)]) w := pass_zero (by rw [passR, if_neg (by simpa using bne_f c1), if_pos (bne_t c2)])
theorem pass3 (c1 : ((checkE m : Int) != 0) = false) (c2 : ((siteE s : Int) != 0) = false) (c3 : Lib.containsS m.hops s = true) : IsOwnE B (passR m s).1 (passR m s).2 (.tuple #[.agg (msgC zeroM (.slice none 0 0)), .int .i64 24]) w := pass_zero (n := 24) (by rw [passR, if_neg (by simpa using bne_f c1), if_neg (by simpa using bne_f c2), if_pos c3])
theorem pass4 (c1 : ((checkE m : Int) != 0) = false) (c2 : ((siteE s : Int) != 0) = false) (c3 : Lib.containsS m.hops s = false) (c4 : decide ((16 : Int) ≤ (m.hops.length : Int)) = true) : IsOwnE B (passR m s).1 (passR m s).2 (.tuple #[.agg (msgC zeroM (.slice none 0 0)), .int .i64 9]) w := pass_zero (n := 9) (by
  have := of_decide_eq_true c4
  rw [passR, if_neg (by simpa using bne_f c1), if_neg (by simpa using bne_f c2), if_neg (by rw [c3]; decide), if_pos (by omega)])
theorem pass_ok (c1 : ((checkE m : Int) != 0) = false) (c2 : ((siteE s : Int) != 0) = false) (c3 : Lib.containsS m.hops s = false) (c4 : decide ((16 : Int) ≤ (m.hops.length : Int)) = false) : passR m s = ({ m with hops := m.hops ++ [s] }, 0) := by
  have := of_decide_eq_false c4
  rw [passR, if_neg (by simpa using bne_f c1), if_neg (by simpa using bne_f c2), if_neg (by rw [c3]; decide), if_neg (by omega)]
theorem pass5 {B : Nat} {hv : Value} (c1 : ((checkE m : Int) != 0) = false) (c2 : ((siteE s : Int) != 0) = false) (c3 : Lib.containsS m.hops s = false) (c4 : decide ((16 : Int) ≤ (m.hops.length : Int)) = false) (S : OwnStrs B (m.hops ++ [s]) w hv) : IsOwnE B (passR m s).1 (passR m s).2 (.tuple #[.agg (msgC { m with hops := m.hops ++ [s] } hv), .int .i64 0]) w := by
  rw [pass_ok c1 c2 c3 c4]
  exact ⟨_, rfl, S⟩
end
theorem bs_new0 (w : World) {B : Nat} (hB : B ≤ w.heap.size) : ∃ v w', (Instr.buildSlice 24 0 #[]).run Tryd.prog w = .ok v w' ∧ OwnStrs B [] w' v ∧ Ext w w' :=
  ⟨_, _, bs_str0 w, (bs_run (bs_str0 w) rfl rfl (by decide)).mono hB, Ext.alloc _ _⟩
theorem bs_new1 (x : ByteArray) (w : World) {B : Nat} (hB : B ≤ w.heap.size) : ∃ v w', (Instr.buildSlice 24 1 #[(0, .string x)]).run Tryd.prog w = .ok v w' ∧ OwnStrs B [x] w' v ∧ Ext w w' :=
  ⟨_, _, bs_str1 x w, (bs_run (bs_str1 x w) (l := [x]) rfl rfl (by decide)).mono hB, Ext.alloc _ _⟩
theorem check_len {m : Msg} (h : ((checkE m : Int) != 0) = false) : m.hops.length ≤ 16 := (checkE_ok (bne_f h)).2.1
theorem rpass4 {m : Msg} (_h : ((checkE m : Int) != 0) = false) (c : ((m.hops.length : Int) == 16) = true) : decide ((16 : Int) ≤ (m.hops.length : Int)) = true := by
  rw [beq_iff_eq] at c
  exact decide_eq_true (by omega)
theorem rpass5 {m : Msg} (h : ((checkE m : Int) != 0) = false) (c : ((m.hops.length : Int) == 16) = false) : decide ((16 : Int) ≤ (m.hops.length : Int)) = false := by
  have h1 := check_len h
  have h2 : ¬ (m.hops.length : Int) = 16 := by simpa using c
  exact decide_eq_false (by omega)
set_option maxHeartbeats 400000 in
theorem has_none (a : Option Addr) (c : Nat) (x : ByteArray) (w : World) : Calls Tryd.prog 43 #[.slice a 0 c, .string x] w fun e w' => e = .returned (.bool false) ∧ w' = w := by
  go_enter Tryd.func43, Tryd.ntmps43
  go_wp2_with fail
  go_loop [5] (fun i => i = .int .i64 0) (fun _ => 0)
  case atStart => rfl
  case round =>
    subst hrel
    go_wp2
    go_ret
    exact ⟨rfl, rfl⟩
theorem has_e {l : List ByteArray} {v : Value} {w : World} (x : ByteArray) (hl : l.length ≤ maxLen) (h : StrsAt w v l) : Calls Tryd.prog 43 #[v, .string x] w (Ret (fun v _ => v = .bool (Lib.containsS l x)) w) := by
  rcases h with ⟨rfl, a, c, rfl⟩ | ⟨b, off, cap, rfl, _, _, hx⟩
  · exact ret_same' (has_none a c x w)
  · have := has_c (l := l) (b := b) (off := off) (cap := cap) x l.length w (Nat.le_refl _) (by unfold maxLen at hl; omega) hx
    rw [List.take_of_length_le (Nat.le_refl _)] at this
    exact ret_same' this
end Go.Proofs.YtfcfddfjifofgaaDoor
/- A function's own slices of strings: what is written into them, and where they lie. -/
namespace Go.Proofs.YtfcfddfjifofgaaDoor
open Go.RowKit Go.Shelf
theorem own_lt {B : Nat} {l : List ByteArray} {w : World} {v : Value} (h : OwnStrs B l w v) : ∀ g, v.ownBlock = some g → g < w.heap.size := by
  intro g hg
  rcases ownStrs_cases h with ⟨rfl, _⟩ | ⟨g', cap, rfl, _, _, h3, _⟩
  · rcases h.2 with ⟨h1, _⟩ | ⟨g', cap, cur, h1, h2, h3, _⟩
    · rw [h1] at hg; simp [Value.ownBlock] at hg
    · rw [h1] at hg
      simp only [Value.ownBlock, Option.some.injEq] at hg
      subst hg
      exact lt_of_block h3
  · simp only [Value.ownBlock, Option.some.injEq] at hg
    omega
theorem own_get {B g n c k : Nat} {x : Option Addr} {l : List ByteArray} {w : World} {s : ByteArray} (h : OwnStrs B l w (.slice x n c)) (hx : x = some ⟨g, 0, none⟩) (hk : l[k]? = some s) : w.cell? ⟨g, 0 + k * 1, none⟩ = some (.string s) := by
  subst hx
  rcases ownStrs_cases h with ⟨rfl, _⟩ | ⟨g', cap, e, _, _, _, hc⟩
  · simp at hk
  · simp only [Value.slice.injEq, Option.some.injEq, Addr.mk.injEq] at e
    obtain ⟨⟨rfl, _⟩, _⟩ := e
    rw [Nat.mul_one]
    exact hc k s hk
theorem own_some {B n c : Nat} {x : Option Addr} {l : List ByteArray} {w : World} (h : OwnStrs B l w (.slice x n c)) (hl : 0 < l.length) : ∃ g, x = some ⟨g, 0, none⟩ := by
  obtain ⟨g, cap, e, _⟩ := ownStrs_at h hl
  simp only [Value.slice.injEq] at e
  exact ⟨g, e.1⟩
theorem own_put {B g n c k : Nat} {x : Option Addr} {l : List ByteArray} {w : World} (s : ByteArray) (h : OwnStrs B l w (.slice x n c)) (hx : x = some ⟨g, 0, none⟩) (hk : k < l.length) :
    ∃ w', (storeVar 9 ⟨g, 0 + k * 1, none⟩ (.string s)).run Tryd.prog w = .ok () w' ∧ OwnStrs B (l.set k s) w' (.slice x n c) ∧
      (∀ (b : Nat) (cs : Array Value) (t : TypeId), w.heap[b]? = some (.cells cs t (0, 0)) → (t == 9) = false → w'.heap[b]? = some (.cells cs t (0, 0))) ∧
      (∀ w0, Ext w0 w → w0.heap.size ≤ B → Ext w0 w') ∧ (∀ B2 l2 v2, OwnStrs B2 l2 w v2 → (∀ g', v2.ownBlock = some g' → g' ≠ g) → OwnStrs B2 l2 w' v2) := by
  subst hx
  rcases h.2 with ⟨h1, h2⟩ | ⟨g', cap, cur, h1, h2, h3, h4, h5, h6, h7⟩
  · simp at h1
  · simp only [Value.slice.injEq, Option.some.injEq, Addr.mk.injEq] at h1
    obtain ⟨⟨rfl, -⟩, rfl, rfl⟩ := h1
    have hsz : k < cur.size := by omega
    have hst : (storeVar 9 ⟨g, 0 + k * 1, none⟩ (.string s)).run Tryd.prog w = .ok () (w.setRow g (cur.setIfInBounds k (.string s))) := by
      have e : 0 + k * 1 = k := by omega
      rw [e]
      exact store_cell h3 hsz Tryd.sizeOf9 rfl rfl
    refine ⟨_, hst, ?_, ?_, ?_, ?_⟩
    · refine ⟨by simp [strs], .inr ⟨g, c, cur.setIfInBounds k (.string s), by simp, h2, setRow_heap _ _ _ _ _ _ h3, by simpa using h4, h5, by simpa using h6, ?_⟩⟩
      rw [Array.toList_setIfInBounds, List.take_set, List.length_set, h7]
      simp [strs]
    · intro b cs t hb ht
      refine row_other hb fun e => ?_
      subst e
      rw [hb] at h3
      simp only [Option.some.injEq, Obj.cells.injEq] at h3
      rw [h3.2.1] at ht
      simp at ht
    · intro w0 he hB
      exact below_row he (Nat.le_trans hB h2)
    · intro B2 l2 v2 h' hne
      refine ⟨h'.1, h'.2.imp id ?_⟩
      rintro ⟨g2, cap2, cur2, e1, e2, e3, e4⟩
      exact ⟨g2, cap2, cur2, e1, e2, row_other e3 (hne g2 (by rw [e1]; rfl)), e4⟩
/-- The first k strings changed. -/
def chg (l : List ByteArray) : Nat → List ByteArray
  | 0 => l
  | k + 1 => (chg l k).set k ⟨#[99, 104, 97, 110, 103, 101, 100]⟩
theorem chg_len (l : List ByteArray) (k : Nat) : (chg l k).length = l.length := by
  induction k with
  | zero => rfl
  | succ k ih => rw [chg, List.length_set, ih]
theorem chg_at (l : List ByteArray) (k j : Nat) (h : k ≤ j) : (chg l k)[j]? = l[j]? := by
  induction k with
  | zero => rfl
  | succ k ih => rw [chg, List.getElem?_set_ne (by omega), ih (by omega)]
theorem IsOwnE.mono {B B' n : Nat} {m : Msg} {v : Value} {w : World} (h : IsOwnE B m n v w) (hb : B' ≤ B) : IsOwnE B' m n v w := by
  obtain ⟨hv, e, o⟩ := h
  exact ⟨hv, e, o.mono hb⟩
theorem own_ge {B : Nat} {l : List ByteArray} {w : World} {v : Value} (h : OwnStrs B l w v) : ∀ g, v.ownBlock = some g → B ≤ g := by
  intro g hg
  rcases h.2 with ⟨h1, _⟩ | ⟨g', cap, cur, h1, h2, h3, _⟩
  · rw [h1] at hg; simp [Value.ownBlock] at hg
  · rw [h1] at hg
    simp only [Value.ownBlock, Option.some.injEq] at hg
    omega
theorem passR_len (m : Msg) (s : ByteArray) : (passR m s).1.hops.length ≤ m.hops.length + 1 := by
  unfold passR
  repeat' split
  all_goals simp [zeroM]
theorem passR_fits {m : Msg} {s : ByteArray} (f : m.Fits) (hs : s.size ≤ maxLen) (hl : m.hops.length + 1 ≤ maxLen) : (passR m s).1.Fits := by
  have z : zeroM.Fits := ⟨Nat.zero_le _, Nat.zero_le _, Nat.zero_le _, Nat.zero_le _, Nat.zero_le _, Nat.zero_le _, Nat.zero_le _, fun _ h => by cases h⟩
  unfold passR
  repeat' split
  all_goals first | exact z | skip
  refine ⟨f.fu, f.fs, f.tu, f.ts, f.sj, f.body, by simpa using hl, fun x hx => ?_⟩
  simp only [List.mem_append, List.mem_singleton] at hx
  rcases hx with hx | rfl
  · exact f.hops x hx
  · exact hs
theorem fits_nil {m : Msg} (f : m.Fits) : ({ m with hops := [] } : Msg).Fits := ⟨f.fu, f.fs, f.tu, f.ts, f.sj, f.body, Nat.zero_le _, fun _ h => by cases h⟩
theorem strs_nil (w : World) (x : Option Addr) (c : Nat) : StrsAt w (.slice x 0 c) [] := .inl ⟨rfl, x, c, rfl⟩
theorem get_lt {l : List ByteArray} {k : Nat} (h : k < l.length) : l[k]? = some l[k] := List.getElem?_eq_getElem h
end Go.Proofs.YtfcfddfjifofgaaDoor
/- Maps from strings in printed walks; the plain law of MailLoops. -/
namespace Go.Proofs.YtfcfddfjifofgaaDoor
open Go.RowKit Go.Shelf
abbrev sKey : ByteArray → Value := fun n => Value.string n
def IsMapS (B : Nat) (l : List (ByteArray × Value)) (v : Value) (w : World) : Prop := ∃ mb, v = .map (some mb) ∧ B ≤ mb ∧ MapIs sKey w mb l
theorem MapIs.ext {α : Type} {K : α → Value} {w w' : World} {mb : Nat} {l : List (α × Value)} (h : MapIs K w mb l) (he : Ext w w') : MapIs K w' mb l :=
  h.kept (he.block mb h.lt)
theorem stab_mapS (B : Nat) (l : List (ByteArray × Value)) : Stab (IsMapS B l) := fun _ _ _ h ⟨mb, e, b, m⟩ => ⟨mb, e, b, m.ext h⟩
theorem MapIs.setRow {α : Type} {K : α → Value} {w : World} {mb b : Nat} {l : List (α × Value)} {old cs : Array Value} {t : TypeId} {c : Bool} (h : MapIs K w mb l) (hr : w.heap[b]? = some (.cells old t (0, 0))) (_ : c = false) : MapIs K (w.setRow b cs) mb l :=
  h.kept (setRow_other w b mb cs (fun e => by
    subst e
    obtain ⟨arr, clock, h1, _⟩ := h
    rw [hr] at h1
    cases h1))
theorem new_map {w0 w : World} (h : w0.heap.size ≤ w.heap.size) : IsMapS w0.heap.size [] (.map (some w.heap.size)) (w.alloc (.map #[] 0)) := ⟨_, rfl, h, mapIs_new w⟩
theorem row_setBlk {α : Type} {K : α → Value} {w : World} {mb b : Nat} {l : List (α × Value)} {cs : Array Value} {t : TypeId} (h : MapIs K w mb l) (hr : w.heap[b]? = some (.cells cs t (0, 0))) (o : Obj) : (setBlk w mb o).heap[b]? = some (.cells cs t (0, 0)) :=
  (setBlk_other w mb o b (fun e => by
    subst e
    obtain ⟨arr, clock, h1, _⟩ := h
    rw [hr] at h1
    cases h1)).trans hr
theorem own_setBlk {α : Type} {K : α → Value} {w : World} {mb B : Nat} {l : List (α × Value)} {ls : List ByteArray} {v : Value} (h : MapIs K w mb l) (hs : OwnStrs B ls w v) (o : Obj) : OwnStrs B ls (setBlk w mb o) v := by
  refine ⟨hs.1, hs.2.imp id ?_⟩
  rintro ⟨g, cap, cur, e1, e2, e3, e4⟩
  exact ⟨g, cap, cur, e1, e2, row_setBlk h e3 o, e4⟩
section
variable {P : Program} {kt mt et : TypeId} {d : TypeDesc} {w : World} {mb : Nat} {l : List (ByteArray × Value)}
theorem look1 (F : KeyFn P kt sKey d) (hm : P.underlying mt = some (.map kt et)) (h : MapIs sKey w mb l) (s : ByteArray) {z : Value} (hz : (zeroValue et).run P w = .ok z w) : (Instr.lookup mt (.map (some mb)) (.string s) false).run P w = .ok (valOf l s z) w := by
  have := run_lookup_is F hm h s hz false
  simpa using this
theorem upd1 (F : KeyFn P kt sKey d) (hm : P.underlying mt = some (.map kt et)) (h : MapIs sKey w mb l) (s : ByteArray) (v : Value) : ∃ o, (Instr.mapUpdate mt (.map (some mb)) (.string s) v).run P w = .ok () (setBlk w mb o) ∧ MapIs sKey (setBlk w mb o) mb (setK l s v) := run_update_is F hm h s v
end
theorem posOf_append {β : Type} (l : List (ByteArray × β)) (a x : ByteArray) (v : β) (i : Nat) (h : a ≠ x) : posOf (l ++ [(x, v)]) a i = posOf l a i := by
  induction l generalizing i with
  | nil => simp [posOf, h]
  | cons y r ih => simp only [List.cons_append, posOf]; rw [ih]
theorem posOf_modify {β : Type} (l : List (ByteArray × β)) (a x : ByteArray) (v : β) (i j k : Nat) (h : a ≠ x) (hp : ∃ y, posOf l x k = some (j + k, y)) : posOf (l.modify j (fun _ => (x, v))) a i = posOf l a i := by
  induction l generalizing i j k with
  | nil => simp [posOf]
  | cons y r ih =>
    obtain ⟨u, hp⟩ := hp
    cases j with
    | zero =>
      simp only [List.modify_zero_cons, posOf]
      by_cases hx : x = y.1
      · rw [← hx]
        simp [h]
      · exfalso
        simp only [posOf, hx, if_false] at hp
        obtain ⟨q, hq, _⟩ := posOf_at r x (k + 1) _ hp
        simp only at hq
        omega
    | succ j =>
      simp only [List.modify_succ_cons, posOf]
      split
      · rfl
      · refine ih (i + 1) j (k + 1) ⟨u, ?_⟩
        simp only [posOf] at hp
        split at hp
        · simp at hp
        · rw [hp, show j + 1 + k = j + (k + 1) by omega]
theorem valOf_setK {β : Type} (l : List (ByteArray × β)) (a x : ByteArray) (v z : β) (h : a ≠ x) : valOf (setK l x v) a z = valOf l a z := by
  unfold valOf setK
  cases hp : posOf l x 0 with
  | none => simp only; rw [posOf_append _ _ _ _ _ h]
  | some p =>
    simp only
    obtain ⟨j, hj, _⟩ := posOf_at l x 0 p hp
    rw [posOf_modify l a x v 0 p.1 0 h ⟨p.2, hp⟩]
/-! ### The plain law -/
theorem hopsE_all {l : List ByteArray} (h : hopsE l = 0) : NoneTo (fun i => hopErr l i != 0) l.length := by
  intro j hj
  cases hq : (hopErr l j != 0) with
  | false => exact hq
  | true =>
    exfalso
    unfold hopsE at h
    cases hf : firstAt (fun i => hopErr l i != 0) l.length with
    | none =>
      unfold firstAt at hf
      rw [List.find?_eq_none] at hf
      exact hf j (List.mem_range.2 hj) hq
    | some i =>
      rw [hf] at h
      unfold firstAt at hf
      have := List.find?_some hf
      simp only [h] at this
      simp at this
theorem hopErr_app {l : List ByteArray} {s : ByteArray} {j : Nat} (hj : j < l.length) : hopErr (l ++ [s]) j = hopErr l j := by
  unfold hopErr
  have e : (l ++ [s]).getD j ⟨#[]⟩ = l.getD j ⟨#[]⟩ := by simp [List.getD_eq_getElem?_getD, List.getElem?_append_left hj]
  rw [e, List.take_append_of_le_length (by omega)]
theorem hopsE_app {l : List ByteArray} {s : ByteArray} (h : hopsE l = 0) (hs : siteE s = 0) (hc : Lib.containsS l s = false) : hopsE (l ++ [s]) = 0 := by
  have h0 := hopsE_all h
  refine hopsE_none (k := l.length + 1) (NoneTo.succ (fun j hj => ?_) ?_) (by simp)
  · have := h0 j hj
    simp only at this ⊢
    rw [hopErr_app hj]
    exact this
  · have e : hopErr (l ++ [s]) l.length = 0 := hop_ok (x := s) (by simp) hs (by rw [List.take_left']; exact hc; rfl)
    simp only [e]
    rfl
theorem checkE_of {m : Msg} (hh : HeadOk m) (h1 : m.hops.length ≤ 16) (h2 : hopsE m.hops = 0) (h3 : m.body.size ≤ 32768) : checkE m = 0 := by
  rw [checkE_head hh, if_neg (by omega), if_neg (by omega), if_neg (by omega)]
theorem checkE_hops {m : Msg} {l : List ByteArray} (h : checkE m = 0) (h1 : l.length ≤ 16) (h2 : hopsE l = 0) : checkE { m with hops := l } = 0 := by
  obtain ⟨hh, _, _, h3⟩ := checkE_ok h
  exact checkE_of ⟨hh.1, hh.2, hh.3, hh.4, hh.5, hh.6, hh.7, hh.8⟩ h1 h2 h3
/-- What a Pass that went well gives. -/
theorem pass_went {X : Msg} {s : ByteArray} (hX : checkE X = 0) (h : (((passR X s).2 : Int) != 0) = false) : (passR X s).1.hops = X.hops ++ [s] ∧ s ∉ X.hops ∧ checkE (passR X s).1 = 0 := by
  have h0 : (passR X s).2 = 0 := bne_f h
  unfold passR at h0 ⊢
  rw [if_neg (by omega)] at h0 ⊢
  split at h0
  · rename_i h1; exact absurd h0 h1
  rename_i h1
  rw [if_neg h1]
  split at h0
  · simp at h0
  rename_i h2
  rw [if_neg h2]
  split at h0
  · simp at h0
  rename_i h3
  rw [if_neg h3]
  refine ⟨rfl, fun hm => h2 ((Lib.containsS_iff _ _).2 hm), checkE_hops hX (by simp; omega) (hopsE_app (checkE_ok hX).2.2.1 (by omega) (by simpa using h2))⟩
theorem str_some {l : List ByteArray} {x : Option Addr} {n c k : Nat} {w : World} (h : StrsAt w (.slice x n c) l) (hk : k < l.length) : ∃ g o, x = some ⟨g, o, none⟩ := by
  rcases h with ⟨rfl, _⟩ | ⟨b, off, cap, e, _⟩
  · simp at hk
  · simp only [Value.slice.injEq] at e
    exact ⟨b, off, e.1⟩
theorem str_get {l : List ByteArray} {x : Option Addr} {n c k g o : Nat} {w : World} {s : ByteArray} (h : StrsAt w (.slice x n c) l) (hx : x = some ⟨g, o, none⟩) (hk : l[k]? = some s) : w.cell? ⟨g, o + k * 1, none⟩ = some (.string s) := by
  subst hx
  rcases h with ⟨rfl, _⟩ | ⟨b, off, cap, e, _, _, hc⟩
  · simp at hk
  · simp only [Value.slice.injEq, Option.some.injEq, Addr.mk.injEq] at e
    obtain ⟨⟨rfl, rfl, _⟩, _⟩ := e
    rw [Nat.mul_one]
    exact hc k s hk
end Go.Proofs.YtfcfddfjifofgaaDoor
