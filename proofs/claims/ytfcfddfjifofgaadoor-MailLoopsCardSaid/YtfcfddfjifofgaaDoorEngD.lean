/- Slices of strings and messages of a function's own. -/
import Derived.Test.YtfcfddfjifofgaaDoorEngC
import Derived.Test.YtfcfddfjifofgaaDoorRefC
import Derived.Test.YtfcfddfjifofgaaDoorBPlain
import Derived.LoopTactic
namespace Go.Proofs.YtfcfddfjifofgaaDoor
open Go.RowKit Go.Shelf
/-! ### Slices of strings of the function's own -/
def IsOwnS (B : Nat) (l : List ByteArray) (v : Value) (w : World) : Prop := OwnStrs B l w v
theorem stab_ownS (B : Nat) (l : List ByteArray) : Stab (IsOwnS B l) := fun _ _ _ h s => OwnStrs.ext s h
theorem bs_run {n : Nat} {ps : Array (Nat × Value)} {cs : Array Value} {w : World} (h : (Instr.buildSlice 24 n ps).run Tryd.prog w = .ok (.slice (some ⟨w.heap.size, 0, none⟩) n n) (w.alloc (.cells cs 9))) {l : List ByteArray} (hl : l.length = n) (hc : cs.toList = strs l) (hm : n ≤ maxLen) : OwnStrs w.heap.size l (w.alloc (.cells cs 9)) (.slice (some ⟨w.heap.size, 0, none⟩) n n) := by
  subst hl
  refine ⟨by simp [strs], .inr ⟨w.heap.size, l.length, cs, rfl, Nat.le_refl _, heap_alloc_new _ _, Nat.le_refl _, hm, ?_, ?_⟩⟩
  · have := congrArg List.length hc
    simpa [strs] using this
  · rw [hc]
    simp only [Nat.mul_one]
    exact List.take_of_length_le (by simp [strs])
theorem bs_str1 (x : ByteArray) (w : World) : (Instr.buildSlice 24 1 #[(0, .string x)]).run Tryd.prog w = .ok (.slice (some ⟨w.heap.size, 0, none⟩) 1 1) (w.alloc (.cells #[.string x] 9)) := by
  simp [Instr.buildSlice, Tryd.runUnderlying24, Tryd.sizeOf9, Instr.fill, Value.cells, newRow, go_sem]
theorem bs_str0 (w : World) : (Instr.buildSlice 24 0 #[]).run Tryd.prog w = .ok (.slice (some ⟨w.heap.size, 0, none⟩) 0 0) (w.alloc (.cells #[] 9)) := by
  simp [Instr.buildSlice, Tryd.runUnderlying24, Tryd.sizeOf9, Instr.fill, newRow, go_sem]
theorem builtin_app {P : Program} {w w' : World} {tys : Array TypeId} {ty : TypeId} {cs : Array Bool} {args : Array Value} {v : Value} (h : (Builtin.append_ tys ty args).run P w = .ok v w') : (builtin .append tys ty cs args).run P w = .ok (.value v) w' := by
  simp [builtin, h]
theorem app_none {B : Nat} {l : List ByteArray} {v : Value} {w : World} (h : OwnStrs B l w v) (ty : TypeId) (c : Nat) : (Builtin.append_ #[24, 24] ty #[v, .slice none 0 c]).run Tryd.prog w = .ok v w := by
  have hz := Tryd.sizeOf9 w
  rcases h.2 with ⟨h1, _⟩ | ⟨g, cap, cur, h1, _, _, hc, _⟩
  · rw [h1]
    simp [Builtin.append_, Tryd.runUnderlying24, hz, Builtin.lenOf, Builtin.firstCells]
  · rw [h1]
    simp [Builtin.append_, Tryd.runUnderlying24, hz, Builtin.lenOf, Builtin.firstCells, hc, storeCells]
set_option maxRecDepth 100000 in
theorem app_strs {B : Nat} {l l2 : List ByteArray} {v x : Value} {w : World} (ty : TypeId) (h : OwnStrs B l w v) (hx : StrsAt w x l2) (h1 : l.length + l2.length ≤ 1099511627776) (hB : B ≤ w.heap.size) :
    ∃ v' w', (Builtin.append_ #[24, 24] ty #[v, x]).run Tryd.prog w = .ok v' w' ∧ OwnStrs B (l ++ l2) w' v' ∧ w.grownBy w' v.ownBlock := by
  obtain ⟨i0, hi, hz0, hz1, hz2⟩ := info_parts infoString
  have e : strs (l ++ l2) = strs l ++ strs l2 := by simp [strs]
  have fin : ∀ (ad : Addr) (c : Nat), x = .slice (some ad) l2.length c → (∀ j u, (strs l2)[j]? = some u → w.cell? (ad.add j) = some u) → ∃ v' w', (Builtin.append_ #[24, 24] ty #[v, x]).run Tryd.prog w = .ok v' w' ∧ OwnStrs B (l ++ l2) w' v' ∧ w.grownBy w' v.ownBlock := by
    intro ad c hxe hc
    obtain ⟨v', w', hr, ho, hg, _⟩ := run_append_own (P := Tryd.prog) w B 24 ty 9 i0 (.string ⟨#[]⟩) 1 16 Tryd.underlying24 hi hz0 hz1 hz2 rfl (by decide) v l.length (strs l) h ad l2.length c (strs l2) (by simp [strs]) hc (fun u hu => by
      simp only [strs, List.mem_map] at hu
      obtain ⟨y, _, rfl⟩ := hu
      rfl) (by unfold maxLen; omega) (by omega) hB
    refine ⟨v', w', by rw [hxe]; exact hr, ?_, hg⟩
    unfold OwnStrs
    rw [List.length_append, e]
    exact ho
  rcases hx with ⟨rfl, a, c, rfl⟩ | ⟨b, off, cap, hxe, _, _, hcell⟩
  · cases a with
    | none => exact ⟨v, w, app_none h ty c, by rw [List.append_nil]; exact h, World.grownBy.refl w _⟩
    | some ad => exact fin ad c rfl (fun j u hu => by simp [strs] at hu)
  · refine fin ⟨b, off, none⟩ cap hxe fun j u hu => ?_
    rw [strs, List.getElem?_map] at hu
    obtain ⟨y, hy, rfl⟩ := Option.map_eq_some_iff.1 hu
    have hadd : (⟨b, off, none⟩ : Addr).add j = ⟨b, off + j, none⟩ := by
      unfold Addr.add; split
      · subst_vars; rfl
      · rfl
    rw [hadd]
    exact hcell j y hy
theorem grown_row {B b : Nat} {l : List ByteArray} {v : Value} {w w' : World} {cs : Array Value} {t : TypeId} (h : OwnStrs B l w v) (hg : w.grownBy w' v.ownBlock) (hr : w.heap[b]? = some (.cells cs t (0, 0))) (ht : (t == 9) = false) : w'.heap[b]? = some (.cells cs t (0, 0)) := by
  refine (hg.block b (row_lt hr) fun e => ?_).trans hr
  rcases h.2 with ⟨h1, _⟩ | ⟨g, cap, cur, h1, _, h3, _⟩
  · rw [h1] at e; simp [Value.ownBlock] at e
  · rw [h1] at e
    simp only [Value.ownBlock, Option.some.injEq] at e
    subst e
    rw [hr] at h3
    simp only [Option.some.injEq, Obj.cells.injEq] at h3
    rw [h3.2.1] at ht
    simp at ht
theorem grown_ext {B : Nat} {l : List ByteArray} {v : Value} {w0 w w' : World} (h : OwnStrs B l w v) (hg : w.grownBy w' v.ownBlock) (hE : Ext w0 w) (hB : w0.heap.size ≤ B) : Ext w0 w' :=
  Below.grown hE hg hE.size (fun k hk => by have := h.lt k hk; omega)
theorem store_cell {P : Program} {w : World} {b off : Nat} {t ty : TypeId} {cs : Array Value} {v : Value} (hr : w.heap[b]? = some (.cells cs t (0, 0))) (ho : off < cs.size) (hz : ∀ w, (sizeOf ty).run P w = .ok 1 w) (hv : v.oneCell' = true) (hc : v.cells = #[v]) : (storeVar ty ⟨b, off, none⟩ v).run P w = .ok () (w.setRow b (cs.setIfInBounds off v)) := by
  rw [← setCell_eq_setRow w b off cs t (0, 0) v hr]
  have h1 : w.cell? ⟨b, off, none⟩ = some cs[off] := by rw [cell_row hr, Array.getElem?_eq_getElem ho]
  have h2 : w.frozen? ⟨b, off, none⟩ = false := by simp [World.frozen?, hr]
  have hst : ∀ a : Addr, a = ⟨b, off, none⟩ → (store a v).run P w = .ok () (w.setCell ⟨b, off, none⟩ v) := by
    intro a ha
    subst ha
    rw [run_store P w _ v _ hv, h1]
    simp [h2]
  have hadd : (⟨b, off, none⟩ : Addr).add 0 = ⟨b, off, none⟩ := rfl
  unfold storeVar
  rw [hc]
  simp [hz, storeCells, hst _ hadd]
/-- A message of the function's own, and an error. -/
def IsOwnE (B : Nat) (m : Msg) (n : Nat) (v : Value) (w : World) : Prop := ∃ hv, v = .tuple #[.agg (msgC m hv), .int .i64 (n : Int)] ∧ OwnStrs B m.hops w hv
theorem stab_ownE (B : Nat) (m : Msg) (n : Nat) : Stab (IsOwnE B m n) := fun _ _ _ h ⟨hv, e, s⟩ => ⟨hv, e, s.ext h⟩
def IsOwnB (B : Nat) (m : Msg) (v : Value) (w : World) : Prop := ∃ hv, v = .agg (msgC m hv) ∧ OwnStrs B m.hops w hv
theorem stab_ownB (B : Nat) (m : Msg) : Stab (IsOwnB B m) := fun _ _ _ h ⟨hv, e, s⟩ => ⟨hv, e, s.ext h⟩
theorem IsOwnB.msg {B : Nat} {m : Msg} {v : Value} {w : World} (h : IsOwnB B m v w) : IsMsg m v w := by
  obtain ⟨hv, e, s⟩ := h
  exact ⟨hv, e, s.strsAt⟩
theorem run_ext0 {P : Program} {o : Oper} {a : Act} {w : World} {φ : Value → World → Prop} {x : Operand} {B : Nat} {m : Msg} {n : Nat} (ho : o.op = .extract x 0) (h : IsOwnE B m n (a.eval x) w) (hφ : ∀ v, IsOwnB B m v w → φ v w) : OpRun P o a w φ := by
  obtain ⟨hv, e, s⟩ := h
  exact run_here (by rw [ho]; rfl) (ex_extract ho e rfl) (hφ _ ⟨hv, rfl, s⟩)
theorem ex_ext1 {P : Program} {o : Oper} {a : Act} {w w' : World} {x : Operand} {B : Nat} {m : Msg} {n : Nat} (h : IsOwnE B m n (a.eval x) w) (ho : o.op = .extract x 1) : (execOp a.eval o).run P w' = .ok (.value (.int .i64 (n : Int))) w' := by
  obtain ⟨hv, e, _⟩ := h
  exact ex_extract ho e rfl
theorem contains_e {l : List ByteArray} {v : Value} {w : World} (x : ByteArray) (hl : l.length ≤ maxLen) (h : StrsAt w v l) : Calls Tryd.prog 40 #[v, .string x] w (Ret (fun v _ => v = .bool (Lib.containsS l x)) w) := by
  rcases h with ⟨rfl, a, c, rfl⟩ | ⟨b, off, cap, rfl, _, _, hx⟩
  · exact ret_same' (Tryd.slices_Contains_string_empty a c x w)
  · have := contains_c (l := l) (b := b) (off := off) (cap := cap) x l.length w (Nat.le_refl _) (by unfold maxLen at hl; omega) hx
    rw [List.take_of_length_le (Nat.le_refl _)] at this
    exact ret_same' this
/-- Pass. -/
def passR (m : Msg) (s : ByteArray) : Msg × Nat :=
  if checkE m ≠ 0 then (zeroM, checkE m) else if siteE s ≠ 0 then (zeroM, siteE s) else if Lib.containsS m.hops s = true then (zeroM, 24) else if 16 ≤ m.hops.length then (zeroM, 9) else ({ m with hops := m.hops ++ [s] }, 0)
theorem strs_form {l : List ByteArray} {v : Value} {w : World} (h : IsStrs l v w) : ∃ a c, v = .slice a l.length c := by
  obtain ⟨a, c, h⟩ := StrsAt.slice h
  exact ⟨a, c, by rcases h with h | h <;> exact h.1⟩
theorem owns_form {B : Nat} {l : List ByteArray} {v : Value} {w : World} (h : IsOwnS B l v w) : ∃ a c, v = .slice a l.length c := ownStrs_len h
theorem ownB_cell {B : Nat} {m : Msg} {hv : Value} {w : World} (h : OwnStrs B m.hops w hv) : ((msgC m hv).all (·.oneCell')) = true := by
  obtain ⟨a, c, rfl⟩ := ownStrs_len h
  simp [msgC, Value.oneCell']
theorem clone_e {l : List ByteArray} {v : Value} {w0 w : World} (hB : w0.heap.size ≤ w.heap.size) (hl : l.length ≤ 1099511627776) (h : StrsAt w v l) : Calls Tryd.prog 45 #[v] w (Ret (IsOwnS w0.heap.size l) w) :=
  (clone_c l v w h hl).mono fun _ _ ⟨_, e, o, b⟩ => ⟨_, e, b, o.mono hB⟩
theorem setrow_ownS {B b : Nat} {l : List ByteArray} {v : Value} {w : World} {old cs : Array Value} {t : TypeId} (h : IsOwnS B l v w) (hr : w.heap[b]? = some (.cells old t (0, 0))) (ht : (t == 9) = false) : IsOwnS B l v (w.setRow b cs) := OwnStrs.setRow h hr ht
theorem setrow_ownB {B b : Nat} {m : Msg} {v : Value} {w : World} {old cs : Array Value} {t : TypeId} (h : IsOwnB B m v w) (hr : w.heap[b]? = some (.cells old t (0, 0))) (ht : (t == 9) = false) : IsOwnB B m v (w.setRow b cs) := by
  obtain ⟨hv, e, s⟩ := h
  exact ⟨hv, e, s.setRow hr ht⟩
theorem ownNil (B : Nat) (w : World) : OwnStrs B [] w (.slice none 0 0) := ⟨rfl, .inl ⟨rfl, rfl⟩⟩
theorem pass_zero {B n : Nat} {m : Msg} {s : ByteArray} {w : World} (h : passR m s = (zeroM, n)) : IsOwnE B (passR m s).1 (passR m s).2 (.tuple #[.agg (msgC zeroM (.slice none 0 0)), .int .i64 (n : Int)]) w := by
  rw [h]
  exact ⟨_, rfl, ownNil B w⟩
section
variable {m : Msg} {s : ByteArray} {w : World} (B : Nat)
theorem pass1 (c1 : ((checkE m : Int) != 0) = true) : IsOwnE B (passR m s).1 (passR m s).2 (.tuple #[.agg (msgC zeroM (.slice none 0 0)), .int .i64 (checkE m : Int)]) w := pass_zero (by rw [passR, if_pos (bne_t c1)])
theorem pass2 (c1 : ((checkE m : Int) != 0) = false) (c2 : ((siteE s : Int) != 0) = true) : IsOwnE B (passR m s).1 (passR m s).2 (.tuple #[.agg (msgC zeroM (.slice none 0 0)), .int .i64 (siteE s : Int)]) w := pass_zero (by rw [passR, if_neg (by simpa using bne_f c1), if_pos (bne_t c2)])
theorem pass3 (c1 : ((checkE m : Int) != 0) = false) (c2 : ((siteE s : Int) != 0) = false) (c3 : Lib.containsS m.hops s = true) : IsOwnE B (passR m s).1 (passR m s).2 (.tuple #[.agg (msgC zeroM (.slice none 0 0)), .int .i64 24]) w := pass_zero (n := 24) (by rw [passR, if_neg (by simpa using bne_f c1), if_neg (by simpa using bne_f c2), if_pos c3])
theorem pass4 (c1 : ((checkE m : Int) != 0) = false) (c2 : ((siteE s : Int) != 0) = false) (c3 : Lib.containsS m.hops s = false) (c4 : decide ((16 : Int) ≤ (m.hops.length : Int)) = true) : IsOwnE B (passR m s).1 (passR m s).2 (.tuple #[.agg (msgC zeroM (.slice none 0 0)), .int .i64 9]) w := pass_zero (n := 9) (by
  have := of_decide_eq_true c4
  rw [passR, if_neg (by simpa using bne_f c1), if_neg (by simpa using bne_f c2), if_neg (by rw [c3]; decide), if_pos (by omega)])
theorem pass_ok (c1 : ((checkE m : Int) != 0) = false) (c2 : ((siteE s : Int) != 0) = false) (c3 : Lib.containsS m.hops s = false) (c4 : decide ((16 : Int) ≤ (m.hops.length : Int)) = false) : passR m s = ({ m with hops := m.hops ++ [s] }, 0) := by
  have := of_decide_eq_false c4
  rw [passR, if_neg (by simpa using bne_f c1), if_neg (by simpa using bne_f c2), if_neg (by rw [c3]; decide), if_neg (by omega)]
theorem pass5 {B : Nat} {hv : Value} (c1 : ((checkE m : Int) != 0) = false) (c2 : ((siteE s : Int) != 0) = false) (c3 : Lib.containsS m.hops s = false) (c4 : decide ((16 : Int) ≤ (m.hops.length : Int)) = false) (S : OwnStrs B (m.hops ++ [s]) w hv) : IsOwnE B (passR m s).1 (passR m s).2 (.tuple #[.agg (msgC { m with hops := m.hops ++ [s] } hv), .int .i64 0]) w := by
  rw [pass_ok c1 c2 c3 c4]
  exact ⟨_, rfl, S⟩
end
theorem bs_new0 (w : World) {B : Nat} (hB : B ≤ w.heap.size) : ∃ v w', (Instr.buildSlice 24 0 #[]).run Tryd.prog w = .ok v w' ∧ OwnStrs B [] w' v ∧ Ext w w' :=
  ⟨_, _, bs_str0 w, (bs_run (bs_str0 w) rfl rfl (by decide)).mono hB, Ext.alloc _ _⟩
theorem bs_new1 (x : ByteArray) (w : World) {B : Nat} (hB : B ≤ w.heap.size) : ∃ v w', (Instr.buildSlice 24 1 #[(0, .string x)]).run Tryd.prog w = .ok v w' ∧ OwnStrs B [x] w' v ∧ Ext w w' :=
  ⟨_, _, bs_str1 x w, (bs_run (bs_str1 x w) (l := [x]) rfl rfl (by decide)).mono hB, Ext.alloc _ _⟩
theorem check_len {m : Msg} (h : ((checkE m : Int) != 0) = false) : m.hops.length ≤ 16 := (checkE_ok (bne_f h)).2.1
theorem rpass4 {m : Msg} (_h : ((checkE m : Int) != 0) = false) (c : ((m.hops.length : Int) == 16) = true) : decide ((16 : Int) ≤ (m.hops.length : Int)) = true := by
  rw [beq_iff_eq] at c
  exact decide_eq_true (by omega)
theorem rpass5 {m : Msg} (h : ((checkE m : Int) != 0) = false) (c : ((m.hops.length : Int) == 16) = false) : decide ((16 : Int) ≤ (m.hops.length : Int)) = false := by
  have h1 := check_len h
  have h2 : ¬ (m.hops.length : Int) = 16 := by simpa using c
  exact decide_eq_false (by omega)
set_option maxHeartbeats 400000 in
theorem has_none (a : Option Addr) (c : Nat) (x : ByteArray) (w : World) : Calls Tryd.prog 43 #[.slice a 0 c, .string x] w fun e w' => e = .returned (.bool false) ∧ w' = w := by
  go_enter Tryd.func43, Tryd.ntmps43
  go_wp2_with fail
  go_loop [5] (fun i => i = .int .i64 0) (fun _ => 0)
  case atStart => rfl
  case round =>
    subst hrel
    go_wp2
    go_ret
    exact ⟨rfl, rfl⟩
theorem has_e {l : List ByteArray} {v : Value} {w : World} (x : ByteArray) (hl : l.length ≤ maxLen) (h : StrsAt w v l) : Calls Tryd.prog 43 #[v, .string x] w (Ret (fun v _ => v = .bool (Lib.containsS l x)) w) := by
  rcases h with ⟨rfl, a, c, rfl⟩ | ⟨b, off, cap, rfl, _, _, hx⟩
  · exact ret_same' (has_none a c x w)
  · have := has_c (l := l) (b := b) (off := off) (cap := cap) x l.length w (Nat.le_refl _) (by unfold maxLen at hl; omega) hx
    rw [List.take_of_length_le (Nat.le_refl _)] at this
    exact ret_same' this
end Go.Proofs.YtfcfddfjifofgaaDoor
