/- Single operations, each by one rule. -/
import Derived.Test.YtfcfddfjifofgaaDoorEng
import Derived.Test.YtfcfddfjifofgaaDoorProg
import Derived.Deep.MidRow
import Derived.Laws.Rows
import Derived.Laws.Tables
import Derived.WalkSpells
import Derived.WalkLawsBesides
namespace Go.Proofs.YtfcfddfjifofgaaDoor
open Go.RowKit

section
variable {P : Program} {o : Oper} {a : Act} {w : World} {φ : Value → World → Prop}
/-- Operation i of a region. -/
def OpAt (P : Program) (ops : Array Oper) (i : Nat) (a : Act) (w : World) (φ : Value → World → Prop) : Prop := ∀ o, ops[i]? = some o → OpOK P ops o a w φ
theorem opAt {ops : Array Oper} {i : Nat} (h : ops[i]? = some o) (k : OpOK P ops o a w φ) : OpAt P ops i a w φ := fun o' h' => by
  obtain rfl := Option.some.inj (h.symm.trans h')
  exact k
theorem ok_run {ops : Array Oper} (hg : o.guard = none) (h : OpRun P o a w φ) : OpOK P ops o a w φ := .inl ⟨by simp [Region.wanted, hg], h⟩
theorem yielded_of {ops : Array Oper} {j : Nat} {c : Bool} (h : dstV ops a j = .bool c) : yielded ops a.tmps j = some c := by
  unfold dstV at h
  unfold yielded
  cases hd : (ops[j]?).bind (·.dst) with
  | none => rw [hd] at h; simp [undef] at h
  | some d =>
    rw [hd] at h
    simp only [Act.at, Array.getD_eq_getD_getElem?] at h
    simp only [Option.bind_some]
    cases ht : a.tmps[d]? with
    | none => rw [ht] at h; simp [undef] at h
    | some v => rw [ht] at h; simp at h; rw [h]
theorem ok_guard {ops : Array Oper} {j : Nat} {want c : Bool} (hg : o.guard = some (j, want)) (hj : dstV ops a j = .bool c) (h1 : c = want → OpRun P o a w φ) (h2 : c ≠ want → φ undef w) : OpOK P ops o a w φ := by
  have hy := yielded_of hj
  by_cases e : c = want
  · exact .inl ⟨by simp [Region.wanted, hg, hy, e], h1 e⟩
  · refine .inr ⟨?_, h2 e⟩
    simp [Region.wanted, hg, hy, e]
theorem run_ok {v : Value} {w' : World} (hfr : isFresh o.op = false) (h : (execOp a.eval o).run P w = .ok (.value v) w') (he : Ext w w') (hφ : φ v w') : OpRun P o a w φ := by
  unfold OpRun Oper.wp
  rw [h]
  exact ⟨v, rfl, he, hφ, fun e => by rw [hfr] at e; cases e⟩
theorem run_here {v : Value} (hfr : isFresh o.op = false) (h : (execOp a.eval o).run P w = .ok (.value v) w) (hφ : φ v w) : OpRun P o a w φ := run_ok hfr h (Ext.refl w) hφ
theorem run_new {ob : Obj} (h : (execOp a.eval o).run P w = .ok (.value (.pointer (some ⟨w.heap.size, 0, none⟩))) (w.alloc ob)) (hφ : φ (.pointer (some ⟨w.heap.size, 0, none⟩)) (w.alloc ob)) : OpRun P o a w φ := by
  unfold OpRun Oper.wp
  rw [h]
  exact ⟨_, rfl, Ext.alloc w ob, hφ, fun _ b c s e => by
    simp only [Value.pointer.injEq, Option.some.injEq, Addr.mk.injEq] at e
    obtain ⟨rfl, _, _⟩ := e
    simp⟩
/-- A variable of its own. -/
def IsBox (cs : Array Value) (t : TypeId) (B : Nat) (v : Value) (w : World) : Prop := ∃ b, v = .pointer (some ⟨b, 0, none⟩) ∧ B ≤ b ∧ w.heap[b]? = some (.cells cs t (0, 0))
theorem stab_box (cs : Array Value) (t : TypeId) (B : Nat) : Stab (IsBox cs t B) := fun _ _ _ h ⟨b, e, hb, hr⟩ => ⟨b, e, hb, h.row hr⟩
theorem box_new {cs : Array Value} {t : TypeId} {B : Nat} (hB : B ≤ w.heap.size) : IsBox cs t B (.pointer (some ⟨w.heap.size, 0, none⟩)) (w.alloc (.cells cs t)) := ⟨_, rfl, hB, by
  show (w.heap.push _)[w.heap.size]? = _
  simp⟩
theorem run_call {f : FuncId} {args : Array Operand} {tys : Array TypeId} (ho : o.op = .call ⟨.value (.func f), args, tys⟩) (hf : ∀ args w, (callFunc f args).run P w = .ok (.enter f args) w)
    (hc : Calls P f (args.map a.eval) w fun e w' => ∃ v, e = .returned v ∧ Ext w w' ∧ φ v w') : OpRun P o a w φ := by
  unfold OpRun Oper.wp
  have h : (execOp a.eval o).run P w = .ok (.enter f (args.map a.eval)) w := by
    unfold execOp
    simp [ho, resolve, Act.eval, Deferred.ofValue, invoke, hf]
  rw [h]
  exact hc.mono fun e w' ⟨v, he, h1, h2⟩ => by
    subst he
    exact ⟨v, rfl, h1, h2, fun e => by rw [ho] at e; cases e⟩
theorem ex_move {x : Operand} (ho : o.op = .move x ∨ o.op = .assign x) {v : Value} (hx : a.eval x = v) : (execOp a.eval o).run P w = .ok (.value v) w := by
  unfold execOp
  rcases ho with ho | ho <;> simp [ho, hx]
theorem ex_pick {c x y : Operand} (ho : o.op = .pick c x y) {b : Bool} (hc : a.eval c = .bool b) : (execOp a.eval o).run P w = .ok (.value (if b then a.eval x else a.eval y)) w := by
  unfold execOp
  simp [ho, hc, asBool]
theorem ex_pick_and {c x : Operand} {b e : Bool} (ho : o.op = .pick c x (.const (.bool false))) (hc : a.eval c = .bool b) (hx : b = true → a.eval x = .bool e) : (execOp a.eval o).run P w = .ok (.value (.bool (b && e))) w := by
  rw [ex_pick ho hc]
  cases b with
  | false => rfl
  | true => simp [hx rfl]
theorem ex_pick_or {c x : Operand} {b e : Bool} (ho : o.op = .pick c (.const (.bool true)) x) (hc : a.eval c = .bool b) (hx : b = false → a.eval x = .bool e) : (execOp a.eval o).run P w = .ok (.value (.bool (b || e))) w := by
  rw [ex_pick ho hc]
  cases b with
  | true => rfl
  | false => simp [hx rfl]
theorem and_l {x y : Bool} (h : (x && y) = true) : x = true := by cases x <;> simp_all
theorem and_r {x y : Bool} (h : (x && y) = true) : y = true := by cases x <;> simp_all
theorem or_l {x y : Bool} (h : (x || y) = false) : x = false := by cases x <;> simp_all
theorem or_r {x y : Bool} (h : (x || y) = false) : y = false := by cases x <;> simp_all
theorem not_t' {x : Bool} (h : (!x) = true) : x = false := by cases x <;> simp_all
theorem not_f' {x : Bool} (h : (!x) = false) : x = true := by cases x <;> simp_all
theorem ex_extract {x : Operand} {i : Nat} (ho : o.op = .extract x i) {vs : Array Value} {v : Value} (hx : a.eval x = .tuple vs) (hv : vs[i]? = some v) : (execOp a.eval o).run P w = .ok (.value v) w := by
  unfold execOp
  simp [ho, hx, Instr.extract, hv]
theorem ex_load {x : Operand} {t : TypeId} (ho : o.op = .load t x) {p : Addr} {v : Value} (hx : a.eval x = .pointer (some p)) (hl : (loadVar t p).run P w = .ok v w) : (execOp a.eval o).run P w = .ok (.value v) w := by
  unfold execOp
  simp [ho, hx, Instr.loadAt, Instr.sureAddr, hl]
theorem load_cell {t : TypeId} (hA : ∀ w, (isAgg t).run P w = .ok false w) {b off : Nat} {v : Value} (hc : w.cell? ⟨b, off, none⟩ = some v) : (loadVar t ⟨b, off, none⟩).run P w = .ok v w := by
  unfold loadVar
  simp [hA, go_sem, hc]
theorem load_row {t : TypeId} {b : Nat} {cs : Array Value} {u : TypeId} {fr : Nat × Nat} {d : TypeDesc} (hr : w.heap[b]? = some (.cells cs u fr)) (hu : P.underlying t = some d) (hd : d.isRow = true) (hi : (P.info? t).map (·.size) = some cs.size) : (loadVar t ⟨b, 0, none⟩).run P w = .ok (.agg cs) w :=
  run_loadVar_row w b u t cs fr d hr hu (by cases d <;> simp_all [TypeDesc.isRow]) hi
theorem cell_row {b : Nat} {cs : Array Value} {u : TypeId} {fr : Nat × Nat} (hr : w.heap[b]? = some (.cells cs u fr)) (j : Nat) : w.cell? ⟨b, j, none⟩ = cs[j]? := by simp [World.cell?, hr]
/-- A part of a row, cells o .. o + n. -/
theorem load_part {t : TypeId} {b off n : Nat} {cs part : Array Value} {u : TypeId} {fr : Nat × Nat} {d : TypeDesc} (hr : w.heap[b]? = some (.cells cs u fr)) (hp : cs.extract off (off + n) = part) (hn : part.size = n)
    (hu : P.underlying t = some d) (hd : d.isRow = true) (hi : (P.info? t).map (·.size) = some n) : (loadVar t ⟨b, off, none⟩).run P w = .ok (.agg part) w := by
  have h := run_loadVar_mid (P := P) w b off t part.toList d (fun j v hj => by
    rw [cell_row hr, ← hj, ← hp]
    simp only [Array.getElem?_toList, Array.getElem?_extract]
    have hj2 : j < part.size := by
      have := (List.getElem?_eq_some_iff.1 hj).1
      simpa using this
    rw [← hp] at hj2
    simp only [Array.size_extract] at hj2
    rw [if_pos (by omega)]) hu hd (by rw [hi, ← hn]; rfl)
  simpa using h
theorem ex_fieldAddr {s : TypeId} {x : Operand} {f : Nat} (ho : o.op = .fieldAddr s x f) {p : Addr} {fs : Array Field} {fd : Field} (hx : a.eval x = .pointer (some p)) (hs : P.underlying s = some (.struct fs)) (hf : fs[f]? = some fd)
    (hz : ∀ w, ∃ n, (sizeOf fd.type).run P w = .ok (n + 1) w) {q : Addr} (hq : p.add fd.offset = q) : (execOp a.eval o).run P w = .ok (.value (.pointer (some q))) w := by
  obtain ⟨n, hz⟩ := hz w
  unfold execOp
  simp [ho, hx, Instr.fieldAt, run_underlying hs, hf, Instr.sureAddr, fieldPlace, hz, hq]
theorem ex_field {s : TypeId} {x : Operand} {f : Nat} (ho : o.op = .field s x f) {fs : Array Field} {fd : Field} {cs : Array Value} {v : Value} (hx : a.eval x = .agg cs) (hs : P.underlying s = some (.struct fs)) (hf : fs[f]? = some fd)
    (hp : (part fd.type cs fd.offset).run P w = .ok v w) : (execOp a.eval o).run P w = .ok (.value v) w := by
  unfold execOp
  simp [ho, hx, Instr.field, run_underlying hs, hf, asAgg, hp]
theorem ex_binOp {op : BinOp} {t u : TypeId} {x y : Operand} (ho : o.op = .binOp op t x y u) {v : Value} (hg : (eqGuard op t x y (a.eval x) (a.eval y)).run P w = .ok () w) (hb : (binOp op t (a.eval x) (a.eval y)).run P w = .ok v w) : (execOp a.eval o).run P w = .ok (.value v) w := by
  unfold execOp
  simp [ho, hg, hb]
theorem ex_unOp {op : UnOp} {t : TypeId} {x : Operand} (ho : o.op = .unOp op t x) {v : Value} (hb : (Op.unary op (a.eval x)).run P w = .ok v w) : (execOp a.eval o).run P w = .ok (.value v) w := by
  unfold execOp
  simp [ho, hb]
theorem ex_build {t : TypeId} {ps : Array (Nat × Operand)} (ho : o.op = .build t ps) {v : Value} (hb : (Instr.build t (ps.map fun (i, x) => (i, a.eval x))).run P w = .ok v w) : (execOp a.eval o).run P w = .ok (.value v) w := by
  unfold execOp
  simp [ho, hb]
theorem ex_alloc {t : TypeId} (ho : o.op = .alloc t) {z : Value} (hz : ∀ w, (zeroValue t).run P w = .ok z w) : (execOp a.eval o).run P w = .ok (.value (.pointer (some ⟨w.heap.size, 0, none⟩))) (w.alloc (.cells z.cells t)) := by
  unfold execOp
  simp [ho, Instr.alloc, hz, newVar, newRow, go_sem]
theorem ex_box {t : TypeId} {x : Operand} (ho : o.op = .box t x) {v : Value} (hx : a.eval x = v) : (execOp a.eval o).run P w = .ok (.value (.pointer (some ⟨w.heap.size, 0, none⟩))) (w.alloc (.cells v.cells t)) := by
  subst hx
  unfold execOp
  simp [ho, Instr.box, newVar, newRow, go_sem]
theorem ex_buildSlice {t : TypeId} {n : Nat} {ps : Array (Nat × Operand)} (ho : o.op = .buildSlice t n ps) {v : Value} {w' : World} (hb : (Instr.buildSlice t n (ps.map fun (i, x) => (i, a.eval x))).run P w = .ok v w') : (execOp a.eval o).run P w = .ok (.value v) w' := by
  unfold execOp
  simp [ho, hb]
theorem ex_slice {t : TypeId} {x : Operand} {lo hi : Option Operand} (ho : o.op = .slice t x lo hi none) {v : Value} (hb : (Instr.sliceAt t (a.eval x) (lo.map a.eval) (hi.map a.eval) none).run P w = .ok v w) : (execOp a.eval o).run P w = .ok (.value v) w := by
  unfold execOp
  simp [ho, hb]
theorem ex_indexAddr {t : TypeId} {x i : Operand} (ho : o.op = .indexAddr t x i) {v : Value} (hb : (Instr.indexAt t (a.eval x) (a.eval i)).run P w = .ok v w) : (execOp a.eval o).run P w = .ok (.value v) w := by
  unfold execOp
  simp [ho, hb]
theorem ex_index {t : TypeId} {x i : Operand} (ho : o.op = .index t x i) {v : Value} (hb : (Instr.index t (a.eval x) (a.eval i)).run P w = .ok v w) : (execOp a.eval o).run P w = .ok (.value v) w := by
  unfold execOp
  simp [ho, hb]
theorem ex_convert {s t : TypeId} {x : Operand} (ho : o.op = .convert s t x) {v : Value} {w' : World} (hb : (convert s t (a.eval x)).run P w = .ok v w') : (execOp a.eval o).run P w = .ok (.value v) w' := by
  unfold execOp
  simp [ho, hb]
theorem ex_builtin {b : Builtin} {args : Array Operand} {tys : Array TypeId} (ho : o.op = .call ⟨.builtin b, args, tys⟩) {v : Value} {w' : World} (hb : ∀ consts, (builtin b tys o.type consts (args.map a.eval)).run P w = .ok (.value v) w') : (execOp a.eval o).run P w = .ok (.value v) w' := by
  unfold execOp
  simp [ho, resolve, invoke, hb]
theorem ex_store {t : TypeId} {x y : Operand} (ho : o.op = .store t x y) {p : Addr} {w' : World} (hx : a.eval x = .pointer (some p)) (hs : (storeVar t p (a.eval y)).run P w = .ok () w') : (execOp a.eval o).run P w = .ok .skip w' := by
  unfold execOp
  simp [ho, hx, Instr.storeAt, Instr.sureAddr, hs]
theorem ex_lookup {t : TypeId} {x k : Operand} {c : Bool} (ho : o.op = .lookup t x k c) {v : Value} (hb : (Instr.lookup t (a.eval x) (a.eval k) c).run P w = .ok v w) : (execOp a.eval o).run P w = .ok (.value v) w := by
  unfold execOp
  simp [ho, hb]
theorem ex_mapUpdate {t : TypeId} {m k x : Operand} (ho : o.op = .mapUpdate t m k x) {w' : World} (hb : (Instr.mapUpdate t (a.eval m) (a.eval k) (a.eval x)).run P w = .ok () w') : (execOp a.eval o).run P w = .ok .skip w' := by
  unfold execOp
  simp [ho, hb]
theorem ex_makeMap {t : TypeId} (ho : o.op = .makeMap t none) : (execOp a.eval o).run P w = .ok (.value (.map (some w.heap.size))) (w.alloc (.map #[] 0)) := by
  unfold execOp
  simp [ho, Instr.makeMap, go_sem]
/-! ### Values -/
theorem bin_add {k : IntKind} {x y : Int} {t : TypeId} : (binOp .add t (.int k x) (.int k y)).run P w = .ok (.int k (k.wrap (x + y))) w := by simp [go_sem, binOp]
theorem bin_sub {k : IntKind} {x y : Int} {t : TypeId} : (binOp .sub t (.int k x) (.int k y)).run P w = .ok (.int k (k.wrap (x - y))) w := by simp [go_sem, binOp]
theorem bin_mul {k : IntKind} {x y : Int} {t : TypeId} : (binOp .mul t (.int k x) (.int k y)).run P w = .ok (.int k (k.wrap (x * y))) w := by simp [go_sem, binOp]
theorem bin_eql {k : IntKind} {x y : Int} {t : TypeId} : (binOp .eql t (.int k x) (.int k y)).run P w = .ok (.bool (x == y)) w := by simp [go_sem, binOp]
theorem bin_neq {k : IntKind} {x y : Int} {t : TypeId} : (binOp .neq t (.int k x) (.int k y)).run P w = .ok (.bool (x != y)) w := by simp [go_sem, binOp]
theorem bin_lss {k : IntKind} {x y : Int} {t : TypeId} : (binOp .lss t (.int k x) (.int k y)).run P w = .ok (.bool (decide (x < y))) w := by simp [go_sem, binOp]
theorem bin_leq {k : IntKind} {x y : Int} {t : TypeId} : (binOp .leq t (.int k x) (.int k y)).run P w = .ok (.bool (decide (x ≤ y))) w := by simp [go_sem, binOp]
theorem bin_gtr {k : IntKind} {x y : Int} {t : TypeId} : (binOp .gtr t (.int k x) (.int k y)).run P w = .ok (.bool (decide (y < x))) w := by simp [go_sem, binOp]
theorem bin_geq {k : IntKind} {x y : Int} {t : TypeId} : (binOp .geq t (.int k x) (.int k y)).run P w = .ok (.bool (decide (y ≤ x))) w := by simp [go_sem, binOp]
theorem str_beq (x y : ByteArray) : (x.toList == y.toList) = decide (x = y) := by
  rw [Bool.eq_iff_iff, beq_iff_eq, decide_eq_true_eq, ByteArray.toList_eq, ByteArray.toList_eq, Array.toList_inj]
  cases x; cases y; simp
theorem bin_seql {x y : ByteArray} {t : TypeId} : (binOp .eql t (.string x) (.string y)).run P w = .ok (.bool (decide (x = y))) w := by simp [binOp, Op.stringOp, str_beq]
theorem bin_sneq {x y : ByteArray} {t : TypeId} : (binOp .neq t (.string x) (.string y)).run P w = .ok (.bool (!decide (x = y))) w := by simp [binOp, Op.stringOp, str_beq]
theorem bin_sadd {x y : ByteArray} {t : TypeId} (h : x.size + y.size ≤ 9223372036854775807) : (binOp .add t (.string x) (.string y)).run P w = .ok (.string (x ++ y)) w := by simp [go_sem, binOp, h]
theorem equalIn_bool (d : Nat) {x y : Bool} {t : TypeId} (ht : P.underlying t = some .bool) : (Op.equalIn (d + 1) t (.bool x) (.bool y)).run P w = .ok (x == y) w := by
  unfold Op.equalIn
  simp only [Sem.run_bind, run_underlying ht, Result.andThen_ok, Sem.run_pure]
theorem bin_beql {x y : Bool} {t : TypeId} (ht : P.underlying t = some .bool) : (binOp .eql t (.bool x) (.bool y)).run P w = .ok (.bool (x == y)) w := by
  have h : (Op.equal t (.bool x) (.bool y)).run P w = .ok (x == y) w := equalIn_bool 9999 ht
  simp only [binOp, Sem.run_bind, h, Result.andThen_ok, Sem.run_pure]
theorem bin_bneq {x y : Bool} {t : TypeId} (ht : P.underlying t = some .bool) : (binOp .neq t (.bool x) (.bool y)).run P w = .ok (.bool (x != y)) w := by
  have h : (Op.equal t (.bool x) (.bool y)).run P w = .ok (x == y) w := equalIn_bool 9999 ht
  simp only [binOp, Sem.run_bind, h, Result.andThen_ok, Sem.run_pure]
  rfl
theorem eqg_int {op : BinOp} {t : TypeId} {x y : Operand} {k k' : IntKind} {m n : Int} : (eqGuard op t x y (.int k m) (.int k' n)).run P w = .ok () w := by
  unfold eqGuard; split <;> simp
theorem eqg_str {op : BinOp} {t : TypeId} {x y : Operand} {m n : ByteArray} : (eqGuard op t x y (.string m) (.string n)).run P w = .ok () w := by
  unfold eqGuard; split <;> simp
theorem eqg_bool {op : BinOp} {t : TypeId} {x y : Operand} {m n : Bool} : (eqGuard op t x y (.bool m) (.bool n)).run P w = .ok () w := by
  unfold eqGuard; split <;> simp
theorem eqg_ptr {op : BinOp} {t : TypeId} {x y : Operand} {m n : Option Addr} : (eqGuard op t x y (.pointer m) (.pointer n)).run P w = .ok () w := by
  unfold eqGuard; split <;> simp
theorem un_not {x : Bool} : (Op.unary .not (.bool x)).run P w = .ok (.bool (!x)) w := by simp [go_sem]
theorem len_str {x : ByteArray} {t u : TypeId} {cs : Array Bool} (h : P.underlying t = some .string) : (builtin .len #[t] u cs #[.string x]).run P w = .ok (.value (.int .i64 x.size)) w := by
  simp only [builtin, Builtin.len_, Sem.run_bind, List.getElem?_toArray]
  simp [run_underlying h, goInt]
theorem len_slice {x : Option Addr} {l c : Nat} {t u : TypeId} {cs : Array Bool} {e : TypeId} (h : P.underlying t = some (.slice e)) : (builtin .len #[t] u cs #[.slice x l c]).run P w = .ok (.value (.int .i64 l)) w := by
  simp only [builtin, Builtin.len_, Sem.run_bind, List.getElem?_toArray]
  simp [run_underlying h, goInt]
theorem min_int {x y : Int} {t t' u : TypeId} {cs : Array Bool} : (builtin .min #[t, t'] u cs #[.int .i64 x, .int .i64 y]).run P w = .ok (.value (.int .i64 (min x y))) w := by
  have h : (if y < x then y else x) = min x y := by omega
  simp [builtin, Builtin.min_, Builtin.min2, h]
theorem part_cell {t : TypeId} (hA : ∀ w, (isAgg t).run P w = .ok false w) {cs : Array Value} {off : Nat} {v : Value} (h : cs[off]? = some v) : (part t cs off).run P w = .ok v w := by
  unfold part
  simp [hA, h]
theorem part_agg {t : TypeId} {n : Nat} (hA : ∀ w, (isAgg t).run P w = .ok true w) (hz : ∀ w, (sizeOf t).run P w = .ok n w) {cs p : Array Value} {off : Nat} (h : cs.extract off (off + n) = p) : (part t cs off).run P w = .ok (.agg p) w := by
  unfold part
  simp [hA, hz, h]
theorem wrap_i64 {x : Int} (h0 : -9223372036854775808 ≤ x) (h1 : x ≤ 9223372036854775807) : IntKind.i64.wrap x = x := by
  rw [IntKind.wrap_i64]; omega
theorem bin_addN {x y : Int} {t : TypeId} (h0 : -9223372036854775808 ≤ x + y) (h1 : x + y ≤ 9223372036854775807) : (binOp .add t (.int .i64 x) (.int .i64 y)).run P w = .ok (.int .i64 (x + y)) w := by
  rw [bin_add, wrap_i64 h0 h1]
theorem bin_subN {x y : Int} {t : TypeId} (h0 : -9223372036854775808 ≤ x - y) (h1 : x - y ≤ 9223372036854775807) : (binOp .sub t (.int .i64 x) (.int .i64 y)).run P w = .ok (.int .i64 (x - y)) w := by
  rw [bin_sub, wrap_i64 h0 h1]
theorem bin_mulN {x y : Int} {t : TypeId} (h0 : -9223372036854775808 ≤ x * y) (h1 : x * y ≤ 9223372036854775807) : (binOp .mul t (.int .i64 x) (.int .i64 y)).run P w = .ok (.int .i64 (x * y)) w := by
  rw [bin_mul, wrap_i64 h0 h1]
/-- s[lo:hi] of a string, the bounds as naturals. -/
theorem slice_hi {t : TypeId} (ht : P.underlying t = some .string) {s : ByteArray} {h : Int} (h0 : 0 ≤ h) (h1 : h ≤ s.size) : (Instr.sliceAt t (.string s) none (some (.int .i64 h)) none).run P w = .ok (.string (s.extract 0 h.toNat)) w := by
  simp [Instr.sliceAt, Instr.slice, run_underlying ht, Instr.sliceBounds, Instr.sliceBound, asIntOf, h0, h1]
theorem slice_lo {t : TypeId} (ht : P.underlying t = some .string) {s : ByteArray} {l : Int} (h0 : 0 ≤ l) (h1 : l ≤ s.size) : (Instr.sliceAt t (.string s) (some (.int .i64 l)) none none).run P w = .ok (.string (s.extract l.toNat s.size)) w := by
  simp [Instr.sliceAt, Instr.slice, run_underlying ht, Instr.sliceBounds, Instr.sliceBound, asIntOf, h0, h1]
theorem slice_lohi {t : TypeId} (ht : P.underlying t = some .string) {s : ByteArray} {l h : Int} (h0 : 0 ≤ l) (h1 : l ≤ h) (h2 : h ≤ s.size) : (Instr.sliceAt t (.string s) (some (.int .i64 l)) (some (.int .i64 h)) none).run P w = .ok (.string (s.extract l.toNat h.toNat)) w := by
  have h3 : 0 ≤ h := by omega
  have h4 : (h.toNat : Int) = h := by omega
  simp [Instr.sliceAt, Instr.slice, run_underlying ht, Instr.sliceBounds, Instr.sliceBound, asIntOf, h0, h1, h2, h3, h4]
theorem index_str {t : TypeId} (ht : P.underlying t = some .string) {s : ByteArray} {i : Nat} (h : i < s.size) : (Instr.index t (.string s) (.int .i64 i)).run P w = .ok (.int .u8 s[i].toNat) w := by
  have e : s[i]? = some s[i] := by simp [h]
  simp [Instr.index, asIntOf, run_underlying ht, e]
/-- &l[i] of a slice. -/
theorem index_slice {t e : TypeId} (ht : P.underlying t = some (.slice e)) {g off l c i n : Nat} (h : i < l) (hz : ∀ w, (sizeOf e).run P w = .ok n w) : (Instr.indexAt t (.slice (some ⟨g, off, none⟩) l c) (.int .i64 i)).run P w = .ok (.pointer (some ⟨g, off + i * n, none⟩)) w := by
  have e1 : (⟨g, off, none⟩ : Addr).add (i * n) = ⟨g, off + i * n, none⟩ := by
    unfold Addr.add
    split
    · rename_i h0; rw [h0]; rfl
    · rfl
  simp [Instr.indexAt, asIntOf, run_underlying ht, h, hz, e1]
end
/-! ### The tail of a region: one operation behind the other -/
section
variable {P : Program} {ops : Array Oper} {Q : Exit → Act → World → Prop} {i : Nat} {rest : List Nat} {o : Oper} {a : Act} {w : World}
theorem tail_step (hi : ops[i]? = some o) (hg : o.guard = none) (h : o.wp P a w (wpOps P ops Q rest) Q) : wpOps P ops Q (i :: rest) a w := by
  rw [wpOps_cons]
  unfold Go.wpOp
  simp [hi, Region.wanted, hg, h]
theorem tail_val {d : Nat} {v : Value} {w' : World} (hi : ops[i]? = some o) (hg : o.guard = none) (hd : o.dst = some d) (h : (execOp a.eval o).run P w = .ok (.value v) w') (k : wpOps P ops Q rest (a.put (some d) v) w') : wpOps P ops Q (i :: rest) a w := by
  refine tail_step hi hg ?_
  unfold Oper.wp
  rw [h, Oper.upon_value, hd]
  exact k
theorem tail_do {w' : World} (hi : ops[i]? = some o) (hg : o.guard = none) (hd : o.dst = none) (h : (execOp a.eval o).run P w = .ok .skip w') (k : wpOps P ops Q rest a w') : wpOps P ops Q (i :: rest) a w := by
  refine tail_step hi hg ?_
  unfold Oper.wp
  rw [h, Oper.upon_skip, hd]
  exact k
/-- A call that may write: its contract says what follows. -/
theorem tail_call {f : FuncId} {args : Array Operand} {tys : Array TypeId} (hi : ops[i]? = some o) (hg : o.guard = none) (ho : o.op = .call ⟨.value (.func f), args, tys⟩) (hf : ∀ args w, (callFunc f args).run P w = .ok (.enter f args) w)
    (hc : Calls P f (args.map a.eval) w fun e w' => ∃ v, e = .returned v ∧ wpOps P ops Q rest (a.put o.dst v) w') : wpOps P ops Q (i :: rest) a w := by
  refine tail_step hi hg ?_
  unfold Oper.wp
  have h : (execOp a.eval o).run P w = .ok (.enter f (args.map a.eval)) w := by
    unfold execOp
    simp [ho, resolve, Act.eval, Deferred.ofValue, invoke, hf]
  rw [h, Oper.upon_enter]
  exact hc.mono fun e w' ⟨v, he, k⟩ => by subst he; exact k
theorem put_same {d : Nat} {v : Value} {N : Nat} (hN : a.tmps.size = N) (h : d < N) : (a.put (some d) v).at d = v := by rw [at_put, if_pos ⟨rfl, by omega⟩]
theorem put_other {d t : Nat} {v : Value} (h : (d == t) = false) : (a.put (some d) v).at t = a.at t := by rw [at_put, if_neg (fun e => by simp [e.1] at h)]
theorem FrameOK.at {n : Nat} {a0 : Act} (h : FrameOK ops n a0 a) {t : Nat} (ht : (dstsOf ops n).contains t = false) : a.at t = a0.at t := h.same t (by simpa using ht)
theorem FrameOK.carry {n : Nat} {a0 : Act} {w0 : World} (φ : Value → World → Prop) (h : FrameOK ops n a0 a) {t : Nat} (ht : (dstsOf ops n).contains t = false) (hst : Stab φ) (he : Ext w0 w) (k : φ (a0.at t) w0) : φ (a.at t) w := by
  rw [h.at ht]; exact hst _ _ _ he k
/-- What a contract gives: a value that meets φ; what was there stays. -/
def Ret (φ : Value → World → Prop) (w : World) (e : Ending) (w' : World) : Prop := ∃ v, e = .returned v ∧ Ext w w' ∧ φ v w'
theorem run_callR {φ ψ : Value → World → Prop} {f : FuncId} {args : Array Operand} {tys : Array TypeId} (ho : o.op = .call ⟨.value (.func f), args, tys⟩) (hf : ∀ args w, (callFunc f args).run P w = .ok (.enter f args) w)
    (hc : Calls P f (args.map a.eval) w (Ret ψ w)) (h : ∀ v w', ψ v w' → φ v w') : OpRun P o a w φ :=
  run_call ho hf (hc.mono fun _ _ ⟨v, e, x, k⟩ => ⟨v, e, x, h v _ k⟩)
theorem ev_const {a : Act} {v : Value} : a.eval (.const v) = v := rfl
/-- The rows of the function's own blocks behind a store. -/
theorem store_row {b : Nat} {t ty : TypeId} {old cs : Array Value} (hr : w.heap[b]? = some (.cells old t (0, 0))) (hi : (P.info? ty).map (·.size) = some cs.size) (hs : old.size = cs.size) (h1 : cs.all (·.oneCell') = true) : (storeVar ty ⟨b, 0, none⟩ (.agg cs)).run P w = .ok () (w.setRow b cs) :=
  run_storeVar_row w b t ty old cs hr hi hs h1
theorem below_row {B b : Nat} {w0 : World} {cs : Array Value} (h : Below B w0 w) (hb : B ≤ b) : Below B w0 (w.setRow b cs) := h.trans ⟨rfl, rfl, rfl, by simp [World.setRow], fun k hk => setRow_other w b k cs (by omega)⟩
theorem row_other {b b' : Nat} {cs : Array Value} {ob : Obj} (h : w.heap[b']? = some ob) (hb : b' ≠ b) : (w.setRow b cs).heap[b']? = some ob := (setRow_other w b b' cs hb).trans h
/-! ### Whole functions -/
theorem enter_fn {f : FuncId} {fn : Func} {c : Code} {args : Array Value} {R : Ending → World → Prop} {N : Nat} (hf : P.funcs[f]? = some fn) (hb : fn.body = some c) (hN : fn.ntmps = N) (hl : args.size ≤ N)
    (h : ∀ a : Act, a.tmps.size = N → a.defers = [] → (∀ t, t < args.size → a.at t = args.getD t undef) → c.wp P (bodyPost P fn R) a w) : Calls P f args w R := by
  refine calls_of_wp hf hb (h _ ?_ rfl fun t ht => ?_)
  · simp [hN]; omega
  · simp [Act.at, Array.getElem?_append, ht]
/-- A loop, its measure in the relation. -/
theorem loop_rule {c : Code} {Q : Exit → Act → World → Prop} (I : Nat → Act → World → Prop) (m : Nat) (h0 : I m a w) (h : ∀ m a w, I m a w → c.wp P (Exit.then (fun a' w' => ∃ m', I m' a' w' ∧ m' < m) Q) a w) : (Code.loop c).wp P Q a w := by
  intro b k cs
  have key : ∀ n m a w, m = n → I m a w →
      ∃ e a' w', Q e a' w' ∧ Arrives P (lone (b.at a (.code c :: .inLoop c :: k)) cs w) b k cs e a' w' := by
    intro n
    induction n using Nat.strongRecOn with
    | _ n ih =>
      intro m a w hm hI
      obtain ⟨e, a₁, w₁, hq, harr⟩ := h m a w hI b (.inLoop c :: k) cs
      cases e with
      | normal =>
        obtain ⟨m', hI₁, hlt⟩ := hq
        obtain ⟨e₂, a₂, w₂, hq₂, harr₂⟩ := ih m' (hm ▸ hlt) m' a₁ w₁ rfl hI₁
        exact ⟨e₂, a₂, w₂, hq₂, .of_steps (Steps.trans harr (.one step_inLoop)) harr₂⟩
      | exit id => exact ⟨_, a₁, w₁, hq, .pass (x := .inLoop c) rfl (fun _ _ => .inl (by simp)) harr⟩
      | goto l => exact ⟨_, a₁, w₁, hq, .pass (x := .inLoop c) rfl (fun _ _ => .inl (by simp)) harr⟩
      | ret => exact ⟨_, a₁, w₁, hq, .pass (x := .inLoop c) rfl (fun _ _ => .inl (by simp)) harr⟩
      | panic ch => exact ⟨_, a₁, w₁, hq, .pass (x := .inLoop c) rfl (fun _ _ => .inl (by simp)) harr⟩
      | outgrown => exact ⟨_, a₁, w₁, hq, .pass (x := .inLoop c) rfl (fun _ _ => .inl (by simp)) harr⟩
  obtain ⟨e, a', w', hq, harr⟩ := key _ m a w rfl h0
  exact ⟨e, a', w', hq, .of_steps (.one step_loop) harr⟩
theorem ret_1 {fn : Func} {R : Ending → World → Prop} {t : Tmp} {v : Value} (hr : fn.results = #[.tmp t]) (hd : a.defers = []) (hv : a.at t = v) (h : R (.returned v) w) : bodyPost P fn R .ret a w :=
  bodyPost_ret (by rw [results_tmp hr]; exact congrArg (Result.ok · w) hv) hd h
theorem ret_2 {fn : Func} {R : Ending → World → Prop} {t u : Tmp} {v x : Value} (hr : fn.results = #[.tmp t, .tmp u]) (hd : a.defers = []) (hv : a.at t = v) (hx : a.at u = x) (h : R (.returned (.tuple #[v, x])) w) : bodyPost P fn R .ret a w := by
  subst hv hx
  exact bodyPost_ret (results_tmp2 hr _ _ _) hd h
theorem ret_3 {fn : Func} {R : Ending → World → Prop} {t u z : Tmp} {v x y : Value} (hr : fn.results = #[.tmp t, .tmp u, .tmp z]) (hd : a.defers = []) (hv : a.at t = v) (hx : a.at u = x) (hy : a.at z = y) (h : R (.returned (.tuple #[v, x, y])) w) : bodyPost P fn R .ret a w := by
  subst hv hx hy
  refine bodyPost_ret ?_ hd h
  simp [results, hr, Act.at]
theorem ret_c {fn : Func} {R : Ending → World → Prop} {p : Tmp} {ty : TypeId} {b : Nat} {v : Value} (hr : fn.results = #[.cell p ty]) (hd : a.defers = []) (hp : a.at p = .pointer (some ⟨b, 0, none⟩)) (hl : (loadVar ty ⟨b, 0, none⟩).run P w = .ok v w) (h : R (.returned v) w) : bodyPost P fn R .ret a w := by
  refine bodyPost_ret ?_ hd h
  simp only [Act.at, Array.getD_eq_getD_getElem?] at hp
  simp [results, hr, hp, asAddr, hl]
theorem ret_c1 {fn : Func} {R : Ending → World → Prop} {p u : Tmp} {ty : TypeId} {b : Nat} {v x : Value} (hr : fn.results = #[.cell p ty, .tmp u]) (hd : a.defers = []) (hp : a.at p = .pointer (some ⟨b, 0, none⟩)) (hl : (loadVar ty ⟨b, 0, none⟩).run P w = .ok v w) (hx : a.at u = x) (h : R (.returned (.tuple #[v, x])) w) : bodyPost P fn R .ret a w := by
  subst hx
  refine bodyPost_ret ?_ hd h
  simp only [Act.at, Array.getD_eq_getD_getElem?] at hp
  simp [results, hr, hp, asAddr, hl, Act.at]
theorem ret_c2 {fn : Func} {R : Ending → World → Prop} {p u z : Tmp} {ty : TypeId} {b : Nat} {v x y : Value} (hr : fn.results = #[.cell p ty, .tmp u, .tmp z]) (hd : a.defers = []) (hp : a.at p = .pointer (some ⟨b, 0, none⟩)) (hl : (loadVar ty ⟨b, 0, none⟩).run P w = .ok v w) (hx : a.at u = x) (hy : a.at z = y) (h : R (.returned (.tuple #[v, x, y])) w) : bodyPost P fn R .ret a w := by
  subst hx hy
  refine bodyPost_ret ?_ hd h
  simp only [Act.at, Array.getD_eq_getD_getElem?] at hp
  simp [results, hr, hp, asAddr, hl, Act.at]
/-- The operations of region 'id'. -/
def regIn (id : Nat) : Code → Option (Array Oper)
  | .region i ops _ => if i = id then some ops else none
  | .seq x y => (regIn id x).or (regIn id y)
  | .cond _ x y => (regIn id x).or (regIn id y)
  | .block _ c => regIn id c
  | .loop c => regIn id c
  | .scope c => regIn id c
  | _ => none
def rg (f : Func) (id : Nat) : Array Oper := ((f.body.bind (regIn id)).getD #[])
/-- The operations' facts, as a list. -/
def phi (l : List (Value → World → Prop)) (i : Nat) : Value → World → Prop := l.getD i (fun _ _ => True)
def allOf : List Nat → (Nat → Prop) → Prop
  | [], _ => True
  | j :: l, p => p j ∧ allOf l p
theorem allOf_iff {l : List Nat} {p : Nat → Prop} : allOf l p ↔ ∀ j ∈ l, p j := by
  induction l with
  | nil => simp [allOf]
  | cons x l ih => simp [allOf, ih]
def RunsFrom (P : Program) (ops : Array Oper) (n : Nat) (deps : List (List Nat)) (F : List (Value → World → Prop)) (a0 : Act) (w0 : World) : Nat → List (Value → World → Prop) → Prop
  | _, [] => True
  | i, p :: l => (∀ a w, Ext w0 w → FrameOK ops n a0 a → allOf (deps.getD i []) (fun j => phi F j (dstV ops a j) w) → OpAt P ops i a w p) ∧ RunsFrom P ops n deps F a0 w0 (i + 1) l
theorem runs_of {n : Nat} {deps : List (List Nat)} {F : List (Value → World → Prop)} {a0 : Act} {w0 : World} (h : RunsFrom P ops n deps F a0 w0 0 F) (hn : n = F.length) : RunsAll P ops n deps (phi F) a0 w0 := by
  have key : ∀ (l : List (Value → World → Prop)) (i : Nat), RunsFrom P ops n deps F a0 w0 i l → ∀ j, j < l.length → ∀ o, ops[i + j]? = some o → ∀ a w, Ext w0 w → FrameOK ops n a0 a → (∀ x ∈ deps.getD (i + j) [], phi F x (dstV ops a x) w) → OpOK P ops o a w (phi l j) := by
    intro l
    induction l with
    | nil => intro i _ j hj; simp at hj
    | cons p l ih =>
      intro i hr j hj o ho a w he hf hd
      obtain ⟨h1, h2⟩ := hr
      cases j with
      | zero => exact h1 a w he hf (allOf_iff.2 hd) o ho
      | succ j =>
        have := ih (i + 1) h2 j (by simpa using hj) o (by rw [show i + 1 + j = i + (j + 1) from by omega]; exact ho) a w he hf (by rw [show i + 1 + j = i + (j + 1) from by omega]; exact hd)
        simpa [phi] using this
  intro i hi o ho a w he hf hd
  have := key F 0 h i (by omega) o (by simpa using ho) a w he hf (by simpa using hd)
  exact this
def StabAll : List (Value → World → Prop) → Prop
  | [] => True
  | p :: l => Stab p ∧ StabAll l
theorem stab_of {F : List (Value → World → Prop)} (h : StabAll F) : ∀ i, Stab (phi F i) := by
  induction F with
  | nil => intro i v w w' _ _; simp [phi]
  | cons p l ih =>
    intro i
    cases i with
    | zero => simpa [phi] using h.1
    | succ i => simpa [phi] using ih h.2 i
theorem stab_eq (x : Value) : Stab (fun v _ => v = x) := fun _ _ _ _ h => h
theorem stab_pure (p : Value → Prop) : Stab (fun v _ => p v) := fun _ _ _ _ h => h
theorem stab_imp {c : Prop} {φ : Value → World → Prop} (h : Stab φ) : Stab (fun v w => c → φ v w) := fun v w w' e k hc => h v w w' e (k hc)
theorem _root_.Go.Proofs.YtfcfddfjifofgaaDoor.Trydmixed : Tryd.prog.follows .mixedOrders = true := by kernel_rfl
theorem free_of {ops : Array Oper} {e : Nat} {o : Oper} {a : Act} {w : World} {φ : Value → World → Prop} {v : Value} (h : ops[e]? = some o) (hg : o.guard = none) (hfr : isFresh o.op = false) (hx : ∀ w, (execOp a.eval o).run P w = .ok (.value v) w) (hφ : φ v w) : ∀ o', ops[e]? = some o' → ∃ v, Yields P ops o' v a ∧ φ v w ∧ isFresh o'.op = false := fun o' h' => by
  obtain rfl := Option.some.inj (h.symm.trans h')
  exact ⟨v, .inl ⟨by simp [Region.wanted, hg], hx⟩, hφ, hfr⟩
def factsOf (ops : Array Oper) (a : Act) (w : World) (F : List (Value → World → Prop)) : Nat → List (Value → World → Prop) → Prop
  | _, [] => True
  | i, p :: l => p (dstV ops a i) w ∧ factsOf ops a w F (i + 1) l
theorem facts_of {F : List (Value → World → Prop)} {n : Nat} (hn : n = F.length) (h : ∀ i, i < n → phi F i (dstV ops a i) w) : factsOf ops a w F 0 F := by
  have key : ∀ (l : List (Value → World → Prop)) (i : Nat), (∀ j, j < l.length → phi l j (dstV ops a (i + j)) w) → factsOf ops a w F i l := by
    intro l
    induction l with
    | nil => intro i _; trivial
    | cons p l ih =>
      intro i h
      refine ⟨by simpa [phi] using h 0 (by simp), ih (i + 1) fun j hj => ?_⟩
      have := h (j + 1) (by simpa using hj)
      rw [show i + (j + 1) = i + 1 + j from by omega] at this
      simpa [phi] using this
  refine key F 0 fun j hj => ?_
  simpa using h j (by omega)
/-- Where an operation leaves nothing in a slot. -/
def noneOK (ops : Array Oper) (n : Nat) : Bool := (List.range n).all fun i => match ops[i]? with | some o => o.dst.isSome | none => true
theorem none_of {n : Nat} {φ : Nat → Value → World → Prop} (h : noneOK ops n = true) : ∀ i o, i < n → ops[i]? = some o → o.dst = none → ∀ v w, φ i v w → φ i undef w := by
  intro i o hi ho hd
  have := List.all_eq_true.1 h i (List.mem_range.2 hi)
  simp [ho, hd] at this
/-- A drawn region, with its facts as a list. -/
theorem draw_list {id n N : Nat} {deps : List (List Nat)} {F : List (Value → World → Prop)} {a0 : Act} {w0 : World} {E : List Nat} (hm : P.follows .mixedOrders = true) (ho : RegionOK ops n N deps E) (hn : n = F.length) (hno : noneOK ops n = true) (hst : StabAll F) (hN : a0.tmps.size = N)
    (hrun : RunsFrom P ops n deps F a0 w0 0 F) (hfree : allOf E fun e => ∀ o, ops[e]? = some o → ∀ a w, Ext w0 w → FrameOK ops n a0 a → allOf (deps.getD e []) (fun j => phi F j (dstV ops a j) w) → ∃ v, Yields P ops o v a ∧ phi F e v w ∧ isFresh o.op = false)
    (hfin : ∀ a w, Ext w0 w → FrameOK ops n a0 a → factsOf ops a w F 0 F → Apart ops n a → wpOps P ops (NP Q) ((List.range (ops.size - n)).map (n + ·)) a w) : (Code.region id ops true).wp P Q a0 w0 :=
  region_draw hm ho (fun i _ => stab_of hst i) (none_of hno) hN (runs_of hrun hn) (fun i hi o hio a w he hf hd => allOf_iff.1 hfree i hi o hio a w he hf (allOf_iff.2 hd)) fun a w he hf h hap => hfin a w he hf (facts_of hn h) hap
theorem plain_list {id n N : Nat} {deps : List (List Nat)} {F : List (Value → World → Prop)} {a0 : Act} {w0 : World} (hdst : dstOk ops n N = true) (hle : (decide (n ≤ ops.size)) = true) (hn : n = F.length) (hno : noneOK ops n = true) (hst : StabAll F) (hN : a0.tmps.size = N)
    (hd : ((List.range n).all fun i => (deps.getD i []).all fun j => decide (j < i)) = true) (hrun : RunsFrom P ops n deps F a0 w0 0 F)
    (hfin : ∀ a w, Ext w0 w → FrameOK ops n a0 a → factsOf ops a w F 0 F → Apart ops n a → wpOps P ops Q ((List.range (ops.size - n)).map (n + ·)) a w) : (Code.region id ops false).wp P Q a0 w0 :=
  region_plain hdst (of_decide_eq_true hle) (fun i _ => stab_of hst i) (none_of hno) hN (runs_of hrun hn) (fun i hi j hj => of_decide_eq_true (List.all_eq_true.1 (List.all_eq_true.1 hd i (List.mem_range.2 hi)) j hj)) fun a w he hf h hap => hfin a w he hf (facts_of hn h) hap
end
end Go.Proofs.YtfcfddfjifofgaaDoor
