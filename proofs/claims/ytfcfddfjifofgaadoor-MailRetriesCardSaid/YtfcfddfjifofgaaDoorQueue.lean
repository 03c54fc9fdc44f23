/- A queue in memory; what NewQueue, put, Add and Len return. -/
import Derived.Test.YtfcfddfjifofgaaDoorMaps
import Derived.Test.YtfcfddfjifofgaaDoorCopied
import Derived.Deep.RegionHeld3
import Derived.Carry
namespace Go.Proofs.YtfcfddfjifofgaaDoor
open Go.RowKit Go.Shelf

/-- A waiting message: hv its hops' slice. -/
structure QEnt where
  m : Msg
  hv : Value
  num : Int
  due : Int
  fails : Int
def wC (x : QEnt) : Array Value := #[.string x.m.fu, .string x.m.fs, .string x.m.tu, .string x.m.ts, .int .i64 x.m.num, .int .i64 x.m.date, .string x.m.sj, x.hv, .string x.m.body, .int .i64 x.num, .int .i64 x.due, .int .i64 x.fails]
def zeroQ : QEnt := ⟨zeroM, .slice none 0 0, 0, 0, 0⟩
abbrev intK : Int → Value := fun n => .int .i64 n
abbrev qv (l : List (Int × QEnt)) : List (Int × Value) := mapV (fun x => Value.agg (wC x)) l
theorem qKey : KeyFn Tryd.prog 3 intK (.int .i64) := intKey Tryd.underlying3
structure QueueAt (q mb : Nat) (site : ByteArray) (last : Int) (l : List (Int × QEnt)) (w : World) : Prop where
  row : w.heap[q]? = some (.cells #[.string site, .int .i64 last, .map (some mb)] 84 (0, 0))
  map : MapIs intK w mb (qv l)
  own : ∀ x ∈ l, OwnStrs (q + 1) x.2.m.hops w x.2.hv
/-- All blocks but two stand. -/
structure QFrame (q mb : Nat) (w w' : World) : Prop where
  os : w'.os = w.os
  tape : w'.tape = w.tape
  output : w'.output = w.output
  size : w.heap.size ≤ w'.heap.size
  block : ∀ k, k < w.heap.size → k ≠ q → k ≠ mb → w'.heap[k]? = w.heap[k]?
theorem QFrame.refl (q mb : Nat) (w : World) : QFrame q mb w w := ⟨rfl, rfl, rfl, Nat.le_refl _, fun _ _ _ _ => rfl⟩
theorem QFrame.trans {q mb : Nat} {a b c : World} (h : QFrame q mb a b) (k : QFrame q mb b c) : QFrame q mb a c :=
  ⟨k.os.trans h.os, k.tape.trans h.tape, k.output.trans h.output, Nat.le_trans h.size k.size, fun i hi h1 h2 => (k.block i (Nat.lt_of_lt_of_le hi h.size) h1 h2).trans (h.block i hi h1 h2)⟩
theorem QFrame.of {q mb : Nat} {w w' : World} (h : Below w.heap.size w w') : QFrame q mb w w' := ⟨h.os, h.tape, h.output, h.size, fun k hk _ _ => h.block k hk⟩
theorem QFrame.setCell (q mb j : Nat) (w : World) (v : Value) : QFrame q mb w (w.setCell ⟨q, j, none⟩ v) :=
  ⟨rfl, rfl, rfl, by simp [World.setCell], fun k _ h1 _ => Below.heap_setCell _ _ _ _ h1⟩
theorem QFrame.setBlk (q mb : Nat) (w : World) (o : Obj) : QFrame q mb w (setBlk w mb o) :=
  ⟨rfl, rfl, rfl, by rw [setBlk_size]; exact Nat.le_refl _, fun k _ _ h2 => setBlk_other _ _ _ _ h2⟩
theorem QFrame.below {q mb B : Nat} {w0 w w' : World} (h : QFrame q mb w w') (hb : Below B w0 w) (hB : B ≤ w.heap.size) (hq : B ≤ q) (hm : B ≤ mb) : Below B w0 w' :=
  hb.trans ⟨h.os, h.tape, h.output, h.size, fun k hk => h.block k (by omega) (by omega) (by omega)⟩
theorem own_map_ne {mb : Nat} {l : List ByteArray} {w w' : World} {v : Value} {q : Nat} (h : OwnStrs (q + 1) l w v) {K : Int → Value} {es : List (Int × Value)} (hm : MapIs K w mb es) (hk : ∀ k, k < w.heap.size → k ≠ q → k ≠ mb → w'.heap[k]? = w.heap[k]?) : OwnStrs (q + 1) l w' v := by
  refine ⟨h.1, ?_⟩
  rcases h.2 with h4 | ⟨g, cap, cur, q1, q2, q3, q4⟩
  · exact .inl h4
  · refine .inr ⟨g, cap, cur, q1, q2, (hk g (lt_of_block q3) (by omega) (fun e => ?_)).trans q3, q4⟩
    obtain ⟨arr, clock, h1, _⟩ := hm
    rw [← e, q3] at h1
    cases h1
theorem QueueAt.below {q mb : Nat} {site : ByteArray} {last : Int} {l : List (Int × QEnt)} {w w' : World} (h : QueueAt q mb site last l w) (hb : Below w.heap.size w w') : QueueAt q mb site last l w' :=
  ⟨(hb.block q (lt_of_block h.row)).trans h.row, h.map.kept (hb.block mb h.map.lt), fun x hx => own_map_ne (h.own x hx) h.map (fun k hk _ _ => hb.block k hk)⟩
theorem QueueAt.ne {q mb : Nat} {site : ByteArray} {last : Int} {l : List (Int × QEnt)} {w : World} (h : QueueAt q mb site last l w) : q ≠ mb := fun e => by
  obtain ⟨arr, clock, h1, _⟩ := h.map
  rw [← e, h.row] at h1
  cases h1
def NewPost (name : ByteArray) (w : World) (e : Ending) (w' : World) : Prop :=
  (siteE name ≠ 0 ∧ e = .returned (.tuple #[.pointer none, .int .i64 (siteE name)]) ∧ w' = w) ∨
  (siteE name = 0 ∧ ∃ q mb, e = .returned (.tuple #[.pointer (some ⟨q, 0, none⟩), .int .i64 0]) ∧ w.heap.size ≤ q ∧ w.heap.size ≤ mb ∧ QueueAt q mb name 0 [] w' ∧ Below w.heap.size w w')
set_option maxHeartbeats 400000 in
theorem new_c (name : ByteArray) (w : World) (hn : name.size ≤ maxLen) :
    Calls Tryd.prog 23 #[.string name] w (NewPost name w) := by
  have HN := Lib.hid hn
  clear hn
  have hmk : ∀ w, (Instr.makeMap 82 none).run Tryd.prog w = .ok (.map (some w.heap.size)) (w.alloc (.map #[] 0)) := fun w => run_makeMap _ w
  go_enter Tryd.func23, Tryd.ntmps23
  go_wp2_with (go_at_call 29; refine (mSite_c name _ HN.out).mono ?_; rintro e w' ⟨rfl, rfl⟩)
  · go_ret2
    exact .inl ⟨bne_t ‹_›, rfl, rfl⟩
  · go_ret2
    have hs := bne_f ‹((siteE name : Int) != 0) = false›
    refine .inr ⟨hs, w.heap.size + 1, w.heap.size, rfl, by omega, Nat.le_refl _, ⟨heap_alloc2_new _ _ _, (mapIs_new w).kept (Below.heap_alloc _ _ _ (by simp)), fun x hx => by cases hx⟩, ((Below.refl _ w).alloc (Nat.le_refl _) _).alloc (by simp) _⟩
theorem own_set {mb q : Nat} {l : List ByteArray} {w w' : World} {v : Value} (h : OwnStrs (q + 1) l w v) {es : List (Int × Value)} (hm : MapIs intK w mb es) (hf : QFrame q mb w w') : OwnStrs (q + 1) l w' v := own_map_ne h hm hf.block
/-- What put needs of a world: the queue with its new number, the message in its box. -/
structure PutAt (q mb : Nat) (site : ByteArray) (last : Int) (l : List (Int × QEnt)) (m : Msg) (hv : Value) (b : Nat) (w0 w : World) : Prop where
  qu : QueueAt q mb site (last + 1) l w
  box : w.heap[b]? = some (.cells (msgC m hv) 29 (0, 0))
  str : StrsAt w hv m.hops
  fr : QFrame q mb w0 w
  lt : q < w0.heap.size
theorem put_start {q mb : Nat} {site : ByteArray} {last : Int} {l : List (Int × QEnt)} {m : Msg} {hv : Value} {w : World} (hq : QueueAt q mb site last l w) (hn : StrsAt w hv m.hops) (hnq : ∀ b off n c, hv = .slice (some ⟨b, off, none⟩) n c → 0 < n → b ≠ q) :
    PutAt q mb site last l m hv w.heap.size w ((w.setCell ⟨q, 1, none⟩ (.int .i64 (last + 1))).alloc (.cells (msgC m hv) 29)) := by
  have hqs := lt_of_block hq.row
  have hf : QFrame q mb w (w.setCell ⟨q, 1, none⟩ (.int .i64 (last + 1))) := QFrame.setCell q mb 1 w _
  have hs : (w.setCell ⟨q, 1, none⟩ (.int .i64 (last + 1))).heap.size = w.heap.size := by simp [World.setCell]
  have h1 : QueueAt q mb site (last + 1) l (w.setCell ⟨q, 1, none⟩ (.int .i64 (last + 1))) :=
    ⟨heap_setCell_same _ q 1 _ _ _ hq.row, hq.map.kept (Below.heap_setCell _ _ _ _ (fun e => hq.ne e.symm)), fun x hx => own_set (hq.own x hx) hq.map hf⟩
  have hal := (Below.refl (w.setCell ⟨q, 1, none⟩ (.int .i64 (last + 1))).heap.size (w.setCell ⟨q, 1, none⟩ (.int .i64 (last + 1)))).alloc (Nat.le_refl _) (.cells (msgC m hv) 29)
  refine ⟨h1.below hal, by rw [← hs]; exact heap_alloc_new _ _, ?_, hf.trans (QFrame.of hal), hqs⟩
  rcases hn with hn | ⟨b, off, cap, e1, e2, e3, e4⟩
  · exact .inl hn
  · rcases Nat.eq_zero_or_pos m.hops.length with h0 | h0
    · exact .inl ⟨List.eq_nil_of_length_eq_zero h0, _, _, by rw [e1, h0]⟩
    · have hbq := hnq b off _ cap e1 h0
      refine .inr ⟨b, off, cap, e1, e2, by simp [World.setCell]; omega, fun j x hx => ?_⟩
      rw [hal.cell (p := ⟨b, off + j, none⟩) (by rw [hs]; exact e3), World.cell?_of_block (w := w) (Below.heap_setCell _ _ _ _ (by exact hbq))]
      exact e4 j x hx
theorem PutAt.next {q mb : Nat} {site : ByteArray} {last : Int} {l : List (Int × QEnt)} {m : Msg} {hv : Value} {b : Nat} {w0 w w' : World} (h : PutAt q mb site last l m hv b w0 w) (hb : Below w.heap.size w w') : PutAt q mb site last l m hv b w0 w' :=
  ⟨h.qu.below hb, (hb.block b (lt_of_block h.box)).trans h.box, h.str.below hb, h.fr.trans (QFrame.of hb), h.lt⟩
def KeepQ (q mb : Nat) (last : Int) (m : Msg) (hv : Value) (b : Nat) (w' : World) : Prop :=
  w'.cell? ⟨q, 1, none⟩ = some (.int .i64 (last + 1)) ∧ w'.cell? ⟨q, 2, none⟩ = some (.map (some mb)) ∧ w'.cell? ⟨b, 0, none⟩ = some (.string m.fu) ∧ w'.cell? ⟨b, 1, none⟩ = some (.string m.fs) ∧ w'.cell? ⟨b, 2, none⟩ = some (.string m.tu) ∧ w'.cell? ⟨b, 3, none⟩ = some (.string m.ts) ∧ w'.cell? ⟨b, 4, none⟩ = some (.int .i64 m.num) ∧ w'.cell? ⟨b, 5, none⟩ = some (.int .i64 m.date) ∧ w'.cell? ⟨b, 6, none⟩ = some (.string m.sj) ∧ w'.cell? ⟨b, 7, none⟩ = some hv ∧ w'.cell? ⟨b, 8, none⟩ = some (.string m.body)
theorem PutAt.keep {q mb : Nat} {site : ByteArray} {last : Int} {l : List (Int × QEnt)} {m : Msg} {hv : Value} {b : Nat} {w0 w : World} (h : PutAt q mb site last l m hv b w0 w) : KeepQ q mb last m hv b w :=
  ⟨cell_at h.qu.row 1, cell_at h.qu.row 2, cell_at h.box 0, cell_at h.box 1, cell_at h.box 2, cell_at h.box 3, cell_at h.box 4, cell_at h.box 5, cell_at h.box 6, cell_at h.box 7, cell_at h.box 8⟩
theorem put_keep {q mb : Nat} {site : ByteArray} {last : Int} {l : List (Int × QEnt)} {m : Msg} {hv : Value} {b : Nat} {w0 w : World} (h : PutAt q mb site last l m hv b w0 w) (o : Obj) : KeepQ q mb last m hv b (setBlk w mb o) := by
  have hq : (setBlk w mb o).heap[q]? = w.heap[q]? := setBlk_other _ _ _ _ h.qu.ne
  have hb : (setBlk w mb o).heap[b]? = w.heap[b]? := setBlk_other _ _ _ _ (fun e => by
    obtain ⟨arr, clock, h1, _⟩ := h.qu.map
    rw [← e, h.box] at h1
    cases h1)
  exact ⟨cell_at (hq.trans h.qu.row) 1, cell_at (hq.trans h.qu.row) 2, cell_at (hb.trans h.box) 0, cell_at (hb.trans h.box) 1, cell_at (hb.trans h.box) 2, cell_at (hb.trans h.box) 3, cell_at (hb.trans h.box) 4, cell_at (hb.trans h.box) 5, cell_at (hb.trans h.box) 6, cell_at (hb.trans h.box) 7, cell_at (hb.trans h.box) 8⟩
def PutPost (q mb : Nat) (site : ByteArray) (last : Int) (l : List (Int × QEnt)) (m : Msg) (now : Int) (w : World) (e : Ending) (w' : World) : Prop :=
  ∃ hv, e = .returned (.int .i64 (last + 1)) ∧ QueueAt q mb site (last + 1) (setK l (last + 1) ⟨m, hv, last + 1, now, 0⟩) w' ∧ QFrame q mb w w'
theorem put_end {q mb : Nat} {site : ByteArray} {last now : Int} {l : List (Int × QEnt)} {m : Msg} {hv v : Value} {b : Nat} {w0 w : World} {o : Obj} (h : PutAt q mb site last l m hv b w0 w) (ho : OwnStrs (q + 1) m.hops w v)
    (hm : MapIs intK (setBlk w mb o) mb (setK (qv l) (last + 1) (Value.agg (wC ⟨m, v, last + 1, now, 0⟩)))) : QueueAt q mb site (last + 1) (setK l (last + 1) ⟨m, v, last + 1, now, 0⟩) (setBlk w mb o) ∧ QFrame q mb w0 (setBlk w mb o) := by
  refine ⟨⟨(setBlk_other _ _ _ _ h.qu.ne).trans h.qu.row, ?_, fun x hx => ?_⟩, h.fr.trans (QFrame.setBlk q mb w o)⟩
  · rw [setK_mapV (fun x => Value.agg (wC x))] at hm
    exact hm
  · rcases setK_mem hx with rfl | hx
    · exact own_set ho h.qu.map (QFrame.setBlk q mb w o)
    · exact own_set (h.qu.own x hx) h.qu.map (QFrame.setBlk q mb w o)
set_option maxRecDepth 100000 in
set_option maxHeartbeats 2000000 in
theorem put_c (q mb : Nat) (site : ByteArray) (last : Int) (l : List (Int × QEnt)) (m : Msg) (hv : Value) (now : Int) (w : World) (hq : QueueAt q mb site last l w) (hh : StrsAt w hv m.hops) (hl : m.hops.length ≤ 1099511627776) (hnq : ∀ b off n c, hv = .slice (some ⟨b, off, none⟩) n c → 0 < n → b ≠ q) (h0 : 0 ≤ last) (h1 : last < 9223372036854775807) :
    Calls Tryd.prog 48 #[.pointer (some ⟨q, 0, none⟩), .agg (msgC m hv), .int .i64 now] w (PutPost q mb site last l m now w) := by
  have HQ := Lib.hid hq
  have HH := Lib.hid hh
  have HL := Lib.hid hl
  have hqs := lt_of_block hq.row
  have hne := hq.ne
  have hms := hq.map.lt
  have c1 : w.cell? ⟨q, 1, none⟩ = some (.int .i64 last) := cell_at hq.row 1
  have f1 : w.frozen? ⟨q, 1, none⟩ = false := free_at hq.row 1
  have HPA0 := Lib.hid (put_start (m := m) hq hh hnq)
  clear hq hh hl hnq
  unfold msgC
  go_enter Tryd.func48, Tryd.ntmps48
  go_upto_region 2 with fail
  unfold msgC at HPA0
  generalize hW : (w.setCell ⟨q, 1, none⟩ (.int .i64 (last + 1))).alloc (.cells #[.string m.fu, .string m.fs, .string m.tu, .string m.ts, .int .i64 m.num, .int .i64 m.date, .string m.sj, hv, .string m.body] 29) = w1 at *
  clear hW
  have HPA1 := Lib.hid (HPA0.out.next (Below.refl _ w1).drew)
  have hkw : KeepQ q mb last m hv w.heap.size w1.drew := HPA1.out.keep
  have HKW := Lib.hid hkw
  clear hkw
  go_region_held3 (fun w' => w'.cell? ⟨q, 1, none⟩ = some (.int .i64 (last + 1)) ∧ w'.cell? ⟨q, 2, none⟩ = some (.map (some mb)) ∧ w'.cell? ⟨w.heap.size, 0, none⟩ = some (.string m.fu) ∧ w'.cell? ⟨w.heap.size, 1, none⟩ = some (.string m.fs) ∧ w'.cell? ⟨w.heap.size, 2, none⟩ = some (.string m.tu) ∧ w'.cell? ⟨w.heap.size, 3, none⟩ = some (.string m.ts) ∧ w'.cell? ⟨w.heap.size, 4, none⟩ = some (.int .i64 m.num) ∧ w'.cell? ⟨w.heap.size, 5, none⟩ = some (.int .i64 m.date) ∧ w'.cell? ⟨w.heap.size, 6, none⟩ = some (.string m.sj) ∧ w'.cell? ⟨w.heap.size, 7, none⟩ = some hv ∧ w'.cell? ⟨w.heap.size, 8, none⟩ = some (.string m.body)) (first | (exact HKW.out) | (exact HKS.out) | go_keep) (first | (go_at_call 49; refine (copied_c m hv _ HPA1.out.str HL.out).mono ?_; rintro e w2 ⟨v, rfl, ho, hb2⟩; have HPA := Lib.hid (HPA1.out.next hb2); have HKW := Lib.hid HPA.out.keep; have HO := Lib.hid ho; obtain ⟨ob, hrun, hmi⟩ := run_update_is qKey Tryd.underlying82 HPA.out.qu.map (last + 1) (.agg (wC ⟨m, v, last + 1, now, 0⟩)); have HMI := Lib.hid hmi; have HKS := Lib.hid (put_keep HPA.out ob); unfold wC at hrun; dsimp only [intK] at hrun; dsimp only [msgC]; clear ho hb2 hmi))
  have c4 : (setBlk w2 mb ob).cell? ⟨q, 1, none⟩ = some (.int .i64 (last + 1)) := HKS.out.1
  go_wp2
  go_ret
  exact ⟨v, rfl, put_end HPA.out (HO.out.mono (by have := HPA0.out.fr.size; simp; omega)) HMI.out⟩
end Go.Proofs.YtfcfddfjifofgaaDoor
