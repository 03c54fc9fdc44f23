/- What Queue.Fail returns where the message is removed. -/
import Derived.Test.YtfcfddfjifofgaaDoorQFail
import Derived.Test.YtfcfddfjifofgaaDoorRefB
import Derived.Deep.RegionHeld3
import Derived.Laws.ResultCell
namespace Go.Proofs.YtfcfddfjifofgaaDoor
open Go.RowKit Go.Shelf

theorem del_ok {q mb : Nat} {site : ByteArray} {last n : Int} {l : List (Int × QEnt)} {w w1 : World} {o : Obj} (hq : QueueAt q mb site last l w) (hb : Below w.heap.size w w1)
    (hm : MapIs intK (setBlk w1 mb o) mb (delK (qv l) n)) : QueueAt q mb site last (delK l n) (setBlk w1 mb o) ∧ QFrame q mb w (setBlk w1 mb o) := by
  have hq1 := hq.below hb
  refine ⟨⟨(setBlk_other _ _ _ _ hq1.ne).trans hq1.row, ?_, fun y hy => own_set (hq1.own y (delK_mem hy)) hq1.map (QFrame.setBlk q mb w1 o)⟩, (QFrame.of hb).trans (QFrame.setBlk q mb w1 o)⟩
  rw [delK_mapV (fun x => Value.agg (wC x))] at hm
  exact hm
/-- The world behind the removal: the queue without the message, the message in its box. -/
structure QRem (q mb : Nat) (site : ByteArray) (last : Int) (l : List (Int × QEnt)) (m : Msg) (hv : Value) (b : Nat) (w0 w : World) : Prop where
  qu : QueueAt q mb site last l w
  box : ∃ x y z, w.heap[b]? = some (.cells #[.string m.fu, .string m.fs, .string m.tu, .string m.ts, .int .i64 m.num, .int .i64 m.date, .string m.sj, hv, .string m.body, x, y, z] 87 (0, 0))
  str : StrsAt w hv m.hops
  fr : QFrame q mb w0 w
theorem QRem.next {q mb : Nat} {site : ByteArray} {last : Int} {l : List (Int × QEnt)} {m : Msg} {hv : Value} {b : Nat} {w0 w w' : World} (h : QRem q mb site last l m hv b w0 w) (hb : Below w.heap.size w w') : QRem q mb site last l m hv b w0 w' :=
  ⟨h.qu.below hb, by obtain ⟨x, y, z, h1⟩ := h.box; exact ⟨x, y, z, (hb.block b (lt_of_block h1)).trans h1⟩, h.str.below hb, h.fr.trans (QFrame.of hb)⟩
def KeepO (q : Nat) (site : ByteArray) (m : Msg) (hv : Value) (b : Nat) (w' : World) : Prop :=
  w'.cell? ⟨q, 0, none⟩ = some (.string site) ∧ w'.cell? ⟨b, 0, none⟩ = some (.string m.fu) ∧ w'.cell? ⟨b, 1, none⟩ = some (.string m.fs) ∧ w'.cell? ⟨b, 2, none⟩ = some (.string m.tu) ∧ w'.cell? ⟨b, 3, none⟩ = some (.string m.ts) ∧ w'.cell? ⟨b, 4, none⟩ = some (.int .i64 m.num) ∧ w'.cell? ⟨b, 5, none⟩ = some (.int .i64 m.date) ∧ w'.cell? ⟨b, 6, none⟩ = some (.string m.sj) ∧ w'.cell? ⟨b, 7, none⟩ = some hv ∧ w'.cell? ⟨b, 8, none⟩ = some (.string m.body)
theorem QRem.keep {q mb : Nat} {site : ByteArray} {last : Int} {l : List (Int × QEnt)} {m : Msg} {hv : Value} {b : Nat} {w0 w : World} (h : QRem q mb site last l m hv b w0 w) : KeepO q site m hv b w := by
  obtain ⟨x, y, z, h1⟩ := h.box
  exact ⟨cell_at h.qu.row 0, cell_at h1 0, cell_at h1 1, cell_at h1 2, cell_at h1 3, cell_at h1 4, cell_at h1 5, cell_at h1 6, cell_at h1 7, cell_at h1 8⟩
theorem out_start {q mb : Nat} {site : ByteArray} {last n : Int} {l : List (Int × QEnt)} {m : Msg} {hv : Value} {w : World} {o : Obj} {x y z : Value} (hq : QueueAt q mb site last l w) (ho : OwnStrs (q + 1) m.hops w hv)
    (hm : MapIs intK (setBlk (w.alloc (.cells #[.string m.fu, .string m.fs, .string m.tu, .string m.ts, .int .i64 m.num, .int .i64 m.date, .string m.sj, hv, .string m.body, x, y, z] 87)) mb o) mb (delK (qv l) n)) :
    QRem q mb site last (delK l n) m hv w.heap.size w (setBlk (w.alloc (.cells #[.string m.fu, .string m.fs, .string m.tu, .string m.ts, .int .i64 m.num, .int .i64 m.date, .string m.sj, hv, .string m.body, x, y, z] 87)) mb o) := by
  have hb := (Below.refl w.heap.size w).alloc (Nat.le_refl _) (.cells #[.string m.fu, .string m.fs, .string m.tu, .string m.ts, .int .i64 m.num, .int .i64 m.date, .string m.sj, hv, .string m.body, x, y, z] 87)
  obtain ⟨h1, h2⟩ := del_ok hq hb hm
  exact ⟨h1, ⟨x, y, z, (setBlk_other _ _ _ _ (by have := hq.map.lt; omega)).trans (heap_alloc_new _ _)⟩, (own_set (own_set ho hq.map (QFrame.of hb)) (hq.below hb).map (QFrame.setBlk q mb _ o)).strsAt, h2⟩
def OutPost (q mb : Nat) (site : ByteArray) (last : Int) (l : List (Int × QEnt)) (n now code : Int) (w : World) (e : Ending) (w' : World) : Prop :=
  (bouncesB (valOf l n zeroQ).m site now = false ∧ e = .returned (.tuple #[.int .i64 0, .bool false, .int .i64 0]) ∧ QueueAt q mb site last (delK l n) w' ∧ QFrame q mb w w') ∨
  (bouncesB (valOf l n zeroQ).m site now = true ∧ ∃ hv, e = .returned (.tuple #[.int .i64 (last + 1), .bool true, .int .i64 0]) ∧ QueueAt q mb site (last + 1) (setK (delK l n) (last + 1) ⟨bounceR (valOf l n zeroQ).m site code now, hv, last + 1, now, 0⟩) w' ∧ QFrame q mb w w')
theorem bounce_hops (m : Msg) (site : ByteArray) (code now : Int) : (bounceR m site code now).hops = [] := by
  unfold bounceR
  split <;> rfl
set_option maxRecDepth 100000 in
set_option maxHeartbeats 2000000 in
theorem fail_out (q mb : Nat) (site : ByteArray) (last : Int) (l : List (Int × QEnt)) (n now code : Int) (final : Bool) (w : World) (hq : QueueAt q mb site last l w) (hok : QOk site last l) (hn : hasK l n = true) (hm : minuteB now = true) (hout : final = true ∨ 7 ≤ (valOf l n zeroQ).fails)
    (hc0 : -9223372036854775808 ≤ code) (hc1 : code ≤ 9223372036854775807) (hpw : ∀ w', QFrame q mb w w' → PowT w') :
    Calls Tryd.prog 26 #[.pointer (some ⟨q, 0, none⟩), .int .i64 n, .int .i64 now, .int .i64 code, .bool final] w (OutPost q mb site last l n now code w) := by
  have hlk := qlookup hq.map n
  rw [hn] at hlk
  have c2 : w.cell? ⟨q, 2, none⟩ = some (.map (some mb)) := cell_at hq.row 2
  obtain ⟨a, k, c, hs⟩ := qslice hq n
  have hmem := valOf_mem (z := zeroQ) hn
  have HO0 := Lib.hid (hq.own _ hmem)
  have HFT := Lib.hid (hok.fits _ hmem)
  obtain ⟨hf0, hf7⟩ := hok.fails _ hmem
  have hqs := lt_of_block hq.row
  have hms := hq.map.lt
  have HQ := Lib.hid hq
  have HK := Lib.hid hok
  have HPW := Lib.hid hpw
  have HC0 := Lib.hid hc0
  have HC1 := Lib.hid hc1
  clear hq hn hok hmem hpw hc0 hc1
  unfold OutPost
  generalize hX : valOf l n zeroQ = x at *
  clear hX
  obtain ⟨m, hv, num, due, fails⟩ := x
  simp only at hs hf0 hf7 hout HO0 HFT
  subst hs
  unfold wC at hlk
  simp only at hlk
  have hout' : (!final) = false ∨ (7 : Int) ≤ fails := by
    rcases hout with rfl | h
    · exact .inl rfl
    · exact .inr h
  clear hout
  go_enter Tryd.func26, Tryd.ntmps26
  go_upto_region 14 with (first | (go_at_call 30; refine (minute_c _ _).mono ?_; rintro e w' ⟨rfl, rfl⟩) | (at_delete; refine wpList_delete_is rfl _ _ 3 rfl qKey Tryd.underlying82 (HQ.out.below ((Below.refl _ w).alloc (Nat.le_refl _) _)).map n rfl rfl ?_; intro ob hmi; have HOU := Lib.hid (out_start HQ.out HO0.out hmi); clear hmi))
  rotate_left 1
  · exfalso
    rcases hout' with h | h
    · simp at h; contradiction
    · omega
  all_goals
    generalize hW : setBlk (w.alloc _) mb ob = w1 at *
    clear hW
    have HOD := Lib.hid (HOU.out.next (Below.refl _ w1).drew)
    have HKW := Lib.hid HOD.out.keep
    unfold KeepO at HKW
    have HPT := Lib.hid (HPW.out _ HOD.out.fr)
    have hal := ((Below.refl _ w1).alloc (Nat.le_refl _) (.cells (msgC zeroM (.slice none 0 0)) 29)).drew
    have HAL := Lib.hid hal
    have HOB := Lib.hid (HOU.out.next hal)
    have HKB := Lib.hid HOB.out.keep
    unfold KeepO at HKB
    unfold msgC zeroM at HKB
    have HPB := Lib.hid (HPW.out _ HOB.out.fr)
    clear hal
    have HCA := Lib.hid (bounce_c m (.slice a k c) site code now w1.drew HFT.out HOD.out.str HK.out.site HC0.out HC1.out HPT.out)
    have HCB := Lib.hid (bounce_c m (.slice a k c) site code now (w1.alloc (.cells (msgC zeroM (.slice none 0 0)) 29)).drew HFT.out HOB.out.str HK.out.site HC0.out HC1.out HPB.out)
    have hsA : w1.heap.size = w1.drew.heap.size := rfl
    clear hsA
    unfold msgC at HCA HCB
    unfold zeroM at HCB
    dsimp only at HCB
    go_region_held3 (fun w' => w'.cell? ⟨q, 0, none⟩ = some (.string site) ∧ w'.cell? ⟨w.heap.size, 0, none⟩ = some (.string m.fu) ∧ w'.cell? ⟨w.heap.size, 1, none⟩ = some (.string m.fs) ∧ w'.cell? ⟨w.heap.size, 2, none⟩ = some (.string m.tu) ∧ w'.cell? ⟨w.heap.size, 3, none⟩ = some (.string m.ts) ∧ w'.cell? ⟨w.heap.size, 4, none⟩ = some (.int .i64 m.num) ∧ w'.cell? ⟨w.heap.size, 5, none⟩ = some (.int .i64 m.date) ∧ w'.cell? ⟨w.heap.size, 6, none⟩ = some (.string m.sj) ∧ w'.cell? ⟨w.heap.size, 7, none⟩ = some (.slice a k c) ∧ w'.cell? ⟨w.heap.size, 8, none⟩ = some (.string m.body)) (first | (with_reducible exact HKW.out) | (with_reducible exact HKB.out) | (with_reducible exact HKA.out) | (with_reducible exact HKZ.out) | (with_reducible exact HKN.out) | fail) (first | (go_at_call 10; (with_reducible refine HCA.out.mono ?_); rintro e w2 ⟨rfl, hb2⟩; have HO2 := Lib.hid (HOD.out.next hb2); have HKW := Lib.hid HO2.out.keep; have HKA := Lib.hid (HO2.out.next ((Below.refl _ w2).alloc (Nat.le_refl _) (.cells #[.string (bounceR m site code now).fu, .string (bounceR m site code now).fs, .string (bounceR m site code now).tu, .string (bounceR m site code now).ts, .int .i64 (bounceR m site code now).num, .int .i64 (bounceR m site code now).date, .string (bounceR m site code now).sj, .slice none 0 0, .string (bounceR m site code now).body] 29))).keep; have HKZ := Lib.hid (HO2.out.next ((Below.refl _ w2).alloc (Nat.le_refl _) (.cells #[.string ⟨#[]⟩, .string ⟨#[]⟩, .string ⟨#[]⟩, .string ⟨#[]⟩, .int .i64 0, .int .i64 0, .string ⟨#[]⟩, .slice none 0 0, .string ⟨#[]⟩] 29))).keep; unfold KeepO at HKW HKA HKZ; dsimp only [msgC]; clear hb2) | (go_at_call 10; (with_reducible refine HCB.out.mono ?_); rintro e w2 ⟨rfl, hb2⟩; have HO3 := Lib.hid (HOB.out.next hb2); have HKW := Lib.hid HO3.out.keep; have hrr : w2.heap[w1.heap.size]? = some (.cells (msgC zeroM (.slice none 0 0)) 29 (0, 0)) := (hb2.block w1.heap.size (by simp)).trans (heap_alloc_new w1 _); have HRR := Lib.hid hrr; have r0 : w2.cell? ⟨w1.heap.size, 0, none⟩ = some (.string ⟨#[]⟩) := cell_at hrr 0; have q0 : w2.frozen? ⟨w1.heap.size, 0, none⟩ = false := free_at hrr 0; have r1 : w2.cell? ⟨w1.heap.size, 1, none⟩ = some (.string ⟨#[]⟩) := cell_at hrr 1; have q1 : w2.frozen? ⟨w1.heap.size, 1, none⟩ = false := free_at hrr 1; have r2 : w2.cell? ⟨w1.heap.size, 2, none⟩ = some (.string ⟨#[]⟩) := cell_at hrr 2; have q2 : w2.frozen? ⟨w1.heap.size, 2, none⟩ = false := free_at hrr 2; have r3 : w2.cell? ⟨w1.heap.size, 3, none⟩ = some (.string ⟨#[]⟩) := cell_at hrr 3; have q3 : w2.frozen? ⟨w1.heap.size, 3, none⟩ = false := free_at hrr 3; have r4 : w2.cell? ⟨w1.heap.size, 4, none⟩ = some (.int .i64 0) := cell_at hrr 4; have q4 : w2.frozen? ⟨w1.heap.size, 4, none⟩ = false := free_at hrr 4; have r5 : w2.cell? ⟨w1.heap.size, 5, none⟩ = some (.int .i64 0) := cell_at hrr 5; have q5 : w2.frozen? ⟨w1.heap.size, 5, none⟩ = false := free_at hrr 5; have r6 : w2.cell? ⟨w1.heap.size, 6, none⟩ = some (.string ⟨#[]⟩) := cell_at hrr 6; have q6 : w2.frozen? ⟨w1.heap.size, 6, none⟩ = false := free_at hrr 6; have r7 : w2.cell? ⟨w1.heap.size, 7, none⟩ = some (.slice none 0 0) := cell_at hrr 7; have q7 : w2.frozen? ⟨w1.heap.size, 7, none⟩ = false := free_at hrr 7; have r8 : w2.cell? ⟨w1.heap.size, 8, none⟩ = some (.string ⟨#[]⟩) := cell_at hrr 8; have q8 : w2.frozen? ⟨w1.heap.size, 8, none⟩ = false := free_at hrr 8; have HON := Lib.hid (HOU.out.next (below9 (x0 := .string (bounceR m site code now).fu) (x1 := .string (bounceR m site code now).fs) (x2 := .string (bounceR m site code now).tu) (x3 := .string (bounceR m site code now).ts) (x4 := .int .i64 (bounceR m site code now).num) (x5 := .int .i64 (bounceR m site code now).date) (x6 := .string (bounceR m site code now).sj) (x7 := .slice none 0 0) (x8 := .string (bounceR m site code now).body) (HAL.out.trans (hb2.mono (by simp))) (Nat.le_refl w1.heap.size))); have HKN := Lib.hid HON.out.keep; unfold KeepO at HKW HKN; dsimp only [msgC]; clear hb2 hrr))
    all_goals first | (have HQA := Lib.hid (HO2.out.next ((Below.refl _ w2).alloc (Nat.le_refl _) (.cells #[.string (bounceR m site code now).fu, .string (bounceR m site code now).fs, .string (bounceR m site code now).tu, .string (bounceR m site code now).ts, .int .i64 (bounceR m site code now).num, .int .i64 (bounceR m site code now).date, .string (bounceR m site code now).sj, .slice none 0 0, .string (bounceR m site code now).body] 29))).qu; have HFA := Lib.hid (HO2.out.next ((Below.refl _ w2).alloc (Nat.le_refl _) (.cells #[.string (bounceR m site code now).fu, .string (bounceR m site code now).fs, .string (bounceR m site code now).tu, .string (bounceR m site code now).ts, .int .i64 (bounceR m site code now).num, .int .i64 (bounceR m site code now).date, .string (bounceR m site code now).sj, .slice none 0 0, .string (bounceR m site code now).body] 29))).fr; have HRN := Lib.hid (heap_alloc_new w2 (.cells #[.string (bounceR m site code now).fu, .string (bounceR m site code now).fs, .string (bounceR m site code now).tu, .string (bounceR m site code now).ts, .int .i64 (bounceR m site code now).num, .int .i64 (bounceR m site code now).date, .string (bounceR m site code now).sj, .slice none 0 0, .string (bounceR m site code now).body] 29)); generalize hN : w2.alloc (.cells #[.string (bounceR m site code now).fu, .string (bounceR m site code now).fs, .string (bounceR m site code now).tu, .string (bounceR m site code now).ts, .int .i64 (bounceR m site code now).num, .int .i64 (bounceR m site code now).date, .string (bounceR m site code now).sj, .slice none 0 0, .string (bounceR m site code now).body] 29) = wN at *) | (have HQA := Lib.hid HON.out.qu; have HFA := Lib.hid HON.out.fr; have HRN := Lib.hid (set9 (x0 := .string (bounceR m site code now).fu) (x1 := .string (bounceR m site code now).fs) (x2 := .string (bounceR m site code now).tu) (x3 := .string (bounceR m site code now).ts) (x4 := .int .i64 (bounceR m site code now).num) (x5 := .int .i64 (bounceR m site code now).date) (x6 := .string (bounceR m site code now).sj) (x7 := .slice none 0 0) (x8 := .string (bounceR m site code now).body) HRR.out); generalize hN : (((((((((w2.setCell ⟨w1.heap.size, 0, none⟩ (.string (bounceR m site code now).fu)).setCell ⟨w1.heap.size, 1, none⟩ (.string (bounceR m site code now).fs)).setCell ⟨w1.heap.size, 2, none⟩ (.string (bounceR m site code now).tu)).setCell ⟨w1.heap.size, 3, none⟩ (.string (bounceR m site code now).ts)).setCell ⟨w1.heap.size, 4, none⟩ (.int .i64 (bounceR m site code now).num)).setCell ⟨w1.heap.size, 5, none⟩ (.int .i64 (bounceR m site code now).date)).setCell ⟨w1.heap.size, 6, none⟩ (.string (bounceR m site code now).sj)).setCell ⟨w1.heap.size, 7, none⟩ (.slice none 0 0)).setCell ⟨w1.heap.size, 8, none⟩ (.string (bounceR m site code now).body)) = wN at *)
    all_goals
      have HPC := Lib.hid (put_c q mb site last (delK l n) (bounceR m site code now) (.slice none 0 0) now wN HQA.out (.inl ⟨bounce_hops _ _ _ _, none, 0, rfl⟩) (by rw [bounce_hops]; exact Nat.zero_le _) (fun b off n c h h0 => by injection h with h1; cases h1) HK.out.l0 HK.out.l1)
      unfold msgC at HPC
      clear hN
      try clear r0 q0 r1 q1 r2 q2 r3 q3 r4 q4 r5 q5 r6 q6 r7 q7 r8 q8
      go_wp2_with (first | (go_at_call 48; (with_reducible refine HPC.out.mono ?_); rintro e w5 ⟨v5, rfl, hq5, hf5⟩; have HQ5 := Lib.hid hq5; have HF5 := Lib.hid hf5; clear hq5 hf5) | (with_reducible refine wpList_load_row rfl 29 (.tmp 15) rfl _ rfl _ _ _ _ HRN.out Tryd.underlying29 rfl (by kernel_rfl) ?_))
      all_goals
        go_ret3
        first | (exact .inl ⟨not_t ‹_›, rfl, HQA.out, HFA.out⟩) | (exact .inr ⟨not_f ‹_›, v5, rfl, HQ5.out, HFA.out.trans HF5.out⟩)
end Go.Proofs.YtfcfddfjifofgaaDoor
/- What Queue.Get and Len return. -/
namespace Go.Proofs.YtfcfddfjifofgaaDoor
open Go.RowKit Go.Shelf

theorem results_cell_tmp_tmp {fn : Func} {p u v : Tmp} {ty : TypeId} (h : fn.results = #[.cell p ty, .tmp u, .tmp v]) (tmps : Array Value) (P : Program) (w : World) :
    (results fn tmps).run P w =
      ((asAddr (tmps.getD p undef)).run P w).andThen fun a w₁ => ((loadVar ty a).run P w₁).andThen fun x w₂ => .ok (.tuple #[x, tmps.getD u undef, tmps.getD v undef]) w₂ := by
  simp only [results, h]
  simp [Sem.run_bind, Result.andThen]
set_option maxHeartbeats 400000 in
theorem len_c (q mb : Nat) (site : ByteArray) (last : Int) (l : List (Int × QEnt)) (w : World) (hq : QueueAt q mb site last l w) :
    Calls Tryd.prog 25 #[.pointer (some ⟨q, 0, none⟩)] w fun e w' => e = .returned (.int .i64 l.length) ∧ w = w' := by
  have c2 : w.cell? ⟨q, 2, none⟩ = some (.map (some mb)) := cell_at hq.row 2
  have hlm := qlen hq.map
  clear hq
  go_enter Tryd.func25, Tryd.ntmps25
  go_wp2
  go_ret
  exact ⟨rfl, rfl⟩
theorem set9_other {w : World} {b b' : Nat} {x0 x1 x2 x3 x4 x5 x6 x7 x8 : Value} {o : Obj} (h : w.heap[b']? = some o) (hb : b' ≠ b) : (((((((((w.setCell ⟨b, 0, none⟩ x0).setCell ⟨b, 1, none⟩ x1).setCell ⟨b, 2, none⟩ x2).setCell ⟨b, 3, none⟩ x3).setCell ⟨b, 4, none⟩ x4).setCell ⟨b, 5, none⟩ x5).setCell ⟨b, 6, none⟩ x6).setCell ⟨b, 7, none⟩ x7).setCell ⟨b, 8, none⟩ x8).heap[b']? = some o := by
  rw [Below.heap_setCell _ _ _ _ (by exact hb), Below.heap_setCell _ _ _ _ (by exact hb), Below.heap_setCell _ _ _ _ (by exact hb), Below.heap_setCell _ _ _ _ (by exact hb), Below.heap_setCell _ _ _ _ (by exact hb), Below.heap_setCell _ _ _ _ (by exact hb), Below.heap_setCell _ _ _ _ (by exact hb), Below.heap_setCell _ _ _ _ (by exact hb), Below.heap_setCell _ _ _ _ (by exact hb)]
  exact h
def KeepG (m : Msg) (hv : Value) (due : Int) (b : Nat) (w' : World) : Prop := w'.cell? ⟨b, 0, none⟩ = some (.string m.fu) ∧ w'.cell? ⟨b, 1, none⟩ = some (.string m.fs) ∧ w'.cell? ⟨b, 2, none⟩ = some (.string m.tu) ∧ w'.cell? ⟨b, 3, none⟩ = some (.string m.ts) ∧ w'.cell? ⟨b, 4, none⟩ = some (.int .i64 m.num) ∧ w'.cell? ⟨b, 5, none⟩ = some (.int .i64 m.date) ∧ w'.cell? ⟨b, 6, none⟩ = some (.string m.sj) ∧ w'.cell? ⟨b, 7, none⟩ = some (hv) ∧ w'.cell? ⟨b, 8, none⟩ = some (.string m.body) ∧ w'.cell? ⟨b, 10, none⟩ = some (.int .i64 due)
theorem keepG {m : Msg} {hv : Value} {num due fails : Int} {b : Nat} {w' : World} (h : w'.heap[b]? = some (.cells (wC ⟨m, hv, num, due, fails⟩) 87 (0, 0))) : KeepG m hv due b w' := ⟨cell_at h 0, cell_at h 1, cell_at h 2, cell_at h 3, cell_at h 4, cell_at h 5, cell_at h 6, cell_at h 7, cell_at h 8, cell_at h 10⟩
def GetPost (l : List (Int × QEnt)) (n : Int) (w : World) (e : Ending) (w' : World) : Prop :=
  ∃ hv, e = .returned (.tuple #[.agg (msgC (valOf l n zeroQ).m hv), .int .i64 (valOf l n zeroQ).due, .bool (hasK l n)]) ∧ OwnStrs w.heap.size (valOf l n zeroQ).m.hops w' hv ∧ Below w.heap.size w w'
theorem OwnStrs.at1 {B : Nat} {l : List ByteArray} {w : World} {v : Value} (h : OwnStrs (B + 1) l w v) : OwnStrs B l w v := h.mono (Nat.le_succ B)
theorem get_end {m : Msg} {hv : Value} {due : Int} {has : Bool} {w wx : World} (tmps : Array Value) (ho : OwnStrs w.heap.size m.hops wx hv) (hb : Below w.heap.size w wx) (hx : wx.heap[w.heap.size]? = some (.cells (msgC m hv) 29 (0, 0)))
    (h4 : tmps.getD 4 undef = .pointer (some ⟨w.heap.size, 0, none⟩)) (h5 : tmps.getD 5 undef = .int .i64 due) (h6 : tmps.getD 6 undef = .bool has) :
    bodyPost Tryd.prog Tryd.f27 (fun e w' => ∃ v, e = .returned (.tuple #[.agg (msgC m v), .int .i64 due, .bool has]) ∧ OwnStrs w.heap.size m.hops w' v ∧ Below w.heap.size w w') .ret ⟨tmps, []⟩ wx := by
  refine bodyPost_ret (v := .tuple #[.agg (msgC m hv), .int .i64 due, .bool has]) ?_ rfl ⟨hv, rfl, ho, hb⟩
  rw [results_cell_tmp_tmp Tryd.results27, h4]
  simp only [asAddr, Sem.run_pure, Result.andThen_ok]
  rw [run_loadVar_row wx w.heap.size _ 29 _ _ _ hx Tryd.underlying29 rfl (by kernel_rfl)]
  simp only [Result.andThen_ok, h5, h6]
set_option maxRecDepth 100000 in
set_option maxHeartbeats 2000000 in
theorem get_c (q mb : Nat) (site : ByteArray) (last : Int) (l : List (Int × QEnt)) (n : Int) (w : World) (hq : QueueAt q mb site last l w) (hl : (valOf l n zeroQ).m.hops.length ≤ 1099511627776) :
    Calls Tryd.prog 27 #[.pointer (some ⟨q, 0, none⟩), .int .i64 n] w (GetPost l n w) := by
  have hlk := qlookup (hq.below ((Below.refl _ w).alloc (Nat.le_refl _) (.cells (msgC zeroM (.slice none 0 0)) 29))).map n
  unfold msgC zeroM at hlk
  dsimp only at hlk
  have c2 : w.cell? ⟨q, 2, none⟩ = some (.map (some mb)) := cell_at hq.row 2
  obtain ⟨a, k, c, hs⟩ := qslice hq n
  have hst : StrsAt w (valOf l n zeroQ).hv (valOf l n zeroQ).m.hops := by
    by_cases hn : hasK l n = true
    · exact (hq.own _ (valOf_mem (z := zeroQ) hn)).strsAt
    · have e : valOf l n zeroQ = zeroQ := by
        unfold hasK at hn
        unfold valOf
        cases hp : posOf l n 0 with
        | none => rfl
        | some p => rw [hp] at hn; simp at hn
      rw [e]
      exact .inl ⟨rfl, none, 0, rfl⟩
  have hqs := lt_of_block hq.row
  have hms := hq.map.lt
  clear hq
  unfold GetPost
  generalize hasK l n = has at *
  generalize hX : valOf l n zeroQ = x at *
  clear hX
  obtain ⟨m, hv, num, due, fails⟩ := x
  simp only at hs hst hl
  subst hs
  have HST := Lib.hid hst
  have HL := Lib.hid hl
  clear hst hl
  unfold wC at hlk
  simp only at hlk
  go_enter Tryd.func27, Tryd.ntmps27
  go_upto_region 4 with fail
  have hrw : ((w.alloc (.cells #[.string ⟨#[]⟩, .string ⟨#[]⟩, .string ⟨#[]⟩, .string ⟨#[]⟩, .int .i64 0, .int .i64 0, .string ⟨#[]⟩, .slice none 0 0, .string ⟨#[]⟩] 29)).alloc (.cells #[.string m.fu, .string m.fs, .string m.tu, .string m.ts, .int .i64 m.num, .int .i64 m.date, .string m.sj, .slice a k c, .string m.body, .int .i64 num, .int .i64 due, .int .i64 fails] 87)).heap[w.heap.size + 1]? = some (.cells (wC ⟨m, .slice a k c, num, due, fails⟩) 87 (0, 0)) := heap_alloc2_new _ _ _
  have hrz : ((w.alloc (.cells #[.string ⟨#[]⟩, .string ⟨#[]⟩, .string ⟨#[]⟩, .string ⟨#[]⟩, .int .i64 0, .int .i64 0, .string ⟨#[]⟩, .slice none 0 0, .string ⟨#[]⟩] 29)).alloc (.cells #[.string m.fu, .string m.fs, .string m.tu, .string m.ts, .int .i64 m.num, .int .i64 m.date, .string m.sj, .slice a k c, .string m.body, .int .i64 num, .int .i64 due, .int .i64 fails] 87)).heap[w.heap.size]? = some (.cells (msgC zeroM (.slice none 0 0)) 29 (0, 0)) := heap_alloc2_old _ _ _
  have hst1 : StrsAt ((w.alloc (.cells #[.string ⟨#[]⟩, .string ⟨#[]⟩, .string ⟨#[]⟩, .string ⟨#[]⟩, .int .i64 0, .int .i64 0, .string ⟨#[]⟩, .slice none 0 0, .string ⟨#[]⟩] 29)).alloc (.cells #[.string m.fu, .string m.fs, .string m.tu, .string m.ts, .int .i64 m.num, .int .i64 m.date, .string m.sj, .slice a k c, .string m.body, .int .i64 num, .int .i64 due, .int .i64 fails] 87)) (.slice a k c) m.hops := (HST.out.alloc _).alloc _
  have hbl1 : Below w.heap.size w ((w.alloc (.cells #[.string ⟨#[]⟩, .string ⟨#[]⟩, .string ⟨#[]⟩, .string ⟨#[]⟩, .int .i64 0, .int .i64 0, .string ⟨#[]⟩, .slice none 0 0, .string ⟨#[]⟩] 29)).alloc (.cells #[.string m.fu, .string m.fs, .string m.tu, .string m.ts, .int .i64 m.num, .int .i64 m.date, .string m.sj, .slice a k c, .string m.body, .int .i64 num, .int .i64 due, .int .i64 fails] 87)) := ((Below.refl _ w).alloc (Nat.le_refl _) _).alloc (by simp) _
  have hsz1 : ((w.alloc (.cells #[.string ⟨#[]⟩, .string ⟨#[]⟩, .string ⟨#[]⟩, .string ⟨#[]⟩, .int .i64 0, .int .i64 0, .string ⟨#[]⟩, .slice none 0 0, .string ⟨#[]⟩] 29)).alloc (.cells #[.string m.fu, .string m.fs, .string m.tu, .string m.ts, .int .i64 m.num, .int .i64 m.date, .string m.sj, .slice a k c, .string m.body, .int .i64 num, .int .i64 due, .int .i64 fails] 87)).heap.size = w.heap.size + 2 := by simp
  clear hlk
  generalize hW : (w.alloc (.cells #[.string ⟨#[]⟩, .string ⟨#[]⟩, .string ⟨#[]⟩, .string ⟨#[]⟩, .int .i64 0, .int .i64 0, .string ⟨#[]⟩, .slice none 0 0, .string ⟨#[]⟩] 29)).alloc (.cells #[.string m.fu, .string m.fs, .string m.tu, .string m.ts, .int .i64 m.num, .int .i64 m.date, .string m.sj, .slice a k c, .string m.body, .int .i64 num, .int .i64 due, .int .i64 fails] 87) = w1 at *
  clear hW
  have HRW := Lib.hid hrw
  have HRZ := Lib.hid hrz
  have HS1 := Lib.hid hst1
  have HB1 := Lib.hid hbl1
  have HKW := Lib.hid (keepG (w' := w1.drew) hrw)
  have HCC := Lib.hid (copied_c m (.slice a k c) w1.drew (show StrsAt w1.drew _ _ from hst1) HL.out)
  unfold msgC at HCC
  unfold KeepG at HKW
  clear hrw hrz hst1 hbl1
  go_region_held3 (fun w' => w'.cell? ⟨w.heap.size + 1, 0, none⟩ = some (.string m.fu) ∧ w'.cell? ⟨w.heap.size + 1, 1, none⟩ = some (.string m.fs) ∧ w'.cell? ⟨w.heap.size + 1, 2, none⟩ = some (.string m.tu) ∧ w'.cell? ⟨w.heap.size + 1, 3, none⟩ = some (.string m.ts) ∧ w'.cell? ⟨w.heap.size + 1, 4, none⟩ = some (.int .i64 m.num) ∧ w'.cell? ⟨w.heap.size + 1, 5, none⟩ = some (.int .i64 m.date) ∧ w'.cell? ⟨w.heap.size + 1, 6, none⟩ = some (.string m.sj) ∧ w'.cell? ⟨w.heap.size + 1, 7, none⟩ = some (.slice a k c) ∧ w'.cell? ⟨w.heap.size + 1, 8, none⟩ = some (.string m.body) ∧ w'.cell? ⟨w.heap.size + 1, 10, none⟩ = some (.int .i64 due)) (first | (with_reducible exact HKW.out) | (with_reducible exact HKN.out) | fail) (first | (go_at_call 49; (with_reducible refine HCC.out.mono ?_); rintro e w2 ⟨v, rfl, ho, hb2⟩; obtain ⟨a2, c2', hv2⟩ := ownStrs_len ho; subst hv2; have hk2 : ∀ i, i < w1.heap.size → w2.heap[i]? = w1.heap[i]? := hb2.block; have hrr : w2.heap[w.heap.size]? = some (.cells (msgC zeroM (.slice none 0 0)) 29 (0, 0)) := (hk2 _ (by omega)).trans HRZ.out; have HRR := Lib.hid hrr; have r0 : w2.cell? ⟨w.heap.size, 0, none⟩ = some (.string ⟨#[]⟩) := cell_at hrr 0; have q0 : w2.frozen? ⟨w.heap.size, 0, none⟩ = false := free_at hrr 0; have r1 : w2.cell? ⟨w.heap.size, 1, none⟩ = some (.string ⟨#[]⟩) := cell_at hrr 1; have q1 : w2.frozen? ⟨w.heap.size, 1, none⟩ = false := free_at hrr 1; have r2 : w2.cell? ⟨w.heap.size, 2, none⟩ = some (.string ⟨#[]⟩) := cell_at hrr 2; have q2 : w2.frozen? ⟨w.heap.size, 2, none⟩ = false := free_at hrr 2; have r3 : w2.cell? ⟨w.heap.size, 3, none⟩ = some (.string ⟨#[]⟩) := cell_at hrr 3; have q3 : w2.frozen? ⟨w.heap.size, 3, none⟩ = false := free_at hrr 3; have r4 : w2.cell? ⟨w.heap.size, 4, none⟩ = some (.int .i64 0) := cell_at hrr 4; have q4 : w2.frozen? ⟨w.heap.size, 4, none⟩ = false := free_at hrr 4; have r5 : w2.cell? ⟨w.heap.size, 5, none⟩ = some (.int .i64 0) := cell_at hrr 5; have q5 : w2.frozen? ⟨w.heap.size, 5, none⟩ = false := free_at hrr 5; have r6 : w2.cell? ⟨w.heap.size, 6, none⟩ = some (.string ⟨#[]⟩) := cell_at hrr 6; have q6 : w2.frozen? ⟨w.heap.size, 6, none⟩ = false := free_at hrr 6; have r7 : w2.cell? ⟨w.heap.size, 7, none⟩ = some (.slice none 0 0) := cell_at hrr 7; have q7 : w2.frozen? ⟨w.heap.size, 7, none⟩ = false := free_at hrr 7; have r8 : w2.cell? ⟨w.heap.size, 8, none⟩ = some (.string ⟨#[]⟩) := cell_at hrr 8; have q8 : w2.frozen? ⟨w.heap.size, 8, none⟩ = false := free_at hrr 8; have hrw2 : w2.heap[w.heap.size + 1]? = some (.cells (wC ⟨m, .slice a k c, num, due, fails⟩) 87 (0, 0)) := (hk2 _ (by omega)).trans HRW.out; have HKW := Lib.hid (keepG hrw2); have HB2 : Hid (Below w.heap.size w w2) := HB1.out.trans (Below.mono (w := w1) ⟨hb2.os, hb2.tape, hb2.output, hb2.size, hb2.block⟩ (by omega : w.heap.size ≤ w1.heap.size)); have hb9 := below9 (x0 := .string m.fu) (x1 := .string m.fs) (x2 := .string m.tu) (x3 := .string m.ts) (x4 := .int .i64 m.num) (x5 := .int .i64 m.date) (x6 := .string m.sj) (x7 := .slice a2 m.hops.length c2') (x8 := .string m.body) (Below.refl w.heap.size w2) (Nat.le_refl w.heap.size); have HO2 : Hid (OwnStrs (w.heap.size + 2) m.hops w2 (.slice a2 m.hops.length c2')) := (by rw [← hsz1]; exact ho); have hrwn := set9_other (x0 := .string m.fu) (x1 := .string m.fs) (x2 := .string m.tu) (x3 := .string m.ts) (x4 := .int .i64 m.num) (x5 := .int .i64 m.date) (x6 := .string m.sj) (x7 := .slice a2 m.hops.length c2') (x8 := .string m.body) (b := w.heap.size) (b' := w.heap.size + 1) hrw2 (by omega); have HKN := Lib.hid (keepG hrwn); have HB9 := Lib.hid hb9; unfold KeepG at HKW HKN; dsimp only [msgC]; clear ho hb2 hk2 hrr hrw2 hb9 hrwn))
  have hrn := set9 (x0 := .string m.fu) (x1 := .string m.fs) (x2 := .string m.tu) (x3 := .string m.ts) (x4 := .int .i64 m.num) (x5 := .int .i64 m.date) (x6 := .string m.sj) (x7 := .slice a2 m.hops.length c2') (x8 := .string m.body) HRR.out
  have hon : OwnStrs (w.heap.size + 1) m.hops (((((((((w2.setCell ⟨w.heap.size, 0, none⟩ (.string m.fu)).setCell ⟨w.heap.size, 1, none⟩ (.string m.fs)).setCell ⟨w.heap.size, 2, none⟩ (.string m.tu)).setCell ⟨w.heap.size, 3, none⟩ (.string m.ts)).setCell ⟨w.heap.size, 4, none⟩ (.int .i64 m.num)).setCell ⟨w.heap.size, 5, none⟩ (.int .i64 m.date)).setCell ⟨w.heap.size, 6, none⟩ (.string m.sj)).setCell ⟨w.heap.size, 7, none⟩ (.slice a2 m.hops.length c2')).setCell ⟨w.heap.size, 8, none⟩ (.string m.body)) (.slice a2 m.hops.length c2') := (own_other HO2.out (fun k hk => by rw [Below.heap_setCell _ _ _ _ (by show k ≠ w.heap.size; omega), Below.heap_setCell _ _ _ _ (by show k ≠ w.heap.size; omega), Below.heap_setCell _ _ _ _ (by show k ≠ w.heap.size; omega), Below.heap_setCell _ _ _ _ (by show k ≠ w.heap.size; omega), Below.heap_setCell _ _ _ _ (by show k ≠ w.heap.size; omega), Below.heap_setCell _ _ _ _ (by show k ≠ w.heap.size; omega), Below.heap_setCell _ _ _ _ (by show k ≠ w.heap.size; omega), Below.heap_setCell _ _ _ _ (by show k ≠ w.heap.size; omega), Below.heap_setCell _ _ _ _ (by show k ≠ w.heap.size; omega)])).mono (by omega)
  generalize hN : (((((((((w2.setCell ⟨w.heap.size, 0, none⟩ (.string m.fu)).setCell ⟨w.heap.size, 1, none⟩ (.string m.fs)).setCell ⟨w.heap.size, 2, none⟩ (.string m.tu)).setCell ⟨w.heap.size, 3, none⟩ (.string m.ts)).setCell ⟨w.heap.size, 4, none⟩ (.int .i64 m.num)).setCell ⟨w.heap.size, 5, none⟩ (.int .i64 m.date)).setCell ⟨w.heap.size, 6, none⟩ (.string m.sj)).setCell ⟨w.heap.size, 7, none⟩ (.slice a2 m.hops.length c2')).setCell ⟨w.heap.size, 8, none⟩ (.string m.body)) = wN at *
  go_wp2
  exact get_end _ hon.at1 (HB2.out.trans HB9.out) hrn (by rfl) (by rfl) (by rfl)
end Go.Proofs.YtfcfddfjifofgaaDoor
