/- What Queue.Fail returns where the message is removed. -/
import Derived.Test.YtfcfddfjifofgaaDoorQFail
import Derived.Test.YtfcfddfjifofgaaDoorRefB
namespace Go.Proofs.YtfcfddfjifofgaaDoor
open Go.RowKit Go.Shelf

theorem del_ok {q mb : Nat} {site : ByteArray} {last n : Int} {l : List (Int × QEnt)} {w w1 : World} {o : Obj} (hq : QueueAt q mb site last l w) (hb : Below w.heap.size w w1)
    (hm : MapIs intK (setBlk w1 mb o) mb (delK (qv l) n)) : QueueAt q mb site last (delK l n) (setBlk w1 mb o) ∧ QFrame q mb w (setBlk w1 mb o) := by
  have hq1 := hq.below hb
  refine ⟨⟨(setBlk_other _ _ _ _ hq1.ne).trans hq1.row, ?_, fun y hy => own_set (hq1.own y (delK_mem hy)) hq1.map (QFrame.setBlk q mb w1 o)⟩, (QFrame.of hb).trans (QFrame.setBlk q mb w1 o)⟩
  rw [delK_mapV (fun x => Value.agg (wC x))] at hm
  exact hm
/-- The world behind the removal: the queue without the message, the message in its box. -/
structure QRem (q mb : Nat) (site : ByteArray) (last : Int) (l : List (Int × QEnt)) (m : Msg) (hv : Value) (b : Nat) (w0 w : World) : Prop where
  qu : QueueAt q mb site last l w
  box : ∃ x y z, w.heap[b]? = some (.cells #[.string m.fu, .string m.fs, .string m.tu, .string m.ts, .int .i64 m.num, .int .i64 m.date, .string m.sj, hv, .string m.body, x, y, z] 87 (0, 0))
  str : StrsAt w hv m.hops
  fr : QFrame q mb w0 w
theorem QRem.next {q mb : Nat} {site : ByteArray} {last : Int} {l : List (Int × QEnt)} {m : Msg} {hv : Value} {b : Nat} {w0 w w' : World} (h : QRem q mb site last l m hv b w0 w) (hb : Below w.heap.size w w') : QRem q mb site last l m hv b w0 w' :=
  ⟨h.qu.below hb, by obtain ⟨x, y, z, h1⟩ := h.box; exact ⟨x, y, z, (hb.block b (lt_of_block h1)).trans h1⟩, h.str.below hb, h.fr.trans (QFrame.of hb)⟩
def KeepO (q : Nat) (site : ByteArray) (m : Msg) (hv : Value) (b : Nat) (w' : World) : Prop :=
  w'.cell? ⟨q, 0, none⟩ = some (.string site) ∧ w'.cell? ⟨b, 0, none⟩ = some (.string m.fu) ∧ w'.cell? ⟨b, 1, none⟩ = some (.string m.fs) ∧ w'.cell? ⟨b, 2, none⟩ = some (.string m.tu) ∧ w'.cell? ⟨b, 3, none⟩ = some (.string m.ts) ∧ w'.cell? ⟨b, 4, none⟩ = some (.int .i64 m.num) ∧ w'.cell? ⟨b, 5, none⟩ = some (.int .i64 m.date) ∧ w'.cell? ⟨b, 6, none⟩ = some (.string m.sj) ∧ w'.cell? ⟨b, 7, none⟩ = some hv ∧ w'.cell? ⟨b, 8, none⟩ = some (.string m.body)
theorem QRem.keep {q mb : Nat} {site : ByteArray} {last : Int} {l : List (Int × QEnt)} {m : Msg} {hv : Value} {b : Nat} {w0 w : World} (h : QRem q mb site last l m hv b w0 w) : KeepO q site m hv b w := by
  obtain ⟨x, y, z, h1⟩ := h.box
  exact ⟨cell_at h.qu.row 0, cell_at h1 0, cell_at h1 1, cell_at h1 2, cell_at h1 3, cell_at h1 4, cell_at h1 5, cell_at h1 6, cell_at h1 7, cell_at h1 8⟩
theorem out_start {q mb : Nat} {site : ByteArray} {last n : Int} {l : List (Int × QEnt)} {m : Msg} {hv : Value} {w : World} {o : Obj} {x y z : Value} (hq : QueueAt q mb site last l w) (ho : OwnStrs (q + 1) m.hops w hv)
    (hm : MapIs intK (setBlk (w.alloc (.cells #[.string m.fu, .string m.fs, .string m.tu, .string m.ts, .int .i64 m.num, .int .i64 m.date, .string m.sj, hv, .string m.body, x, y, z] 87)) mb o) mb (delK (qv l) n)) :
    QRem q mb site last (delK l n) m hv w.heap.size w (setBlk (w.alloc (.cells #[.string m.fu, .string m.fs, .string m.tu, .string m.ts, .int .i64 m.num, .int .i64 m.date, .string m.sj, hv, .string m.body, x, y, z] 87)) mb o) := by
  have hb := (Below.refl w.heap.size w).alloc (Nat.le_refl _) (.cells #[.string m.fu, .string m.fs, .string m.tu, .string m.ts, .int .i64 m.num, .int .i64 m.date, .string m.sj, hv, .string m.body, x, y, z] 87)
  obtain ⟨h1, h2⟩ := del_ok hq hb hm
  exact ⟨h1, ⟨x, y, z, (setBlk_other _ _ _ _ (by have := hq.map.lt; omega)).trans (heap_alloc_new _ _)⟩, (own_set (own_set ho hq.map (QFrame.of hb)) (hq.below hb).map (QFrame.setBlk q mb _ o)).strsAt, h2⟩
def OutPost (q mb : Nat) (site : ByteArray) (last : Int) (l : List (Int × QEnt)) (n now code : Int) (w : World) (e : Ending) (w' : World) : Prop :=
  (bouncesB (valOf l n zeroQ).m site now = false ∧ e = .returned (.tuple #[.int .i64 0, .bool false, .int .i64 0]) ∧ QueueAt q mb site last (delK l n) w' ∧ QFrame q mb w w') ∨
  (bouncesB (valOf l n zeroQ).m site now = true ∧ ∃ hv, e = .returned (.tuple #[.int .i64 (last + 1), .bool true, .int .i64 0]) ∧ QueueAt q mb site (last + 1) (setK (delK l n) (last + 1) ⟨bounceR (valOf l n zeroQ).m site code now, hv, last + 1, now, 0⟩) w' ∧ QFrame q mb w w')
theorem bounce_hops (m : Msg) (site : ByteArray) (code now : Int) : (bounceR m site code now).hops = [] := by
  unfold bounceR
  split <;> rfl
set_option maxRecDepth 100000 in
set_option maxHeartbeats 2000000 in
theorem fail_out (q mb : Nat) (site : ByteArray) (last : Int) (l : List (Int × QEnt)) (n now code : Int) (final : Bool) (w : World) (hq : QueueAt q mb site last l w) (hok : QOk site last l) (hn : hasK l n = true) (hm : minuteB now = true) (hout : final = true ∨ 7 ≤ (valOf l n zeroQ).fails)
    (hc0 : -9223372036854775808 ≤ code) (hc1 : code ≤ 9223372036854775807) (hpw : ∀ w', QFrame q mb w w' → PowT w') :
    Calls Tryd.prog 26 #[.pointer (some ⟨q, 0, none⟩), .int .i64 n, .int .i64 now, .int .i64 code, .bool final] w (OutPost q mb site last l n now code w) := by
  have hlk := qlookup hq.map n
  rw [hn] at hlk
  have c2 : w.cell? ⟨q, 2, none⟩ = some (.map (some mb)) := cell_at hq.row 2
  obtain ⟨a, k, c, hs⟩ := qslice hq n
  have hmem := valOf_mem (z := zeroQ) hn
  have HO0 := Lib.hid (hq.own _ hmem)
  have HFT := Lib.hid (hok.fits _ hmem)
  obtain ⟨hf0, hf7⟩ := hok.fails _ hmem
  have hqs := lt_of_block hq.row
  have hms := hq.map.lt
  have HQ := Lib.hid hq
  have HK := Lib.hid hok
  have HPW := Lib.hid hpw
  have HC0 := Lib.hid hc0
  have HC1 := Lib.hid hc1
  clear hq hn hok hmem hpw hc0 hc1
  unfold OutPost
  generalize hX : valOf l n zeroQ = x at *
  clear hX
  obtain ⟨m, hv, num, due, fails⟩ := x
  simp only at hs hf0 hf7 hout HO0 HFT
  subst hs
  unfold wC at hlk
  simp only at hlk
  have hout' : (!final) = false ∨ (7 : Int) ≤ fails := by
    rcases hout with rfl | h
    · exact .inl rfl
    · exact .inr h
  clear hout
  go_enter Tryd.func26, Tryd.ntmps26
  go_upto_region 14 with (first | (go_at_call 30; refine (minute_c _ _).mono ?_; rintro e w' ⟨rfl, rfl⟩) | (at_delete; refine wpList_delete_is rfl _ _ 3 rfl qKey Tryd.underlying82 (HQ.out.below ((Below.refl _ w).alloc (Nat.le_refl _) _)).map n rfl rfl ?_; intro ob hmi; have HOU := Lib.hid (out_start HQ.out HO0.out hmi); clear hmi))
  rotate_left 1
  · exfalso
    rcases hout' with h | h
    · simp at h; contradiction
    · omega
  all_goals
    generalize hW : setBlk (w.alloc _) mb ob = w1 at *
    clear hW
    have HOD := Lib.hid (HOU.out.next (Below.refl _ w1).drew)
    have HKW := Lib.hid HOD.out.keep
    unfold KeepO at HKW
    have HPT := Lib.hid (HPW.out _ HOD.out.fr)
    have hal := ((Below.refl _ w1).alloc (Nat.le_refl _) (.cells (msgC zeroM (.slice none 0 0)) 29)).drew
    have HAL := Lib.hid hal
    have HOB := Lib.hid (HOU.out.next hal)
    have HKB := Lib.hid HOB.out.keep
    unfold KeepO at HKB
    unfold msgC zeroM at HKB
    have HPB := Lib.hid (HPW.out _ HOB.out.fr)
    clear hal
    have HCA := Lib.hid (bounce_c m (.slice a k c) site code now w1.drew HFT.out HOD.out.str HK.out.site HC0.out HC1.out HPT.out)
    have HCB := Lib.hid (bounce_c m (.slice a k c) site code now (w1.alloc (.cells (msgC zeroM (.slice none 0 0)) 29)).drew HFT.out HOB.out.str HK.out.site HC0.out HC1.out HPB.out)
    have hsA : w1.heap.size = w1.drew.heap.size := rfl
    clear hsA
    unfold msgC at HCA HCB
    unfold zeroM at HCB
    dsimp only at HCB
    go_region_held3 (fun w' => w'.cell? ⟨q, 0, none⟩ = some (.string site) ∧ w'.cell? ⟨w.heap.size, 0, none⟩ = some (.string m.fu) ∧ w'.cell? ⟨w.heap.size, 1, none⟩ = some (.string m.fs) ∧ w'.cell? ⟨w.heap.size, 2, none⟩ = some (.string m.tu) ∧ w'.cell? ⟨w.heap.size, 3, none⟩ = some (.string m.ts) ∧ w'.cell? ⟨w.heap.size, 4, none⟩ = some (.int .i64 m.num) ∧ w'.cell? ⟨w.heap.size, 5, none⟩ = some (.int .i64 m.date) ∧ w'.cell? ⟨w.heap.size, 6, none⟩ = some (.string m.sj) ∧ w'.cell? ⟨w.heap.size, 7, none⟩ = some (.slice a k c) ∧ w'.cell? ⟨w.heap.size, 8, none⟩ = some (.string m.body)) (first | (with_reducible exact HKW.out) | (with_reducible exact HKB.out) | (with_reducible exact HKA.out) | (with_reducible exact HKZ.out) | (with_reducible exact HKN.out) | fail) (first | (go_at_call 10; (with_reducible refine HCA.out.mono ?_); rintro e w2 ⟨rfl, hb2⟩; have HO2 := Lib.hid (HOD.out.next hb2); have HKW := Lib.hid HO2.out.keep; have HKA := Lib.hid (HO2.out.next ((Below.refl _ w2).alloc (Nat.le_refl _) (.cells #[.string (bounceR m site code now).fu, .string (bounceR m site code now).fs, .string (bounceR m site code now).tu, .string (bounceR m site code now).ts, .int .i64 (bounceR m site code now).num, .int .i64 (bounceR m site code now).date, .string (bounceR m site code now).sj, .slice none 0 0, .string (bounceR m site code now).body] 29))).keep; have HKZ := Lib.hid (HO2.out.next ((Below.refl _ w2).alloc (Nat.le_refl _) (.cells #[.string ⟨#[]⟩, .string ⟨#[]⟩, .string ⟨#[]⟩, .string ⟨#[]⟩, .int .i64 0, .int .i64 0, .string ⟨#[]⟩, .slice none 0 0, .string ⟨#[]⟩] 29))).keep; unfold KeepO at HKW HKA HKZ; dsimp only [msgC]; clear hb2) | (go_at_call 10; (with_reducible refine HCB.out.mono ?_); rintro e w2 ⟨rfl, hb2⟩; have HO3 := Lib.hid (HOB.out.next hb2); have HKW := Lib.hid HO3.out.keep; have hrr : w2.heap[w1.heap.size]? = some (.cells (msgC zeroM (.slice none 0 0)) 29 (0, 0)) := (hb2.block w1.heap.size (by simp)).trans (heap_alloc_new w1 _); have HRR := Lib.hid hrr; have r0 : w2.cell? ⟨w1.heap.size, 0, none⟩ = some (.string ⟨#[]⟩) := cell_at hrr 0; have q0 : w2.frozen? ⟨w1.heap.size, 0, none⟩ = false := free_at hrr 0; have r1 : w2.cell? ⟨w1.heap.size, 1, none⟩ = some (.string ⟨#[]⟩) := cell_at hrr 1; have q1 : w2.frozen? ⟨w1.heap.size, 1, none⟩ = false := free_at hrr 1; have r2 : w2.cell? ⟨w1.heap.size, 2, none⟩ = some (.string ⟨#[]⟩) := cell_at hrr 2; have q2 : w2.frozen? ⟨w1.heap.size, 2, none⟩ = false := free_at hrr 2; have r3 : w2.cell? ⟨w1.heap.size, 3, none⟩ = some (.string ⟨#[]⟩) := cell_at hrr 3; have q3 : w2.frozen? ⟨w1.heap.size, 3, none⟩ = false := free_at hrr 3; have r4 : w2.cell? ⟨w1.heap.size, 4, none⟩ = some (.int .i64 0) := cell_at hrr 4; have q4 : w2.frozen? ⟨w1.heap.size, 4, none⟩ = false := free_at hrr 4; have r5 : w2.cell? ⟨w1.heap.size, 5, none⟩ = some (.int .i64 0) := cell_at hrr 5; have q5 : w2.frozen? ⟨w1.heap.size, 5, none⟩ = false := free_at hrr 5; have r6 : w2.cell? ⟨w1.heap.size, 6, none⟩ = some (.string ⟨#[]⟩) := cell_at hrr 6; have q6 : w2.frozen? ⟨w1.heap.size, 6, none⟩ = false := free_at hrr 6; have r7 : w2.cell? ⟨w1.heap.size, 7, none⟩ = some (.slice none 0 0) := cell_at hrr 7; have q7 : w2.frozen? ⟨w1.heap.size, 7, none⟩ = false := free_at hrr 7; have r8 : w2.cell? ⟨w1.heap.size, 8, none⟩ = some (.string ⟨#[]⟩) := cell_at hrr 8; have q8 : w2.frozen? ⟨w1.heap.size, 8, none⟩ = false := free_at hrr 8; have HON := Lib.hid (HOU.out.next (below9 (x0 := .string (bounceR m site code now).fu) (x1 := .string (bounceR m site code now).fs) (x2 := .string (bounceR m site code now).tu) (x3 := .string (bounceR m site code now).ts) (x4 := .int .i64 (bounceR m site code now).num) (x5 := .int .i64 (bounceR m site code now).date) (x6 := .string (bounceR m site code now).sj) (x7 := .slice none 0 0) (x8 := .string (bounceR m site code now).body) (HAL.out.trans (hb2.mono (by simp))) (Nat.le_refl w1.heap.size))); have HKN := Lib.hid HON.out.keep; unfold KeepO at HKW HKN; dsimp only [msgC]; clear hb2 hrr))
    all_goals first | (have HQA := Lib.hid (HO2.out.next ((Below.refl _ w2).alloc (Nat.le_refl _) (.cells #[.string (bounceR m site code now).fu, .string (bounceR m site code now).fs, .string (bounceR m site code now).tu, .string (bounceR m site code now).ts, .int .i64 (bounceR m site code now).num, .int .i64 (bounceR m site code now).date, .string (bounceR m site code now).sj, .slice none 0 0, .string (bounceR m site code now).body] 29))).qu; have HFA := Lib.hid (HO2.out.next ((Below.refl _ w2).alloc (Nat.le_refl _) (.cells #[.string (bounceR m site code now).fu, .string (bounceR m site code now).fs, .string (bounceR m site code now).tu, .string (bounceR m site code now).ts, .int .i64 (bounceR m site code now).num, .int .i64 (bounceR m site code now).date, .string (bounceR m site code now).sj, .slice none 0 0, .string (bounceR m site code now).body] 29))).fr; have HRN := Lib.hid (heap_alloc_new w2 (.cells #[.string (bounceR m site code now).fu, .string (bounceR m site code now).fs, .string (bounceR m site code now).tu, .string (bounceR m site code now).ts, .int .i64 (bounceR m site code now).num, .int .i64 (bounceR m site code now).date, .string (bounceR m site code now).sj, .slice none 0 0, .string (bounceR m site code now).body] 29)); generalize hN : w2.alloc (.cells #[.string (bounceR m site code now).fu, .string (bounceR m site code now).fs, .string (bounceR m site code now).tu, .string (bounceR m site code now).ts, .int .i64 (bounceR m site code now).num, .int .i64 (bounceR m site code now).date, .string (bounceR m site code now).sj, .slice none 0 0, .string (bounceR m site code now).body] 29) = wN at *) | (have HQA := Lib.hid HON.out.qu; have HFA := Lib.hid HON.out.fr; have HRN := Lib.hid (set9 (x0 := .string (bounceR m site code now).fu) (x1 := .string (bounceR m site code now).fs) (x2 := .string (bounceR m site code now).tu) (x3 := .string (bounceR m site code now).ts) (x4 := .int .i64 (bounceR m site code now).num) (x5 := .int .i64 (bounceR m site code now).date) (x6 := .string (bounceR m site code now).sj) (x7 := .slice none 0 0) (x8 := .string (bounceR m site code now).body) HRR.out); generalize hN : (((((((((w2.setCell ⟨w1.heap.size, 0, none⟩ (.string (bounceR m site code now).fu)).setCell ⟨w1.heap.size, 1, none⟩ (.string (bounceR m site code now).fs)).setCell ⟨w1.heap.size, 2, none⟩ (.string (bounceR m site code now).tu)).setCell ⟨w1.heap.size, 3, none⟩ (.string (bounceR m site code now).ts)).setCell ⟨w1.heap.size, 4, none⟩ (.int .i64 (bounceR m site code now).num)).setCell ⟨w1.heap.size, 5, none⟩ (.int .i64 (bounceR m site code now).date)).setCell ⟨w1.heap.size, 6, none⟩ (.string (bounceR m site code now).sj)).setCell ⟨w1.heap.size, 7, none⟩ (.slice none 0 0)).setCell ⟨w1.heap.size, 8, none⟩ (.string (bounceR m site code now).body)) = wN at *)
    all_goals
      have HPC := Lib.hid (put_c q mb site last (delK l n) (bounceR m site code now) (.slice none 0 0) now wN HQA.out (.inl ⟨bounce_hops _ _ _ _, none, 0, rfl⟩) (by rw [bounce_hops]; exact Nat.zero_le _) (fun b off n c h h0 => by injection h with h1; cases h1) HK.out.l0 HK.out.l1)
      unfold msgC at HPC
      clear hN
      try clear r0 q0 r1 q1 r2 q2 r3 q3 r4 q4 r5 q5 r6 q6 r7 q7 r8 q8
      go_wp2_with (first | (go_at_call 48; (with_reducible refine HPC.out.mono ?_); rintro e w5 ⟨v5, rfl, hq5, hf5⟩; have HQ5 := Lib.hid hq5; have HF5 := Lib.hid hf5; clear hq5 hf5) | (with_reducible refine wpList_load_row rfl 29 (.tmp 15) rfl _ rfl _ _ _ _ HRN.out Tryd.underlying29 rfl (by kernel_rfl) ?_))
      all_goals
        go_ret3
        first | (exact .inl ⟨not_t ‹_›, rfl, HQA.out, HFA.out⟩) | (exact .inr ⟨not_f ‹_›, v5, rfl, HQ5.out, HFA.out.trans HF5.out⟩)
end Go.Proofs.YtfcfddfjifofgaaDoor
