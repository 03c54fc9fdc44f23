/- What Queue.Add returns. -/
import Derived.Test.YtfcfddfjifofgaaDoorQueue
import Derived.Test.YtfcfddfjifofgaaDoorBounce
namespace Go.Proofs.YtfcfddfjifofgaaDoor
open Go.RowKit Go.Shelf

theorem qlen {w : World} {mb : Nat} {l : List (Int × QEnt)} (h : MapIs intK w mb (qv l)) (ty : TypeId) : (Builtin.len_ #[82] ty #[.map (some mb)]).run Tryd.prog w = .ok (.int .i64 l.length) w := by
  obtain ⟨arr, clock, h1, h2⟩ := h.len
  have h3 : (arr.size : Int) = l.length := by rw [h2]; simp [mapV]
  simp [Builtin.len_, run_underlying Tryd.underlying82, run_getObj_map w mb arr clock h1, goInt, h3]
def addE (l : List (Int × QEnt)) (m : Msg) (now : Int) : Nat := if checkE m = 0 then (if minuteB now = true then (if 1024 ≤ l.length then 9 else 0) else 13) else checkE m
def AddPost (q mb : Nat) (site : ByteArray) (last : Int) (l : List (Int × QEnt)) (m : Msg) (now : Int) (w : World) (e : Ending) (w' : World) : Prop :=
  (addE l m now = 0 ∧ ∃ hv, e = .returned (.tuple #[.int .i64 (last + 1), .int .i64 0]) ∧ QueueAt q mb site (last + 1) (setK l (last + 1) ⟨m, hv, last + 1, now, 0⟩) w' ∧ QFrame q mb w w') ∨
  (addE l m now ≠ 0 ∧ e = .returned (.tuple #[.int .i64 0, .int .i64 (addE l m now)]) ∧ QueueAt q mb site last l w' ∧ QFrame q mb w w')
theorem add1 {l : List (Int × QEnt)} {m : Msg} {now : Int} (h : checkE m ≠ 0) : addE l m now = checkE m := by rw [addE, if_neg h]
theorem add2 {l : List (Int × QEnt)} {m : Msg} {now : Int} (h : checkE m = 0) (h2 : minuteB now = false) : addE l m now = 13 := by rw [addE, if_pos h, if_neg (by simp [h2])]
theorem add3 {l : List (Int × QEnt)} {m : Msg} {now : Int} (h : checkE m = 0) (h2 : minuteB now = true) (h3 : 1024 ≤ l.length) : addE l m now = 9 := by rw [addE, if_pos h, if_pos h2, if_pos h3]
theorem add4 {l : List (Int × QEnt)} {m : Msg} {now : Int} (h : checkE m = 0) (h2 : minuteB now = true) (h3 : ¬ 1024 ≤ l.length) : addE l m now = 0 := by rw [addE, if_pos h, if_pos h2, if_neg h3]
set_option maxRecDepth 100000 in
set_option maxHeartbeats 2000000 in
theorem add_c (q mb : Nat) (site : ByteArray) (last : Int) (l : List (Int × QEnt)) (m : Msg) (hv : Value) (now : Int) (w : World) (hq : QueueAt q mb site last l w) (hf : m.Fits) (hh : StrsAt w hv m.hops) (hl : m.hops.length ≤ 1099511627776) (hnq : ∀ b off n c, hv = .slice (some ⟨b, off, none⟩) n c → 0 < n → b ≠ q) (h0 : 0 ≤ last) (h1 : last < 9223372036854775807) (hlen : l.length ≤ 1099511627776) :
    Calls Tryd.prog 24 #[.pointer (some ⟨q, 0, none⟩), .agg (msgC m hv), .int .i64 now] w (AddPost q mb site last l m now w) := by
  have HQ := Lib.hid hq
  have HF := Lib.hid hf
  have HH := Lib.hid hh
  have HL := Lib.hid hl
  have HNQ := Lib.hid hnq
  have hqs := lt_of_block hq.row
  have hne := hq.ne
  clear hq hf hh hl hnq
  unfold msgC
  go_enter Tryd.func24, Tryd.ntmps24
  go_wp2_with (first | (go_at_call 15; refine (check_c m hv _ HF.out (HH.out.alloc _)).mono ?_; rintro e w1 ⟨rfl, hb⟩; have hal := (Below.refl w.heap.size w).alloc (Nat.le_refl _) (.cells (msgC m hv) 29); have hbb : Below w.heap.size w w1 := hal.trans (hb.mono (by simp)); have hqq := HQ.out.below hbb; have hlm := qlen hqq.map; have c2 : w1.cell? ⟨q, 2, none⟩ = some (.map (some mb)) := cell_at hqq.row 2; have HQQ := Lib.hid hqq; have HB := Lib.hid hbb; have HAA := Lib.hid ((hb.block w.heap.size (by simp)).trans (heap_alloc_new w (.cells (msgC m hv) 29))); have HST := Lib.hid (HH.out.below hbb); have HFR : Hid (QFrame q mb w w1) := QFrame.of hbb; clear hb hal hbb hqq) | (go_at_call 30; refine (minute_c _ _).mono ?_; rintro e w' ⟨rfl, rfl⟩) | (with_reducible refine wpList_load_row rfl 29 (.tmp 4) rfl _ rfl _ _ _ _ HAA.out Tryd.underlying29 rfl (by kernel_rfl) ?_) | (go_at_call 48; refine (put_c q mb site last l m hv now _ HQQ.out HST.out HL.out HNQ.out h0 h1).mono ?_; rintro e w2 ⟨v, rfl, hq2, hf2⟩; have HQ2 := Lib.hid hq2; have HF2 := Lib.hid hf2; clear hq2 hf2))
  · go_ret2
    have h1 := bne_t ‹((checkE m : Int) != 0) = true›
    exact .inr ⟨by rw [add1 h1]; exact h1, by rw [add1 h1]; rfl, HQQ.out, HFR.out⟩
  · go_ret2
    have h2 := add2 (l := l) (bne_f ‹((checkE m : Int) != 0) = false›) (not_t ‹(!minuteB now) = true›)
    exact .inr ⟨by rw [h2]; decide, by rw [h2]; rfl, HQQ.out, HFR.out⟩
  · go_ret2
    have h2 := add3 (l := l) (bne_f ‹((checkE m : Int) != 0) = false›) (not_f ‹(!minuteB now) = false›) (by omega)
    exact .inr ⟨by rw [h2]; decide, by rw [h2]; rfl, HQQ.out, HFR.out⟩
  · go_ret2
    have h2 := add4 (l := l) (bne_f ‹((checkE m : Int) != 0) = false›) (not_f ‹(!minuteB now) = false›) (by omega)
    exact .inl ⟨h2, v, rfl, HQ2.out, HFR.out.trans HF2.out⟩
end Go.Proofs.YtfcfddfjifofgaaDoor
/- What Queue.Fail returns. -/
namespace Go.Proofs.YtfcfddfjifofgaaDoor
open Go.RowKit Go.Shelf

/-- What Fail needs of a queue beside its place. -/
structure QOk (site : ByteArray) (last : Int) (l : List (Int × QEnt)) : Prop where
  site : site.size ≤ maxLen
  l0 : 0 ≤ last
  l1 : last < 9223372036854775807
  fits : ∀ x ∈ l, x.2.m.Fits
  hops : ∀ x ∈ l, x.2.m.hops.length ≤ 1099511627776
  fails : ∀ x ∈ l, 0 ≤ x.2.fails ∧ x.2.fails ≤ 7
theorem qlookup {w : World} {mb : Nat} {l : List (Int × QEnt)} (h : MapIs intK w mb (qv l)) (n : Int) :
    (Instr.lookup 82 (.map (some mb)) (.int .i64 n) true).run Tryd.prog w = .ok (.tuple #[.agg (wC (valOf l n zeroQ)), .bool (hasK l n)]) w := by
  have h1 := run_lookup_is qKey Tryd.underlying82 h n (z := .agg (wC zeroQ)) (Tryd.zeroValue87 w) true
  rw [hasK_mapV, valOf_mapV (fun x => Value.agg (wC x))] at h1
  exact h1
theorem qslice {q mb : Nat} {site : ByteArray} {last : Int} {l : List (Int × QEnt)} {w : World} (h : QueueAt q mb site last l w) (n : Int) : ∃ a k c, (valOf l n zeroQ).hv = .slice a k c := by
  by_cases hn : hasK l n = true
  · obtain ⟨a, c, hv⟩ := ownStrs_len (h.own _ (valOf_mem (z := zeroQ) hn))
    exact ⟨a, _, c, hv⟩
  · have e : valOf l n zeroQ = zeroQ := by
      unfold hasK at hn
      unfold valOf
      cases hp : posOf l n 0 with
      | none => rfl
      | some p => rw [hp] at hn; simp at hn
    exact ⟨none, 0, 0, by rw [e]; rfl⟩
def failX (x : QEnt) (now : Int) : QEnt := ⟨x.m, x.hv, x.num, now + 5 * 2 ^ x.fails.toNat, x.fails + 1⟩
set_option maxRecDepth 100000 in
set_option maxHeartbeats 1000000 in
theorem fail_none (q mb : Nat) (site : ByteArray) (last : Int) (l : List (Int × QEnt)) (n now code : Int) (final : Bool) (w : World) (hq : QueueAt q mb site last l w) (hn : hasK l n = false) :
    Calls Tryd.prog 26 #[.pointer (some ⟨q, 0, none⟩), .int .i64 n, .int .i64 now, .int .i64 code, .bool final] w fun e w' => e = .returned (.tuple #[.int .i64 0, .bool false, .int .i64 8]) ∧ Below w.heap.size w w' := by
  have hlk := qlookup hq.map n
  rw [hn] at hlk
  have c2 : w.cell? ⟨q, 2, none⟩ = some (.map (some mb)) := cell_at hq.row 2
  obtain ⟨a, k, c, hs⟩ := qslice hq n
  clear hq hn
  generalize hX : valOf l n zeroQ = x at *
  clear hX
  obtain ⟨m, hv, num, due, fails⟩ := x
  simp only at hs
  subst hs
  unfold wC at hlk
  simp only at hlk
  go_enter Tryd.func26, Tryd.ntmps26
  go_wp2
  go_ret3
  exact ⟨rfl, (Below.refl _ w).alloc (Nat.le_refl _) _⟩

set_option maxRecDepth 100000 in
set_option maxHeartbeats 1000000 in
theorem fail_date (q mb : Nat) (site : ByteArray) (last : Int) (l : List (Int × QEnt)) (n now code : Int) (final : Bool) (w : World) (hq : QueueAt q mb site last l w) (hn : hasK l n = true) (hm : minuteB now = false) :
    Calls Tryd.prog 26 #[.pointer (some ⟨q, 0, none⟩), .int .i64 n, .int .i64 now, .int .i64 code, .bool final] w fun e w' => e = .returned (.tuple #[.int .i64 0, .bool false, .int .i64 13]) ∧ Below w.heap.size w w' := by
  have hlk := qlookup hq.map n
  rw [hn] at hlk
  have c2 : w.cell? ⟨q, 2, none⟩ = some (.map (some mb)) := cell_at hq.row 2
  obtain ⟨a, k, c, hs⟩ := qslice hq n
  clear hq hn
  generalize hX : valOf l n zeroQ = x at *
  clear hX
  obtain ⟨m, hv, num, due, fails⟩ := x
  simp only at hs
  subst hs
  unfold wC at hlk
  simp only at hlk
  go_enter Tryd.func26, Tryd.ntmps26
  go_wp2_with (go_at_call 30; refine (minute_c _ _).mono ?_; rintro e w' ⟨rfl, rfl⟩)
  go_ret3
  exact ⟨rfl, (Below.refl _ w).alloc (Nat.le_refl _) _⟩
theorem fail_set {q mb : Nat} {site : ByteArray} {last n : Int} {l : List (Int × QEnt)} {w w1 : World} {x : QEnt} {o : Obj} (hq : QueueAt q mb site last l w) (ho : OwnStrs (q + 1) x.m.hops w x.hv) (hb : Below w.heap.size w w1)
    (hm : MapIs intK (setBlk w1 mb o) mb (setK (qv l) n (Value.agg (wC x)))) : QueueAt q mb site last (setK l n x) (setBlk w1 mb o) ∧ QFrame q mb w (setBlk w1 mb o) := by
  have hq1 := hq.below hb
  refine ⟨⟨(setBlk_other _ _ _ _ hq1.ne).trans hq1.row, ?_, fun y hy => ?_⟩, (QFrame.of hb).trans (QFrame.setBlk q mb w1 o)⟩
  · rw [setK_mapV (fun x => Value.agg (wC x))] at hm
    exact hm
  · rcases setK_mem hy with rfl | hy
    · exact own_set (own_set ho hq.map (QFrame.of hb)) hq1.map (QFrame.setBlk q mb w1 o)
    · exact own_set (hq1.own y hy) hq1.map (QFrame.setBlk q mb w1 o)
set_option maxRecDepth 100000 in
set_option maxHeartbeats 4000000 in
theorem fail_again (q mb : Nat) (site : ByteArray) (last : Int) (l : List (Int × QEnt)) (n now code : Int) (w : World) (hq : QueueAt q mb site last l w) (hn : hasK l n = true) (hm : minuteB now = true) (hf0 : 0 ≤ (valOf l n zeroQ).fails) (hf1 : (valOf l n zeroQ).fails < 7) :
    Calls Tryd.prog 26 #[.pointer (some ⟨q, 0, none⟩), .int .i64 n, .int .i64 now, .int .i64 code, .bool false] w fun e w' => e = .returned (.tuple #[.int .i64 0, .bool false, .int .i64 0]) ∧ QueueAt q mb site last (setK l n (failX (valOf l n zeroQ) now)) w' ∧ QFrame q mb w w' := by
  have hlk := qlookup hq.map n
  rw [hn] at hlk
  have c2 : w.cell? ⟨q, 2, none⟩ = some (.map (some mb)) := cell_at hq.row 2
  obtain ⟨a, k, c, hs⟩ := qslice hq n
  have ho := hq.own _ (valOf_mem (z := zeroQ) hn)
  have hqs := lt_of_block hq.row
  have HQ := Lib.hid hq
  have hmi := hm
  unfold minuteB at hmi
  simp only [decide_eq_true_eq] at hmi
  clear hq hn
  generalize hX : valOf l n zeroQ = x at *
  clear hX
  obtain ⟨m, hv, num, due, fails⟩ := x
  simp only at hs hf0 hf1 ho
  have HO := Lib.hid ho
  clear ho
  subst hs
  unfold wC at hlk
  simp only at hlk
  have hfc : fails = 0 ∨ fails = 1 ∨ fails = 2 ∨ fails = 3 ∨ fails = 4 ∨ fails = 5 ∨ fails = 6 := by omega
  rcases hfc with rfl | rfl | rfl | rfl | rfl | rfl | rfl
  · go_enter Tryd.func26, Tryd.ntmps26
    go_upto_region 11 with (go_at_call 30; refine (minute_c _ _).mono ?_; rintro e w' ⟨rfl, rfl⟩)
    have hq1 : QueueAt q mb site last l ((w.alloc (.cells (wC ⟨m, .slice a k c, num, now + 5, 1⟩) 87)).drew) := HQ.out.below (((Below.refl _ w).alloc (Nat.le_refl _) _).drew)
    obtain ⟨ob, hrun, hmp⟩ := run_update_is qKey Tryd.underlying82 hq1.map n (.agg (wC ⟨m, .slice a k c, num, now + 5, 1⟩))
    have HR := Lib.hid (fail_set HQ.out HO.out (((Below.refl _ w).alloc (Nat.le_refl _) (.cells (wC ⟨m, .slice a k c, num, now + 5, 1⟩) 87)).drew) hmp)
    unfold wC at hrun
    dsimp only [intK] at hrun
    clear hmp hq1
    go_region
    go_wp2
    go_ret3
    exact ⟨rfl, HR.out⟩
  · go_enter Tryd.func26, Tryd.ntmps26
    go_upto_region 11 with (go_at_call 30; refine (minute_c _ _).mono ?_; rintro e w' ⟨rfl, rfl⟩)
    have hq1 : QueueAt q mb site last l ((w.alloc (.cells (wC ⟨m, .slice a k c, num, now + 10, 2⟩) 87)).drew) := HQ.out.below (((Below.refl _ w).alloc (Nat.le_refl _) _).drew)
    obtain ⟨ob, hrun, hmp⟩ := run_update_is qKey Tryd.underlying82 hq1.map n (.agg (wC ⟨m, .slice a k c, num, now + 10, 2⟩))
    have HR := Lib.hid (fail_set HQ.out HO.out (((Below.refl _ w).alloc (Nat.le_refl _) (.cells (wC ⟨m, .slice a k c, num, now + 10, 2⟩) 87)).drew) hmp)
    unfold wC at hrun
    dsimp only [intK] at hrun
    clear hmp hq1
    go_region
    go_wp2
    go_ret3
    exact ⟨rfl, HR.out⟩
  · go_enter Tryd.func26, Tryd.ntmps26
    go_upto_region 11 with (go_at_call 30; refine (minute_c _ _).mono ?_; rintro e w' ⟨rfl, rfl⟩)
    have hq1 : QueueAt q mb site last l ((w.alloc (.cells (wC ⟨m, .slice a k c, num, now + 20, 3⟩) 87)).drew) := HQ.out.below (((Below.refl _ w).alloc (Nat.le_refl _) _).drew)
    obtain ⟨ob, hrun, hmp⟩ := run_update_is qKey Tryd.underlying82 hq1.map n (.agg (wC ⟨m, .slice a k c, num, now + 20, 3⟩))
    have HR := Lib.hid (fail_set HQ.out HO.out (((Below.refl _ w).alloc (Nat.le_refl _) (.cells (wC ⟨m, .slice a k c, num, now + 20, 3⟩) 87)).drew) hmp)
    unfold wC at hrun
    dsimp only [intK] at hrun
    clear hmp hq1
    go_region
    go_wp2
    go_ret3
    exact ⟨rfl, HR.out⟩
  · go_enter Tryd.func26, Tryd.ntmps26
    go_upto_region 11 with (go_at_call 30; refine (minute_c _ _).mono ?_; rintro e w' ⟨rfl, rfl⟩)
    have hq1 : QueueAt q mb site last l ((w.alloc (.cells (wC ⟨m, .slice a k c, num, now + 40, 4⟩) 87)).drew) := HQ.out.below (((Below.refl _ w).alloc (Nat.le_refl _) _).drew)
    obtain ⟨ob, hrun, hmp⟩ := run_update_is qKey Tryd.underlying82 hq1.map n (.agg (wC ⟨m, .slice a k c, num, now + 40, 4⟩))
    have HR := Lib.hid (fail_set HQ.out HO.out (((Below.refl _ w).alloc (Nat.le_refl _) (.cells (wC ⟨m, .slice a k c, num, now + 40, 4⟩) 87)).drew) hmp)
    unfold wC at hrun
    dsimp only [intK] at hrun
    clear hmp hq1
    go_region
    go_wp2
    go_ret3
    exact ⟨rfl, HR.out⟩
  · go_enter Tryd.func26, Tryd.ntmps26
    go_upto_region 11 with (go_at_call 30; refine (minute_c _ _).mono ?_; rintro e w' ⟨rfl, rfl⟩)
    have hq1 : QueueAt q mb site last l ((w.alloc (.cells (wC ⟨m, .slice a k c, num, now + 80, 5⟩) 87)).drew) := HQ.out.below (((Below.refl _ w).alloc (Nat.le_refl _) _).drew)
    obtain ⟨ob, hrun, hmp⟩ := run_update_is qKey Tryd.underlying82 hq1.map n (.agg (wC ⟨m, .slice a k c, num, now + 80, 5⟩))
    have HR := Lib.hid (fail_set HQ.out HO.out (((Below.refl _ w).alloc (Nat.le_refl _) (.cells (wC ⟨m, .slice a k c, num, now + 80, 5⟩) 87)).drew) hmp)
    unfold wC at hrun
    dsimp only [intK] at hrun
    clear hmp hq1
    go_region
    go_wp2
    go_ret3
    exact ⟨rfl, HR.out⟩
  · go_enter Tryd.func26, Tryd.ntmps26
    go_upto_region 11 with (go_at_call 30; refine (minute_c _ _).mono ?_; rintro e w' ⟨rfl, rfl⟩)
    have hq1 : QueueAt q mb site last l ((w.alloc (.cells (wC ⟨m, .slice a k c, num, now + 160, 6⟩) 87)).drew) := HQ.out.below (((Below.refl _ w).alloc (Nat.le_refl _) _).drew)
    obtain ⟨ob, hrun, hmp⟩ := run_update_is qKey Tryd.underlying82 hq1.map n (.agg (wC ⟨m, .slice a k c, num, now + 160, 6⟩))
    have HR := Lib.hid (fail_set HQ.out HO.out (((Below.refl _ w).alloc (Nat.le_refl _) (.cells (wC ⟨m, .slice a k c, num, now + 160, 6⟩) 87)).drew) hmp)
    unfold wC at hrun
    dsimp only [intK] at hrun
    clear hmp hq1
    go_region
    go_wp2
    go_ret3
    exact ⟨rfl, HR.out⟩
  · go_enter Tryd.func26, Tryd.ntmps26
    go_upto_region 11 with (go_at_call 30; refine (minute_c _ _).mono ?_; rintro e w' ⟨rfl, rfl⟩)
    have hq1 : QueueAt q mb site last l ((w.alloc (.cells (wC ⟨m, .slice a k c, num, now + 320, 7⟩) 87)).drew) := HQ.out.below (((Below.refl _ w).alloc (Nat.le_refl _) _).drew)
    obtain ⟨ob, hrun, hmp⟩ := run_update_is qKey Tryd.underlying82 hq1.map n (.agg (wC ⟨m, .slice a k c, num, now + 320, 7⟩))
    have HR := Lib.hid (fail_set HQ.out HO.out (((Below.refl _ w).alloc (Nat.le_refl _) (.cells (wC ⟨m, .slice a k c, num, now + 320, 7⟩) 87)).drew) hmp)
    unfold wC at hrun
    dsimp only [intK] at hrun
    clear hmp hq1
    go_region
    go_wp2
    go_ret3
    exact ⟨rfl, HR.out⟩
end Go.Proofs.YtfcfddfjifofgaaDoor
