/- What Queue.Add returns. -/
import Derived.Test.YtfcfddfjifofgaaDoorQueue
namespace Go.Proofs.YtfcfddfjifofgaaDoor
open Go.RowKit Go.Shelf

theorem qlen {w : World} {mb : Nat} {l : List (Int × QEnt)} (h : MapIs intK w mb (qv l)) (ty : TypeId) : (Builtin.len_ #[82] ty #[.map (some mb)]).run Tryd.prog w = .ok (.int .i64 l.length) w := by
  obtain ⟨arr, clock, h1, h2⟩ := h.len
  have h3 : (arr.size : Int) = l.length := by rw [h2]; simp [mapV]
  simp [Builtin.len_, run_underlying Tryd.underlying82, run_getObj_map w mb arr clock h1, goInt, h3]
def addE (l : List (Int × QEnt)) (m : Msg) (now : Int) : Nat := if checkE m = 0 then (if minuteB now = true then (if 1024 ≤ l.length then 9 else 0) else 13) else checkE m
def AddPost (q mb : Nat) (site : ByteArray) (last : Int) (l : List (Int × QEnt)) (m : Msg) (now : Int) (w : World) (e : Ending) (w' : World) : Prop :=
  (addE l m now = 0 ∧ ∃ hv, e = .returned (.tuple #[.int .i64 (last + 1), .int .i64 0]) ∧ QueueAt q mb site (last + 1) (setK l (last + 1) ⟨m, hv, last + 1, now, 0⟩) w' ∧ QFrame q mb w w') ∨
  (addE l m now ≠ 0 ∧ e = .returned (.tuple #[.int .i64 0, .int .i64 (addE l m now)]) ∧ QueueAt q mb site last l w' ∧ QFrame q mb w w')
theorem add1 {l : List (Int × QEnt)} {m : Msg} {now : Int} (h : checkE m ≠ 0) : addE l m now = checkE m := by rw [addE, if_neg h]
theorem add2 {l : List (Int × QEnt)} {m : Msg} {now : Int} (h : checkE m = 0) (h2 : minuteB now = false) : addE l m now = 13 := by rw [addE, if_pos h, if_neg (by simp [h2])]
theorem add3 {l : List (Int × QEnt)} {m : Msg} {now : Int} (h : checkE m = 0) (h2 : minuteB now = true) (h3 : 1024 ≤ l.length) : addE l m now = 9 := by rw [addE, if_pos h, if_pos h2, if_pos h3]
theorem add4 {l : List (Int × QEnt)} {m : Msg} {now : Int} (h : checkE m = 0) (h2 : minuteB now = true) (h3 : ¬ 1024 ≤ l.length) : addE l m now = 0 := by rw [addE, if_pos h, if_pos h2, if_neg h3]
set_option maxRecDepth 100000 in
set_option maxHeartbeats 2000000 in
theorem add_c (q mb : Nat) (site : ByteArray) (last : Int) (l : List (Int × QEnt)) (m : Msg) (hv : Value) (now : Int) (w : World) (hq : QueueAt q mb site last l w) (hf : m.Fits) (hh : StrsAt w hv m.hops) (hl : m.hops.length ≤ 1099511627776) (hnq : ∀ b off n c, hv = .slice (some ⟨b, off, none⟩) n c → 0 < n → b ≠ q) (h0 : 0 ≤ last) (h1 : last < 9223372036854775807) (hlen : l.length ≤ 1099511627776) :
    Calls Tryd.prog 24 #[.pointer (some ⟨q, 0, none⟩), .agg (msgC m hv), .int .i64 now] w (AddPost q mb site last l m now w) := by
  have HQ := Lib.hid hq
  have HF := Lib.hid hf
  have HH := Lib.hid hh
  have HL := Lib.hid hl
  have HNQ := Lib.hid hnq
  have hqs := lt_of_block hq.row
  have hne := hq.ne
  clear hq hf hh hl hnq
  unfold msgC
  go_enter Tryd.func24, Tryd.ntmps24
  go_wp2_with (first | (go_at_call 15; refine (check_c m hv _ HF.out (HH.out.alloc _)).mono ?_; rintro e w1 ⟨rfl, hb⟩; have hal := (Below.refl w.heap.size w).alloc (Nat.le_refl _) (.cells (msgC m hv) 29); have hbb : Below w.heap.size w w1 := hal.trans (hb.mono (by simp)); have hqq := HQ.out.below hbb; have hlm := qlen hqq.map; have c2 : w1.cell? ⟨q, 2, none⟩ = some (.map (some mb)) := cell_at hqq.row 2; have HQQ := Lib.hid hqq; have HB := Lib.hid hbb; have HAA := Lib.hid ((hb.block w.heap.size (by simp)).trans (heap_alloc_new w (.cells (msgC m hv) 29))); have HST := Lib.hid (HH.out.below hbb); have HFR : Hid (QFrame q mb w w1) := QFrame.of hbb; clear hb hal hbb hqq) | (go_at_call 30; refine (minute_c _ _).mono ?_; rintro e w' ⟨rfl, rfl⟩) | (with_reducible refine wpList_load_row rfl 29 (.tmp 4) rfl _ rfl _ _ _ _ HAA.out Tryd.underlying29 rfl (by kernel_rfl) ?_) | (go_at_call 48; refine (put_c q mb site last l m hv now _ HQQ.out HST.out HL.out HNQ.out h0 h1).mono ?_; rintro e w2 ⟨v, rfl, hq2, hf2⟩; have HQ2 := Lib.hid hq2; have HF2 := Lib.hid hf2; clear hq2 hf2))
  · go_ret2
    have h1 := bne_t ‹((checkE m : Int) != 0) = true›
    exact .inr ⟨by rw [add1 h1]; exact h1, by rw [add1 h1]; rfl, HQQ.out, HFR.out⟩
  · go_ret2
    have h2 := add2 (l := l) (bne_f ‹((checkE m : Int) != 0) = false›) (not_t ‹(!minuteB now) = true›)
    exact .inr ⟨by rw [h2]; decide, by rw [h2]; rfl, HQQ.out, HFR.out⟩
  · go_ret2
    have h2 := add3 (l := l) (bne_f ‹((checkE m : Int) != 0) = false›) (not_f ‹(!minuteB now) = false›) (by omega)
    exact .inr ⟨by rw [h2]; decide, by rw [h2]; rfl, HQQ.out, HFR.out⟩
  · go_ret2
    have h2 := add4 (l := l) (bne_f ‹((checkE m : Int) != 0) = false›) (not_f ‹(!minuteB now) = false›) (by omega)
    exact .inl ⟨h2, v, rfl, HQ2.out, HFR.out.trans HF2.out⟩
end Go.Proofs.YtfcfddfjifofgaaDoor
