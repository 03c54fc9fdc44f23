/- What Queue.Get and Len return. -/
import Derived.Test.YtfcfddfjifofgaaDoorQFail
import Derived.Test.YtfcfddfjifofgaaDoorRefB
import Derived.Deep.RegionHeld3
import Derived.Laws.ResultCell
namespace Go.Proofs.YtfcfddfjifofgaaDoor
open Go.RowKit Go.Shelf

theorem results_cell_tmp_tmp {fn : Func} {p u v : Tmp} {ty : TypeId} (h : fn.results = #[.cell p ty, .tmp u, .tmp v]) (tmps : Array Value) (P : Program) (w : World) :
    (results fn tmps).run P w =
      ((asAddr (tmps.getD p undef)).run P w).andThen fun a w₁ => ((loadVar ty a).run P w₁).andThen fun x w₂ => .ok (.tuple #[x, tmps.getD u undef, tmps.getD v undef]) w₂ := by
  simp only [results, h]
  simp [Sem.run_bind, Result.andThen]
set_option maxHeartbeats 400000 in
theorem len_c (q mb : Nat) (site : ByteArray) (last : Int) (l : List (Int × QEnt)) (w : World) (hq : QueueAt q mb site last l w) :
    Calls Tryd.prog 25 #[.pointer (some ⟨q, 0, none⟩)] w fun e w' => e = .returned (.int .i64 l.length) ∧ w = w' := by
  have c2 : w.cell? ⟨q, 2, none⟩ = some (.map (some mb)) := cell_at hq.row 2
  have hlm := qlen hq.map
  clear hq
  go_enter Tryd.func25, Tryd.ntmps25
  go_wp2
  go_ret
  exact ⟨rfl, rfl⟩
theorem set9_other {w : World} {b b' : Nat} {x0 x1 x2 x3 x4 x5 x6 x7 x8 : Value} {o : Obj} (h : w.heap[b']? = some o) (hb : b' ≠ b) : (((((((((w.setCell ⟨b, 0, none⟩ x0).setCell ⟨b, 1, none⟩ x1).setCell ⟨b, 2, none⟩ x2).setCell ⟨b, 3, none⟩ x3).setCell ⟨b, 4, none⟩ x4).setCell ⟨b, 5, none⟩ x5).setCell ⟨b, 6, none⟩ x6).setCell ⟨b, 7, none⟩ x7).setCell ⟨b, 8, none⟩ x8).heap[b']? = some o := by
  rw [Below.heap_setCell _ _ _ _ (by exact hb), Below.heap_setCell _ _ _ _ (by exact hb), Below.heap_setCell _ _ _ _ (by exact hb), Below.heap_setCell _ _ _ _ (by exact hb), Below.heap_setCell _ _ _ _ (by exact hb), Below.heap_setCell _ _ _ _ (by exact hb), Below.heap_setCell _ _ _ _ (by exact hb), Below.heap_setCell _ _ _ _ (by exact hb), Below.heap_setCell _ _ _ _ (by exact hb)]
  exact h
def KeepG (m : Msg) (hv : Value) (due : Int) (b : Nat) (w' : World) : Prop := w'.cell? ⟨b, 0, none⟩ = some (.string m.fu) ∧ w'.cell? ⟨b, 1, none⟩ = some (.string m.fs) ∧ w'.cell? ⟨b, 2, none⟩ = some (.string m.tu) ∧ w'.cell? ⟨b, 3, none⟩ = some (.string m.ts) ∧ w'.cell? ⟨b, 4, none⟩ = some (.int .i64 m.num) ∧ w'.cell? ⟨b, 5, none⟩ = some (.int .i64 m.date) ∧ w'.cell? ⟨b, 6, none⟩ = some (.string m.sj) ∧ w'.cell? ⟨b, 7, none⟩ = some (hv) ∧ w'.cell? ⟨b, 8, none⟩ = some (.string m.body) ∧ w'.cell? ⟨b, 10, none⟩ = some (.int .i64 due)
theorem keepG {m : Msg} {hv : Value} {num due fails : Int} {b : Nat} {w' : World} (h : w'.heap[b]? = some (.cells (wC ⟨m, hv, num, due, fails⟩) 87 (0, 0))) : KeepG m hv due b w' := ⟨cell_at h 0, cell_at h 1, cell_at h 2, cell_at h 3, cell_at h 4, cell_at h 5, cell_at h 6, cell_at h 7, cell_at h 8, cell_at h 10⟩
def GetPost (l : List (Int × QEnt)) (n : Int) (w : World) (e : Ending) (w' : World) : Prop :=
  ∃ hv, e = .returned (.tuple #[.agg (msgC (valOf l n zeroQ).m hv), .int .i64 (valOf l n zeroQ).due, .bool (hasK l n)]) ∧ OwnStrs w.heap.size (valOf l n zeroQ).m.hops w' hv ∧ Below w.heap.size w w'
theorem OwnStrs.at1 {B : Nat} {l : List ByteArray} {w : World} {v : Value} (h : OwnStrs (B + 1) l w v) : OwnStrs B l w v := h.mono (Nat.le_succ B)
theorem get_end {m : Msg} {hv : Value} {due : Int} {has : Bool} {w wx : World} (tmps : Array Value) (ho : OwnStrs w.heap.size m.hops wx hv) (hb : Below w.heap.size w wx) (hx : wx.heap[w.heap.size]? = some (.cells (msgC m hv) 29 (0, 0)))
    (h4 : tmps.getD 4 undef = .pointer (some ⟨w.heap.size, 0, none⟩)) (h5 : tmps.getD 5 undef = .int .i64 due) (h6 : tmps.getD 6 undef = .bool has) :
    bodyPost Tryd.prog Tryd.f27 (fun e w' => ∃ v, e = .returned (.tuple #[.agg (msgC m v), .int .i64 due, .bool has]) ∧ OwnStrs w.heap.size m.hops w' v ∧ Below w.heap.size w w') .ret ⟨tmps, []⟩ wx := by
  refine bodyPost_ret (v := .tuple #[.agg (msgC m hv), .int .i64 due, .bool has]) ?_ rfl ⟨hv, rfl, ho, hb⟩
  rw [results_cell_tmp_tmp Tryd.results27, h4]
  simp only [asAddr, Sem.run_pure, Result.andThen_ok]
  rw [run_loadVar_row wx w.heap.size _ 29 _ _ _ hx Tryd.underlying29 rfl (by kernel_rfl)]
  simp only [Result.andThen_ok, h5, h6]
set_option maxRecDepth 100000 in
set_option maxHeartbeats 2000000 in
theorem get_c (q mb : Nat) (site : ByteArray) (last : Int) (l : List (Int × QEnt)) (n : Int) (w : World) (hq : QueueAt q mb site last l w) (hl : (valOf l n zeroQ).m.hops.length ≤ 1099511627776) :
    Calls Tryd.prog 27 #[.pointer (some ⟨q, 0, none⟩), .int .i64 n] w (GetPost l n w) := by
  have hlk := qlookup (hq.below ((Below.refl _ w).alloc (Nat.le_refl _) (.cells (msgC zeroM (.slice none 0 0)) 29))).map n
  unfold msgC zeroM at hlk
  dsimp only at hlk
  have c2 : w.cell? ⟨q, 2, none⟩ = some (.map (some mb)) := cell_at hq.row 2
  obtain ⟨a, k, c, hs⟩ := qslice hq n
  have hst : StrsAt w (valOf l n zeroQ).hv (valOf l n zeroQ).m.hops := by
    by_cases hn : hasK l n = true
    · exact (hq.own _ (valOf_mem (z := zeroQ) hn)).strsAt
    · have e : valOf l n zeroQ = zeroQ := by
        unfold hasK at hn
        unfold valOf
        cases hp : posOf l n 0 with
        | none => rfl
        | some p => rw [hp] at hn; simp at hn
      rw [e]
      exact .inl ⟨rfl, none, 0, rfl⟩
  have hqs := lt_of_block hq.row
  have hms := hq.map.lt
  clear hq
  unfold GetPost
  generalize hasK l n = has at *
  generalize hX : valOf l n zeroQ = x at *
  clear hX
  obtain ⟨m, hv, num, due, fails⟩ := x
  simp only at hs hst hl
  subst hs
  have HST := Lib.hid hst
  have HL := Lib.hid hl
  clear hst hl
  unfold wC at hlk
  simp only at hlk
  go_enter Tryd.func27, Tryd.ntmps27
  go_upto_region 4 with fail
  have hrw : ((w.alloc (.cells #[.string ⟨#[]⟩, .string ⟨#[]⟩, .string ⟨#[]⟩, .string ⟨#[]⟩, .int .i64 0, .int .i64 0, .string ⟨#[]⟩, .slice none 0 0, .string ⟨#[]⟩] 29)).alloc (.cells #[.string m.fu, .string m.fs, .string m.tu, .string m.ts, .int .i64 m.num, .int .i64 m.date, .string m.sj, .slice a k c, .string m.body, .int .i64 num, .int .i64 due, .int .i64 fails] 87)).heap[w.heap.size + 1]? = some (.cells (wC ⟨m, .slice a k c, num, due, fails⟩) 87 (0, 0)) := heap_alloc2_new _ _ _
  have hrz : ((w.alloc (.cells #[.string ⟨#[]⟩, .string ⟨#[]⟩, .string ⟨#[]⟩, .string ⟨#[]⟩, .int .i64 0, .int .i64 0, .string ⟨#[]⟩, .slice none 0 0, .string ⟨#[]⟩] 29)).alloc (.cells #[.string m.fu, .string m.fs, .string m.tu, .string m.ts, .int .i64 m.num, .int .i64 m.date, .string m.sj, .slice a k c, .string m.body, .int .i64 num, .int .i64 due, .int .i64 fails] 87)).heap[w.heap.size]? = some (.cells (msgC zeroM (.slice none 0 0)) 29 (0, 0)) := heap_alloc2_old _ _ _
  have hst1 : StrsAt ((w.alloc (.cells #[.string ⟨#[]⟩, .string ⟨#[]⟩, .string ⟨#[]⟩, .string ⟨#[]⟩, .int .i64 0, .int .i64 0, .string ⟨#[]⟩, .slice none 0 0, .string ⟨#[]⟩] 29)).alloc (.cells #[.string m.fu, .string m.fs, .string m.tu, .string m.ts, .int .i64 m.num, .int .i64 m.date, .string m.sj, .slice a k c, .string m.body, .int .i64 num, .int .i64 due, .int .i64 fails] 87)) (.slice a k c) m.hops := (HST.out.alloc _).alloc _
  have hbl1 : Below w.heap.size w ((w.alloc (.cells #[.string ⟨#[]⟩, .string ⟨#[]⟩, .string ⟨#[]⟩, .string ⟨#[]⟩, .int .i64 0, .int .i64 0, .string ⟨#[]⟩, .slice none 0 0, .string ⟨#[]⟩] 29)).alloc (.cells #[.string m.fu, .string m.fs, .string m.tu, .string m.ts, .int .i64 m.num, .int .i64 m.date, .string m.sj, .slice a k c, .string m.body, .int .i64 num, .int .i64 due, .int .i64 fails] 87)) := ((Below.refl _ w).alloc (Nat.le_refl _) _).alloc (by simp) _
  have hsz1 : ((w.alloc (.cells #[.string ⟨#[]⟩, .string ⟨#[]⟩, .string ⟨#[]⟩, .string ⟨#[]⟩, .int .i64 0, .int .i64 0, .string ⟨#[]⟩, .slice none 0 0, .string ⟨#[]⟩] 29)).alloc (.cells #[.string m.fu, .string m.fs, .string m.tu, .string m.ts, .int .i64 m.num, .int .i64 m.date, .string m.sj, .slice a k c, .string m.body, .int .i64 num, .int .i64 due, .int .i64 fails] 87)).heap.size = w.heap.size + 2 := by simp
  clear hlk
  generalize hW : (w.alloc (.cells #[.string ⟨#[]⟩, .string ⟨#[]⟩, .string ⟨#[]⟩, .string ⟨#[]⟩, .int .i64 0, .int .i64 0, .string ⟨#[]⟩, .slice none 0 0, .string ⟨#[]⟩] 29)).alloc (.cells #[.string m.fu, .string m.fs, .string m.tu, .string m.ts, .int .i64 m.num, .int .i64 m.date, .string m.sj, .slice a k c, .string m.body, .int .i64 num, .int .i64 due, .int .i64 fails] 87) = w1 at *
  clear hW
  have HRW := Lib.hid hrw
  have HRZ := Lib.hid hrz
  have HS1 := Lib.hid hst1
  have HB1 := Lib.hid hbl1
  have HKW := Lib.hid (keepG (w' := w1.drew) hrw)
  have HCC := Lib.hid (copied_c m (.slice a k c) w1.drew (show StrsAt w1.drew _ _ from hst1) HL.out)
  unfold msgC at HCC
  unfold KeepG at HKW
  clear hrw hrz hst1 hbl1
  go_region_held3 (fun w' => w'.cell? ⟨w.heap.size + 1, 0, none⟩ = some (.string m.fu) ∧ w'.cell? ⟨w.heap.size + 1, 1, none⟩ = some (.string m.fs) ∧ w'.cell? ⟨w.heap.size + 1, 2, none⟩ = some (.string m.tu) ∧ w'.cell? ⟨w.heap.size + 1, 3, none⟩ = some (.string m.ts) ∧ w'.cell? ⟨w.heap.size + 1, 4, none⟩ = some (.int .i64 m.num) ∧ w'.cell? ⟨w.heap.size + 1, 5, none⟩ = some (.int .i64 m.date) ∧ w'.cell? ⟨w.heap.size + 1, 6, none⟩ = some (.string m.sj) ∧ w'.cell? ⟨w.heap.size + 1, 7, none⟩ = some (.slice a k c) ∧ w'.cell? ⟨w.heap.size + 1, 8, none⟩ = some (.string m.body) ∧ w'.cell? ⟨w.heap.size + 1, 10, none⟩ = some (.int .i64 due)) (first | (with_reducible exact HKW.out) | (with_reducible exact HKN.out) | fail) (first | (go_at_call 49; (with_reducible refine HCC.out.mono ?_); rintro e w2 ⟨v, rfl, ho, hb2⟩; obtain ⟨a2, c2', hv2⟩ := ownStrs_len ho; subst hv2; have hk2 : ∀ i, i < w1.heap.size → w2.heap[i]? = w1.heap[i]? := hb2.block; have hrr : w2.heap[w.heap.size]? = some (.cells (msgC zeroM (.slice none 0 0)) 29 (0, 0)) := (hk2 _ (by omega)).trans HRZ.out; have HRR := Lib.hid hrr; have r0 : w2.cell? ⟨w.heap.size, 0, none⟩ = some (.string ⟨#[]⟩) := cell_at hrr 0; have q0 : w2.frozen? ⟨w.heap.size, 0, none⟩ = false := free_at hrr 0; have r1 : w2.cell? ⟨w.heap.size, 1, none⟩ = some (.string ⟨#[]⟩) := cell_at hrr 1; have q1 : w2.frozen? ⟨w.heap.size, 1, none⟩ = false := free_at hrr 1; have r2 : w2.cell? ⟨w.heap.size, 2, none⟩ = some (.string ⟨#[]⟩) := cell_at hrr 2; have q2 : w2.frozen? ⟨w.heap.size, 2, none⟩ = false := free_at hrr 2; have r3 : w2.cell? ⟨w.heap.size, 3, none⟩ = some (.string ⟨#[]⟩) := cell_at hrr 3; have q3 : w2.frozen? ⟨w.heap.size, 3, none⟩ = false := free_at hrr 3; have r4 : w2.cell? ⟨w.heap.size, 4, none⟩ = some (.int .i64 0) := cell_at hrr 4; have q4 : w2.frozen? ⟨w.heap.size, 4, none⟩ = false := free_at hrr 4; have r5 : w2.cell? ⟨w.heap.size, 5, none⟩ = some (.int .i64 0) := cell_at hrr 5; have q5 : w2.frozen? ⟨w.heap.size, 5, none⟩ = false := free_at hrr 5; have r6 : w2.cell? ⟨w.heap.size, 6, none⟩ = some (.string ⟨#[]⟩) := cell_at hrr 6; have q6 : w2.frozen? ⟨w.heap.size, 6, none⟩ = false := free_at hrr 6; have r7 : w2.cell? ⟨w.heap.size, 7, none⟩ = some (.slice none 0 0) := cell_at hrr 7; have q7 : w2.frozen? ⟨w.heap.size, 7, none⟩ = false := free_at hrr 7; have r8 : w2.cell? ⟨w.heap.size, 8, none⟩ = some (.string ⟨#[]⟩) := cell_at hrr 8; have q8 : w2.frozen? ⟨w.heap.size, 8, none⟩ = false := free_at hrr 8; have hrw2 : w2.heap[w.heap.size + 1]? = some (.cells (wC ⟨m, .slice a k c, num, due, fails⟩) 87 (0, 0)) := (hk2 _ (by omega)).trans HRW.out; have HKW := Lib.hid (keepG hrw2); have HB2 : Hid (Below w.heap.size w w2) := HB1.out.trans (Below.mono (w := w1) ⟨hb2.os, hb2.tape, hb2.output, hb2.size, hb2.block⟩ (by omega : w.heap.size ≤ w1.heap.size)); have hb9 := below9 (x0 := .string m.fu) (x1 := .string m.fs) (x2 := .string m.tu) (x3 := .string m.ts) (x4 := .int .i64 m.num) (x5 := .int .i64 m.date) (x6 := .string m.sj) (x7 := .slice a2 m.hops.length c2') (x8 := .string m.body) (Below.refl w.heap.size w2) (Nat.le_refl w.heap.size); have HO2 : Hid (OwnStrs (w.heap.size + 2) m.hops w2 (.slice a2 m.hops.length c2')) := (by rw [← hsz1]; exact ho); have hrwn := set9_other (x0 := .string m.fu) (x1 := .string m.fs) (x2 := .string m.tu) (x3 := .string m.ts) (x4 := .int .i64 m.num) (x5 := .int .i64 m.date) (x6 := .string m.sj) (x7 := .slice a2 m.hops.length c2') (x8 := .string m.body) (b := w.heap.size) (b' := w.heap.size + 1) hrw2 (by omega); have HKN := Lib.hid (keepG hrwn); have HB9 := Lib.hid hb9; unfold KeepG at HKW HKN; dsimp only [msgC]; clear ho hb2 hk2 hrr hrw2 hb9 hrwn))
  have hrn := set9 (x0 := .string m.fu) (x1 := .string m.fs) (x2 := .string m.tu) (x3 := .string m.ts) (x4 := .int .i64 m.num) (x5 := .int .i64 m.date) (x6 := .string m.sj) (x7 := .slice a2 m.hops.length c2') (x8 := .string m.body) HRR.out
  have hon : OwnStrs (w.heap.size + 1) m.hops (((((((((w2.setCell ⟨w.heap.size, 0, none⟩ (.string m.fu)).setCell ⟨w.heap.size, 1, none⟩ (.string m.fs)).setCell ⟨w.heap.size, 2, none⟩ (.string m.tu)).setCell ⟨w.heap.size, 3, none⟩ (.string m.ts)).setCell ⟨w.heap.size, 4, none⟩ (.int .i64 m.num)).setCell ⟨w.heap.size, 5, none⟩ (.int .i64 m.date)).setCell ⟨w.heap.size, 6, none⟩ (.string m.sj)).setCell ⟨w.heap.size, 7, none⟩ (.slice a2 m.hops.length c2')).setCell ⟨w.heap.size, 8, none⟩ (.string m.body)) (.slice a2 m.hops.length c2') := (own_other HO2.out (fun k hk => by rw [Below.heap_setCell _ _ _ _ (by show k ≠ w.heap.size; omega), Below.heap_setCell _ _ _ _ (by show k ≠ w.heap.size; omega), Below.heap_setCell _ _ _ _ (by show k ≠ w.heap.size; omega), Below.heap_setCell _ _ _ _ (by show k ≠ w.heap.size; omega), Below.heap_setCell _ _ _ _ (by show k ≠ w.heap.size; omega), Below.heap_setCell _ _ _ _ (by show k ≠ w.heap.size; omega), Below.heap_setCell _ _ _ _ (by show k ≠ w.heap.size; omega), Below.heap_setCell _ _ _ _ (by show k ≠ w.heap.size; omega), Below.heap_setCell _ _ _ _ (by show k ≠ w.heap.size; omega)])).mono (by omega)
  generalize hN : (((((((((w2.setCell ⟨w.heap.size, 0, none⟩ (.string m.fu)).setCell ⟨w.heap.size, 1, none⟩ (.string m.fs)).setCell ⟨w.heap.size, 2, none⟩ (.string m.tu)).setCell ⟨w.heap.size, 3, none⟩ (.string m.ts)).setCell ⟨w.heap.size, 4, none⟩ (.int .i64 m.num)).setCell ⟨w.heap.size, 5, none⟩ (.int .i64 m.date)).setCell ⟨w.heap.size, 6, none⟩ (.string m.sj)).setCell ⟨w.heap.size, 7, none⟩ (.slice a2 m.hops.length c2')).setCell ⟨w.heap.size, 8, none⟩ (.string m.body)) = wN at *
  go_wp2
  exact get_end _ hon.at1 (HB2.out.trans HB9.out) hrn (by rfl) (by rfl) (by rfl)
end Go.Proofs.YtfcfddfjifofgaaDoor
