/- What the reference's Bounce returns: what the program's returns. -/
import Derived.Test.YtfcfddfjifofgaaDoorBounce
import Derived.Test.YtfcfddfjifofgaaDoorRefC
import Derived.Deep.RegionHeld3
namespace Go.Proofs.YtfcfddfjifofgaaDoor
open Go.RowKit Go.Shelf

/-- The end of the reference's Bounce: the message lies in the result's block. -/
theorem rBounce_end {m b : Msg} {name : ByteArray} {code now : Int} {w wx : World} {is : Bool} (tmps : Array Value) (hr : bounceR m name code now = b) (hi : bouncesB m name now = is) (hb : Below w.heap.size w wx)
    (hx : wx.heap[w.heap.size + 1]? = some (.cells (msgC b (.slice none 0 0)) 26 (0, 0))) (h8 : tmps.getD 8 undef = .pointer (some ⟨w.heap.size + 1, 0, none⟩)) (h9 : tmps.getD 9 undef = .bool is) :
    bodyPost Tryd.prog Tryd.f11 (BouncePost m name code now w) .ret ⟨tmps, []⟩ wx := by
  refine bodyPost_ret (v := .tuple #[.agg (msgC b (.slice none 0 0)), .bool is]) ?_ rfl ⟨by rw [hr, hi], hb⟩
  rw [results_cell_tmp Tryd.results11, h8]
  simp only [asAddr, Sem.run_pure, Result.andThen_ok]
  rw [run_loadVar_row wx (w.heap.size + 1) _ 26 _ _ _ hx Tryd.underlying26 rfl (by kernel_rfl)]
  simp only [Result.andThen_ok, h9]
theorem set9 {w : World} {b : Nat} {o0 o1 o2 o3 o4 o5 o6 o7 o8 x0 x1 x2 x3 x4 x5 x6 x7 x8 : Value} {t : TypeId} (h : w.heap[b]? = some (.cells #[o0, o1, o2, o3, o4, o5, o6, o7, o8] t (0, 0))) :
    (((((((((w.setCell ⟨b, 0, none⟩ x0).setCell ⟨b, 1, none⟩ x1).setCell ⟨b, 2, none⟩ x2).setCell ⟨b, 3, none⟩ x3).setCell ⟨b, 4, none⟩ x4).setCell ⟨b, 5, none⟩ x5).setCell ⟨b, 6, none⟩ x6).setCell ⟨b, 7, none⟩ x7).setCell ⟨b, 8, none⟩ x8).heap[b]? = some (.cells #[x0, x1, x2, x3, x4, x5, x6, x7, x8] t (0, 0)) := by
  have h0 : (w.setCell ⟨b, 0, none⟩ x0).heap[b]? = some (.cells #[x0, o1, o2, o3, o4, o5, o6, o7, o8] t (0, 0)) := heap_setCell_same _ b 0 _ t x0 h
  have h1 : ((w.setCell ⟨b, 0, none⟩ x0).setCell ⟨b, 1, none⟩ x1).heap[b]? = some (.cells #[x0, x1, o2, o3, o4, o5, o6, o7, o8] t (0, 0)) := heap_setCell_same _ b 1 _ t x1 h0
  have h2 : (((w.setCell ⟨b, 0, none⟩ x0).setCell ⟨b, 1, none⟩ x1).setCell ⟨b, 2, none⟩ x2).heap[b]? = some (.cells #[x0, x1, x2, o3, o4, o5, o6, o7, o8] t (0, 0)) := heap_setCell_same _ b 2 _ t x2 h1
  have h3 : ((((w.setCell ⟨b, 0, none⟩ x0).setCell ⟨b, 1, none⟩ x1).setCell ⟨b, 2, none⟩ x2).setCell ⟨b, 3, none⟩ x3).heap[b]? = some (.cells #[x0, x1, x2, x3, o4, o5, o6, o7, o8] t (0, 0)) := heap_setCell_same _ b 3 _ t x3 h2
  have h4 : (((((w.setCell ⟨b, 0, none⟩ x0).setCell ⟨b, 1, none⟩ x1).setCell ⟨b, 2, none⟩ x2).setCell ⟨b, 3, none⟩ x3).setCell ⟨b, 4, none⟩ x4).heap[b]? = some (.cells #[x0, x1, x2, x3, x4, o5, o6, o7, o8] t (0, 0)) := heap_setCell_same _ b 4 _ t x4 h3
  have h5 : ((((((w.setCell ⟨b, 0, none⟩ x0).setCell ⟨b, 1, none⟩ x1).setCell ⟨b, 2, none⟩ x2).setCell ⟨b, 3, none⟩ x3).setCell ⟨b, 4, none⟩ x4).setCell ⟨b, 5, none⟩ x5).heap[b]? = some (.cells #[x0, x1, x2, x3, x4, x5, o6, o7, o8] t (0, 0)) := heap_setCell_same _ b 5 _ t x5 h4
  have h6 : (((((((w.setCell ⟨b, 0, none⟩ x0).setCell ⟨b, 1, none⟩ x1).setCell ⟨b, 2, none⟩ x2).setCell ⟨b, 3, none⟩ x3).setCell ⟨b, 4, none⟩ x4).setCell ⟨b, 5, none⟩ x5).setCell ⟨b, 6, none⟩ x6).heap[b]? = some (.cells #[x0, x1, x2, x3, x4, x5, x6, o7, o8] t (0, 0)) := heap_setCell_same _ b 6 _ t x6 h5
  have h7 : ((((((((w.setCell ⟨b, 0, none⟩ x0).setCell ⟨b, 1, none⟩ x1).setCell ⟨b, 2, none⟩ x2).setCell ⟨b, 3, none⟩ x3).setCell ⟨b, 4, none⟩ x4).setCell ⟨b, 5, none⟩ x5).setCell ⟨b, 6, none⟩ x6).setCell ⟨b, 7, none⟩ x7).heap[b]? = some (.cells #[x0, x1, x2, x3, x4, x5, x6, x7, o8] t (0, 0)) := heap_setCell_same _ b 7 _ t x7 h6
  have h8 : (((((((((w.setCell ⟨b, 0, none⟩ x0).setCell ⟨b, 1, none⟩ x1).setCell ⟨b, 2, none⟩ x2).setCell ⟨b, 3, none⟩ x3).setCell ⟨b, 4, none⟩ x4).setCell ⟨b, 5, none⟩ x5).setCell ⟨b, 6, none⟩ x6).setCell ⟨b, 7, none⟩ x7).setCell ⟨b, 8, none⟩ x8).heap[b]? = some (.cells #[x0, x1, x2, x3, x4, x5, x6, x7, x8] t (0, 0)) := heap_setCell_same _ b 8 _ t x8 h7
  exact h8
theorem below9 {B : Nat} {w0 w : World} {b : Nat} {x0 x1 x2 x3 x4 x5 x6 x7 x8 : Value} (h : Below B w0 w) (hb : B ≤ b) : Below B w0 (((((((((w.setCell ⟨b, 0, none⟩ x0).setCell ⟨b, 1, none⟩ x1).setCell ⟨b, 2, none⟩ x2).setCell ⟨b, 3, none⟩ x3).setCell ⟨b, 4, none⟩ x4).setCell ⟨b, 5, none⟩ x5).setCell ⟨b, 6, none⟩ x6).setCell ⟨b, 7, none⟩ x7).setCell ⟨b, 8, none⟩ x8) := by
  have h0 := Below.setCell (p := ⟨b, 0, none⟩) h hb x0
  have h1 := Below.setCell (p := ⟨b, 1, none⟩) h0 hb x1
  have h2 := Below.setCell (p := ⟨b, 2, none⟩) h1 hb x2
  have h3 := Below.setCell (p := ⟨b, 3, none⟩) h2 hb x3
  have h4 := Below.setCell (p := ⟨b, 4, none⟩) h3 hb x4
  have h5 := Below.setCell (p := ⟨b, 5, none⟩) h4 hb x5
  have h6 := Below.setCell (p := ⟨b, 6, none⟩) h5 hb x6
  have h7 := Below.setCell (p := ⟨b, 7, none⟩) h6 hb x7
  have h8 := Below.setCell (p := ⟨b, 8, none⟩) h7 hb x8
  exact h8
theorem keepA {wx : World} {b : Nat} {x0 x1 x2 x3 x4 x5 x6 x7 x8 : Value} {t : TypeId} (h : wx.heap[b]? = some (.cells #[x0, x1, x2, x3, x4, x5, x6, x7, x8] t (0, 0))) :
    wx.cell? ⟨b, 0, none⟩ = some x0 ∧ wx.cell? ⟨b, 1, none⟩ = some x1 ∧ wx.cell? ⟨b, 2, none⟩ = some x2 ∧ wx.cell? ⟨b, 3, none⟩ = some x3 ∧ wx.cell? ⟨b, 4, none⟩ = some x4 ∧ wx.cell? ⟨b, 6, none⟩ = some x6 :=
  ⟨cell_at h 0, cell_at h 1, cell_at h 2, cell_at h 3, cell_at h 4, cell_at h 6⟩
set_option maxRecDepth 100000 in
set_option maxHeartbeats 2000000 in
theorem rBounce_c (m : Msg) (hv : Value) (name : ByteArray) (code now : Int) (w : World) (hf : m.Fits) (hh : StrsAt w hv m.hops) (hn : name.size ≤ maxLen) (h0 : -9223372036854775808 ≤ code) (h1 : code ≤ 9223372036854775807) (hp : PowT w) :
    Calls Tryd.prog 11 #[.agg (msgC m hv), .string name, .int .i64 code, .int .i64 now] w (BouncePost m name code now w) := by
  have HF := Lib.hid hf
  have HN := Lib.hid hn
  have H0 := Lib.hid h0
  have H1 := Lib.hid h1
  have HP := Lib.hid hp
  clear hf hn h0 h1 hp
  obtain ⟨a, c, hsl⟩ := hh.slice
  have hhv : hv = .slice a m.hops.length c := by rcases hsl with h | h <;> exact h.1
  subst hhv
  have HH := Lib.hid hh
  clear hh hsl
  by_cases hfu : m.fu.size = 0
  · have hb : bouncesB m name now = false := decide_eq_false (fun h => h.1 hfu)
    have hr : bounceR m name code now = zeroM := if_neg (by simp [hb])
    have HB := Lib.hid hb
    have HR := Lib.hid hr
    have he := isEmpty_of hfu
    clear hb hr hfu
    unfold msgC
    go_enter Tryd.func11, Tryd.ntmps11
    go_wp2
    exact rBounce_end _ HR.out HB.out (((Below.refl _ w).alloc (Nat.le_refl _) _).alloc (by simp) _) (heap_alloc2_new _ _ _) (by rfl) (by rfl)
  · have he := nonempty_of hfu
    unfold msgC
    go_enter Tryd.func11, Tryd.ntmps11
    go_wp2_with (first | (go_at_call 16; refine (rCheck_c m _ _ HF.out ((HH.out.alloc _).alloc _)).mono ?_; rintro e w1 ⟨rfl, hb⟩; have HB := Lib.hid hb; have HRR := Lib.hid ((hb.block (w.heap.size + 1) (by simp)).trans (heap_alloc2_new _ _ _)); have HAA := Lib.hid ((hb.block w.heap.size (by simp; omega)).trans (heap_alloc2_old _ _ _)); clear hb) | (go_at_call 32; refine (rmSite_c name _ HN.out).mono ?_; rintro e w' ⟨rfl, rfl⟩) | (go_at_call 33; refine (rMinute_c _ _).mono ?_; rintro e w' ⟨rfl, rfl⟩) | (with_reducible refine wpList_store_row rfl 26 (.tmp 8) (.tmp 29) rfl _ rfl _ _ _ rfl HRR.out (by kernel_rfl) (by simp) (by simp [Value.oneCell']) ?_))
    · exact rBounce_end _ (notB (code := code) (fun h => by have := h.2.2.2; simp_all)).1 (notB (code := code) (fun h => by have := h.2.2.2; simp_all)).2 (below_setRow (((Below.refl _ w).alloc (Nat.le_refl _) _).alloc (by simp) _ |>.trans (HB.out.mono (by simp; omega))) (by omega) _) (setRow_heap _ _ _ _ _ _ HRR.out) (by rfl) (by rfl)
    · have hck := ‹checkE m = 0›
      have hst := ‹siteE name = 0›
      have hmi := not_f ‹(!minuteB now) = false›
      obtain ⟨hd, h16, _, hbd⟩ := checkE_ok hck
      have z1 := user_size hd.a3
      have z2 := site_size hd.a5
      have z3 := subject_size hd.a8
      have z4 : (itoaB code).size ≤ 21 := by
        have := Lib.itoa_length_le code H0.out H1.out
        simpa [itoaB, ByteArray.size] using this
      have z5 : (textA m.tu m.ts).size ≤ 71 := by
        unfold textA; rw [ByteArray.size_append, ByteArray.size_append, sat]; omega
      have s1 : ¬ 9223372036854775807 < (textA m.tu m.ts).size + 1 := by omega
      have s2 : ¬ 9223372036854775807 < (textA m.tu m.ts).size + 1 + (itoaB code).size := by omega
      have s3 : ¬ 9223372036854775807 < (textA m.tu m.ts).size + 1 + (itoaB code).size + 1 := by omega
      have s4 : ¬ 9223372036854775807 < (textA m.tu m.ts).size + 1 + (itoaB code).size + 1 + m.sj.size := by omega
      have s5 : ¬ 9223372036854775807 < (textA m.tu m.ts).size + 1 + (itoaB code).size + 1 + m.sj.size + 1 := by omega
      have HCK := Lib.hid hck
      have HST := Lib.hid hst
      have HMI := Lib.hid hmi
      have hp1 := Lib.hid (((HP.out.alloc (.cells #[.string m.fu, .string m.fs, .string m.tu, .string m.ts, .int .i64 m.num, .int .i64 m.date, .string m.sj, .slice a m.hops.length c, .string m.body] 26)).alloc (.cells (msgC zeroM (.slice none 0 0)) 26)).below HB.out)
      have d2 : w1.cell? ⟨w.heap.size, 2, none⟩ = some (.string m.tu) := cell_at HAA.out 2
      have d3 : w1.cell? ⟨w.heap.size, 3, none⟩ = some (.string m.ts) := cell_at HAA.out 3
      have d6 : w1.cell? ⟨w.heap.size, 6, none⟩ = some (.string m.sj) := cell_at HAA.out 6
      have lA : w.heap.size + 1 < w1.heap.size := lt_of_block HRR.out
      clear hck hst hmi hd
      have d0 : w1.cell? ⟨w.heap.size, 0, none⟩ = some (.string m.fu) := cell_at HAA.out 0
      have d1 : w1.cell? ⟨w.heap.size, 1, none⟩ = some (.string m.fs) := cell_at HAA.out 1
      have d4 : w1.cell? ⟨w.heap.size, 4, none⟩ = some (.int .i64 m.num) := cell_at HAA.out 4
      have hbb : bouncesB m name now = true := decide_eq_true ⟨hfu, HCK.out, HST.out, HMI.out⟩
      have hrr : bounceR m name code now = bounceM m name code now := if_pos hbb
      have HBB := Lib.hid hbb
      have HRB := Lib.hid hrr
      clear hbb hrr
      go_region_held3 (fun w' => w'.cell? ⟨w.heap.size, 0, none⟩ = some (.string m.fu) ∧ w'.cell? ⟨w.heap.size, 1, none⟩ = some (.string m.fs) ∧ w'.cell? ⟨w.heap.size, 2, none⟩ = some (.string m.tu) ∧ w'.cell? ⟨w.heap.size, 3, none⟩ = some (.string m.ts) ∧ w'.cell? ⟨w.heap.size, 4, none⟩ = some (.int .i64 m.num) ∧ w'.cell? ⟨w.heap.size, 6, none⟩ = some (.string m.sj)) (first | go_keep | (exact KW2.out) | (exact KW3.out) | (exact KW4.out)) (first | (go_at_call 34; refine (rText_c m.tu m.ts _ (by omega) (by omega)).mono ?_; rintro e w2 ⟨rfl, hb2⟩; have l2 : w1.heap.size ≤ w2.heap.size := (by have := hb2.size; simpa using this); have HB2 := Lib.hid hb2; clear hb2; have KW2 := Lib.hid (keepA ((HB2.out.block w.heap.size (by show w.heap.size < w1.heap.size; omega)).trans HAA.out))) | (go_at_call 35; refine (rDigits_c code H0.out H1.out _).mono ?_; rintro e w3 ⟨rfl, hb3⟩; have HB3 := Lib.hid hb3; clear hb3; have HA3 := Lib.hid ((HB3.out.block w.heap.size (by show w.heap.size < w2.heap.size; omega)).trans ((HB2.out.block w.heap.size (by show w.heap.size < w1.heap.size; omega)).trans HAA.out)); have HR3 := Lib.hid ((HB3.out.block (w.heap.size + 1) (by show w.heap.size + 1 < w2.heap.size; omega)).trans ((HB2.out.block (w.heap.size + 1) (by show w.heap.size + 1 < w1.heap.size; omega)).trans HRR.out)); have KW3 := Lib.hid (keepA HA3.out); have r0 : w3.cell? ⟨w.heap.size + 1, 0, none⟩ = some (.string ⟨#[]⟩) := cell_at HR3.out 0; have q0 : w3.frozen? ⟨w.heap.size + 1, 0, none⟩ = false := free_at HR3.out 0; have r1 : w3.cell? ⟨w.heap.size + 1, 1, none⟩ = some (.string ⟨#[]⟩) := cell_at HR3.out 1; have q1 : w3.frozen? ⟨w.heap.size + 1, 1, none⟩ = false := free_at HR3.out 1; have r2 : w3.cell? ⟨w.heap.size + 1, 2, none⟩ = some (.string ⟨#[]⟩) := cell_at HR3.out 2; have q2 : w3.frozen? ⟨w.heap.size + 1, 2, none⟩ = false := free_at HR3.out 2; have r3 : w3.cell? ⟨w.heap.size + 1, 3, none⟩ = some (.string ⟨#[]⟩) := cell_at HR3.out 3; have q3 : w3.frozen? ⟨w.heap.size + 1, 3, none⟩ = false := free_at HR3.out 3; have r4 : w3.cell? ⟨w.heap.size + 1, 4, none⟩ = some (.int .i64 0) := cell_at HR3.out 4; have q4 : w3.frozen? ⟨w.heap.size + 1, 4, none⟩ = false := free_at HR3.out 4; have r5 : w3.cell? ⟨w.heap.size + 1, 5, none⟩ = some (.int .i64 0) := cell_at HR3.out 5; have q5 : w3.frozen? ⟨w.heap.size + 1, 5, none⟩ = false := free_at HR3.out 5; have r6 : w3.cell? ⟨w.heap.size + 1, 6, none⟩ = some (.string ⟨#[]⟩) := cell_at HR3.out 6; have q6 : w3.frozen? ⟨w.heap.size + 1, 6, none⟩ = false := free_at HR3.out 6; have r7 : w3.cell? ⟨w.heap.size + 1, 7, none⟩ = some (.slice none 0 0) := cell_at HR3.out 7; have q7 : w3.frozen? ⟨w.heap.size + 1, 7, none⟩ = false := free_at HR3.out 7; have r8 : w3.cell? ⟨w.heap.size + 1, 8, none⟩ = some (.string ⟨#[]⟩) := cell_at HR3.out 8; have q8 : w3.frozen? ⟨w.heap.size + 1, 8, none⟩ = false := free_at HR3.out 8))
      go_wp2
      exact rBounce_end _ HRB.out HBB.out (below9 (((((((Below.refl _ w).alloc (Nat.le_refl _) _).alloc (by simp) _).trans (HB.out.mono (by simp; omega))).drew).trans (HB2.out.mono (by show w.heap.size ≤ w1.heap.size; omega))).trans (HB3.out.mono (by omega))) (by omega)) (set9 HR3.out) (by rfl) (by rfl)
    · exact rBounce_end _ (notB (code := code) (fun h => by have := h.2.2.1; simp_all)).1 (notB (code := code) (fun h => by have := h.2.2.1; simp_all)).2 (below_setRow (((Below.refl _ w).alloc (Nat.le_refl _) _).alloc (by simp) _ |>.trans (HB.out.mono (by simp; omega))) (by omega) _) (setRow_heap _ _ _ _ _ _ HRR.out) (by rfl) (by rfl)
    · exact rBounce_end _ (notB (code := code) (fun h => by have := h.2.1; simp_all)).1 (notB (code := code) (fun h => by have := h.2.1; simp_all)).2 (below_setRow (((Below.refl _ w).alloc (Nat.le_refl _) _).alloc (by simp) _ |>.trans (HB.out.mono (by simp; omega))) (by omega) _) (setRow_heap _ _ _ _ _ _ HRR.out) (by rfl) (by rfl)
end Go.Proofs.YtfcfddfjifofgaaDoor
