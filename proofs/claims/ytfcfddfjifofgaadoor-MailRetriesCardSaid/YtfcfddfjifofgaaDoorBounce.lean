/- What mail.Bounce returns. -/
import Derived.Test.YtfcfddfjifofgaaDoorAddr
import Derived.Test.YtfcfddfjifofgaaDoorBuild
import Derived.Laws.ResultCell
import Derived.Deep.RegionLaw
import Derived.Deep.DeepCutAuto
namespace Go.Proofs.YtfcfddfjifofgaaDoor
open Go.RowKit Go.Shelf

/-- The body of a bounce. -/
def bounceB (m : Msg) (code : Int) : ByteArray := textA m.tu m.ts ++ ⟨#[32]⟩ ++ itoaB code ++ ⟨#[10]⟩ ++ m.sj ++ ⟨#[10]⟩
def notDel : ByteArray := ⟨#[78, 111, 116, 32, 100, 101, 108, 105, 118, 101, 114, 101, 100]⟩
def bounceM (m : Msg) (name : ByteArray) (code now : Int) : Msg := ⟨⟨#[]⟩, name, m.fu, m.fs, m.num, now, notDel, [], bounceB m code⟩
def zeroM : Msg := ⟨⟨#[]⟩, ⟨#[]⟩, ⟨#[]⟩, ⟨#[]⟩, 0, 0, ⟨#[]⟩, [], ⟨#[]⟩⟩
/-- Whether a message has a bounce. -/
def bouncesB (m : Msg) (name : ByteArray) (now : Int) : Bool := decide (¬ m.fu.size = 0 ∧ checkE m = 0 ∧ siteE name = 0 ∧ minuteB now = true)
def bounceR (m : Msg) (name : ByteArray) (code now : Int) : Msg := if bouncesB m name now = true then bounceM m name code now else zeroM
def BouncePost (m : Msg) (name : ByteArray) (code now : Int) (w : World) (e : Ending) (w' : World) : Prop :=
  e = .returned (.tuple #[.agg (msgC (bounceR m name code now) (.slice none 0 0)), .bool (bouncesB m name now)]) ∧ Below w.heap.size w w'

theorem isEmpty_of {s : ByteArray} (h : s.size = 0) : s.toList.isEmpty = true := by
  rw [empty_of h, ByteArray.toList_eq]; rfl
theorem notB {m : Msg} {name : ByteArray} {code now : Int} (h : ¬ (¬ m.fu.size = 0 ∧ checkE m = 0 ∧ siteE name = 0 ∧ minuteB now = true)) : bounceR m name code now = zeroM ∧ bouncesB m name now = false := by
  have hb : bouncesB m name now = false := decide_eq_false h
  exact ⟨if_neg (by simp [hb]), hb⟩
/-- The end of Bounce: the message lies in the result's block. -/
theorem bounce_end {m b : Msg} {name : ByteArray} {code now : Int} {w wx : World} {is : Bool} (tmps : Array Value) (hr : bounceR m name code now = b) (hi : bouncesB m name now = is) (hb : Below w.heap.size w wx)
    (hx : wx.heap[w.heap.size + 1]? = some (.cells (msgC b (.slice none 0 0)) 29 (0, 0))) (h8 : tmps.getD 8 undef = .pointer (some ⟨w.heap.size + 1, 0, none⟩)) (h9 : tmps.getD 9 undef = .bool is) :
    bodyPost Tryd.prog Tryd.f10 (BouncePost m name code now w) .ret ⟨tmps, []⟩ wx := by
  refine bodyPost_ret (v := .tuple #[.agg (msgC b (.slice none 0 0)), .bool is]) ?_ rfl ⟨by rw [hr, hi], hb⟩
  rw [results_cell_tmp Tryd.results10, h8]
  simp only [asAddr, Sem.run_pure, Result.andThen_ok]
  rw [run_loadVar_row wx (w.heap.size + 1) _ 29 _ _ _ hx Tryd.underlying29 rfl (by kernel_rfl)]
  simp only [Result.andThen_ok, h9]
set_option maxRecDepth 100000 in
set_option maxHeartbeats 2000000 in
theorem bounce_c (m : Msg) (hv : Value) (name : ByteArray) (code now : Int) (w : World) (hf : m.Fits) (hh : StrsAt w hv m.hops) (hn : name.size ≤ maxLen) (h0 : -9223372036854775808 ≤ code) (h1 : code ≤ 9223372036854775807) (hp : PowT w) :
    Calls Tryd.prog 10 #[.agg (msgC m hv), .string name, .int .i64 code, .int .i64 now] w (BouncePost m name code now w) := by
  have HF := Lib.hid hf
  have HN := Lib.hid hn
  have H0 := Lib.hid h0
  have H1 := Lib.hid h1
  have HP := Lib.hid hp
  clear hf hn h0 h1 hp
  obtain ⟨a, c, hsl⟩ := hh.slice
  have hhv : hv = .slice a m.hops.length c := by rcases hsl with h | h <;> exact h.1
  subst hhv
  have HH := Lib.hid hh
  clear hh hsl
  by_cases hfu : m.fu.size = 0
  · have hb : bouncesB m name now = false := decide_eq_false (fun h => h.1 hfu)
    have hr : bounceR m name code now = zeroM := if_neg (by simp [hb])
    have HB := Lib.hid hb
    have HR := Lib.hid hr
    have he := isEmpty_of hfu
    clear hb hr hfu
    unfold msgC
    go_enter Tryd.func10, Tryd.ntmps10
    go_wp2
    exact bounce_end _ HR.out HB.out (((Below.refl _ w).alloc (Nat.le_refl _) _).alloc (by simp) _) (heap_alloc2_new _ _ _) (by rfl) (by rfl)
  · have he := nonempty_of hfu
    unfold msgC
    go_enter Tryd.func10, Tryd.ntmps10
    go_wp2_with (first | (go_at_call 15; refine (check_c m _ _ HF.out ((HH.out.alloc _).alloc _)).mono ?_; rintro e w1 ⟨rfl, hb⟩; have HB := Lib.hid hb; have HRR := Lib.hid ((hb.block (w.heap.size + 1) (by simp)).trans (heap_alloc2_new _ _ _)); have HAA := Lib.hid ((hb.block w.heap.size (by simp; omega)).trans (heap_alloc2_old _ _ _)); clear hb) | (go_at_call 29; refine (mSite_c name _ HN.out).mono ?_; rintro e w' ⟨rfl, rfl⟩) | (go_at_call 30; refine (minute_c _ _).mono ?_; rintro e w' ⟨rfl, rfl⟩) | (with_reducible refine wpList_store_row rfl 29 (.tmp 8) (.tmp 30) rfl _ rfl _ _ _ rfl HRR.out (by kernel_rfl) (by simp) (by simp [Value.oneCell']) ?_))
    · exact bounce_end _ (notB (code := code) (fun h => by have := h.2.2.2; simp_all)).1 (notB (code := code) (fun h => by have := h.2.2.2; simp_all)).2 (below_setRow (((Below.refl _ w).alloc (Nat.le_refl _) _).alloc (by simp) _ |>.trans (HB.out.mono (by simp; omega))) (by omega) _) (setRow_heap _ _ _ _ _ _ HRR.out) (by rfl) (by rfl)
    · have hck := ‹checkE m = 0›
      have hst := ‹siteE name = 0›
      have hmi := not_f ‹(!minuteB now) = false›
      obtain ⟨hd, h16, _, hbd⟩ := checkE_ok hck
      have z1 := user_size hd.a3
      have z2 := site_size hd.a5
      have z3 := subject_size hd.a8
      have z4 : (itoaB code).size ≤ 21 := by
        have := Lib.itoa_length_le code H0.out H1.out
        simpa [itoaB, ByteArray.size] using this
      have z5 : (textA m.tu m.ts).size ≤ 71 := by
        unfold textA; rw [ByteArray.size_append, ByteArray.size_append, sat]; omega
      have s1 : ¬ 9223372036854775807 < (textA m.tu m.ts).size + 1 := by omega
      have s2 : ¬ 9223372036854775807 < (textA m.tu m.ts).size + 1 + (itoaB code).size := by omega
      have s3 : ¬ 9223372036854775807 < (textA m.tu m.ts).size + 1 + (itoaB code).size + 1 := by omega
      have s4 : ¬ 9223372036854775807 < (textA m.tu m.ts).size + 1 + (itoaB code).size + 1 + m.sj.size := by omega
      have s5 : ¬ 9223372036854775807 < (textA m.tu m.ts).size + 1 + (itoaB code).size + 1 + m.sj.size + 1 := by omega
      have HCK := Lib.hid hck
      have HST := Lib.hid hst
      have HMI := Lib.hid hmi
      have hp1 := Lib.hid (((HP.out.alloc (.cells #[.string m.fu, .string m.fs, .string m.tu, .string m.ts, .int .i64 m.num, .int .i64 m.date, .string m.sj, .slice a m.hops.length c, .string m.body] 29)).alloc (.cells (msgC zeroM (.slice none 0 0)) 29)).below HB.out)
      have d2 : w1.cell? ⟨w.heap.size, 2, none⟩ = some (.string m.tu) := cell_at HAA.out 2
      have d3 : w1.cell? ⟨w.heap.size, 3, none⟩ = some (.string m.ts) := cell_at HAA.out 3
      have d6 : w1.cell? ⟨w.heap.size, 6, none⟩ = some (.string m.sj) := cell_at HAA.out 6
      have lA : w.heap.size + 1 < w1.heap.size := lt_of_block HRR.out
      clear hck hst hmi hd
      go_upto_region 3 with fail
      go_cut [10] (fun s10 wx => s10 = .string (bounceB m code) ∧ Below w1.heap.size w1 wx)
      case first =>
        go_region_law (first | (go_simp; go_at_call 22; refine (string_c m.tu m.ts _ (by omega) (by omega)).mono ?_; rintro e w2 ⟨rfl, hb2⟩; have e6 : w2.cell? ⟨w.heap.size, 6, none⟩ = some (.string m.sj) := (hb2.cell (p := ⟨w.heap.size, 6, none⟩) (by simp; omega)).trans d6; have l2 : w1.heap.size ≤ w2.heap.size := (by have := hb2.size; simpa using this); have HB2 := Lib.hid hb2; clear hb2) | (go_simp; go_at_call 31; refine (digits_c code H0.out H1.out _ (hp1.out.drew.below HB2.out)).mono ?_; rintro e w3 ⟨rfl, hb3⟩; have f6 : w3.cell? ⟨w.heap.size, 6, none⟩ = some (.string m.sj) := (hb3.cell (p := ⟨w.heap.size, 6, none⟩) (by show w.heap.size < _; omega)).trans e6; have HB3 := Lib.hid hb3; clear hb3))
        all_goals
          go_wp2_with fail
          go_meet
          exact ⟨rfl, (((Below.refl w1.heap.size w1).drew).trans HB2.out).trans (HB3.out.mono l2)⟩
      case rest =>
        obtain ⟨rfl, hbx⟩ := hcut
        rename_i wc
        have HBX := Lib.hid hbx
        clear hbx s1 s2 s3 s4 s5 d2 d3 d6
        have hA := (HBX.out.block w.heap.size (by omega)).trans HAA.out
        have hR := (HBX.out.block (w.heap.size + 1) (by omega)).trans HRR.out
        have e0 : wc.cell? ⟨w.heap.size, 0, none⟩ = some (.string m.fu) := cell_at hA 0
        have e1 : wc.cell? ⟨w.heap.size, 1, none⟩ = some (.string m.fs) := cell_at hA 1
        have e4 : wc.cell? ⟨w.heap.size, 4, none⟩ = some (.int .i64 m.num) := cell_at hA 4
        have HRX := Lib.hid hR
        clear hA hR
        go_wp2_with (with_reducible refine wpList_store_row rfl 29 (.tmp 8) (.tmp 51) rfl _ rfl _ _ _ rfl HRX.out (by kernel_rfl) (by simp) (by simp [Value.oneCell']) ?_)
        have hbb : bouncesB m name now = true := decide_eq_true ⟨hfu, HCK.out, HST.out, HMI.out⟩
        have hrr : bounceR m name code now = bounceM m name code now := if_pos hbb
        exact bounce_end _ hrr hbb (below_setRow (((((Below.refl _ w).alloc (Nat.le_refl _) _).alloc (by simp) _).trans (HB.out.mono (by simp; omega))).trans (HBX.out.mono (by omega))) (by omega) _) (setRow_heap _ _ _ _ _ _ HRX.out) (by rfl) (by rfl)
    · exact bounce_end _ (notB (code := code) (fun h => by have := h.2.2.1; simp_all)).1 (notB (code := code) (fun h => by have := h.2.2.1; simp_all)).2 (below_setRow (((Below.refl _ w).alloc (Nat.le_refl _) _).alloc (by simp) _ |>.trans (HB.out.mono (by simp; omega))) (by omega) _) (setRow_heap _ _ _ _ _ _ HRR.out) (by rfl) (by rfl)
    · exact bounce_end _ (notB (code := code) (fun h => by have := h.2.1; simp_all)).1 (notB (code := code) (fun h => by have := h.2.1; simp_all)).2 (below_setRow (((Below.refl _ w).alloc (Nat.le_refl _) _).alloc (by simp) _ |>.trans (HB.out.mono (by simp; omega))) (by omega) _) (setRow_heap _ _ _ _ _ _ HRR.out) (by rfl) (by rfl)
end Go.Proofs.YtfcfddfjifofgaaDoor
