/- What the law's known returns: true. -/
import Derived.Test.YtfcfddfjifofgaaDoorQGet
import Derived.Test.YtfcfddfjifofgaaDoorMPrint
namespace Go.Proofs.YtfcfddfjifofgaaDoor
open Go.RowKit Go.Shelf

def kAnn : ByteArray := ⟨#[97, 110, 110]⟩
def kA : ByteArray := ⟨#[97]⟩
def kBob : ByteArray := ⟨#[98, 111, 98]⟩
def kB : ByteArray := ⟨#[98]⟩
def kHi : ByteArray := ⟨#[72, 105]⟩
def kX : ByteArray := ⟨#[120]⟩
def kM : Msg := ⟨kAnn, kA, kBob, kB, 7, 100, kHi, [], kX⟩
theorem kCheck : checkE kM = 0 := by decide +kernel
theorem kPrint2 : (printR kM).2 = 0 := by decide +kernel
theorem kBounce : bouncesB kM kA 50 = true := by decide +kernel
theorem kSite : siteE kA = 0 := by decide +kernel
theorem kBody : (bounceR kM kA 8 50).body = ⟨#[98, 111, 98, 64, 98, 32, 56, 10, 72, 105, 10]⟩ := by decide +kernel
theorem kPrint1 : (printR kM).1 = ⟨#[70, 114, 111, 109, 58, 32, 97, 110, 110, 64, 97, 10, 84, 111, 58, 32, 98, 111, 98, 64, 98, 10, 78, 117, 109, 98, 101, 114, 58, 32, 55, 10, 68, 97, 116, 101, 58, 32, 49, 48, 48, 10, 72, 111, 112, 115, 58, 10, 83, 117, 98, 106, 101, 99, 116, 58, 32, 72, 105, 10, 10, 120]⟩ := by decide +kernel
def kBody1 : ByteArray := ⟨#[98, 111, 98, 64, 98, 32, 56, 10, 72, 105, 10]⟩
theorem kBM : bounceR kM kA 8 50 = ⟨⟨#[]⟩, kA, kAnn, kA, 7, 50, notDel, [], kBody1⟩ := by
  rw [bounceR, if_pos kBounce, bounceM]
  have h : bounceB kM 8 = kBody1 := by decide +kernel
  rw [h]; rfl
theorem kBodyL : kBody1.toList = [98, 111, 98, 64, 98, 32, 56, 10, 72, 105, 10] := by rw [ByteArray.toList_eq]; rfl
theorem kText : textA ⟨#[]⟩ kA = ⟨#[64, 97]⟩ := by decide +kernel
theorem kFits : kM.Fits := ⟨by decide, by decide, by decide, by decide, by decide, by decide, by decide, fun x hx => by cases hx⟩
/-- What holds in each world of known behind the message's making. -/
structure KAt (w w' : World) : Prop where
  bel : Below (w.heap.size + 1) (w.alloc (.cells (msgC kM (.slice none 0 0)) 29)) w'
  pow : PowT w
theorem KAt.row {w w' : World} (h : KAt w w') : w'.heap[w.heap.size]? = some (.cells (msgC kM (.slice none 0 0)) 29 (0, 0)) := (h.bel.block _ (Nat.lt_succ_self _)).trans (heap_alloc_new w _)
theorem KAt.size {w w' : World} (h : KAt w w') : w.heap.size + 1 ≤ w'.heap.size := by have := h.bel.size; simpa using this
theorem KAt.powT {w w' : World} (h : KAt w w') : PowT w' := (h.pow.alloc _).below (by
  have h1 := h.bel
  have e : (w.alloc (.cells (msgC kM (.slice none 0 0)) 29)).heap.size = w.heap.size + 1 := by simp
  rw [e]; exact h1)
theorem KAt.below {w w' w2 : World} (h : KAt w w') (hb : Below w'.heap.size w' w2) : KAt w w2 := ⟨h.bel.trans (hb.mono h.size), h.pow⟩
theorem KAt.frame {w w' w2 : World} {q mb : Nat} (h : KAt w w') (hf : QFrame q mb w' w2) (hq : w.heap.size + 1 ≤ q) (hm : w.heap.size + 1 ≤ mb) : KAt w w2 := ⟨hf.below h.bel h.size hq hm, h.pow⟩
theorem KAt.done {w w' : World} (h : KAt w w') : Below w.heap.size w w' := ((Below.refl _ w).alloc (Nat.le_refl _) _).trans (h.bel.mono (Nat.le_succ _))
def kE (hv : Value) (due fails : Int) : QEnt := ⟨kM, hv, 1, due, fails⟩
theorem kAdd (q mb : Nat) (w : World) (hq : QueueAt q mb kA 0 [] w) : Calls Tryd.prog 24 #[.pointer (some ⟨q, 0, none⟩), .agg (msgC kM (.slice none 0 0)), .int .i64 10] w fun e w' => e = .returned (.tuple #[.int .i64 1, .int .i64 0]) ∧ ∃ hv, QueueAt q mb kA 1 [(1, kE hv 10 0)] w' ∧ QFrame q mb w w' := by
  refine (add_c q mb kA 0 [] kM (.slice none 0 0) 10 w hq kFits (.inl ⟨rfl, none, 0, rfl⟩) (by decide) (fun b off n c h h0 => by injection h with h1; cases h1) (by decide) (by decide) (by decide)).mono ?_
  rintro e w' (⟨_, hv, rfl, h1, h2⟩ | ⟨h, _⟩)
  · exact ⟨rfl, hv, h1, h2⟩
  · exact absurd (add4 kCheck (by decide) (by decide)) h
theorem kAgain (q mb : Nat) (hv : Value) (due fails now : Int) (w : World) (hq : QueueAt q mb kA 1 [(1, kE hv due fails)] w) (hm : minuteB now = true) (h0 : 0 ≤ fails) (h1 : fails < 7) : Calls Tryd.prog 26 #[.pointer (some ⟨q, 0, none⟩), .int .i64 1, .int .i64 now, .int .i64 8, .bool false] w fun e w' => e = .returned (.tuple #[.int .i64 0, .bool false, .int .i64 0]) ∧ QueueAt q mb kA 1 [(1, kE hv (now + 5 * 2 ^ fails.toNat) (fails + 1))] w' ∧ QFrame q mb w w' :=
  fail_again q mb kA 1 [(1, kE hv due fails)] 1 now 8 w hq rfl hm h0 h1
theorem kGet (q mb : Nat) (n : Int) (x : QEnt) (last : Int) (w : World) (hq : QueueAt q mb kA last [(n, x)] w) (hl : x.m.hops = []) : Calls Tryd.prog 27 #[.pointer (some ⟨q, 0, none⟩), .int .i64 n] w fun e w' => ∃ a k c, e = .returned (.tuple #[.agg (msgC x.m (.slice a k c)), .int .i64 x.due, .bool true]) ∧ Below w.heap.size w w' := by
  have e1 : valOf [(n, x)] n zeroQ = x := by simp [valOf, posOf]
  have e2 : hasK [(n, x)] n = true := by simp [hasK, posOf]
  refine (get_c q mb kA last [(n, x)] n w hq (by rw [e1, hl]; decide)).mono ?_
  rintro e w' ⟨hv, rfl, ho, hb⟩
  rw [e1, e2]
  rw [e1] at ho
  obtain ⟨a, c, rfl⟩ := ownStrs_len ho
  exact ⟨a, _, c, rfl, hb⟩
theorem kOut (q mb : Nat) (hv : Value) (w : World) (hq : QueueAt q mb kA 1 [(1, kE hv 45 3)] w) (hpw : ∀ w', QFrame q mb w w' → PowT w') : Calls Tryd.prog 26 #[.pointer (some ⟨q, 0, none⟩), .int .i64 1, .int .i64 50, .int .i64 8, .bool true] w fun e w' => e = .returned (.tuple #[.int .i64 2, .bool true, .int .i64 0]) ∧ (∃ hv, QueueAt q mb kA 2 [(2, ⟨bounceR kM kA 8 50, hv, 2, 50, 0⟩)] w') ∧ QFrame q mb w w' := by
  have hok : QOk kA 1 [(1, kE hv 45 3)] := ⟨by decide, by decide, by decide, fun x hx => by simp at hx; subst hx; exact kFits, fun x hx => by simp at hx; subst hx; exact Nat.zero_le _, fun x hx => by simp at hx; subst hx; exact ⟨(by decide : (0 : Int) ≤ 3), (by decide : (3 : Int) ≤ 7)⟩⟩
  refine (fail_out q mb kA 1 [(1, kE hv 45 3)] 1 50 8 true w hq hok rfl (by decide) (.inl rfl) (by decide) (by decide) hpw).mono ?_
  rintro e w' (⟨h, _⟩ | ⟨_, hv2, rfl, h1, h2⟩)
  · exact absurd (show bouncesB kM kA 50 = false from h) (by rw [kBounce]; decide)
  · exact ⟨rfl, ⟨hv2, h1⟩, h2⟩
def KnownPost (w : World) (e : Ending) (w' : World) : Prop := e = .returned (.bool true) ∧ Below w.heap.size w w'
set_option maxRecDepth 100000 in
set_option maxHeartbeats 4000000 in
theorem known_c (w : World) (hp : PowT w) : Calls Tryd.prog 14 #[] w (KnownPost w) := by
  have HP := Lib.hid hp
  clear hp
  go_enter Tryd.func14, Tryd.ntmps14
  have hk1 : KAt w (w.alloc (.cells (msgC kM (.slice none 0 0)) 29)) := ⟨Below.refl _ _, HP.out⟩
  have HC1 := Lib.hid (print_c kM (.slice none 0 0) _ kFits (.inl ⟨rfl, none, 0, rfl⟩) (by decide) (by decide) (by decide) (by decide) hk1.powT)
  have HK1 := Lib.hid hk1
  clear hk1
  unfold PrintPost at HC1
  rw [kPrint1, kPrint2] at HC1
  unfold msgC kM at HC1
  dsimp only at HC1
  go_upto_region 3 with (go_at_call 37; refine HC1.out.mono ?_; rintro e w2 ⟨rfl, hb2⟩; have HK2 := Lib.hid (HK1.out.below hb2); clear hb2)
  have HC2 := Lib.hid (new_c kA w2 (by decide))
  go_upto_region 4 with (go_at_call 23; refine HC2.out.mono ?_; rintro e w3 (⟨h, _⟩ | ⟨_, q, mb, rfl, hq, hm, hq3, hb3⟩); exact absurd kSite h; have HK3 := Lib.hid (HK2.out.below hb3); have HQ3 := Lib.hid hq3; have hqb : w.heap.size + 1 ≤ q := Nat.le_trans HK2.out.size hq; have hmb : w.heap.size + 1 ≤ mb := Nat.le_trans HK2.out.size hm; clear hb3 hq3 hq hm)
  have HC3 := Lib.hid (kAdd q mb w3 HQ3.out)
  have HR3 := Lib.hid HK3.out.row
  clear HC1 HC2
  unfold msgC kM at HC3 HR3
  dsimp only at HC3 HR3
  go_upto_region 5 with (first | (with_reducible refine wpList_load_row rfl 29 (.tmp 1) rfl _ rfl _ _ _ _ HR3.out Tryd.underlying29 rfl (by kernel_rfl) ?_) | (go_at_call 24; refine HC3.out.mono ?_; rintro e w4 ⟨rfl, hv, hq4, hf4⟩; have HK4 := Lib.hid (HK3.out.frame hf4 hqb hmb); have HQ4 := Lib.hid hq4; clear hq4 hf4))
  have HC4 := Lib.hid (kAgain q mb hv 10 0 10 w4 HQ4.out (by decide) (by decide) (by decide))
  clear HC3 HR3
  go_upto_region 6 with (go_at_call 26; refine HC4.out.mono ?_; rintro e w5 ⟨rfl, hq5, hf5⟩; have HK5 := Lib.hid (HK4.out.frame hf5 hqb hmb); have HQ5 : Hid (QueueAt q mb kA 1 [(1, kE hv 15 1)] w5) := hq5; clear hq5 hf5)
  have HC5 := Lib.hid (kGet q mb 1 _ 1 w5 HQ5.out rfl)
  clear HC4
  unfold kE kM msgC at HC5
  dsimp only at HC5
  go_upto_region 7 with (go_at_call 27; refine HC5.out.mono ?_; rintro e w6 ⟨a6, k6, c6, rfl, hb6⟩; have HQ6 := Lib.hid (HQ5.out.below hb6); have HK6 := Lib.hid (HK5.out.below hb6); clear hb6)
  go_upto_region 8 with (go_at_call 26; refine (kAgain q mb hv 15 1 15 _ (HQ6.out.below ((Below.refl _ w6).alloc (Nat.le_refl _) _)) (by decide) (by decide) (by decide)).mono ?_; rintro e w7 ⟨rfl, hq7, hf7⟩; have HK7 := Lib.hid ((HK6.out.below ((Below.refl _ w6).alloc (Nat.le_refl _) _)).frame hf7 hqb hmb); have HQ7 : Hid (QueueAt q mb kA 1 [(1, kE hv 25 2)] w7) := hq7; clear hq7 hf7)
  have HC7 := Lib.hid (kAgain q mb hv 25 2 25 w7 HQ7.out (by decide) (by decide) (by decide))
  clear HC5
  go_upto_region 9 with (go_at_call 26; refine HC7.out.mono ?_; rintro e w8 ⟨rfl, hq8, hf8⟩; have HK8 := Lib.hid (HK7.out.frame hf8 hqb hmb); have HQ8 : Hid (QueueAt q mb kA 1 [(1, kE hv 45 3)] w8) := hq8; clear hq8 hf8)
  have HC8 := Lib.hid (kGet q mb 1 _ 1 w8 HQ8.out rfl)
  clear HC7
  unfold kE kM msgC at HC8
  dsimp only at HC8
  go_upto_region 10 with (go_at_call 27; refine HC8.out.mono ?_; rintro e w9 ⟨a9, k9, c9, rfl, hb9⟩; have HQ9 := Lib.hid (HQ8.out.below hb9); have HK9 := Lib.hid (HK8.out.below hb9); clear hb9)
  clear HC8
  go_upto_region 11 with (go_at_call 26; refine (kOut q mb hv _ (HQ9.out.below ((Below.refl _ w9).alloc (Nat.le_refl _) _)) (fun w' hf => ((HK9.out.below ((Below.refl _ w9).alloc (Nat.le_refl _) _)).frame hf hqb hmb).powT)).mono ?_; rintro e w10 ⟨rfl, ⟨hv10, hq10⟩, hf10⟩; have HK10 := Lib.hid ((HK9.out.below ((Below.refl _ w9).alloc (Nat.le_refl _) _)).frame hf10 hqb hmb); have HQ10 := Lib.hid hq10; clear hq10 hf10)
  have HC10 := Lib.hid (kGet q mb 2 _ 2 w10 HQ10.out (bounce_hops _ _ _ _))
  dsimp only at HC10
  rw [kBM] at HC10
  unfold msgC at HC10
  dsimp only at HC10
  go_upto_region 12 with (go_at_call 27; refine HC10.out.mono ?_; rintro e w11 ⟨a11, k11, c11, rfl, hb11⟩; have HK11 := Lib.hid (HK10.out.below hb11); clear hb11)
  clear HC10
  have HKB := Lib.hid (HK11.out.below ((Below.refl _ w11).alloc (Nat.le_refl _) (.cells #[.string ⟨#[]⟩, .string kA, .string kAnn, .string kA, .int .i64 7, .int .i64 50, .string notDel, .slice a11 k11 c11, .string kBody1] 29)))
  have hkb : kBody1.toList = [98, 111, 98, 64, 98, 32, 56, 10, 72, 105, 10] := kBodyL
  go_wp2_with (go_at_call 22; refine (string_c ⟨#[]⟩ kA _ (by decide) (by decide)).mono ?_; rintro e w12 ⟨rfl, hb12⟩; rw [kText]; have HK12 := Lib.hid (HKB.out.below hb12); have d0 : w12.cell? ⟨w.heap.size, 0, none⟩ = some (.string kAnn) := cell_at HK12.out.row 0; have d1 : w12.cell? ⟨w.heap.size, 1, none⟩ = some (.string kA) := cell_at HK12.out.row 1; have hbx : w12.heap[w11.heap.size]? = _ := (hb12.block w11.heap.size (by simp)).trans (heap_alloc_new w11 _); have d2 : w12.cell? ⟨w11.heap.size, 2, none⟩ = some (.string kAnn) := cell_at hbx 2; have d3 : w12.cell? ⟨w11.heap.size, 3, none⟩ = some (.string kA) := cell_at hbx 3; clear hb12 hbx)
  go_ret
  exact ⟨rfl, HK12.out.done⟩
end Go.Proofs.YtfcfddfjifofgaaDoor
