/- What Equal and Same return: whether two messages are the same. -/
import Derived.Test.YtfcfddfjifofgaaDoorTo
import Derived.Test.YtfcfddfjifofgaaDoorRefC
namespace Go.Proofs.YtfcfddfjifofgaaDoor
open Go.RowKit Go.Shelf

theorem Msg.ext' {x y : Msg} (a1 : x.fu.toList = y.fu.toList) (a2 : x.fs.toList = y.fs.toList) (a3 : x.tu.toList = y.tu.toList) (a4 : x.ts.toList = y.ts.toList) (a5 : x.num = y.num) (a6 : x.date = y.date)
    (a7 : x.sj.toList = y.sj.toList) (a8 : x.hops = y.hops) (a9 : x.body.toList = y.body.toList) : x = y := by
  rw [ByteArray.toList_eq, ByteArray.toList_eq] at a1 a2 a3 a4 a7 a9
  cases x; cases y
  simp only [Msg.mk.injEq]
  exact ⟨bytes_ext a1, bytes_ext a2, bytes_ext a3, bytes_ext a4, a5, a6, bytes_ext a7, a8, bytes_ext a9⟩
open Classical in
/-- Whether two messages are the same. -/
noncomputable def sameM (x y : Msg) : Bool := decide (x = y)
open Classical in
theorem sameM_t {x y : Msg} (h : x = y) : sameM x y = true := decide_eq_true h
open Classical in
theorem sameM_f {x y : Msg} (h : ¬ x = y) : sameM x y = false := decide_eq_false h

theorem equalS_c (l r : List ByteArray) (hl hr : Value) (w : World) (ll : l.length ≤ maxLen) (lr : r.length ≤ maxLen) (sl : StrsAt w hl l) (sr : StrsAt w hr r) :
    Calls Tryd.prog 44 #[hl, hr] w fun e w' => e = .returned (.bool (decide (l = r))) ∧ ∃ q, w' = w.drewN q := by
  unfold maxLen at ll lr
  have conv : ∀ {b off : Nat} {l : List ByteArray}, (∀ (j : Nat) x, l[j]? = some x → w.cell? ⟨b, off + j, none⟩ = some (.string x)) → ∀ j, j < l.length → w.cell? ⟨b, off + j, none⟩ = some (.string (l.getD j ByteArray.empty)) := by
    intro b off l hc j hj
    rw [hc j l[j] (List.getElem?_eq_getElem hj), List.getD_eq_getElem?_getD, List.getElem?_eq_getElem hj]; rfl
  by_cases hlen : l.length = r.length
  · rcases sl with ⟨rfl, a, c, rfl⟩ | ⟨b1, o1, c1, rfl, _, _, h1⟩
    · obtain ⟨a2, c2, hs⟩ := (StrsAt.slice sr)
      have hr0 : r = [] := List.eq_nil_of_length_eq_zero hlen.symm
      subst hr0
      have hv : hr = .slice a2 0 c2 := by rcases hs with h | h <;> exact h.1
      subst hv
      exact (Tryd.slices_Equal_string_empty a a2 c 0 c2 w (by omega)).mono fun e w' ⟨he, hw⟩ => ⟨by rw [he]; rfl, 0, hw⟩
    · rcases sr with ⟨rfl, a, c, rfl⟩ | ⟨b2, o2, c2, rfl, _, _, h2⟩
      · have hl0 : l = [] := List.eq_nil_of_length_eq_zero hlen
        subst hl0
        exact (Tryd.slices_Equal_string_empty _ _ c1 0 c w (by omega)).mono fun e w' ⟨he, hw⟩ => ⟨by rw [he]; rfl, 0, hw⟩
      · refine (Tryd.slices_Equal_string b1 o1 l.length c1 b2 o2 r.length c2 l r w (Nat.le_refl _) (Nat.le_refl _) ll lr (conv h1) (conv h2)).mono fun e w' ⟨he, hw⟩ => ⟨?_, hw⟩
        rw [he, List.take_length, List.take_length]
  · obtain ⟨a1, c1, s1⟩ := sl.slice
    obtain ⟨a2, c2, s2⟩ := sr.slice
    have e1 : hl = .slice a1 l.length c1 := by rcases s1 with h | h <;> exact h.1
    have e2 : hr = .slice a2 r.length c2 := by rcases s2 with h | h <;> exact h.1
    subst e1 e2
    exact (Tryd.slices_Equal_string_lens a1 a2 l.length c1 r.length c2 w hlen).mono fun e w' ⟨he, hw⟩ => ⟨by rw [he, decide_eq_false (fun e => hlen (by rw [e]))], 0, hw⟩

def SamePost (x y : Msg) (w : World) (e : Ending) (w' : World) : Prop := e = .returned (.bool (sameM x y)) ∧ Below w.heap.size w w'
set_option maxHeartbeats 2000000 in
theorem equal_c (x y : Msg) (hx hy : Value) (w : World) (fx : x.Fits) (fy : y.Fits) (sx : StrsAt w hx x.hops) (sy : StrsAt w hy y.hops) :
    Calls Tryd.prog 17 #[.agg (msgC x hx), .agg (msgC y hy)] w (SamePost x y w) := by
  unfold msgC
  have FX := Lib.hid fx
  have FY := Lib.hid fy
  have SX := Lib.hid sx
  have SY := Lib.hid sy
  clear fx fy sx sy
  go_enter Tryd.func17, Tryd.ntmps17
  go_wp2_with fail
  · refine (equalS_c x.hops y.hops hx hy _ FX.out.len FY.out.len ((SX.out.alloc _).alloc _) ((SY.out.alloc _).alloc _)).mono ?_
    rintro e w1 ⟨rfl, q, rfl⟩
    go_wp2_with fail
    · go_ret
      refine ⟨ret_bool ?_, below_drewN (((Below.refl _ w).alloc (Nat.le_refl _) _).alloc (by simp) _) _⟩
      cases h9 : (x.body.toList == y.body.toList)
      · exact (sameM_f (fun e => by rw [e] at h9; simp at h9)).symm
      · exact (sameM_t (Msg.ext' ‹_› ‹_› ‹_› ‹_› ‹_› ‹_› ‹_› ‹_› (by simpa using h9))).symm
    · go_ret
      have h := ‹¬ x.hops = y.hops›
      exact ⟨ret_bool (sameM_f (fun e => h (by rw [e]))).symm, below_drewN (((Below.refl _ w).alloc (Nat.le_refl _) _).alloc (by simp) _) _⟩
  · go_ret
    have h := ‹¬ x.sj.toList = y.sj.toList›
    exact ⟨ret_bool (sameM_f (fun e => h (by rw [e]))).symm, ((Below.refl _ w).alloc (Nat.le_refl _) _).alloc (by simp) _⟩
  · go_ret
    have h := ‹¬ x.date = y.date›
    exact ⟨ret_bool (sameM_f (fun e => h (by rw [e]))).symm, ((Below.refl _ w).alloc (Nat.le_refl _) _).alloc (by simp) _⟩
  · go_ret
    have h := ‹¬ x.num = y.num›
    exact ⟨ret_bool (sameM_f (fun e => h (by rw [e]))).symm, ((Below.refl _ w).alloc (Nat.le_refl _) _).alloc (by simp) _⟩
  · go_ret
    have h := ‹¬ x.ts.toList = y.ts.toList›
    exact ⟨ret_bool (sameM_f (fun e => h (by rw [e]))).symm, ((Below.refl _ w).alloc (Nat.le_refl _) _).alloc (by simp) _⟩
  · go_ret
    have h := ‹¬ x.tu.toList = y.tu.toList›
    exact ⟨ret_bool (sameM_f (fun e => h (by rw [e]))).symm, ((Below.refl _ w).alloc (Nat.le_refl _) _).alloc (by simp) _⟩
  · go_ret
    have h := ‹¬ x.fs.toList = y.fs.toList›
    exact ⟨ret_bool (sameM_f (fun e => h (by rw [e]))).symm, ((Below.refl _ w).alloc (Nat.le_refl _) _).alloc (by simp) _⟩
  · go_ret
    have h := ‹¬ x.fu.toList = y.fu.toList›
    exact ⟨ret_bool (sameM_f (fun e => h (by rw [e]))).symm, ((Below.refl _ w).alloc (Nat.le_refl _) _).alloc (by simp) _⟩

def SameTo (l r : List ByteArray) (k : Nat) : Prop := l.take k = r.take k
set_option maxHeartbeats 1000000 in
theorem rSameS_c (l r : List ByteArray) (hl hr : Value) (w : World) (ll : l.length ≤ maxLen) (lr : r.length ≤ maxLen) (sl : StrsAt w hl l) (sr : StrsAt w hr r) :
    Calls Tryd.prog 36 #[hl, hr] w fun e w' => e = .returned (.bool (decide (l = r))) ∧ Below w.heap.size w w' := by
  unfold maxLen at ll lr
  obtain ⟨a1, c1, s1⟩ := sl.slice
  obtain ⟨a2, c2, s2⟩ := sr.slice
  have e1 : hl = .slice a1 l.length c1 := by rcases s1 with h | h <;> exact h.1
  have e2 : hr = .slice a2 r.length c2 := by rcases s2 with h | h <;> exact h.1
  subst e1 e2
  have SL := Lib.hid sl
  have SR := Lib.hid sr
  clear sl sr s1 s2
  by_cases hlen : l.length = r.length
  · have HL := Lib.hid hlen
    have hb : ((l.length : Int) != (r.length : Int)) = false := by rw [hlen]; simp
    clear hlen
    go_enter Tryd.func36, Tryd.ntmps36
    go_wp2_with fail
    go_loopw [5] (fun i wr => ∃ k : Nat, k ≤ l.length ∧ SameTo l r k ∧ Below w.heap.size w wr ∧ i = .int .i64 k) (fun i _ => l.length - (intOf i).toNat)
    case atStart => exact ⟨0, Nat.zero_le _, rfl, Below.refl _ _, rfl⟩
    case round =>
      obtain ⟨k, hk, hst, hbr, rfl⟩ := hrel
      have HBR := Lib.hid hbr
      have HS := Lib.hid hst
      clear hbr hst
      have hlr := HL.out
      have HLR := Lib.hid hlr
      by_cases hlt : k < l.length
      · have hlt2 : k < r.length := by omega
        clear hlr
        obtain ⟨b1, o1, d1, hv1, _, hb1, hx1⟩ := SL.out.at (by omega)
        obtain ⟨b2, o2, d2, hv2, _, hb2, hx2⟩ := SR.out.at (by omega)
        simp only [Value.slice.injEq] at hv1 hv2
        obtain ⟨rfl, _, rfl⟩ := hv1
        obtain ⟨rfl, _, rfl⟩ := hv2
        have hx : l[k]? = some l[k] := List.getElem?_eq_getElem hlt
        have hy : r[k]? = some r[k] := List.getElem?_eq_getElem hlt2
        have hcx : wr.cell? ⟨b1, o1 + k, none⟩ = some (.string l[k]) := (HBR.out.cell (p := ⟨b1, o1 + k, none⟩) hb1).trans (hx1 k _ hx)
        have hcy : wr.cell? ⟨b2, o2 + k, none⟩ = some (.string r[k]) := (HBR.out.cell (p := ⟨b2, o2 + k, none⟩) hb2).trans (hx2 k _ hy)
        have HX := Lib.hid hx
        have HY := Lib.hid hy
        clear hx hy hx1 hx2 hb1 hb2
        have c0 : (0 : Int) ≤ (k : Int) := by omega
        have c1 : (k : Int) < (l.length : Int) := by omega
        have c2 : (k : Int) < (r.length : Int) := by omega
        go_wp2_with fail
        go_quiet (fail)
        go_wp2
        · go_ret
          have h := toList_ne ‹_›
          exact ⟨ret_bool (decide_eq_false (fun e => h (by
            have h1 := HX.out
            have h2 := HY.out
            subst e
            exact Option.some.inj (h1.symm.trans h2)))).symm, below_drewN HBR.out _⟩
        · have h := toList_same ‹_›
          refine ⟨⟨k + 1, by omega, ?_, below_drewN HBR.out _, by go_num⟩, by simp [intOf]; omega⟩
          unfold SameTo
          rw [List.take_add_one, List.take_add_one, HX.out, HY.out, h, HS.out]
      · have hkr : r.length ≤ k := by omega
        clear hlr
        go_wp2
        go_ret
        refine ⟨ret_bool (decide_eq_true ?_).symm, HBR.out⟩
        have h := HS.out
        unfold SameTo at h
        rwa [List.take_of_length_le (by omega), List.take_of_length_le hkr] at h
  · have hb : ((l.length : Int) != (r.length : Int)) = true := by rw [bne_iff_ne]; omega
    have hb2 : ¬ (l.length : Int) = (r.length : Int) := by omega
    go_enter Tryd.func36, Tryd.ntmps36
    go_wp2
    go_ret
    exact ⟨ret_bool (decide_eq_false (fun e => hlen (by rw [e]))).symm, Below.refl _ _⟩

set_option maxHeartbeats 2000000 in
theorem rSame_c (x y : Msg) (hx hy : Value) (w : World) (fx : x.Fits) (fy : y.Fits) (sx : StrsAt w hx x.hops) (sy : StrsAt w hy y.hops) :
    Calls Tryd.prog 13 #[.agg (msgC x hx), .agg (msgC y hy)] w (SamePost x y w) := by
  unfold msgC
  have FX := Lib.hid fx
  have FY := Lib.hid fy
  have SX := Lib.hid sx
  have SY := Lib.hid sy
  clear fx fy sx sy
  go_enter Tryd.func13, Tryd.ntmps13
  go_wp2_with fail
  · refine (rSameS_c x.hops y.hops hx hy _ FX.out.len FY.out.len ((SX.out.alloc _).alloc _) ((SY.out.alloc _).alloc _)).mono ?_
    rintro e w1 ⟨rfl, hb⟩
    have HB := Lib.hid hb
    clear hb
    go_wp2
    go_ret
    refine ⟨ret_bool ?_, (((Below.refl _ w).alloc (Nat.le_refl _) _).alloc (by simp) _).trans (HB.out.mono (by simp; omega))⟩
    by_cases h9 : x.hops = y.hops
    · rw [decide_eq_true h9]
      exact (sameM_t (Msg.ext' ‹_› ‹_› ‹_› ‹_› ‹_› ‹_› ‹_› h9 ‹_›)).symm
    · rw [decide_eq_false h9]
      exact (sameM_f (fun e => h9 (by rw [e]))).symm
  · go_ret
    have h := ‹¬ x.body.toList = y.body.toList›
    exact ⟨ret_bool (sameM_f (fun e => h (by rw [e]))).symm, ((Below.refl _ w).alloc (Nat.le_refl _) _).alloc (by simp) _⟩
  · go_ret
    have h := ‹¬ x.sj.toList = y.sj.toList›
    exact ⟨ret_bool (sameM_f (fun e => h (by rw [e]))).symm, ((Below.refl _ w).alloc (Nat.le_refl _) _).alloc (by simp) _⟩
  · go_ret
    have h := ‹¬ x.date = y.date›
    exact ⟨ret_bool (sameM_f (fun e => h (by rw [e]))).symm, ((Below.refl _ w).alloc (Nat.le_refl _) _).alloc (by simp) _⟩
  · go_ret
    have h := ‹¬ x.num = y.num›
    exact ⟨ret_bool (sameM_f (fun e => h (by rw [e]))).symm, ((Below.refl _ w).alloc (Nat.le_refl _) _).alloc (by simp) _⟩
  · go_ret
    have h := ‹¬ x.ts.toList = y.ts.toList›
    exact ⟨ret_bool (sameM_f (fun e => h (by rw [e]))).symm, ((Below.refl _ w).alloc (Nat.le_refl _) _).alloc (by simp) _⟩
  · go_ret
    have h := ‹¬ x.tu.toList = y.tu.toList›
    exact ⟨ret_bool (sameM_f (fun e => h (by rw [e]))).symm, ((Below.refl _ w).alloc (Nat.le_refl _) _).alloc (by simp) _⟩
  · go_ret
    have h := ‹¬ x.fs.toList = y.fs.toList›
    exact ⟨ret_bool (sameM_f (fun e => h (by rw [e]))).symm, ((Below.refl _ w).alloc (Nat.le_refl _) _).alloc (by simp) _⟩
  · go_ret
    have h := ‹¬ x.fu.toList = y.fu.toList›
    exact ⟨ret_bool (sameM_f (fun e => h (by rw [e]))).symm, ((Below.refl _ w).alloc (Nat.le_refl _) _).alloc (by simp) _⟩
end Go.Proofs.YtfcfddfjifofgaaDoor
