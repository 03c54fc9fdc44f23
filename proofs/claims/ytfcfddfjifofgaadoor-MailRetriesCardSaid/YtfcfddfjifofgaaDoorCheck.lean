/- What Message.Check returns. -/
import Derived.Test.YtfcfddfjifofgaaDoorMsg
import Derived.Deep.QuietTactic
import Derived.BigQuiet
namespace Go.Proofs.YtfcfddfjifofgaaDoor
open Go.RowKit Go.Shelf

def CheckPost (m : Msg) (w : World) (e : Ending) (w' : World) : Prop := e = .returned (.int .i64 (checkE m)) ∧ Below w.heap.size w w'
theorem contains_c {l : List ByteArray} {b off cap : Nat} (x : ByteArray) (n : Nat) (w : World) (hn : n ≤ l.length) (hb : n ≤ 9223372036854775807) (hc : ∀ (j : Nat) x, l[j]? = some x → w.cell? ⟨b, off + j, none⟩ = some (.string x)) :
    Calls Tryd.prog 40 #[.slice (some ⟨b, off, none⟩) n cap, .string x] w fun e w' => e = .returned (.bool (Lib.containsS (l.take n) x)) ∧ w' = w :=
  Tryd.slices_Contains_string b off n cap l x w hn hb (fun j hj => by
    rw [hc j l[j] (List.getElem?_eq_getElem hj), List.getD_eq_getElem?_getD, List.getElem?_eq_getElem hj]; rfl)

theorem hop_site {l : List ByteArray} {k : Nat} {x : ByteArray} (h : l[k]? = some x) (he : siteE x ≠ 0) : hopErr l k = siteE x := by
  unfold hopErr
  rw [List.getD_eq_getElem?_getD, h, Option.getD_some, if_pos he]
theorem hop_loop {l : List ByteArray} {k : Nat} {x : ByteArray} (h : l[k]? = some x) (he : siteE x = 0) (hc : Lib.containsS (l.take k) x = true) : hopErr l k = 24 := by
  unfold hopErr
  rw [List.getD_eq_getElem?_getD, h, Option.getD_some, if_neg (by simp [he]), if_pos hc]
theorem hop_ok {l : List ByteArray} {k : Nat} {x : ByteArray} (h : l[k]? = some x) (he : siteE x = 0) (hc : Lib.containsS (l.take k) x = false) : hopErr l k = 0 := by
  unfold hopErr
  rw [List.getD_eq_getElem?_getD, h, Option.getD_some, if_neg (by simp [he]), if_neg (by simp [hc])]
theorem hopsE_hit {l : List ByteArray} {k : Nat} (h : NoneTo (fun i => hopErr l i != 0) k) (hk : k < l.length) (he : hopErr l k ≠ 0) : hopsE l = hopErr l k := by
  unfold hopsE
  rw [h.hit hk (by simpa using he)]
theorem hopsE_none {l : List ByteArray} {k : Nat} (h : NoneTo (fun i => hopErr l i != 0) k) (hk : l.length ≤ k) : hopsE l = 0 := by
  unfold hopsE
  rw [h.full hk]

/-- What checkE is once the parts ahead of the hops are right. -/
structure HeadOk (m : Msg) : Prop where
  a1 : userB m.fu = true
  a2 : siteE m.fs = 0
  a3 : userB m.tu = true
  a4 : ¬ m.tu.size = 0
  a5 : siteE m.ts = 0
  a6 : ¬ (m.num < 0 ∨ 2147483647 < m.num)
  a7 : minuteB m.date = true
  a8 : subjectE m.sj = 0
theorem checkE_head {m : Msg} (h : HeadOk m) : checkE m = if 16 < m.hops.length then 9 else if hopsE m.hops ≠ 0 then hopsE m.hops else if 32768 < m.body.size then 5 else 0 := by
  unfold checkE
  rw [if_neg (by simp [h.a1]), if_neg (by simp [h.a2]), if_neg (by simp [h.a3, h.a4]), if_neg (by simp [h.a5]), if_neg h.a6, if_neg (by simp [h.a7]), if_neg (by simp [h.a8])]
theorem isEmpty_size {s : ByteArray} (h : s.toList.isEmpty = true) : s.size = 0 := by
  rw [ByteArray.toList_eq] at h
  rw [← Array.size_eq_zero_iff.2 (Array.toList_eq_nil_iff.1 (List.isEmpty_iff.1 h))]; rfl
theorem isEmpty_not {s : ByteArray} (h : s.toList.isEmpty = false) : ¬ s.size = 0 := fun e => by
  rw [empty_of e, ByteArray.toList_eq] at h; cases h
theorem not_t {b : Bool} (h : (!b) = true) : b = false := by simpa using h
theorem not_f {b : Bool} (h : (!b) = false) : b = true := by simpa using h
theorem bne_t {n : Nat} (h : ((n : Int) != 0) = true) : n ≠ 0 := by rw [bne_iff_ne] at h; omega
theorem bne_f {n : Nat} (h : ((n : Int) != 0) = false) : n = 0 := by
  have := bne_eq_false_iff_eq.1 h; omega
theorem ck1 {m : Msg} (a1 : userB m.fu = false) : checkE m = 12 := by rw [checkE, if_pos a1]
theorem ck2 {m : Msg} (a1 : userB m.fu = true) (a2 : siteE m.fs ≠ 0) : checkE m = siteE m.fs := by rw [checkE, if_neg (by simp [a1]), if_pos a2]
theorem ck3 {m : Msg} (a1 : userB m.fu = true) (a2 : siteE m.fs = 0) (a3 : userB m.tu = false ∨ m.tu.size = 0) : checkE m = 12 := by
  rw [checkE, if_neg (by simp [a1]), if_neg (by simp [a2]), if_pos a3]
theorem ck4 {m : Msg} (a1 : userB m.fu = true) (a2 : siteE m.fs = 0) (a3 : userB m.tu = true) (a4 : ¬ m.tu.size = 0) (a5 : siteE m.ts ≠ 0) : checkE m = siteE m.ts := by
  rw [checkE, if_neg (by simp [a1]), if_neg (by simp [a2]), if_neg (by simp [a3, a4]), if_pos a5]
theorem ck5 {m : Msg} (a1 : userB m.fu = true) (a2 : siteE m.fs = 0) (a3 : userB m.tu = true) (a4 : ¬ m.tu.size = 0) (a5 : siteE m.ts = 0) (a6 : m.num < 0 ∨ 2147483647 < m.num) : checkE m = 2 := by
  rw [checkE, if_neg (by simp [a1]), if_neg (by simp [a2]), if_neg (by simp [a3, a4]), if_neg (by simp [a5]), if_pos a6]
theorem ck6 {m : Msg} (a1 : userB m.fu = true) (a2 : siteE m.fs = 0) (a3 : userB m.tu = true) (a4 : ¬ m.tu.size = 0) (a5 : siteE m.ts = 0) (a6 : ¬ (m.num < 0 ∨ 2147483647 < m.num)) (a7 : minuteB m.date = false) : checkE m = 13 := by
  rw [checkE, if_neg (by simp [a1]), if_neg (by simp [a2]), if_neg (by simp [a3, a4]), if_neg (by simp [a5]), if_neg a6, if_pos a7]
theorem ck7 {m : Msg} (a1 : userB m.fu = true) (a2 : siteE m.fs = 0) (a3 : userB m.tu = true) (a4 : ¬ m.tu.size = 0) (a5 : siteE m.ts = 0) (a6 : ¬ (m.num < 0 ∨ 2147483647 < m.num)) (a7 : minuteB m.date = true) (a8 : subjectE m.sj ≠ 0) : checkE m = subjectE m.sj := by
  rw [checkE, if_neg (by simp [a1]), if_neg (by simp [a2]), if_neg (by simp [a3, a4]), if_neg (by simp [a5]), if_neg a6, if_neg (by simp [a7]), if_pos a8]

set_option maxHeartbeats 2000000 in
theorem check_c (m : Msg) (hv : Value) (w : World) (hf : m.Fits) (hh : StrsAt w hv m.hops) :
    Calls Tryd.prog 15 #[.agg (msgC m hv)] w (CheckPost m w) := by
  unfold msgC
  have HF := Lib.hid hf
  clear hf
  obtain ⟨a, c, hsl⟩ := hh.slice
  have hhv : hv = .slice a m.hops.length c := by rcases hsl with h | h <;> exact h.1
  subst hhv
  have HH := Lib.hid hh
  clear hh hsl
  have hlen := HF.out.len
  unfold maxLen at hlen
  have hbody := HF.out.body
  unfold maxLen at hbody
  go_enter Tryd.func15, Tryd.ntmps15
  go_wp2_with (first | (go_at_call 38; refine (user_c _ _ (by first | exact HF.out.fu | exact HF.out.tu)).mono ?_; rintro e w' ⟨rfl, rfl⟩) | (go_at_call 29; refine (mSite_c _ _ (by first | exact HF.out.fs | exact HF.out.ts)).mono ?_; rintro e w' ⟨rfl, rfl⟩) | (go_at_call 30; refine (minute_c _ _).mono ?_; rintro e w' ⟨rfl, rfl⟩) | (go_at_call 39; refine (subject_c _ _ HF.out.sj).mono ?_; rintro e w1 ⟨rfl, hb⟩; have HB := Lib.hid hb; have hc7 : w1.cell? ⟨w.heap.size, 7, none⟩ = some (.slice a m.hops.length c) := (hb.cell (p := ⟨w.heap.size, 7, none⟩) (by simp)).trans (World.cell?_alloc_new _ _ _ 7); have hc8 : w1.cell? ⟨w.heap.size, 8, none⟩ = some (.string m.body) := (hb.cell (p := ⟨w.heap.size, 8, none⟩) (by simp)).trans (World.cell?_alloc_new _ _ _ 8); clear hb))
  · go_ret
    exact ⟨ret_int (by rw [ck1 (not_t ‹_›)]; rfl), (Below.refl _ w).alloc (Nat.le_refl _) _⟩
  · go_ret
    exact ⟨ret_int (by rw [ck2 (not_f ‹_›) (bne_t ‹_›)]), (Below.refl _ w).alloc (Nat.le_refl _) _⟩
  · go_ret
    exact ⟨ret_int (by rw [ck3 (not_f ‹_›) (bne_f ‹_›) (.inr (isEmpty_size ‹_›))]; rfl), (Below.refl _ w).alloc (Nat.le_refl _) _⟩
  · go_ret
    exact ⟨ret_int (by rw [ck4 (not_f ‹_›) (bne_f ‹_›) ‹_› (isEmpty_not ‹_›) (bne_t ‹_›)]), (Below.refl _ w).alloc (Nat.le_refl _) _⟩
  · go_ret
    exact ⟨ret_int (by rw [ck5 (not_f ‹_›) (bne_f ‹_›) ‹_› (isEmpty_not ‹_›) (bne_f ‹_›) ‹_›]; rfl), (Below.refl _ w).alloc (Nat.le_refl _) _⟩
  · go_ret
    exact ⟨ret_int (by rw [ck6 (not_f ‹_›) (bne_f ‹_›) ‹_› (isEmpty_not ‹_›) (bne_f ‹_›) (by omega) (not_t ‹_›)]; rfl), (Below.refl _ w).alloc (Nat.le_refl _) _⟩
  · go_ret
    exact ⟨ret_int (by rw [ck7 (not_f ‹_›) (bne_f ‹_›) ‹_› (isEmpty_not ‹_›) (bne_f ‹_›) (by omega) (not_f ‹_›) (bne_t ‹_›)]), ((Below.refl _ w).alloc (Nat.le_refl _) _).trans (HB.out.mono (by simp))⟩
  · go_ret
    have hd : HeadOk m := ⟨not_f ‹_›, bne_f ‹_›, ‹_›, isEmpty_not ‹_›, bne_f ‹_›, by omega, not_f ‹_›, bne_f ‹_›⟩
    exact ⟨ret_int (by rw [checkE_head hd, if_pos (by omega)]; rfl), ((Below.refl _ w).alloc (Nat.le_refl _) _).trans (HB.out.mono (by simp))⟩
  · have hd : HeadOk m := ⟨not_f ‹_›, bne_f ‹_›, ‹_›, isEmpty_not ‹_›, bne_f ‹_›, by omega, not_f ‹_›, bne_f ‹_›⟩
    have HD := Lib.hid hd
    have h16 : m.hops.length ≤ 16 := by omega
    have hsa : StrsAt w1 (.slice a m.hops.length c) m.hops := (HH.out.alloc _).below HB.out
    have HSA := Lib.hid hsa
    clear hd hsa
    have e1 : decide (m.num < 0) = false := by simpa using (by omega : 0 ≤ m.num)
    have e2 : decide (2147483647 < m.num) = false := by simpa using (by omega : m.num ≤ 2147483647)
    have e3 : ((subjectE m.sj : Int) != 0) = false := ‹_›
    have e4 : decide ((16 : Int) < (m.hops.length : Int)) = false := by rw [decide_eq_false_iff_not]; omega
    simp only [e1, e2, e3, e4, Bool.or_self]
    clear e1 e2 e4
    go_loop [66] (fun i => ∃ k : Nat, k ≤ m.hops.length ∧ NoneTo (fun i => hopErr m.hops i != 0) k ∧ i = .int .i64 k) (fun i => m.hops.length - (intOf i).toNat)
    case atStart => exact ⟨0, Nat.zero_le _, NoneTo.zero _, rfl⟩
    case round =>
      obtain ⟨k, hk, hnone, rfl⟩ := hrel
      have HN := Lib.hid hnone
      clear hnone
      by_cases hlt : k < m.hops.length
      · obtain ⟨b, off, cap, hv2, hcap, hbs, hx⟩ := HSA.out.at (by omega)
        simp only [Value.slice.injEq] at hv2
        obtain ⟨rfl, _, rfl⟩ := hv2
        have hxk : m.hops[k]? = some m.hops[k] := List.getElem?_eq_getElem hlt
        have hcell := hx k _ hxk
        have HXK := Lib.hid hxk
        have HX := Lib.hid hx
        clear hx hxk
        have hsz := HF.out.hops m.hops[k] (List.getElem_mem hlt)
        have HSZ := Lib.hid hsz
        clear hsz
        have c1 : (0 : Int) ≤ (k : Int) ∧ (k : Int) ≤ (c : Int) := by omega
        go_wp2_with (first | (go_at_call 29; refine (mSite_c m.hops[k] _ HSZ.out).mono ?_; rintro e w' ⟨rfl, rfl⟩) | (go_at_call 40; refine (contains_c (l := m.hops) m.hops[k] k _ (by omega) (by omega) HX.out).mono ?_; rintro e w' ⟨rfl, rfl⟩))
        · go_ret
          have he := bne_t ‹((siteE m.hops[k] : Int) != 0) = true›
          have hh := hop_site HXK.out he
          exact ⟨ret_int (by rw [checkE_head HD.out, if_neg (by omega), hopsE_hit HN.out hlt (by rw [hh]; exact he), hh, if_pos he]), ((Below.refl _ w).alloc (Nat.le_refl _) _).trans (HB.out.mono (by simp))⟩
        · go_ret
          have hh := hop_loop HXK.out (bne_f ‹((siteE m.hops[k] : Int) != 0) = false›) ‹_›
          exact ⟨ret_int (by rw [checkE_head HD.out, if_neg (by omega), hopsE_hit HN.out hlt (by rw [hh]; decide), hh]; rfl), ((Below.refl _ w).alloc (Nat.le_refl _) _).trans (HB.out.mono (by simp))⟩
        · have hh := hop_ok HXK.out (bne_f ‹((siteE m.hops[k] : Int) != 0) = false›) ‹_›
          exact ⟨⟨k + 1, by omega, HN.out.succ (by rw [hh]; rfl), by go_num⟩, by simp [intOf]; omega⟩
      · go_wp2
        · go_ret
          exact ⟨ret_int (by rw [checkE_head HD.out, if_neg (by omega), hopsE_none HN.out (by omega), if_neg (by simp), if_pos (by omega)]; rfl), ((Below.refl _ w).alloc (Nat.le_refl _) _).trans (HB.out.mono (by simp))⟩
        · go_ret
          exact ⟨ret_int (by rw [checkE_head HD.out, if_neg (by omega), hopsE_none HN.out (by omega), if_neg (by simp), if_neg (by omega)]; rfl), ((Below.refl _ w).alloc (Nat.le_refl _) _).trans (HB.out.mono (by simp))⟩
  · go_ret
    exact ⟨ret_int (by rw [ck5 (not_f ‹_›) (bne_f ‹_›) ‹_› (isEmpty_not ‹_›) (bne_f ‹_›) (.inl ‹_›)]; rfl), (Below.refl _ w).alloc (Nat.le_refl _) _⟩
  · go_ret
    exact ⟨ret_int (by rw [ck3 (not_f ‹_›) (bne_f ‹_›) (.inl (by simpa using ‹¬ userB m.tu = true›))]; rfl), (Below.refl _ w).alloc (Nat.le_refl _) _⟩
end Go.Proofs.YtfcfddfjifofgaaDoor
