/- What the reference's Check returns: what the program's returns. -/
import Derived.Test.YtfcfddfjifofgaaDoorCheck
import Derived.WalkSmall
namespace Go.Proofs.YtfcfddfjifofgaaDoor
open Go.RowKit Go.Shelf

theorem containsS_succ {l : List ByteArray} {k : Nat} {x y : ByteArray} (h : l[k]? = some y) : Lib.containsS (l.take (k + 1)) x = (Lib.containsS (l.take k) x || decide (y = x)) := by
  rw [Bool.eq_iff_iff, Lib.containsS_iff, Bool.or_eq_true, Lib.containsS_iff, decide_eq_true_eq]
  rw [List.take_add_one, h, List.mem_append]
  simp [eq_comm]
theorem containsS_zero (l : List ByteArray) (x : ByteArray) : Lib.containsS (l.take 0) x = false := by
  rw [Bool.eq_false_iff]
  intro h
  rw [Lib.containsS_iff] at h
  simp at h
theorem toList_t {x y : ByteArray} (h : (x.toList == y.toList) = true) : x = y := by
  simp only [beq_iff_eq, ByteArray.toList_eq] at h
  exact bytes_ext h
theorem toList_f {x y : ByteArray} (h : (x.toList == y.toList) = false) : ¬ x = y := by
  rintro rfl; simp at h
def NotIn (l : List ByteArray) (k : Nat) (x : ByteArray) : Prop := Lib.containsS (l.take k) x = false
theorem contains_hit {l : List ByteArray} {k n : Nat} {x : ByteArray} (h : l[k]? = some x) (hk : k < n) : Lib.containsS (l.take n) x = true := by
  rw [Lib.containsS_iff]
  exact List.mem_of_getElem? (i := k) (by rw [List.getElem?_take, if_pos hk]; exact h)

set_option maxHeartbeats 400000 in
theorem has_c {l : List ByteArray} {b off cap : Nat} (x : ByteArray) (n : Nat) (w : World) (hn : n ≤ l.length) (hb : n ≤ 9223372036854775807) (hc : ∀ (j : Nat) x, l[j]? = some x → w.cell? ⟨b, off + j, none⟩ = some (.string x)) :
    Calls Tryd.prog 43 #[.slice (some ⟨b, off, none⟩) n cap, .string x] w fun e w' => e = .returned (.bool (Lib.containsS (l.take n) x)) ∧ w' = w := by
  have HC := Lib.hid hc
  clear hc
  go_enter Tryd.func43, Tryd.ntmps43
  go_wp2_with fail
  go_loop [5] (fun i => ∃ k : Nat, k ≤ n ∧ NotIn l k x ∧ i = .int .i64 k) (fun i => n - (intOf i).toNat)
  case atStart => exact ⟨0, Nat.zero_le _, containsS_zero _ _, rfl⟩
  case round =>
    obtain ⟨k, hk, hni, rfl⟩ := hrel
    by_cases hlt : k < n
    · have hxk : l[k]? = some l[k] := List.getElem?_eq_getElem (by omega)
      have hcell := HC.out k _ hxk
      have HXK := Lib.hid hxk
      clear hxk
      go_wp2
      · go_ret
        have e := toList_t ‹_›
        exact ⟨ret_bool (contains_hit (by rw [HXK.out, e]) hlt).symm, rfl⟩
      · have e := toList_f ‹_›
        exact ⟨⟨k + 1, by omega, by rw [NotIn, containsS_succ HXK.out, decide_eq_false e, hni]; rfl, by go_num⟩, by simp [intOf]; omega⟩
    · go_wp2
      go_ret
      exact ⟨ret_bool (by rw [show n = k by omega]; exact hni.symm), rfl⟩

theorem lt_of_cell {w : World} {a : Addr} {v : Value} (h : w.cell? a = some v) : a.block < w.heap.size := World.block_lt_of_cell? _ _ h
theorem has_q {l : List ByteArray} {b off cap : Nat} (x : ByteArray) (n : Nat) (w : World) (q : Nat) (hn : n ≤ l.length) (hb : n ≤ 9223372036854775807) (hc : ∀ (j : Nat) x, l[j]? = some x → w.cell? ⟨b, off + j, none⟩ = some (.string x)) :
    Calls Tryd.prog 43 #[.slice (some ⟨b, off, none⟩) n cap, .string x] (w.drewN q) fun e w' => e = .returned (.bool (Lib.containsS (l.take n) x)) ∧ w' = w.drewN q :=
  has_c x n _ hn hb (fun j x h => hc j x h)
theorem beq_t {n : Nat} (h : ((n : Int) == 0) = true) : n = 0 := by rw [beq_iff_eq] at h; omega
theorem beq_f {n : Nat} (h : ((n : Int) == 0) = false) : n ≠ 0 := by rw [beq_eq_false_iff_ne] at h; omega
set_option maxHeartbeats 2000000 in
theorem rCheck_c (m : Msg) (hv : Value) (w : World) (hf : m.Fits) (hh : StrsAt w hv m.hops) :
    Calls Tryd.prog 16 #[.agg (msgC m hv)] w (CheckPost m w) := by
  unfold msgC
  have HF := Lib.hid hf
  clear hf
  obtain ⟨a, c, hsl⟩ := hh.slice
  have hhv : hv = .slice a m.hops.length c := by rcases hsl with h | h <;> exact h.1
  subst hhv
  have HH := Lib.hid hh
  clear hh hsl
  have hlen := HF.out.len
  unfold maxLen at hlen
  have hbody := HF.out.body
  unfold maxLen at hbody
  go_enter Tryd.func16, Tryd.ntmps16
  go_wp2_with (first | (go_at_call 41; refine (rUser_c _ _ (by first | exact HF.out.fu | exact HF.out.tu)).mono ?_; rintro e w' ⟨rfl, rfl⟩) | (go_at_call 32; refine (rmSite_c _ _ (by first | exact HF.out.fs | exact HF.out.ts)).mono ?_; rintro e w' ⟨rfl, rfl⟩) | (go_at_call 33; refine (rMinute_c _ _).mono ?_; rintro e w' ⟨rfl, rfl⟩) | (go_at_call 42; refine (rSubject_c _ _ HF.out.sj).mono ?_; rintro e w1 ⟨rfl, hb⟩; have HB := Lib.hid hb; have hc6 : w1.cell? ⟨w.heap.size, 6, none⟩ = some (.string m.sj) := (hb.cell (p := ⟨w.heap.size, 6, none⟩) (by simp)).trans (World.cell?_alloc_new _ _ _ 6); have hc7 : w1.cell? ⟨w.heap.size, 7, none⟩ = some (.slice a m.hops.length c) := (hb.cell (p := ⟨w.heap.size, 7, none⟩) (by simp)).trans (World.cell?_alloc_new _ _ _ 7); have hc8 : w1.cell? ⟨w.heap.size, 8, none⟩ = some (.string m.body) := (hb.cell (p := ⟨w.heap.size, 8, none⟩) (by simp)).trans (World.cell?_alloc_new _ _ _ 8); clear hb))
  · go_ret
    exact ⟨ret_int (by rw [ck1 (not_t ‹_›)]; rfl), (Below.refl _ w).alloc (Nat.le_refl _) _⟩
  · go_ret
    exact ⟨ret_int (by rw [ck2 (not_f ‹_›) (bne_t ‹_›)]), (Below.refl _ w).alloc (Nat.le_refl _) _⟩
  · go_ret
    exact ⟨ret_int (by rw [ck3 (not_f ‹_›) (bne_f ‹_›) (.inr (isEmpty_size ‹_›))]; rfl), (Below.refl _ w).alloc (Nat.le_refl _) _⟩
  · go_ret
    exact ⟨ret_int (by rw [ck4 (not_f ‹_›) (bne_f ‹_›) ‹_› (isEmpty_not ‹_›) (bne_t ‹_›)]), (Below.refl _ w).alloc (Nat.le_refl _) _⟩
  · go_ret
    exact ⟨ret_int (by rw [ck5 (not_f ‹_›) (bne_f ‹_›) ‹_› (isEmpty_not ‹_›) (bne_f ‹_›) ‹_›]; rfl), (Below.refl _ w).alloc (Nat.le_refl _) _⟩
  · go_ret
    exact ⟨ret_int (by rw [ck6 (not_f ‹_›) (bne_f ‹_›) ‹_› (isEmpty_not ‹_›) (bne_f ‹_›) (by omega) (not_t ‹_›)]; rfl), (Below.refl _ w).alloc (Nat.le_refl _) _⟩
  · refine (rSubject_c _ _ HF.out.sj).mono ?_
    rintro e w2 ⟨rfl, hb2⟩
    have HB2 := Lib.hid hb2
    clear hb2
    go_wp2
    go_ret
    exact ⟨ret_int (by rw [ck7 (not_f ‹_›) (bne_f ‹_›) ‹_› (isEmpty_not ‹_›) (bne_f ‹_›) (by omega) (not_f ‹_›) (bne_t ‹_›)]), (((Below.refl _ w).alloc (Nat.le_refl _) _).trans (HB.out.mono (by simp))).trans (HB2.out.mono (by have := HB.out.size; simp at this; omega))⟩
  · go_ret
    have hd : HeadOk m := ⟨not_f ‹_›, bne_f ‹_›, ‹_›, isEmpty_not ‹_›, bne_f ‹_›, by omega, not_f ‹_›, bne_f ‹_›⟩
    exact ⟨ret_int (by rw [checkE_head hd, if_pos (by omega)]; rfl), ((Below.refl _ w).alloc (Nat.le_refl _) _).trans (HB.out.mono (by simp))⟩
  · have hd : HeadOk m := ⟨not_f ‹_›, bne_f ‹_›, ‹_›, isEmpty_not ‹_›, bne_f ‹_›, by omega, not_f ‹_›, bne_f ‹_›⟩
    have HD := Lib.hid hd
    have h16 : m.hops.length ≤ 16 := by omega
    have hsa : StrsAt w1 (.slice a m.hops.length c) m.hops := (HH.out.alloc _).below HB.out
    have HSA := Lib.hid hsa
    clear hd hsa
    have e1 : decide (m.num < 0) = false := by simpa using (by omega : 0 ≤ m.num)
    have e2 : decide (2147483647 < m.num) = false := by simpa using (by omega : m.num ≤ 2147483647)
    have e3 : ((subjectE m.sj : Int) != 0) = false := ‹_›
    have e4 : decide ((16 : Int) < (m.hops.length : Int)) = false := by rw [decide_eq_false_iff_not]; omega
    simp only [e1, e2, e3, e4, Bool.or_self]
    clear e1 e2 e4
    have l7 : w.heap.size < w1.heap.size := lt_of_cell hc7
    go_loopw [3] (fun i wr => ∃ k : Nat, k ≤ m.hops.length ∧ NoneTo (fun i => hopErr m.hops i != 0) k ∧ Below w1.heap.size w1 wr ∧ i = .int .i64 k) (fun i _ => m.hops.length - (intOf i).toNat)
    case atStart => exact ⟨0, Nat.zero_le _, NoneTo.zero _, Below.refl _ _, rfl⟩
    case round =>
      obtain ⟨k, hk, hnone, hbr, rfl⟩ := hrel
      have HBR := Lib.hid hbr
      have d7 : wr.cell? ⟨w.heap.size, 7, none⟩ = some (.slice a m.hops.length c) := (hbr.cell (p := ⟨w.heap.size, 7, none⟩) l7).trans hc7
      have d8 : wr.cell? ⟨w.heap.size, 8, none⟩ = some (.string m.body) := (hbr.cell (p := ⟨w.heap.size, 8, none⟩) l7).trans hc8
      clear hc6 hc7 hc8 hbr
      have HN := Lib.hid hnone
      clear hnone
      by_cases hlt : k < m.hops.length
      · obtain ⟨b, off, cap, hv2, hcap, hbs, hx⟩ := HSA.out.at (by omega)
        simp only [Value.slice.injEq] at hv2
        obtain ⟨rfl, _, rfl⟩ := hv2
        have hxk : m.hops[k]? = some m.hops[k] := List.getElem?_eq_getElem hlt
        have hx' : ∀ (j : Nat) x, m.hops[j]? = some x → wr.cell? ⟨b, off + j, none⟩ = some (.string x) := fun j x h => (HBR.out.cell (p := ⟨b, off + j, none⟩) hbs).trans (hx j x h)
        have hcell := hx' k _ hxk
        have HXK := Lib.hid hxk
        have HX := Lib.hid hx'
        clear hx'
        clear hx hxk
        have hsz := HF.out.hops m.hops[k] (List.getElem_mem hlt)
        have HSZ := Lib.hid hsz
        clear hsz
        have c1 : (0 : Int) ≤ (k : Int) ∧ (k : Int) ≤ (c : Int) := by omega
        have c2 : (0 : Int) ≤ (k : Int) ∧ (k : Int) < (m.hops.length : Int) := by omega
        go_wp2_with (first | (go_at_call 32; refine (rmSite_c m.hops[k] _ HSZ.out).mono ?_; rintro e w' ⟨rfl, rfl⟩))
        · go_ret
          have he := bne_t ‹((siteE m.hops[k] : Int) != 0) = true›
          have hh := hop_site HXK.out he
          exact ⟨ret_int (by rw [checkE_head HD.out, if_neg (by omega), hopsE_hit HN.out hlt (by rw [hh]; exact he), hh, if_pos he]), ((((Below.refl _ w).alloc (Nat.le_refl _) _).trans (HB.out.mono (by simp))).trans (HBR.out.mono (by have := HB.out.size; simp at this; omega)))⟩
        · go_quiet ((go_at_call 43; exact Calls.quiet_of_same (has_q (l := m.hops) m.hops[k] k wr _ (by omega) (by omega) HX.out)))
          go_wp2
          · go_ret
            have hh := hop_loop HXK.out (bne_f ‹((siteE m.hops[k] : Int) != 0) = false›) ‹_›
            exact ⟨ret_int (by rw [checkE_head HD.out, if_neg (by omega), hopsE_hit HN.out hlt (by rw [hh]; decide), hh]; rfl), below_drewN ((((Below.refl _ w).alloc (Nat.le_refl _) _).trans (HB.out.mono (by simp))).trans (HBR.out.mono (by have := HB.out.size; simp at this; omega))) _⟩
          · have hh := hop_ok HXK.out (bne_f ‹((siteE m.hops[k] : Int) != 0) = false›) ‹_›
            exact ⟨⟨k + 1, by omega, HN.out.succ (by rw [hh]; rfl), below_drewN HBR.out _, by go_num⟩, by simp [intOf]; omega⟩
      · go_wp2
        · go_ret
          exact ⟨ret_int (by rw [checkE_head HD.out, if_neg (by omega), hopsE_none HN.out (by omega), if_neg (by simp), if_pos (by omega)]; rfl), ((((Below.refl _ w).alloc (Nat.le_refl _) _).trans (HB.out.mono (by simp))).trans (HBR.out.mono (by have := HB.out.size; simp at this; omega)))⟩
        · go_ret
          exact ⟨ret_int (by rw [checkE_head HD.out, if_neg (by omega), hopsE_none HN.out (by omega), if_neg (by simp), if_neg (by omega)]; rfl), ((((Below.refl _ w).alloc (Nat.le_refl _) _).trans (HB.out.mono (by simp))).trans (HBR.out.mono (by have := HB.out.size; simp at this; omega)))⟩
  · go_ret
    exact ⟨ret_int (by rw [ck5 (not_f ‹_›) (bne_f ‹_›) ‹_› (isEmpty_not ‹_›) (bne_f ‹_›) (.inl ‹_›)]; rfl), (Below.refl _ w).alloc (Nat.le_refl _) _⟩
  · go_ret
    exact ⟨ret_int (by rw [ck3 (not_f ‹_›) (bne_f ‹_›) (.inl (by simpa using ‹¬ userB m.tu = true›))]; rfl), (Below.refl _ w).alloc (Nat.le_refl _) _⟩
end Go.Proofs.YtfcfddfjifofgaaDoor
