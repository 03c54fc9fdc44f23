/- What the tests of a site's name and of a user's name return, of the program and of the reference. -/
import Derived.Test.YtfcfddfjifofgaaDoorAscii
import Derived.Test.YtfcfddfjifofgaaDoorShelf
namespace Go.Proofs.YtfcfddfjifofgaaDoor
open Go.RowKit

theorem indexByte_neg (l : List UInt8) (c : UInt8) : Lib.indexByte l c = -1 ∧ c ∉ l ∨ 0 ≤ Lib.indexByte l c ∧ c ∈ l := by
  induction l with
  | nil => simp [Lib.indexByte]
  | cons b l ih =>
    unfold Lib.indexByte
    by_cases e : b = c
    · simp [e]
    · have e' : ¬ c = b := fun h => e h.symm
      rcases ih with ⟨h1, h2⟩ | ⟨h1, h2⟩
      · simp [e, h1, h2, e']
      · have h3 : ¬ Lib.indexByte l c = -1 := by omega
        simp [e, h2, h3]; omega
theorem userC_of (c : UInt8) : userC c = (lowerB c || digitB c || decide (0 ≤ Lib.indexByte [45, 95, 46, 43] c)) := by
  have h := indexByte_neg [45, 95, 46, 43] c
  have e : (c.toNat = 45 ∨ c.toNat = 95 ∨ c.toNat = 46 ∨ c.toNat = 43) ↔ c ∈ ([45, 95, 46, 43] : List UInt8) := by
    simp [← UInt8.toNat_inj]
  unfold userC
  congr 1
  rw [decide_eq_decide, e]
  rcases h with ⟨h1, h2⟩ | ⟨h1, h2⟩
  · simp only [h2, h1, false_iff]; omega
  · simp only [h2, h1]

set_option maxHeartbeats 400000 in
theorem user_c (s : ByteArray) (w : World) (hs : s.size ≤ maxLen) :
    Calls Tryd.prog 38 #[.string s] w fun e w' => e = .returned (.bool (userB s)) ∧ w = w' := by
  unfold maxLen at hs
  go_enter Tryd.func38, Tryd.ntmps38
  go_wp2_with fail
  go_loop [7] (fun i => ∃ k : Nat, k ≤ s.size ∧ AllTo userC s k ∧ i = .int .i64 k) (fun i => s.size - (intOf i).toNat)
  case atStart => exact ⟨0, Nat.zero_le _, AllTo.zero _ _, rfl⟩
  case round =>
    obtain ⟨k, hk, hall, rfl⟩ := hrel
    by_cases hlt : k < s.size
    · go_wp2_with (first | (go_at_call 61; refine (isLower_c s[k] _).mono ?_; rintro e w' ⟨rfl, rfl⟩) | (go_at_call 62; refine (isDigit_c s[k] _).mono ?_; rintro e w' ⟨rfl, rfl⟩) | (go_at_call 63; refine (Tryd.strings_IndexByte _ _ _).mono ?_; rintro e w' ⟨rfl, rfl⟩))
      case roundEnd => exact ⟨⟨k + 1, by omega, hall.succ hlt (by rw [userC_of]; simp [*]), by go_num⟩, by simp [intOf]; omega⟩
      case roundEnd => exact ⟨⟨k + 1, by omega, hall.succ hlt (by rw [userC_of]; simp [*]), by go_num⟩, by simp [intOf]; omega⟩
      · go_ret
        have hx : userC s[k] = false := by rw [userC_of]; simp [*]
        exact ⟨ret_bool (by rw [userB, all_false_at hlt hx]; rfl), rfl⟩
      · exact ⟨⟨k + 1, by omega, hall.succ hlt (by rw [userC_of]; simp [*]), by go_num⟩, by simp [intOf]; omega⟩
    · go_wp2
      go_ret
      refine ⟨ret_bool ?_, rfl⟩
      rw [userB, hall.full (by omega)]
      rw [Bool.eq_iff_iff]; first | (simp; done) | (simp; omega)

set_option maxHeartbeats 400000 in
theorem misplaced_c (s : ByteArray) (k : Nat) (hk : k < s.size) (w : World) (hs : s.size ≤ maxLen) :
    Calls Tryd.prog 77 #[.string s, .int .i64 k] w fun e w' => e = .returned (.bool (misB s k)) ∧ w = w' := by
  unfold maxLen at hs
  by_cases h0 : k = 0
  · subst h0
    go_enter Tryd.func77, Tryd.ntmps77
    go_wp2_with (first | (go_at_call 61; refine (isLower_c s[0] _).mono ?_; rintro e w' ⟨rfl, rfl⟩))
    go_ret
    exact ⟨ret_bool (by simp [misB, bt'_at hk]), rfl⟩
  · have h1 : bt' s k = s[k] := bt'_at hk
    have h2 : bt' s (k - 1) = s[k - 1] := bt'_at (by omega)
    have H1 := Lib.hid h1
    have H2 := Lib.hid h2
    clear h1 h2
    have hp : 1 ≤ k := by omega
    go_enter Tryd.func77, Tryd.ntmps77
    go_wp2
    all_goals
      go_ret
      refine ⟨ret_bool ?_, rfl⟩
      unfold misB
      rw [if_neg h0, H1.out, H2.out]
      generalize s[k].toNat = x at *
      generalize s[k - 1].toNat = y at *
      rw [Bool.eq_iff_iff]
      split <;> simp at * <;> omega

theorem empty_of {s : ByteArray} (h : s.size = 0) : s = ⟨#[]⟩ := by
  cases s with
  | mk d => have : d = #[] := Array.eq_empty_of_size_eq_zero h; rw [this]
theorem nonempty_of {s : ByteArray} (h : ¬ s.size = 0) : s.toList.isEmpty = false := by
  rw [ByteArray.toList_eq]
  cases e : s.data.toList with
  | nil => exact absurd (by rw [ByteArray.size, ← Array.length_toList, e]; rfl) h
  | cons x l => rfl
set_option maxHeartbeats 400000 in
theorem site_c (s : ByteArray) (w : World) (hs : s.size ≤ maxLen) :
    Calls Tryd.prog 54 #[.string s] w fun e w' => e = .returned (.tuple #[.int .i64 (siteR s).1, .int .i64 (siteR s).2]) ∧ w = w' := by
  unfold maxLen at hs
  by_cases h0 : s.size = 0
  · obtain rfl := empty_of h0
    go_enter Tryd.func54, Tryd.ntmps54
    go_wp2
    go_ret2
    exact ⟨rfl, rfl⟩
  have h0' := nonempty_of h0
  by_cases h30 : 30 < s.size
  · go_enter Tryd.func54, Tryd.ntmps54
    go_wp2
    go_ret2
    exact ⟨by rw [siteR, if_neg h0, if_pos h30]; rfl, rfl⟩
  go_enter Tryd.func54, Tryd.ntmps54
  go_wp2_with fail
  go_loop [15] (fun i => ∃ k : Nat, k ≤ s.size ∧ NoneTo (fun i => !permitB (bt' s i)) k ∧ i = .int .i64 k) (fun i => s.size - (intOf i).toNat)
  case atStart => exact ⟨0, Nat.zero_le _, NoneTo.zero _, rfl⟩
  case round =>
    obtain ⟨k, hk, hall, rfl⟩ := hrel
    have H := Lib.hid hall
    clear hall
    by_cases hlt : k < s.size
    · have hb := Lib.hid (bt'_at hlt)
      go_wp2_with (go_at_call 76; refine (permitted_c s[k] _).mono ?_; rintro e w' ⟨rfl, rfl⟩)
      · go_ret2
        exact ⟨by rw [siteR, if_neg h0, if_neg h30, H.out.hit hlt (by rw [hb.out]; assumption)]; rfl, rfl⟩
      · exact ⟨⟨k + 1, by omega, H.out.succ (by rw [hb.out]; assumption), by go_num⟩, by simp [intOf]; omega⟩
    · go_wp2
      go_loop [27] (fun i => ∃ k : Nat, k ≤ s.size ∧ NoneTo (misB s) k ∧ i = .int .i64 k) (fun i => s.size - (intOf i).toNat)
      case atStart => exact ⟨0, Nat.zero_le _, NoneTo.zero _, rfl⟩
      case round =>
        obtain ⟨j, hj, hall2, rfl⟩ := hrel
        have H2 := Lib.hid hall2
        clear hall2
        by_cases hlt2 : j < s.size
        · go_wp2_with (go_at_call 77; refine (misplaced_c s j hlt2 _ (by unfold maxLen; omega)).mono ?_; rintro e w' ⟨rfl, rfl⟩)
          · go_ret2
            exact ⟨by rw [siteR, if_neg h0, if_neg h30, H.out.full (by omega), H2.out.hit hlt2 (by assumption)]; rfl, rfl⟩
          · exact ⟨⟨j + 1, by omega, H2.out.succ (by assumption), by go_num⟩, by simp [intOf]; omega⟩
        · go_wp2
          go_ret2
          exact ⟨by rw [siteR, if_neg h0, if_neg h30, H.out.full (by omega), H2.out.full (by omega)]; rfl, rfl⟩

theorem permitB_of (c : UInt8) : permitB c = decide (97 ≤ (c.toNat : Int) ∧ (c.toNat : Int) ≤ 122 ∨ 48 ≤ (c.toNat : Int) ∧ (c.toNat : Int) ≤ 57 ∨ (c.toNat : Int) = 45 ∨ (c.toNat : Int) = 46) := by
  rw [Bool.eq_iff_iff]; simp [permitB, lowerB, digitB]; omega
theorem misB_first {s : ByteArray} (h : 0 < s.size) : misB s 0 = !decide (97 ≤ (s[0].toNat : Int) ∧ (s[0].toNat : Int) ≤ 122) := by
  unfold misB; rw [if_pos rfl, bt'_at h, Bool.eq_iff_iff]; simp [lowerB]; omega
theorem misB_next {s : ByteArray} {k : Nat} (h : k < s.size) (h0 : ¬ k = 0) : misB s k = decide ((s[k].toNat : Int) = 46 ∧ (s[k - 1].toNat : Int) = 46 ∨ k + 1 = s.size ∧ ((s[k].toNat : Int) = 45 ∨ (s[k].toNat : Int) = 46)) := by
  unfold misB; rw [if_neg h0, bt'_at h, bt'_at (by omega), Bool.eq_iff_iff]; split <;> simp <;> omega

/-- What a byte can be, for the tests of a site's name. -/
theorem byte_cases (x : Int) : (97 ≤ x ∧ x ≤ 122 ∧ (x == 45) = false ∧ (x == 46) = false) ∨ (48 ≤ x ∧ x ≤ 57 ∧ (x == 45) = false ∧ (x == 46) = false) ∨ x = 45 ∨ x = 46 ∨
    (x ≤ 44 ∧ (x == 45) = false ∧ (x == 46) = false) ∨ x = 47 ∨ (58 ≤ x ∧ x ≤ 96 ∧ decide (x ≤ 57) = false ∧ (x == 45) = false ∧ (x == 46) = false) ∨ (123 ≤ x ∧ decide (x ≤ 122) = false ∧ decide (x ≤ 57) = false ∧ (x == 45) = false ∧ (x == 46) = false) := by
  simp; omega
theorem beq_cases (x y : Int) : x = y ∧ (x == y) = true ∨ (x < y ∨ y < x) ∧ (x == y) = false := by
  simp; omega

set_option maxHeartbeats 1000000 in
theorem rSite_c (s : ByteArray) (w : World) (hs : s.size ≤ maxLen) :
    Calls Tryd.prog 56 #[.string s] w fun e w' => e = .returned (.tuple #[.int .i64 (siteR s).1, .int .i64 (siteR s).2]) ∧ w = w' := by
  unfold maxLen at hs
  by_cases h0 : s.size = 0
  · obtain rfl := empty_of h0
    go_enter Tryd.func56, Tryd.ntmps56
    go_wp2
    go_ret2
    exact ⟨rfl, rfl⟩
  have h0' := nonempty_of h0
  by_cases h30 : 30 < s.size
  · go_enter Tryd.func56, Tryd.ntmps56
    go_wp2
    go_ret2
    exact ⟨by rw [siteR, if_neg h0, if_pos h30]; rfl, rfl⟩
  go_enter Tryd.func56, Tryd.ntmps56
  go_wp2_with fail
  go_loop [4] (fun i => ∃ k : Nat, k ≤ s.size ∧ NoneTo (fun i => !permitB (bt' s i)) k ∧ i = .int .i64 k) (fun i => s.size - (intOf i).toNat)
  case atStart => exact ⟨0, Nat.zero_le _, NoneTo.zero _, rfl⟩
  case round =>
    obtain ⟨k, hk, hall, rfl⟩ := hrel
    have H := Lib.hid hall
    clear hall
    by_cases hlt : k < s.size
    · have hb := Lib.hid (bt'_at hlt)
      have hp := Lib.hid (permitB_of s[k])
      rcases byte_cases (s[k].toNat : Int) with hx | hx | hx | hx | hx | hx | hx | hx
      iterate 4
        · go_wp2
          exact ⟨⟨k + 1, by omega, H.out.succ (by rw [hb.out, hp.out]; simp; omega), by go_num⟩, by simp [intOf]; omega⟩
      all_goals
        go_wp2
        go_ret2
        exact ⟨by rw [siteR, if_neg h0, if_neg h30, H.out.hit hlt (by rw [hb.out, hp.out]; simp; omega)]; rfl, rfl⟩
    · go_wp2
      go_loop [6] (fun i => ∃ k : Nat, k ≤ s.size ∧ NoneTo (misB s) k ∧ i = .int .i64 k) (fun i => s.size - (intOf i).toNat)
      case atStart => exact ⟨0, Nat.zero_le _, NoneTo.zero _, rfl⟩
      case round =>
        obtain ⟨j, hj, hall2, rfl⟩ := hrel
        have H2 := Lib.hid hall2
        clear hall2
        by_cases hlt2 : j < s.size
        · by_cases hz : j = 0
          · subst hz
            have hm := Lib.hid (misB_first hlt2)
            rcases byte_cases (s[0].toNat : Int) with hx | hx | hx | hx | hx | hx | hx | hx
            · by_cases hl : s.size = 1
              · go_wp2
                exact ⟨⟨1, by omega, H2.out.succ (by rw [hm.out]; simp; omega), by go_num⟩, by simp [intOf]; omega⟩
              · go_wp2
                exact ⟨⟨1, by omega, H2.out.succ (by rw [hm.out]; simp; omega), by go_num⟩, by simp [intOf]; omega⟩
            all_goals
              go_wp2
              go_ret2
              exact ⟨by rw [siteR, if_neg h0, if_neg h30, H.out.full (by omega), H2.out.hit hlt2 (by rw [hm.out]; simp; omega)]; rfl, rfl⟩
          · have hm := Lib.hid (misB_next hlt2 hz)
            have hj0 : 1 ≤ j := by omega
            have hj1 : ((j : Int) == 0) = false := by simp; omega
            rcases beq_cases (s[j - 1].toNat : Int) 46 with ⟨hy, hy'⟩ | ⟨hy, hy'⟩ <;> have HY := Lib.hid hy <;> clear hy <;>
            rcases beq_cases (j : Int) ((s.size : Int) - 1) with ⟨hl, hl'⟩ | ⟨hl, hl'⟩ <;> have HL := Lib.hid hl <;> clear hl <;>
            rcases byte_cases (s[j].toNat : Int) with hx | hx | hx | hx | hx | hx | hx | hx
            all_goals
              go_wp2
              have hy := HY.out
              have hl := HL.out
              first
                | (refine ⟨⟨j + 1, by omega, H2.out.succ ?_, by go_num⟩, by simp [intOf]; omega⟩
                   rw [hm.out]; simp; omega)
                | (go_ret2
                   refine ⟨?_, rfl⟩
                   rw [siteR, if_neg h0, if_neg h30, H.out.full (by omega), H2.out.hit hlt2 (by rw [hm.out]; simp; omega)]; rfl)
        · go_wp2
          go_ret2
          exact ⟨by rw [siteR, if_neg h0, if_neg h30, H.out.full (by omega), H2.out.full (by omega)]; rfl, rfl⟩

set_option maxHeartbeats 400000 in
theorem mSite_c (s : ByteArray) (w : World) (hs : s.size ≤ maxLen) :
    Calls Tryd.prog 29 #[.string s] w fun e w' => e = .returned (.int .i64 (siteE s)) ∧ w = w' := by
  go_enter Tryd.func29, Tryd.ntmps29
  go_wp2_with (go_at_call 54; refine (site_c s _ hs).mono ?_; rintro e w' ⟨rfl, rfl⟩)
  go_ret
  exact ⟨rfl, rfl⟩
set_option maxHeartbeats 400000 in
theorem rmSite_c (s : ByteArray) (w : World) (hs : s.size ≤ maxLen) :
    Calls Tryd.prog 32 #[.string s] w fun e w' => e = .returned (.int .i64 (siteE s)) ∧ w = w' := by
  go_enter Tryd.func32, Tryd.ntmps32
  go_wp2_with (go_at_call 56; refine (rSite_c s _ hs).mono ?_; rintro e w' ⟨rfl, rfl⟩)
  go_ret
  exact ⟨rfl, rfl⟩

end Go.Proofs.YtfcfddfjifofgaaDoor
