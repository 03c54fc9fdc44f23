/- What the reference's test of a user's name returns. -/
import Derived.Test.YtfcfddfjifofgaaDoorAscii
namespace Go.Proofs.YtfcfddfjifofgaaDoor
open Go.RowKit

theorem bne_cases (x y : Int) : x = y ∧ (x != y) = false ∨ ¬ x = y ∧ (x != y) = true := by
  by_cases h : x = y
  · exact .inl ⟨h, by simp [h]⟩
  · exact .inr ⟨h, by simp [h]⟩
set_option maxHeartbeats 400000 in
theorem rUser_c (s : ByteArray) (w : World) (hs : s.size ≤ maxLen) :
    Calls Tryd.prog 41 #[.string s] w fun e w' => e = .returned (.bool (userB s)) ∧ w = w' := by
  unfold maxLen at hs
  go_enter Tryd.func41, Tryd.ntmps41
  go_wp2_with fail
  go_loop [3] (fun i => ∃ k : Nat, k ≤ s.size ∧ AllTo userC s k ∧ i = .int .i64 k) (fun i => s.size - (intOf i).toNat)
  case atStart => exact ⟨0, Nat.zero_le _, AllTo.zero _ _, rfl⟩
  case round =>
    obtain ⟨k, hk, hall, rfl⟩ := hrel
    by_cases hlt : k < s.size
    · have hp : userC s[k] = (lowerB s[k] || digitB s[k] || decide ((s[k].toNat : Int) = 45 ∨ (s[k].toNat : Int) = 95 ∨ (s[k].toNat : Int) = 46 ∨ (s[k].toNat : Int) = 43)) := by
        unfold userC; congr 1; rw [decide_eq_decide]; omega
      have HP := Lib.hid hp
      clear hp
      rcases Bool.eq_false_or_eq_true (lowerB s[k]) with h1 | h1
      · go_wp2_with (first | (go_at_call 67; refine (rLower_c s[k] _).mono ?_; rintro e w' ⟨rfl, rfl⟩) | (go_at_call 68; refine (rDigit_c s[k] _).mono ?_; rintro e w' ⟨rfl, rfl⟩))
        exact ⟨⟨k + 1, by omega, hall.succ hlt (by rw [HP.out, h1]; rfl), by go_num⟩, by simp [intOf]; omega⟩
      rcases Bool.eq_false_or_eq_true (digitB s[k]) with h2 | h2
      · go_wp2_with (first | (go_at_call 67; refine (rLower_c s[k] _).mono ?_; rintro e w' ⟨rfl, rfl⟩) | (go_at_call 68; refine (rDigit_c s[k] _).mono ?_; rintro e w' ⟨rfl, rfl⟩))
        exact ⟨⟨k + 1, by omega, hall.succ hlt (by rw [HP.out, h1, h2]; rfl), by go_num⟩, by simp [intOf]; omega⟩
      rcases bne_cases (s[k].toNat : Int) 45 with ⟨hx, hx'⟩ | ⟨n45, m45⟩
      · have HX := Lib.hid hx
        clear hx
        go_wp2_with (first | (go_at_call 67; refine (rLower_c s[k] _).mono ?_; rintro e w' ⟨rfl, rfl⟩) | (go_at_call 68; refine (rDigit_c s[k] _).mono ?_; rintro e w' ⟨rfl, rfl⟩))
        have hx := HX.out
        exact ⟨⟨k + 1, by omega, hall.succ hlt (HP.out.trans (by rw [decide_eq_true (by omega), Bool.or_true])), by go_num⟩, by simp [intOf]; omega⟩
      rcases bne_cases (s[k].toNat : Int) 95 with ⟨hx, hx'⟩ | ⟨n95, m95⟩
      · have HX := Lib.hid hx
        clear hx
        go_wp2_with (first | (go_at_call 67; refine (rLower_c s[k] _).mono ?_; rintro e w' ⟨rfl, rfl⟩) | (go_at_call 68; refine (rDigit_c s[k] _).mono ?_; rintro e w' ⟨rfl, rfl⟩))
        have hx := HX.out
        exact ⟨⟨k + 1, by omega, hall.succ hlt (HP.out.trans (by rw [decide_eq_true (by omega), Bool.or_true])), by go_num⟩, by simp [intOf]; omega⟩
      rcases bne_cases (s[k].toNat : Int) 46 with ⟨hx, hx'⟩ | ⟨n46, m46⟩
      · have HX := Lib.hid hx
        clear hx
        go_wp2_with (first | (go_at_call 67; refine (rLower_c s[k] _).mono ?_; rintro e w' ⟨rfl, rfl⟩) | (go_at_call 68; refine (rDigit_c s[k] _).mono ?_; rintro e w' ⟨rfl, rfl⟩))
        have hx := HX.out
        exact ⟨⟨k + 1, by omega, hall.succ hlt (HP.out.trans (by rw [decide_eq_true (by omega), Bool.or_true])), by go_num⟩, by simp [intOf]; omega⟩
      rcases bne_cases (s[k].toNat : Int) 43 with ⟨hx, hx'⟩ | ⟨n43, m43⟩
      · have HX := Lib.hid hx
        clear hx
        go_wp2_with (first | (go_at_call 67; refine (rLower_c s[k] _).mono ?_; rintro e w' ⟨rfl, rfl⟩) | (go_at_call 68; refine (rDigit_c s[k] _).mono ?_; rintro e w' ⟨rfl, rfl⟩))
        have hx := HX.out
        exact ⟨⟨k + 1, by omega, hall.succ hlt (HP.out.trans (by rw [decide_eq_true (by omega), Bool.or_true])), by go_num⟩, by simp [intOf]; omega⟩
      go_wp2_with (first | (go_at_call 67; refine (rLower_c s[k] _).mono ?_; rintro e w' ⟨rfl, rfl⟩) | (go_at_call 68; refine (rDigit_c s[k] _).mono ?_; rintro e w' ⟨rfl, rfl⟩))
      go_ret
      exact ⟨ret_bool (by rw [userB, all_false_at hlt (by rw [HP.out, h1, h2, decide_eq_false (by omega)]; rfl)]; rfl), rfl⟩
    · go_wp2
      go_ret
      refine ⟨ret_bool ?_, rfl⟩
      rw [userB, hall.full (by omega)]
      rw [Bool.eq_iff_iff]; first | (simp; done) | (simp; omega)
end Go.Proofs.YtfcfddfjifofgaaDoor
