/- What the byte classes of ascii and of the first reference return. -/
import Derived.Test.YtfcfddfjifofgaaDoorProg
import Derived.Test.YtfcfddfjifofgaaDoorPure
namespace Go.Proofs.YtfcfddfjifofgaaDoor
open Go.RowKit

set_option maxHeartbeats 400000 in
theorem isLower_c (c : UInt8) (w : World) :
    Calls Tryd.prog 61 #[.int .u8 c.toNat] w fun e w' => e = .returned (.bool (lowerB c)) ∧ w = w' := by
  go_enter Tryd.func61, Tryd.ntmps61
  go_wp2
  all_goals
    go_ret
    exact ⟨ret_bool (by rw [Bool.eq_iff_iff]; simp only [lowerB]; first | (simp; done) | (simp; omega)), rfl⟩
set_option maxHeartbeats 400000 in
theorem isDigit_c (c : UInt8) (w : World) :
    Calls Tryd.prog 62 #[.int .u8 c.toNat] w fun e w' => e = .returned (.bool (digitB c)) ∧ w = w' := by
  go_enter Tryd.func62, Tryd.ntmps62
  go_wp2
  all_goals
    go_ret
    exact ⟨ret_bool (by rw [Bool.eq_iff_iff]; simp only [digitB]; first | (simp; done) | (simp; omega)), rfl⟩
set_option maxHeartbeats 400000 in
theorem isUpper_c (c : UInt8) (w : World) :
    Calls Tryd.prog 139 #[.int .u8 c.toNat] w fun e w' => e = .returned (.bool (upperB c)) ∧ w = w' := by
  go_enter Tryd.func139, Tryd.ntmps139
  go_wp2
  all_goals
    go_ret
    exact ⟨ret_bool (by rw [Bool.eq_iff_iff]; simp only [upperB]; first | (simp; done) | (simp; omega)), rfl⟩
set_option maxHeartbeats 400000 in
theorem isVisible_c (c : UInt8) (w : World) :
    Calls Tryd.prog 87 #[.int .u8 c.toNat] w fun e w' => e = .returned (.bool (visibleB c)) ∧ w = w' := by
  go_enter Tryd.func87, Tryd.ntmps87
  go_wp2
  all_goals
    go_ret
    exact ⟨ret_bool (by rw [Bool.eq_iff_iff]; simp only [visibleB]; first | (simp; done) | (simp; omega)), rfl⟩
set_option maxHeartbeats 400000 in
theorem isBlank_c (c : UInt8) (w : World) :
    Calls Tryd.prog 128 #[.int .u8 c.toNat] w fun e w' => e = .returned (.bool (blankB c)) ∧ w = w' := by
  go_enter Tryd.func128, Tryd.ntmps128
  go_wp2
  all_goals
    go_ret
    exact ⟨ret_bool (by rw [Bool.eq_iff_iff]; simp only [blankB]; first | (simp; done) | (simp; omega)), rfl⟩
set_option maxHeartbeats 400000 in
theorem isLetter_c (c : UInt8) (w : World) :
    Calls Tryd.prog 135 #[.int .u8 c.toNat] w fun e w' => e = .returned (.bool (letterB c)) ∧ w = w' := by
  go_enter Tryd.func135, Tryd.ntmps135
  go_wp2_with (first | (go_at_call 61; refine (isLower_c c _).mono ?_; rintro e w' ⟨rfl, rfl⟩) | (go_at_call 139; refine (isUpper_c c _).mono ?_; rintro e w' ⟨rfl, rfl⟩))
  all_goals
    go_ret
    exact ⟨ret_bool (by simp [letterB, *]), rfl⟩
set_option maxHeartbeats 400000 in
theorem rLower_c (c : UInt8) (w : World) :
    Calls Tryd.prog 67 #[.int .u8 c.toNat] w fun e w' => e = .returned (.bool (lowerB c)) ∧ w = w' := by
  go_enter Tryd.func67, Tryd.ntmps67
  go_wp2
  all_goals
    go_ret
    exact ⟨ret_bool (by rw [Bool.eq_iff_iff]; simp only [lowerB]; first | (simp; done) | (simp; omega)), rfl⟩
set_option maxHeartbeats 400000 in
theorem rDigit_c (c : UInt8) (w : World) :
    Calls Tryd.prog 68 #[.int .u8 c.toNat] w fun e w' => e = .returned (.bool (digitB c)) ∧ w = w' := by
  go_enter Tryd.func68, Tryd.ntmps68
  go_wp2
  all_goals
    go_ret
    exact ⟨ret_bool (by rw [Bool.eq_iff_iff]; simp only [digitB]; first | (simp; done) | (simp; omega)), rfl⟩
set_option maxHeartbeats 400000 in
theorem rVisible_c (c : UInt8) (w : World) :
    Calls Tryd.prog 89 #[.int .u8 c.toNat] w fun e w' => e = .returned (.bool (visibleB c)) ∧ w = w' := by
  go_enter Tryd.func89, Tryd.ntmps89
  go_wp2
  all_goals
    go_ret
    exact ⟨ret_bool (by rw [Bool.eq_iff_iff]; simp only [visibleB]; first | (simp; done) | (simp; omega)), rfl⟩
set_option maxHeartbeats 400000 in
theorem rBlank_c (c : UInt8) (w : World) :
    Calls Tryd.prog 109 #[.int .u8 c.toNat] w fun e w' => e = .returned (.bool (blankB c)) ∧ w = w' := by
  go_enter Tryd.func109, Tryd.ntmps109
  go_wp2
  all_goals
    go_ret
    exact ⟨ret_bool (by rw [Bool.eq_iff_iff]; simp only [blankB]; first | (simp; done) | (simp; omega)), rfl⟩
set_option maxHeartbeats 400000 in
theorem minute_c (n : Int) (w : World) :
    Calls Tryd.prog 30 #[.int .i64 n] w fun e w' => e = .returned (.bool (minuteB n)) ∧ w = w' := by
  go_enter Tryd.func30, Tryd.ntmps30
  go_wp2
  all_goals
    go_ret
    exact ⟨ret_bool (by rw [Bool.eq_iff_iff]; simp only [minuteB]; first | (simp; done) | (simp; omega)), rfl⟩
set_option maxHeartbeats 400000 in
theorem rMinute_c (n : Int) (w : World) :
    Calls Tryd.prog 33 #[.int .i64 n] w fun e w' => e = .returned (.bool (minuteB n)) ∧ w = w' := by
  go_enter Tryd.func33, Tryd.ntmps33
  go_wp2
  all_goals
    go_ret
    exact ⟨ret_bool (by rw [Bool.eq_iff_iff]; simp only [minuteB]; first | (simp; done) | (simp; omega)), rfl⟩
set_option maxHeartbeats 400000 in
theorem permitted_c (c : UInt8) (w : World) :
    Calls Tryd.prog 76 #[.int .u8 c.toNat] w fun e w' => e = .returned (.bool (permitB c)) ∧ w = w' := by
  go_enter Tryd.func76, Tryd.ntmps76
  go_wp2_with (first | (go_at_call 61; refine (isLower_c c _).mono ?_; rintro e w' ⟨rfl, rfl⟩) | (go_at_call 62; refine (isDigit_c c _).mono ?_; rintro e w' ⟨rfl, rfl⟩))
  all_goals
    go_ret
    exact ⟨ret_bool (by rw [Bool.eq_iff_iff]; simp only [permitB]; first | (simp [*]; done) | (simp [*]; omega)), rfl⟩
end Go.Proofs.YtfcfddfjifofgaaDoor
