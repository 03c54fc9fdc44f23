/- What ascii.span, the closures that it is given, and ascii.Words return. -/
import Derived.Test.YtfcfddfjifofgaaDoorAscii
import Derived.Test.YtfcfddfjifofgaaDoorPureW
import Derived.Shelf.Abstract
namespace Go.Proofs.YtfcfddfjifofgaaDoor
open Go.RowKit Go.Shelf

/-- A function value that computes a class of bytes in every world that meets W. -/
def ClassOf (f : Nat) (cap : Array Value) (p : UInt8 → Bool) (w : World) : Prop :=
  (∀ args w, (callFunc f args).run Tryd.prog w = .ok (.enter f args) w) ∧ ∀ c : UInt8, Calls Tryd.prog f (#[.int .u8 c.toNat] ++ cap) w fun e w' => e = .returned (.bool (p c)) ∧ w = w'

theorem classBlank (w : World) : ClassOf 128 #[] blankB w := ⟨enters_of Tryd.func128 (by kernel_rfl) rfl, fun c => isBlank_c c w⟩
theorem classDigit (w : World) : ClassOf 62 #[] digitB w := ⟨enters_of Tryd.func62 (by kernel_rfl) rfl, fun c => isDigit_c c w⟩

set_option maxHeartbeats 400000 in
theorem not1_c (c : UInt8) (b : Nat) (w : World) (hc : w.cell? ⟨b, 0, none⟩ = some (.func (.func 128) #[] #[])) :
    Calls Tryd.prog 136 #[.int .u8 c.toNat, .pointer (some ⟨b, 0, none⟩)] w fun e w' => e = .returned (.bool (!blankB c)) ∧ w = w' := by
  go_enter Tryd.func136, Tryd.ntmps136
  go_wp2_with (go_at_call 128; refine (isBlank_c c _).mono ?_; rintro e w' ⟨rfl, rfl⟩)
  go_ret
  exact ⟨rfl, rfl⟩
theorem classVisible (b : Nat) (w : World) (hc : w.cell? ⟨b, 0, none⟩ = some (.func (.func 128) #[] #[])) :
    ClassOf 136 #[.pointer (some ⟨b, 0, none⟩)] (fun c => !blankB c) w := ⟨enters_of Tryd.func136 (by kernel_rfl) rfl, fun c => not1_c c b w hc⟩
def printB (c : UInt8) : Bool := c.toNat == 32 || visibleB c
set_option maxHeartbeats 400000 in
theorem printable1_c (c : UInt8) (w : World) :
    Calls Tryd.prog 86 #[.int .u8 c.toNat] w fun e w' => e = .returned (.bool (printB c)) ∧ w = w' := by
  by_cases h : c.toNat = 32
  · have h1 : ((c.toNat : Int) == 32) = true := by rw [beq_iff_eq]; omega
    go_enter Tryd.func86, Tryd.ntmps86
    go_wp2_with (go_at_call 87; refine (isVisible_c c _).mono ?_; rintro e w' ⟨rfl, rfl⟩)
    go_ret
    exact ⟨ret_bool (by simp [printB, h]), rfl⟩
  · have h1 : ((c.toNat : Int) == 32) = false := by rw [beq_eq_false_iff_ne]; omega
    go_enter Tryd.func86, Tryd.ntmps86
    go_wp2_with (go_at_call 87; refine (isVisible_c c _).mono ?_; rintro e w' ⟨rfl, rfl⟩)
    go_ret
    exact ⟨ret_bool (by simp [printB, h]), rfl⟩
theorem classPrint (w : World) : ClassOf 86 #[] printB w := ⟨enters_of Tryd.func86 (by kernel_rfl) rfl, fun c => printable1_c c w⟩

set_option maxHeartbeats 400000 in
theorem span_c (f : Nat) (cap : Array Value) (p : UInt8 → Bool) (s : ByteArray) (k : Nat) (hk : k ≤ s.size) (w : World) (hs : s.size ≤ maxLen) (hp : ClassOf f cap p w) :
    Calls Tryd.prog 85 #[.string s, .int .i64 k, .func (.func f) #[] cap] w fun e w' => e = .returned (.int .i64 (spanP p s k)) ∧ w = w' := by
  unfold maxLen at hs
  obtain ⟨eg, hp⟩ := hp
  have HP := Lib.hid hp
  clear hp
  go_enter Tryd.func85, Tryd.ntmps85
  go_wp2_with fail
  go_loop [1] (fun i => ∃ j : Nat, j ≤ s.size ∧ Hid (spanP p s k = spanP p s j) ∧ i = .int .i64 j) (fun i => s.size - (intOf i).toNat)
  case atStart => exact ⟨k, hk, Lib.hid rfl, rfl⟩
  case round =>
    obtain ⟨j, hj, HE, rfl⟩ := hrel
    by_cases hlt : j < s.size
    · cases hq : p s[j]
      all_goals
        have HC : Hid (Calls Tryd.prog f (#[.int .u8 s[j].toNat] ++ cap) w fun e w' => e = .returned (.bool (p s[j])) ∧ w = w') := HP.out _
        have hq' := Lib.hid hq
        rw [hq] at HC
        clear hq
        go_wp2_with (go_at_fn f; refine HC.out.mono ?_; rintro e w' ⟨rfl, rfl⟩)
      · go_ret
        exact ⟨ret_int (by rw [HE.out, spanP_stop hlt hq'.out]), rfl⟩
      · exact ⟨⟨j + 1, by omega, HE.out.trans (spanP_step hlt hq'.out), by go_num⟩, by simp [intOf]; omega⟩
    · go_wp2
      go_ret
      exact ⟨ret_int (by rw [HE.out, spanP_end (by omega)]), rfl⟩
end Go.Proofs.YtfcfddfjifofgaaDoor
