/- The plain law of MailBounces: a bounce is a valid message and has no bounce. -/
import Derived.Test.YtfcfddfjifofgaaDoorBounce
import Derived.Test.YtfcfddfjifofgaaDoorSame
namespace Go.Proofs.YtfcfddfjifofgaaDoor
open Go.RowKit Go.Shelf

theorem cutB_fits {s : ByteArray} (h : s.size ≤ maxLen) : (cutB s).size ≤ maxLen := by
  unfold cutB
  rw [ByteArray.size_extract]
  omega
theorem toM_fits {m : Msg} (h : m.Fits) : (toM m).Fits :=
  ⟨h.fu, h.fs, h.tu, h.ts, h.sj, by
    exact cutB_fits h.body, by have := h.len; show (m.hops.take 20).length ≤ _; unfold maxLen at *; simp; omega, fun x hx => h.hops x (List.mem_of_mem_take hx)⟩
theorem bounce_none (m : Msg) (site : ByteArray) (code now : Int) : bouncesB (bounceR m site code now) site now = false := by
  have h : (bounceR m site code now).fu = ⟨#[]⟩ := by unfold bounceR; split <;> rfl
  exact decide_eq_false (fun h1 => h1.1 (by rw [h]; rfl))
theorem bounceB_size {m : Msg} {code : Int} (h : checkE m = 0) (h0 : -9223372036854775808 ≤ code) (h1 : code ≤ 9223372036854775807) : (bounceB m code).size ≤ 300 := by
  obtain ⟨hd, _, _, _⟩ := checkE_ok h
  have z1 := user_size hd.a3
  have z2 := site_size hd.a5
  have z3 := subject_size hd.a8
  have z4 : (itoaB code).size ≤ 21 := by
    have := Lib.itoa_length_le code h0 h1
    simpa [itoaB, ByteArray.size] using this
  have z5 : (textA m.tu m.ts).size ≤ 71 := by
    unfold textA; rw [ByteArray.size_append, ByteArray.size_append, sat]; omega
  unfold bounceB
  simp only [ByteArray.size_append]
  have e1 : (⟨#[32]⟩ : ByteArray).size = 1 := rfl
  have e2 : (⟨#[10]⟩ : ByteArray).size = 1 := rfl
  omega
theorem bounce_valid {m : Msg} {site : ByteArray} {code now : Int} (h : bouncesB m site now = true) (h0 : -9223372036854775808 ≤ code) (h1 : code ≤ 9223372036854775807) : checkE (bounceR m site code now) = 0 := by
  have hb : bounceR m site code now = bounceM m site code now := if_pos h
  obtain ⟨b1, b2, b3, b4⟩ := of_decide_eq_true h
  obtain ⟨hd, _, _, _⟩ := checkE_ok b2
  have hs := bounceB_size b2 h0 h1
  rw [hb]
  have hh : HeadOk (bounceM m site code now) := ⟨(by decide : userB ⟨#[]⟩ = true), b3, hd.a1, b1, hd.a2, hd.a6, b4, (by decide +kernel : subjectE notDel = 0)⟩
  rw [checkE_head hh, if_neg (by show ¬ 16 < ([] : List ByteArray).length; decide), if_neg (by show ¬ hopsE [] ≠ 0; decide), if_neg (by show ¬ 32768 < (bounceB m code).size; omega)]
theorem bounceR_fits {m : Msg} {site : ByteArray} {code now : Int} (h0 : -9223372036854775808 ≤ code) (h1 : code ≤ 9223372036854775807) : (bounceR m site code now).Fits := by
  cases h : bouncesB m site now with
  | false =>
    have hb : bounceR m site code now = zeroM := if_neg (by simp [h])
    rw [hb]
    exact ⟨by decide, by decide, by decide, by decide, by decide, by decide, by decide, fun x hx => by cases hx⟩
  | true =>
    have hb : bounceR m site code now = bounceM m site code now := if_pos h
    obtain ⟨b1, b2, b3, b4⟩ := of_decide_eq_true h
    obtain ⟨hd, _, _, _⟩ := checkE_ok b2
    have hs := bounceB_size b2 h0 h1
    have s1 := site_size b3
    have s2 := user_size hd.a1
    have s3 := site_size hd.a2
    rw [hb]
    unfold maxLen at *
    exact ⟨Nat.zero_le _, by show site.size ≤ _; unfold maxLen; omega, by show m.fu.size ≤ _; unfold maxLen; omega, by show m.fs.size ≤ _; unfold maxLen; omega, (by decide : notDel.size ≤ maxLen), by show (bounceB m code).size ≤ _; unfold maxLen; omega, Nat.zero_le _, fun x hx => by cases hx⟩
end Go.Proofs.YtfcfddfjifofgaaDoor
