/- What ascii.Squeeze and the program's test of a subject return. -/
import Derived.Test.YtfcfddfjifofgaaDoorSqueeze
namespace Go.Proofs.YtfcfddfjifofgaaDoor
open Go.RowKit Go.Shelf

theorem wordsL_lens (cur l : List UInt8) : ((wordsL cur l).map List.length).sum ≤ cur.length + l.length := by
  induction l generalizing cur with
  | nil => unfold wordsL; split <;> simp
  | cons c l ih =>
    unfold wordsL
    split
    · split
      · have := ih []; simp at this ⊢; omega
      · have := ih []; simp at this ⊢; omega
    · have := ih (cur ++ [c]); simp at this ⊢; omega
theorem lens_sum (l : List (List UInt8)) : Lib.lens l = (l.map List.length).sum := by
  induction l with
  | nil => rfl
  | cons x l ih => unfold Lib.lens at *; simp at *
theorem join_len (l : List (List UInt8)) (sep : List UInt8) : (Lib.join l sep).length ≤ sep.length * l.length + (l.map List.length).sum := by
  cases l with
  | nil => simp [Lib.join]
  | cons x r =>
    rw [Lib.join_length, lens_sum]
    simp only [List.length_cons]
    rw [Nat.mul_add]
    omega
def squeezeS (s : ByteArray) : ByteArray := joinS (wordsS s) ⟨#[32]⟩
theorem words_map (s : ByteArray) : (wordsS s).map (·.data.toList) = wordsL [] (by' s) := by
  unfold wordsS
  rw [List.map_map]
  exact List.map_id'' (fun _ => rfl) _
theorem squeeze_len (s : ByteArray) : (Lib.join ((wordsS s).map (·.data.toList)) ([32] : List UInt8)).length ≤ 2 * s.size := by
  have h1 := join_len ((wordsS s).map (·.data.toList)) [32]
  rw [words_map] at *
  have h2 := wordsL_len [] (by' s)
  have h3 := wordsL_lens [] (by' s)
  simp at h1 h2 h3
  have h4 : s.data.size = s.size := rfl
  omega

def SqueezePost (s : ByteArray) (w : World) (e : Ending) (w' : World) : Prop := e = .returned (.string (squeezeS s)) ∧ Below w.heap.size w w'
set_option maxHeartbeats 400000 in
theorem squeeze_c (s : ByteArray) (w : World) (hs : s.size ≤ 1099511627776) :
    Calls Tryd.prog 65 #[.string s] w (SqueezePost s w) := by
  have HS := Lib.hid hs
  clear hs
  go_enter Tryd.func65, Tryd.ntmps65
  go_wp2_with fail
  refine (words_c s _ HS.out).mono ?_
  rintro e w1 ⟨v, rfl, ho, hb⟩
  have HO := Lib.hid ho
  have HB := Lib.hid hb
  clear ho hb
  go_wp2_with fail
  refine (join_c (wordsS s) ⟨#[32]⟩ v w1 HO.out (by have := wordsS_len s; have := HS.out; omega) (by have := squeeze_len s; have := HS.out; simp only at this ⊢; omega)).mono ?_
  rintro e w2 ⟨rfl, hb2⟩
  have HB2 := Lib.hid hb2
  clear hb2
  go_wp2_with fail
  go_ret
  exact ⟨rfl, HB.out.trans (HB2.out.mono HB.out.size)⟩

theorem bytes_ext {x y : ByteArray} (h : x.data.toList = y.data.toList) : x = y := by
  cases x; cases y
  simp only [ByteArray.mk.injEq]
  exact Array.toList_inj.1 h
theorem toList_ne {x y : ByteArray} (h : (!(x.toList == y.toList)) = true) : ¬ x = y := by
  rintro rfl; simp at h
theorem toList_same {x y : ByteArray} (h : (!(x.toList == y.toList)) = false) : x = y := by
  simp only [Bool.not_eq_false', beq_iff_eq, ByteArray.toList_eq] at h
  exact bytes_ext h
def subjectE (s : ByteArray) : Nat := if 200 < s.size then 5 else if 0 ≤ printableI s then 6 else if squeezeS s = s then 0 else 3
def SubjectPost (s : ByteArray) (w : World) (e : Ending) (w' : World) : Prop := e = .returned (.int .i64 (subjectE s)) ∧ Below w.heap.size w w'
set_option maxHeartbeats 400000 in
theorem subject_c (s : ByteArray) (w : World) (hs : s.size ≤ maxLen) :
    Calls Tryd.prog 39 #[.string s] w (SubjectPost s w) := by
  have hm := hs
  unfold maxLen at hs
  by_cases h1 : 200 < s.size
  · go_enter Tryd.func39, Tryd.ntmps39
    go_wp2
    go_ret
    exact ⟨ret_int (by rw [subjectE, if_pos h1]; rfl), Below.refl _ _⟩
  by_cases h2 : 0 ≤ printableI s
  · go_enter Tryd.func39, Tryd.ntmps39
    go_wp2_with (go_at_call 64; refine (printable_c s _ hm).mono ?_; rintro e w' ⟨rfl, rfl⟩)
    go_ret
    exact ⟨ret_int (by rw [subjectE, if_neg h1, if_pos h2]; rfl), Below.refl _ _⟩
  go_enter Tryd.func39, Tryd.ntmps39
  go_wp2_with (first | (go_at_call 64; refine (printable_c s _ hm).mono ?_; rintro e w' ⟨rfl, rfl⟩) | (go_at_call 65; refine (squeeze_c s _ (by omega)).mono ?_; rintro e w1 ⟨rfl, hb⟩; have HB := Lib.hid hb; clear hb))
  · go_ret
    exact ⟨ret_int (by rw [subjectE, if_neg h1, if_neg (show ¬ 0 ≤ printableI s by omega), if_neg (toList_ne (by assumption))]; rfl), HB.out⟩
  · go_ret
    exact ⟨ret_int (by rw [subjectE, if_neg h1, if_neg (show ¬ 0 ≤ printableI s by omega), if_pos (toList_same (by assumption))]; rfl), HB.out⟩
end Go.Proofs.YtfcfddfjifofgaaDoor
