/- What ascii.Printable, ascii.Squeeze and the program's test of a subject return. -/
import Derived.Test.YtfcfddfjifofgaaDoorWords
import Derived.Test.YtfcfddfjifofgaaDoorShelf
namespace Go.Proofs.YtfcfddfjifofgaaDoor
open Go.RowKit Go.Shelf

def printableI (s : ByteArray) : Int := if spanP printB s 0 = s.size then -1 else (spanP printB s 0 : Int)
set_option maxHeartbeats 400000 in
theorem printable_c (s : ByteArray) (w : World) (hs : s.size ≤ maxLen) :
    Calls Tryd.prog 64 #[.string s] w fun e w' => e = .returned (.int .i64 (printableI s)) ∧ w = w' := by
  have hm := hs
  unfold maxLen at hs
  have h2 := spanP_le printB s 0 (Nat.zero_le _)
  rcases Nat.lt_or_eq_of_le h2 with h | h
  · have hb : ((spanP printB s 0 : Int) == (s.size : Int)) = false := by rw [beq_eq_false_iff_ne]; omega
    go_enter Tryd.func64, Tryd.ntmps64
    go_wp2_with (go_at_call 85; refine (span_c _ _ printB s 0 (Nat.zero_le _) _ hm (classPrint _)).mono ?_; rintro e w' ⟨rfl, rfl⟩)
    go_ret
    exact ⟨ret_int (by rw [printableI, if_neg (by omega)]), rfl⟩
  · have hb : ((spanP printB s 0 : Int) == (s.size : Int)) = true := by rw [beq_iff_eq]; omega
    go_enter Tryd.func64, Tryd.ntmps64
    go_wp2_with (go_at_call 85; refine (span_c _ _ printB s 0 (Nat.zero_le _) _ hm (classPrint _)).mono ?_; rintro e w' ⟨rfl, rfl⟩)
    go_ret
    exact ⟨ret_int (by rw [printableI, if_pos h]), rfl⟩

theorem ownStrs_cases {B : Nat} {l : List ByteArray} {w : World} {v : Value} (h : OwnStrs B l w v) :
    (l = [] ∧ ∃ a c, v = .slice a 0 c) ∨ (∃ g cap, v = .slice (some ⟨g, 0, none⟩) l.length cap ∧ l.length ≤ cap ∧ B ≤ g ∧ g < w.heap.size ∧ ∀ (j : Nat) x, l[j]? = some x → w.cell? ⟨g, 0 + j, none⟩ = some (.string x)) := by
  rcases h.2 with ⟨h1, h2⟩ | ⟨g, cap, cur, h1, h2, h3, h4, h5, h6, h7⟩
  · exact .inl ⟨List.eq_nil_of_length_eq_zero h2, none, 0, by rw [h1]⟩
  · refine .inr ⟨g, cap, h1, h4, h2, lt_of_block h3, fun j x hx => ?_⟩
    have h8 : (strs l)[j]? = some (.string x) := by simp [strs, hx]
    rw [← h7] at h8
    rw [World.cell?, h3]
    simp only [Option.isSome_none, Bool.false_eq_true, if_false, Nat.zero_add]
    rw [List.getElem?_take] at h8
    split at h8
    · rw [← Array.getElem?_toList]; exact h8
    · cases h8

/-- The strings of a list, joined. -/
def joinS (l : List ByteArray) (sep : ByteArray) : ByteArray := ⟨(Lib.join (l.map (·.data.toList)) sep.data.toList).toArray⟩
theorem join_c {B : Nat} (l : List ByteArray) (sep : ByteArray) (v : Value) (w : World) (h : OwnStrs B l w v) (h1 : l.length ≤ 140737488355328) (h2 : (Lib.join (l.map (·.data.toList)) sep.data.toList).length ≤ 140737488355328) :
    Calls Tryd.prog 58 #[v, .string sep] w fun e w' => e = .returned (.string (joinS l sep)) ∧ Below w.heap.size w w' := by
  rcases ownStrs_cases h with ⟨rfl, a, c, rfl⟩ | ⟨g, cap, rfl, hc, _, hg, hx⟩
  · exact (Tryd.strings_Join_none a c sep w).mono fun e w' ⟨he, hw⟩ => ⟨by rw [he]; simp [joinS, Lib.join], hw ▸ Below.refl _ _⟩
  · exact Tryd.strings_Join g 0 cap l sep w hx hg h1 hc h2
end Go.Proofs.YtfcfddfjifofgaaDoor
