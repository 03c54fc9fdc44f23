/- What the texts of addresses are. -/
import Derived.Test.YtfcfddfjifofgaaDoorItoa
import Derived.Test.YtfcfddfjifofgaaDoorCheck
namespace Go.Proofs.YtfcfddfjifofgaaDoor
open Go.RowKit Go.Shelf

def textA (u s : ByteArray) : ByteArray := u ++ ⟨#[64]⟩ ++ s
def TextPost (u s : ByteArray) (w : World) (e : Ending) (w' : World) : Prop := e = .returned (.string (textA u s)) ∧ Below w.heap.size w w'
theorem sat : (⟨#[64]⟩ : ByteArray).size = 1 := rfl
set_option maxRecDepth 100000 in
set_option maxHeartbeats 400000 in
theorem string_c (u s : ByteArray) (w : World) (hu : u.size ≤ 1099511627776) (hs : s.size ≤ 1099511627776) :
    Calls Tryd.prog 22 #[.agg #[.string u, .string s]] w (TextPost u s w) := by
  have h1 : u.size + 1 + s.size ≤ 9223372036854775807 := by omega
  clear hu hs
  go_enter Tryd.func22, Tryd.ntmps22
  go_wp2
  go_ret
  exact ⟨rfl, (Below.refl _ w).alloc (Nat.le_refl _) _⟩
set_option maxRecDepth 100000 in
set_option maxHeartbeats 400000 in
theorem rText_c (u s : ByteArray) (w : World) (hu : u.size ≤ 1099511627776) (hs : s.size ≤ 1099511627776) :
    Calls Tryd.prog 34 #[.agg #[.string u, .string s]] w (TextPost u s w) := by
  have h1 : u.size + 1 + s.size ≤ 9223372036854775807 := by omega
  clear hu hs
  go_enter Tryd.func34, Tryd.ntmps34
  go_wp2
  go_ret
  exact ⟨rfl, (Below.refl _ w).alloc (Nat.le_refl _) _⟩

/-- The sizes that the tests leave. -/
theorem user_size {s : ByteArray} (h : userB s = true) : s.size ≤ 40 := by
  unfold userB at h
  simp only [Bool.and_eq_true, decide_eq_true_eq] at h
  exact h.2
theorem site_size {s : ByteArray} (h : siteE s = 0) : s.size ≤ 30 := by
  unfold siteE siteR at h
  split at h
  · simp at h
  · split at h
    · simp at h
    · omega
theorem subject_size {s : ByteArray} (h : subjectE s = 0) : s.size ≤ 200 := by
  unfold subjectE at h
  split at h
  · simp at h
  · omega
theorem checkE_ok {m : Msg} (h : checkE m = 0) : HeadOk m ∧ m.hops.length ≤ 16 ∧ hopsE m.hops = 0 ∧ m.body.size ≤ 32768 := by
  unfold checkE at h
  split at h
  · simp at h
  rename_i b1
  split at h
  · rename_i b; exact absurd h b
  rename_i b2
  split at h
  · simp at h
  rename_i b3
  split at h
  · rename_i b; exact absurd h b
  rename_i b4
  split at h
  · simp at h
  rename_i b5
  split at h
  · simp at h
  rename_i b6
  split at h
  · rename_i b; exact absurd h b
  rename_i b7
  split at h
  · simp at h
  rename_i b8
  split at h
  · rename_i b; exact absurd h b
  rename_i b9
  split at h
  · simp at h
  rename_i b10
  refine ⟨⟨by simpa using b1, by simpa using b2, ?_, ?_, by simpa using b4, b5, by simpa using b6, by simpa using b7⟩, by omega, by simpa using b9, by omega⟩
  · cases hx : userB m.tu
    · exact absurd (.inl hx) b3
    · rfl
  · exact fun e => b3 (.inr e)
end Go.Proofs.YtfcfddfjifofgaaDoor
