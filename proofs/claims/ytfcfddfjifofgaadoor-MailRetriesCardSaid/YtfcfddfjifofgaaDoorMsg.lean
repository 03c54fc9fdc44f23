/- Messages, plainly, and how they lie in memory. -/
import Derived.Test.YtfcfddfjifofgaaDoorRefW
import Derived.Test.YtfcfddfjifofgaaDoorSites
import Derived.Test.YtfcfddfjifofgaaDoorUsers
namespace Go.Proofs.YtfcfddfjifofgaaDoor
open Go.RowKit Go.Shelf

/-- A message, of the program's type or of the reference's. -/
structure Msg where
  fu : ByteArray
  fs : ByteArray
  tu : ByteArray
  ts : ByteArray
  num : Int
  date : Int
  sj : ByteArray
  hops : List ByteArray
  body : ByteArray

/-- The cells of a message whose hops are the slice hv. -/
def msgC (m : Msg) (hv : Value) : Array Value := #[.string m.fu, .string m.fs, .string m.tu, .string m.ts, .int .i64 m.num, .int .i64 m.date, .string m.sj, hv, .string m.body]
/-- A slice that reads as a list of strings. -/
def StrsAt (w : World) (v : Value) (l : List ByteArray) : Prop :=
  (l = [] ∧ ∃ a c, v = .slice a 0 c) ∨ ∃ b off cap, v = .slice (some ⟨b, off, none⟩) l.length cap ∧ l.length ≤ cap ∧ b < w.heap.size ∧ ∀ (j : Nat) x, l[j]? = some x → w.cell? ⟨b, off + j, none⟩ = some (.string x)
theorem StrsAt.below {w w' : World} {v : Value} {l : List ByteArray} (h : StrsAt w v l) (hb : Below w.heap.size w w') : StrsAt w' v l := by
  rcases h with h | ⟨b, off, cap, h1, h2, h3, h4⟩
  · exact .inl h
  · exact .inr ⟨b, off, cap, h1, h2, Nat.lt_of_lt_of_le h3 hb.size, fun j x hx => (hb.cell (p := ⟨b, off + j, none⟩) h3).trans (h4 j x hx)⟩
theorem StrsAt.alloc {w : World} {v : Value} {l : List ByteArray} (h : StrsAt w v l) (o : Obj) : StrsAt (w.alloc o) v l := h.below ((Below.refl _ w).alloc (Nat.le_refl _) o)
theorem OwnStrs.strsAt {B : Nat} {l : List ByteArray} {w : World} {v : Value} (h : OwnStrs B l w v) : StrsAt w v l := by
  rcases ownStrs_cases h with h | ⟨g, cap, h1, h2, _, h3, h4⟩
  · exact .inl h
  · exact .inr ⟨g, 0, cap, h1, h2, h3, h4⟩
theorem StrsAt.slice {w : World} {v : Value} {l : List ByteArray} (h : StrsAt w v l) : ∃ a c, v = .slice a l.length c ∧ l.length ≤ c ∨ v = .slice a l.length c ∧ l = [] := by
  rcases h with ⟨rfl, a, c, h⟩ | ⟨b, off, cap, h1, h2, _⟩
  · exact ⟨a, c, .inr ⟨h, rfl⟩⟩
  · exact ⟨_, _, .inl ⟨h1, h2⟩⟩
theorem StrsAt.at {w : World} {v : Value} {l : List ByteArray} (h : StrsAt w v l) (hl : 0 < l.length) :
    ∃ b off cap, v = .slice (some ⟨b, off, none⟩) l.length cap ∧ l.length ≤ cap ∧ b < w.heap.size ∧ ∀ (j : Nat) x, l[j]? = some x → w.cell? ⟨b, off + j, none⟩ = some (.string x) := by
  rcases h with ⟨rfl, _⟩ | h
  · simp at hl
  · exact h

/-- The sizes that a message's parts have anyway. -/
structure Msg.Fits (m : Msg) : Prop where
  fu : m.fu.size ≤ maxLen
  fs : m.fs.size ≤ maxLen
  tu : m.tu.size ≤ maxLen
  ts : m.ts.size ≤ maxLen
  sj : m.sj.size ≤ maxLen
  body : m.body.size ≤ maxLen
  len : m.hops.length ≤ maxLen
  hops : ∀ x ∈ m.hops, x.size ≤ maxLen

/-- The error of hop i. -/
def hopErr (l : List ByteArray) (i : Nat) : Nat := if siteE (l.getD i ⟨#[]⟩) ≠ 0 then siteE (l.getD i ⟨#[]⟩) else if Lib.containsS (l.take i) (l.getD i ⟨#[]⟩) = true then 24 else 0
def hopsE (l : List ByteArray) : Nat := match firstAt (fun i => hopErr l i != 0) l.length with
  | some i => hopErr l i
  | none => 0
/-- The first error of a message, 0 if there is none. -/
def checkE (m : Msg) : Nat :=
  if userB m.fu = false then 12 else if siteE m.fs ≠ 0 then siteE m.fs else if userB m.tu = false ∨ m.tu.size = 0 then 12 else
  if siteE m.ts ≠ 0 then siteE m.ts else if m.num < 0 ∨ 2147483647 < m.num then 2 else if minuteB m.date = false then 13 else
  if subjectE m.sj ≠ 0 then subjectE m.sj else if 16 < m.hops.length then 9 else if hopsE m.hops ≠ 0 then hopsE m.hops else if 32768 < m.body.size then 5 else 0
end Go.Proofs.YtfcfddfjifofgaaDoor
