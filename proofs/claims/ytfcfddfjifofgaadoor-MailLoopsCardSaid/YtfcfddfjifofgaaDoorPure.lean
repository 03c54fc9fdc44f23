/- Plain functions on bytes and lists that the Go functions of this claim compute; no program in sight. -/
import Derived.WalkKit
import Derived.Lib.Hide
namespace Go.Proofs.YtfcfddfjifofgaaDoor
open Go.RowKit

/-- The bytes of a string. -/
abbrev by' (s : ByteArray) : List UInt8 := s.data.toList

def lowerB (c : UInt8) : Bool := decide (97 ≤ c.toNat ∧ c.toNat ≤ 122)
def upperB (c : UInt8) : Bool := decide (65 ≤ c.toNat ∧ c.toNat ≤ 90)
def digitB (c : UInt8) : Bool := decide (48 ≤ c.toNat ∧ c.toNat ≤ 57)
def letterB (c : UInt8) : Bool := lowerB c || upperB c
def visibleB (c : UInt8) : Bool := decide (33 ≤ c.toNat ∧ c.toNat ≤ 126)
def blankB (c : UInt8) : Bool := decide (c.toNat = 32 ∨ c.toNat = 9)

/-- The first k bytes satisfy p. -/
def AllTo (p : UInt8 → Bool) (s : ByteArray) (k : Nat) : Prop := ((by' s).take k).all p = true
theorem AllTo.zero (p : UInt8 → Bool) (s : ByteArray) : AllTo p s 0 := by simp [AllTo]
theorem take_snoc (s : ByteArray) (k : Nat) (h : k < s.size) : (by' s).take (k + 1) = (by' s).take k ++ [s[k]] := by
  rw [List.take_succ_eq_append_getElem (by simpa using h)]; rfl
theorem AllTo.succ {p : UInt8 → Bool} {s : ByteArray} {k : Nat} (h : AllTo p s k) (hk : k < s.size) (hp : p s[k] = true) : AllTo p s (k + 1) := by
  unfold AllTo at *
  rw [take_snoc s k hk, List.all_append, h]
  simp [hp]
theorem AllTo.full {p : UInt8 → Bool} {s : ByteArray} {k : Nat} (h : AllTo p s k) (hk : s.size ≤ k) : (by' s).all p = true := by
  unfold AllTo at h
  rwa [List.take_of_length_le (by simpa using hk)] at h
theorem all_false_at {p : UInt8 → Bool} {s : ByteArray} {k : Nat} (hk : k < s.size) (hp : p s[k] = false) : (by' s).all p = false := by
  rw [List.all_eq_false]
  exact ⟨s[k], by
    have : s[k] = (by' s)[k]'(by simpa using hk) := rfl
    rw [this]; exact List.getElem_mem _, by simp [hp]⟩

/-- The first offset below n at which q holds. -/
def firstAt (q : Nat → Bool) (n : Nat) : Option Nat := (List.range n).find? q
def NoneTo (q : Nat → Bool) (k : Nat) : Prop := ∀ j, j < k → q j = false
theorem NoneTo.zero (q : Nat → Bool) : NoneTo q 0 := fun j h => by omega
theorem NoneTo.succ {q : Nat → Bool} {k : Nat} (h : NoneTo q k) (hk : q k = false) : NoneTo q (k + 1) := fun j hj => by
  by_cases e : j = k
  · subst e; exact hk
  · exact h j (by omega)
theorem NoneTo.full {q : Nat → Bool} {k n : Nat} (h : NoneTo q k) (hk : n ≤ k) : firstAt q n = none := by
  unfold firstAt
  rw [List.find?_eq_none]
  intro x hx
  rw [List.mem_range] at hx
  simp [h x (by omega)]
theorem NoneTo.hit {q : Nat → Bool} {k n : Nat} (h : NoneTo q k) (hk : k < n) (hq : q k = true) : firstAt q n = some k := by
  unfold firstAt
  rw [List.find?_range_eq_some]
  exact ⟨hq, by simpa using hk, fun j hj => by simp [h j hj]⟩

/-- A byte of a string, 0 beyond its end. -/
def bt' (s : ByteArray) (i : Nat) : UInt8 := (by' s).getD i 0
theorem bt'_at {s : ByteArray} {k : Nat} (h : k < s.size) : bt' s k = s[k] := by
  unfold bt'
  rw [List.getD_eq_getElem?_getD, List.getElem?_eq_getElem (by simpa using h)]; rfl

def permitB (c : UInt8) : Bool := lowerB c || digitB c || decide (c.toNat = 45 ∨ c.toNat = 46)
def misB (s : ByteArray) (i : Nat) : Bool :=
  if i = 0 then !lowerB (bt' s i)
  else if (bt' s i).toNat = 46 ∧ (bt' s (i - 1)).toNat = 46 then true
  else decide (i + 1 = s.size ∧ ((bt' s i).toNat = 45 ∨ (bt' s i).toNat = 46))
/-- msgid.Site: the offset of the first error of a site's name, and its kind. -/
def siteR (s : ByteArray) : Nat × Nat :=
  if s.size = 0 then (0, 4) else if 30 < s.size then (30, 5) else
  match firstAt (fun i => !permitB (bt' s i)) s.size with
  | some i => (i, 6)
  | none => match firstAt (misB s) s.size with
    | some i => (i, 12)
    | none => (0, 0)
def siteE (s : ByteArray) : Nat := (siteR s).2
def userC (c : UInt8) : Bool := lowerB c || digitB c || decide (c.toNat = 45 ∨ c.toNat = 95 ∨ c.toNat = 46 ∨ c.toNat = 43)
def userB (s : ByteArray) : Bool := (by' s).all userC && decide (s.size ≤ 40)
def minuteB (n : Int) : Bool := decide (0 ≤ n ∧ n ≤ 105190559)

theorem ret_int {k : IntKind} {a b : Int} (h : a = b) : Ending.returned (.int k a) = .returned (.int k b) := by rw [h]
theorem ret_bool {a b : Bool} (h : a = b) : Ending.returned (.bool a) = .returned (.bool b) := by rw [h]
end Go.Proofs.YtfcfddfjifofgaaDoor
