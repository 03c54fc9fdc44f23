/- Plain functions on bytes and lists that the Go functions of this claim compute; no program in sight. -/
import Derived.WalkKit
import Derived.Lib.Hide
namespace Go.Proofs.YtfcfddfjifofgaaDoor
open Go.RowKit

/-- The bytes of a string. -/
abbrev by' (s : ByteArray) : List UInt8 := s.data.toList

def lowerB (c : UInt8) : Bool := decide (97 ≤ c.toNat ∧ c.toNat ≤ 122)
def upperB (c : UInt8) : Bool := decide (65 ≤ c.toNat ∧ c.toNat ≤ 90)
def digitB (c : UInt8) : Bool := decide (48 ≤ c.toNat ∧ c.toNat ≤ 57)
def letterB (c : UInt8) : Bool := lowerB c || upperB c
def visibleB (c : UInt8) : Bool := decide (33 ≤ c.toNat ∧ c.toNat ≤ 126)
def blankB (c : UInt8) : Bool := decide (c.toNat = 32 ∨ c.toNat = 9)

/-- The first k bytes satisfy p. -/
def AllTo (p : UInt8 → Bool) (s : ByteArray) (k : Nat) : Prop := ((by' s).take k).all p = true
theorem AllTo.zero (p : UInt8 → Bool) (s : ByteArray) : AllTo p s 0 := by simp [AllTo]
theorem take_snoc (s : ByteArray) (k : Nat) (h : k < s.size) : (by' s).take (k + 1) = (by' s).take k ++ [s[k]] := by
  rw [List.take_succ_eq_append_getElem (by simpa using h)]; rfl
theorem AllTo.succ {p : UInt8 → Bool} {s : ByteArray} {k : Nat} (h : AllTo p s k) (hk : k < s.size) (hp : p s[k] = true) : AllTo p s (k + 1) := by
  unfold AllTo at *
  rw [take_snoc s k hk, List.all_append, h]
  simp [hp]
theorem AllTo.full {p : UInt8 → Bool} {s : ByteArray} {k : Nat} (h : AllTo p s k) (hk : s.size ≤ k) : (by' s).all p = true := by
  unfold AllTo at h
  rwa [List.take_of_length_le (by simpa using hk)] at h
theorem all_false_at {p : UInt8 → Bool} {s : ByteArray} {k : Nat} (hk : k < s.size) (hp : p s[k] = false) : (by' s).all p = false := by
  rw [List.all_eq_false]
  exact ⟨s[k], by
    have : s[k] = (by' s)[k]'(by simpa using hk) := rfl
    rw [this]; exact List.getElem_mem _, by simp [hp]⟩

/-- The first offset below n at which q holds. -/
def firstAt (q : Nat → Bool) (n : Nat) : Option Nat := (List.range n).find? q
def NoneTo (q : Nat → Bool) (k : Nat) : Prop := ∀ j, j < k → q j = false
theorem NoneTo.zero (q : Nat → Bool) : NoneTo q 0 := fun j h => by omega
theorem NoneTo.succ {q : Nat → Bool} {k : Nat} (h : NoneTo q k) (hk : q k = false) : NoneTo q (k + 1) := fun j hj => by
  by_cases e : j = k
  · subst e; exact hk
  · exact h j (by omega)
theorem NoneTo.full {q : Nat → Bool} {k n : Nat} (h : NoneTo q k) (hk : n ≤ k) : firstAt q n = none := by
  unfold firstAt
  rw [List.find?_eq_none]
  intro x hx
  rw [List.mem_range] at hx
  simp [h x (by omega)]
theorem NoneTo.hit {q : Nat → Bool} {k n : Nat} (h : NoneTo q k) (hk : k < n) (hq : q k = true) : firstAt q n = some k := by
  unfold firstAt
  rw [List.find?_range_eq_some]
  exact ⟨hq, by simpa using hk, fun j hj => by simp [h j hj]⟩

/-- A byte of a string, 0 beyond its end. -/
def bt' (s : ByteArray) (i : Nat) : UInt8 := (by' s).getD i 0
theorem bt'_at {s : ByteArray} {k : Nat} (h : k < s.size) : bt' s k = s[k] := by
  unfold bt'
  rw [List.getD_eq_getElem?_getD, List.getElem?_eq_getElem (by simpa using h)]; rfl

def permitB (c : UInt8) : Bool := lowerB c || digitB c || decide (c.toNat = 45 ∨ c.toNat = 46)
def misB (s : ByteArray) (i : Nat) : Bool :=
  if i = 0 then !lowerB (bt' s i)
  else if (bt' s i).toNat = 46 ∧ (bt' s (i - 1)).toNat = 46 then true
  else decide (i + 1 = s.size ∧ ((bt' s i).toNat = 45 ∨ (bt' s i).toNat = 46))
/-- msgid.Site: the offset of the first error of a site's name, and its kind. -/
def siteR (s : ByteArray) : Nat × Nat :=
  if s.size = 0 then (0, 4) else if 30 < s.size then (30, 5) else
  match firstAt (fun i => !permitB (bt' s i)) s.size with
  | some i => (i, 6)
  | none => match firstAt (misB s) s.size with
    | some i => (i, 12)
    | none => (0, 0)
def siteE (s : ByteArray) : Nat := (siteR s).2
def userC (c : UInt8) : Bool := lowerB c || digitB c || decide (c.toNat = 45 ∨ c.toNat = 95 ∨ c.toNat = 46 ∨ c.toNat = 43)
def userB (s : ByteArray) : Bool := (by' s).all userC && decide (s.size ≤ 40)
def minuteB (n : Int) : Bool := decide (0 ≤ n ∧ n ≤ 105190559)

theorem ret_int {k : IntKind} {a b : Int} (h : a = b) : Ending.returned (.int k a) = .returned (.int k b) := by rw [h]
theorem ret_bool {a b : Bool} (h : a = b) : Ending.returned (.bool a) = .returned (.bool b) := by rw [h]
end Go.Proofs.YtfcfddfjifofgaaDoor
/- Words of a string, plainly. -/
namespace Go.Proofs.YtfcfddfjifofgaaDoor
open Go.RowKit

/-- The offset of the first byte, from k on, that does not satisfy p, or the length. -/
def spanP (p : UInt8 → Bool) (s : ByteArray) (k : Nat) : Nat := k + (((by' s).drop k).takeWhile p).length
theorem spanP_stop {p : UInt8 → Bool} {s : ByteArray} {k : Nat} (hk : k < s.size) (hp : p s[k] = false) : spanP p s k = k := by
  unfold spanP
  rw [List.drop_eq_getElem_cons (by simpa using hk)]
  have e : (by' s)[k]'(by simpa using hk) = s[k] := rfl
  rw [e, List.takeWhile_cons, hp]; simp
theorem spanP_step {p : UInt8 → Bool} {s : ByteArray} {k : Nat} (hk : k < s.size) (hp : p s[k] = true) : spanP p s k = spanP p s (k + 1) := by
  unfold spanP
  rw [List.drop_eq_getElem_cons (by simpa using hk)]
  have e : (by' s)[k]'(by simpa using hk) = s[k] := rfl
  rw [e, List.takeWhile_cons, hp]; simp; omega
theorem spanP_end {p : UInt8 → Bool} {s : ByteArray} {k : Nat} (hk : s.size ≤ k) : spanP p s k = k := by
  unfold spanP
  rw [List.drop_eq_nil_of_le (by simpa using hk)]; simp
theorem spanP_ge (p : UInt8 → Bool) (s : ByteArray) (k : Nat) : k ≤ spanP p s k := by unfold spanP; omega
theorem length_takeWhile_le' {α : Type} (p : α → Bool) (l : List α) : (l.takeWhile p).length ≤ l.length := (List.takeWhile_sublist p).length_le
theorem spanP_le (p : UInt8 → Bool) (s : ByteArray) (k : Nat) (hk : k ≤ s.size) : spanP p s k ≤ s.size := by
  unfold spanP
  have h := length_takeWhile_le' p ((by' s).drop k)
  have h2 : ((by' s).drop k).length = s.size - k := by simp
  omega
theorem takeWhile_len_all {α : Type} (p : α → Bool) (l : List α) : (l.takeWhile p).length = l.length ↔ l.all p = true := by
  induction l with
  | nil => simp
  | cons c l ih =>
    rw [List.takeWhile_cons, List.all_cons]
    cases h : p c
    · simp
    · simp only [if_true, List.length_cons, Bool.true_and, ← ih]
      omega
theorem spanP_all (p : UInt8 → Bool) (s : ByteArray) : spanP p s 0 = s.size ↔ (by' s).all p = true := by
  unfold spanP
  have h2 : (by' s).length = s.size := by simp
  rw [List.drop_zero, Nat.zero_add, ← h2, takeWhile_len_all]

/-- The words of a list of bytes, behind what has been met of the current word. -/
def wordsL (cur : List UInt8) : List UInt8 → List (List UInt8)
  | [] => if cur = [] then [] else [cur]
  | c :: l => if blankB c then (if cur = [] then wordsL [] l else cur :: wordsL [] l) else wordsL (cur ++ [c]) l
/-- The words of a string. -/
def wordsS (s : ByteArray) : List ByteArray := (wordsL [] (by' s)).map fun l => ⟨l.toArray⟩
theorem wordsL_skip (l : List UInt8) : wordsL [] (l.dropWhile blankB) = wordsL [] l := by
  induction l with
  | nil => rfl
  | cons c l ih =>
    rw [List.dropWhile_cons]
    by_cases h : blankB c = true
    · rw [if_pos h, ih, wordsL, if_pos h, if_pos rfl]
    · rw [if_neg h]
theorem wordsL_cur (cur l : List UInt8) (h : cur ≠ [] ∨ l.takeWhile (fun c => !blankB c) ≠ []) : wordsL cur l = (cur ++ l.takeWhile (fun c => !blankB c)) :: wordsL [] (l.dropWhile (fun c => !blankB c)) := by
  induction l generalizing cur with
  | nil => simp at h; simp [wordsL, h]
  | cons c l ih =>
    rw [List.takeWhile_cons, List.dropWhile_cons]
    by_cases hb : blankB c = true
    · have hc : cur ≠ [] := by
        rcases h with h | h
        · exact h
        · rw [List.takeWhile_cons, hb] at h; simp at h
      rw [wordsL, if_pos hb, if_neg hc, hb]
      simp [wordsL, hb]
    · have hb' : (!blankB c) = true := by simpa using hb
      rw [wordsL, if_neg hb, hb', ih _ (.inl (by simp))]
      simp
theorem wordsL_len (cur l : List UInt8) : (wordsL cur l).length ≤ cur.length + l.length := by
  induction l generalizing cur with
  | nil =>
    unfold wordsL
    split
    · simp
    · rename_i h
      have := List.length_pos_iff.2 h
      simp; omega
  | cons c l ih =>
    unfold wordsL
    split
    · split
      · have := ih []; simp at this ⊢; omega
      · rename_i h
        have h2 := List.length_pos_iff.2 h
        have := ih []; simp at this ⊢; omega
    · have := ih (cur ++ [c]); simp at this ⊢; omega

theorem drop_takeWhile {α : Type} (p : α → Bool) (l : List α) : l.drop (l.takeWhile p).length = l.dropWhile p := by
  induction l with
  | nil => rfl
  | cons c l ih =>
    rw [List.takeWhile_cons, List.dropWhile_cons]
    cases p c
    · rfl
    · simpa using ih
theorem drop_span (p : UInt8 → Bool) (s : ByteArray) (k : Nat) : (by' s).drop (spanP p s k) = ((by' s).drop k).dropWhile p := by
  unfold spanP
  rw [← drop_takeWhile, List.drop_drop]
theorem extract_span (p : UInt8 → Bool) (s : ByteArray) (k : Nat) : s.extract k (spanP p s k) = ⟨(((by' s).drop k).takeWhile p).toArray⟩ := by
  have h1 : by' (s.extract k (spanP p s k)) = ((by' s).drop k).takeWhile p := by
    show (s.extract k (spanP p s k)).data.toList = _
    rw [ByteArray.data_extract, Array.toList_extract, List.extract_eq_take_drop]
    unfold spanP
    rw [Nat.add_sub_cancel_left]
    exact (List.prefix_iff_eq_take.1 (List.takeWhile_prefix p)).symm
  rw [← h1]
theorem words_step (s : ByteArray) (k : Nat) (h : k < s.size) (hb : blankB s[k] = false) :
    (wordsL [] ((by' s).drop k)).map (fun l => (⟨l.toArray⟩ : ByteArray)) = s.extract k (spanP (fun c => !blankB c) s k) :: (wordsL [] ((by' s).drop (spanP blankB s (spanP (fun c => !blankB c) s k)))).map (fun l => (⟨l.toArray⟩ : ByteArray)) := by
  have hne : ((by' s).drop k).takeWhile (fun c => !blankB c) ≠ [] := by
    rw [List.drop_eq_getElem_cons (by simpa using h), List.takeWhile_cons]
    have e : (by' s)[k]'(by simpa using h) = s[k] := rfl
    rw [e, hb]; simp
  rw [wordsL_cur [] _ (.inr hne), drop_span, wordsL_skip, drop_span, extract_span]
  simp
theorem words_start (s : ByteArray) : (wordsL [] ((by' s).drop (spanP blankB s 0))).map (fun l => (⟨l.toArray⟩ : ByteArray)) = wordsS s := by
  rw [drop_span, List.drop_zero, wordsL_skip]; rfl
theorem words_done (s : ByteArray) (k : Nat) (h : s.size ≤ k) : (wordsL [] ((by' s).drop k)).map (fun l => (⟨l.toArray⟩ : ByteArray)) = [] := by
  rw [List.drop_eq_nil_of_le (by simpa using h)]; rfl
theorem wordsS_len (s : ByteArray) : (wordsS s).length ≤ s.size := by
  unfold wordsS
  have := wordsL_len [] (by' s)
  simp at this ⊢; exact this
/-- An offset at which a blank-free part or the end begins. -/
def StartAt (s : ByteArray) (k : Nat) : Prop := k ≤ s.size ∧ ∀ h : k < s.size, blankB s[k] = false
theorem startAt_span (s : ByteArray) (k : Nat) (hk : k ≤ s.size) : StartAt s (spanP blankB s k) := by
  refine ⟨spanP_le _ _ _ hk, fun h => ?_⟩
  have h1 := drop_span blankB s k
  rw [List.drop_eq_getElem_cons (by simpa using h)] at h1
  have e : (by' s)[spanP blankB s k]'(by simpa using h) = s[spanP blankB s k] := rfl
  rw [e] at h1
  have h2 := List.head?_dropWhile_not blankB ((by' s).drop k)
  rw [← h1] at h2
  simpa using h2
theorem spanP_gt {p : UInt8 → Bool} {s : ByteArray} {k : Nat} (h : k < s.size) (hp : p s[k] = true) : k < spanP p s k := by
  rw [spanP_step h hp]
  have := spanP_ge p s (k + 1)
  omega
end Go.Proofs.YtfcfddfjifofgaaDoor
