/- What the reference's Squeeze and its test of a subject return. -/
import Derived.Test.YtfcfddfjifofgaaDoorRefW
namespace Go.Proofs.YtfcfddfjifofgaaDoor
open Go.RowKit Go.Shelf

theorem join_take_zero (xs : List (List UInt8)) (x : List UInt8) (sep : List UInt8) (h : xs[0]? = some x) : Lib.join (xs.take 1) sep = x := by
  cases xs with
  | nil => cases h
  | cons y r => simp at h; subst h; simp [Lib.join_one]
theorem join_take_succ (xs : List (List UInt8)) (k : Nat) (x : List UInt8) (sep : List UInt8) (h0 : 0 < k) (h : xs[k]? = some x) : Lib.join (xs.take (k + 1)) sep = Lib.join (xs.take k) sep ++ sep ++ x := by
  cases xs with
  | nil => cases h
  | cons y r =>
    obtain ⟨j, rfl⟩ : ∃ j, k = j + 1 := ⟨k - 1, by omega⟩
    rw [List.take_succ_cons, List.take_succ_cons, Lib.join_cons, Lib.join_cons, Lib.joinTail_take_succ sep r j x (by simpa using h)]
    simp
theorem lens_take (xs : List (List UInt8)) (k : Nat) : ((xs.take k).map List.length).sum ≤ (xs.map List.length).sum := by
  induction xs generalizing k with
  | nil => simp
  | cons x r ih =>
    cases k with
    | zero => simp
    | succ k =>
      rw [List.take_succ_cons, List.map_cons, List.map_cons, List.sum_cons, List.sum_cons]
      have := ih k
      omega
/-- The first k strings of a list, joined. -/
def joinT (l : List ByteArray) (sep : ByteArray) (k : Nat) : ByteArray := joinS (l.take k) sep
theorem joinT_len (l : List ByteArray) (sep : ByteArray) (k : Nat) : (joinT l sep k).size ≤ sep.size * l.length + ((l.map (·.data.toList)).map List.length).sum := by
  have h := join_len ((l.take k).map (·.data.toList)) sep.data.toList
  have h2 := lens_take (l.map (·.data.toList)) k
  have h3 : (joinT l sep k).size = (Lib.join ((l.take k).map (·.data.toList)) sep.data.toList).length := by simp [joinT, joinS, ByteArray.size]
  rw [h3]
  have h4 : sep.data.toList.length = sep.size := by simp
  rw [← List.map_take] at h2
  rw [h4] at h
  have h5 : ((l.take k).map (·.data.toList)).length ≤ l.length := by simp; omega
  have h6 := Nat.mul_le_mul_left sep.size h5
  omega
theorem joinT_first (l : List ByteArray) (sep x : ByteArray) (h : l[0]? = some x) : joinT l sep 1 = x := by
  refine bytes_ext ?_
  show Lib.join ((l.take 1).map (·.data.toList)) sep.data.toList = _
  rw [List.map_take]
  exact join_take_zero _ _ _ (by simp [h])
theorem joinT_next (l : List ByteArray) (sep x : ByteArray) (k : Nat) (h0 : 0 < k) (h : l[k]? = some x) : joinT l sep (k + 1) = joinT l sep k ++ sep ++ x := by
  refine bytes_ext ?_
  show Lib.join ((l.take (k + 1)).map (·.data.toList)) sep.data.toList = _
  rw [List.map_take, join_take_succ _ k x.data.toList _ h0 (by simp [h])]
  simp only [ByteArray.data_append, Array.toList_append, joinT, joinS, List.map_take]
theorem joinT_zero (l : List ByteArray) (sep : ByteArray) : joinT l sep 0 = ⟨#[]⟩ := by simp [joinT, joinS, Lib.join]
theorem joinT_all (l : List ByteArray) (sep : ByteArray) : joinT l sep l.length = joinS l sep := by simp [joinT]

/-- What an index of a []string of the call's own reads. -/
theorem ownStrs_at {B : Nat} {l : List ByteArray} {w : World} {v : Value} (h : OwnStrs B l w v) (hl : 0 < l.length) :
    ∃ g cap, v = .slice (some ⟨g, 0, none⟩) l.length cap ∧ ∀ (j : Nat) x, l[j]? = some x → w.cell? ⟨g, j, none⟩ = some (.string x) := by
  rcases ownStrs_cases h with ⟨rfl, _⟩ | ⟨g, cap, rfl, _, _, _, hx⟩
  · simp at hl
  · exact ⟨g, cap, rfl, fun j x hj => by have := hx j x hj; simpa using this⟩
theorem ownStrs_len {B : Nat} {l : List ByteArray} {w : World} {v : Value} (h : OwnStrs B l w v) : ∃ a c, v = .slice a l.length c := by
  rcases ownStrs_cases h with ⟨rfl, a, c, rfl⟩ | ⟨g, cap, rfl, _⟩
  · exact ⟨a, c, rfl⟩
  · exact ⟨_, _, rfl⟩

set_option maxRecDepth 100000 in
set_option maxHeartbeats 1000000 in
theorem rSqueeze_c (s : ByteArray) (w : World) (hs : s.size ≤ 1099511627776) :
    Calls Tryd.prog 70 #[.string s] w (SqueezePost s w) := by
  have HS := Lib.hid hs
  clear hs
  go_enter Tryd.func70, Tryd.ntmps70
  go_wp2_with fail
  refine (rWords_c s _ HS.out).mono ?_
  rintro e w1 ⟨v, rfl, ho, hb⟩
  have hlen : ((wordsS s).map (·.data.toList)).map List.length = (wordsL [] (by' s)).map List.length := by rw [words_map]
  have hbnd : ∀ k, (joinT (wordsS s) ⟨#[32]⟩ k).size ≤ 2 * s.size := fun k => by
    have h1 := joinT_len (wordsS s) ⟨#[32]⟩ k
    have h2 := wordsS_len s
    have h3 := wordsL_lens [] (by' s)
    rw [hlen] at h1
    simp at h1 h3
    have h4 : s.data.size = s.size := rfl
    have h5 : (⟨#[32]⟩ : ByteArray).size = 1 := rfl
    rw [h5] at h1
    omega
  have HO := Lib.hid ho
  have HB := Lib.hid hb
  have HN := Lib.hid hbnd
  clear ho hb hbnd hlen
  obtain ⟨a, c, hv⟩ := ownStrs_len HO.out
  have HV := Lib.hid hv
  rw [hv]
  clear hv
  have hll := wordsS_len s
  generalize hW : wordsS s = l at *
  have HW := Lib.hid hW
  clear hW
  have hl2 : l.length ≤ 1099511627776 := by have := HS.out; omega
  go_wp2_with fail
  go_loop [3, 5] (fun o i => ∃ k : Nat, k ≤ l.length ∧ i = .int .i64 k ∧ o = .string (joinT l ⟨#[32]⟩ k)) (fun _ i => l.length - (intOf i).toNat)
  case atStart => exact ⟨0, Nat.zero_le _, rfl, by rw [joinT_zero]⟩
  case round =>
    obtain ⟨k, hk, rfl, rfl⟩ := hrel
    by_cases hlt : k < l.length
    · obtain ⟨g, cap, hv2, hx⟩ := ownStrs_at HO.out (by omega)
      have hac := HV.out.symm.trans hv2
      simp only [Value.slice.injEq] at hac
      obtain ⟨rfl, _, rfl⟩ := hac
      have hxk : l[k]? = some l[k] := List.getElem?_eq_getElem hlt
      have hcell := hx k _ hxk
      have h1 := HN.out k
      have h2 := HN.out (k + 1)
      have h3 := HS.out
      have hjn : 0 < k → joinT l ⟨#[32]⟩ (k + 1) = joinT l ⟨#[32]⟩ k ++ ⟨#[32]⟩ ++ l[k] := fun h0 => joinT_next l _ _ k h0 hxk
      have HJ := Lib.hid hjn
      have HXK := Lib.hid hxk
      clear hx hxk hjn hv2
      by_cases h0 : k = 0
      · subst h0
        have hj1 := joinT_first l ⟨#[32]⟩ l[0] HXK.out
        have HJ1 := Lib.hid hj1
        have hz := Lib.hid (joinT_zero l ⟨#[32]⟩)
        rw [hj1] at h2
        clear hj1 h1
        rw [hz.out]
        go_wp2
        exact ⟨⟨1, by omega, rfl, by rw [HJ1.out]; congr 1⟩, by simp [intOf]; omega⟩
      · have h0' : 0 < k := by omega
        rw [HJ.out h0', ByteArray.size_append, ByteArray.size_append] at h2
        have h5 : (⟨#[32]⟩ : ByteArray).size = 1 := rfl
        rw [h5] at h2
        clear h5
        generalize hJ : joinT l ⟨#[32]⟩ k = j at *
        clear hJ
        go_wp2
        exact ⟨⟨k + 1, by omega, by go_num, by rw [HJ.out h0']⟩, by simp [intOf]; omega⟩
    · obtain rfl : k = l.length := by omega
      go_wp2
      go_ret
      exact ⟨by rw [squeezeS, HW.out, ← joinT_all]; rfl, HB.out⟩

set_option maxHeartbeats 400000 in
theorem rSubject_c (s : ByteArray) (w : World) (hs : s.size ≤ maxLen) :
    Calls Tryd.prog 42 #[.string s] w (SubjectPost s w) := by
  have hm := hs
  unfold maxLen at hs
  by_cases h1 : 200 < s.size
  · go_enter Tryd.func42, Tryd.ntmps42
    go_wp2
    go_ret
    exact ⟨ret_int (by rw [subjectE, if_pos h1]; rfl), Below.refl _ _⟩
  by_cases h2 : 0 ≤ printableI s
  · go_enter Tryd.func42, Tryd.ntmps42
    go_wp2_with (go_at_call 69; refine (rPrintable_c s _ hm).mono ?_; rintro e w' ⟨rfl, rfl⟩)
    go_ret
    exact ⟨ret_int (by rw [subjectE, if_neg h1, if_pos h2]; rfl), Below.refl _ _⟩
  go_enter Tryd.func42, Tryd.ntmps42
  go_wp2_with (first | (go_at_call 69; refine (rPrintable_c s _ hm).mono ?_; rintro e w' ⟨rfl, rfl⟩) | (go_at_call 70; refine (rSqueeze_c s _ (by omega)).mono ?_; rintro e w1 ⟨rfl, hb⟩; have HB := Lib.hid hb; clear hb))
  · go_ret
    exact ⟨ret_int (by rw [subjectE, if_neg h1, if_neg (show ¬ 0 ≤ printableI s by omega), if_neg (toList_ne (by assumption))]; rfl), HB.out⟩
  · go_ret
    exact ⟨ret_int (by rw [subjectE, if_neg h1, if_neg (show ¬ 0 ≤ printableI s by omega), if_pos (toList_same (by assumption))]; rfl), HB.out⟩
end Go.Proofs.YtfcfddfjifofgaaDoor
