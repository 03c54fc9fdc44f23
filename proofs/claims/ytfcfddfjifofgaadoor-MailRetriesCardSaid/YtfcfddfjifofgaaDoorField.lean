/- What field.ValidName, some and Check return. -/
import Derived.Test.YtfcfddfjifofgaaDoorWords
import Derived.Test.YtfcfddfjifofgaaDoorUsers
import Derived.Test.YtfcfddfjifofgaaDoorMsg
import Derived.Test.YtfcfddfjifofgaaDoorCheck
import Derived.Test.YtfcfddfjifofgaaDoorBounce
import Derived.BigQuiet
import Derived.Deep.RegionLaw
import Derived.Deep.DeepCutAuto
namespace Go.Proofs.YtfcfddfjifofgaaDoor
open Go.RowKit Go.Shelf

def nameC (c : UInt8) : Bool := letterB c || digitB c || decide (c.toNat = 45)
def validB (s : ByteArray) : Bool := if s.size = 0 then false else if 40 < s.size then false else if letterB (bt' s 0) = false then false else (by' s).all nameC
def longB (s : ByteArray) : Bool := decide (900 < s.size)
set_option maxHeartbeats 400000 in
theorem long_c (s : ByteArray) (w : World) (hs : s.size ≤ maxLen) :
    Calls Tryd.prog 126 #[.string s] w fun e w' => e = .returned (.bool (longB s)) ∧ w = w' := by
  unfold maxLen at hs
  go_enter Tryd.func126, Tryd.ntmps126
  go_wp2
  all_goals
    go_ret
    exact ⟨ret_bool (by rw [Bool.eq_iff_iff]; simp only [longB]; first | (simp; done) | (simp; omega)), rfl⟩
set_option maxHeartbeats 400000 in
theorem valid_c (s : ByteArray) (w : World) (hs : s.size ≤ maxLen) :
    Calls Tryd.prog 124 #[.string s] w fun e w' => e = .returned (.bool (validB s)) ∧ w = w' := by
  unfold maxLen at hs
  by_cases h0 : s.size = 0
  · have he := isEmpty_of h0
    have hv : validB s = false := if_pos h0
    have HV := Lib.hid hv
    clear hv h0
    go_enter Tryd.func124, Tryd.ntmps124
    go_wp2
    go_ret
    exact ⟨ret_bool HV.out.symm, rfl⟩
  have he := nonempty_of h0
  by_cases h1 : 40 < s.size
  · have hv : validB s = false := by rw [validB, if_neg h0, if_pos h1]
    have HV := Lib.hid hv
    clear hv h0
    go_enter Tryd.func124, Tryd.ntmps124
    go_wp2
    go_ret
    exact ⟨ret_bool HV.out.symm, rfl⟩
  have hlt0 : 0 < s.size := by omega
  rcases Bool.eq_false_or_eq_true (letterB s[0]) with h2 | h2
  · have hv : validB s = (by' s).all nameC := by rw [validB, if_neg h0, if_neg h1, bt'_at hlt0, if_neg (by simp [h2])]
    have HV := Lib.hid hv
    clear hv h0
    go_enter Tryd.func124, Tryd.ntmps124
    go_wp2_with (go_at_call 135; refine (isLetter_c s[0] _).mono ?_; rintro e w' ⟨rfl, rfl⟩)
    go_loop [19] (fun i => ∃ k : Nat, k ≤ s.size ∧ AllTo nameC s k ∧ i = .int .i64 k) (fun i => s.size - (intOf i).toNat)
    case atStart => exact ⟨0, Nat.zero_le _, AllTo.zero _ _, rfl⟩
    case round =>
      obtain ⟨k, hk, hall, rfl⟩ := hrel
      by_cases hlt : k < s.size
      · have hp : nameC s[k] = (letterB s[k] || digitB s[k] || decide ((s[k].toNat : Int) = 45)) := by
          unfold nameC; congr 1; rw [decide_eq_decide]; omega
        have HP := Lib.hid hp
        clear hp
        rcases Bool.eq_false_or_eq_true (letterB s[k]) with h3 | h3
        · go_wp2_with (first | (go_at_call 135; refine (isLetter_c s[k] _).mono ?_; rintro e w' ⟨rfl, rfl⟩) | (go_at_call 62; refine (isDigit_c s[k] _).mono ?_; rintro e w' ⟨rfl, rfl⟩))
          exact ⟨⟨k + 1, by omega, hall.succ hlt (by rw [HP.out, h3]; rfl), by go_num⟩, by simp [intOf]; omega⟩
        rcases Bool.eq_false_or_eq_true (digitB s[k]) with h4 | h4
        · go_wp2_with (first | (go_at_call 135; refine (isLetter_c s[k] _).mono ?_; rintro e w' ⟨rfl, rfl⟩) | (go_at_call 62; refine (isDigit_c s[k] _).mono ?_; rintro e w' ⟨rfl, rfl⟩))
          exact ⟨⟨k + 1, by omega, hall.succ hlt (by rw [HP.out, h3, h4]; rfl), by go_num⟩, by simp [intOf]; omega⟩
        rcases bne_cases (s[k].toNat : Int) 45 with ⟨hx, hx'⟩ | ⟨n45, m45⟩
        · have HX := Lib.hid hx
          clear hx
          go_wp2_with (first | (go_at_call 135; refine (isLetter_c s[k] _).mono ?_; rintro e w' ⟨rfl, rfl⟩) | (go_at_call 62; refine (isDigit_c s[k] _).mono ?_; rintro e w' ⟨rfl, rfl⟩))
          have hx := HX.out
          exact ⟨⟨k + 1, by omega, hall.succ hlt (HP.out.trans (by rw [decide_eq_true (by omega), Bool.or_true])), by go_num⟩, by simp [intOf]; omega⟩
        go_wp2_with (first | (go_at_call 135; refine (isLetter_c s[k] _).mono ?_; rintro e w' ⟨rfl, rfl⟩) | (go_at_call 62; refine (isDigit_c s[k] _).mono ?_; rintro e w' ⟨rfl, rfl⟩))
        go_ret
        exact ⟨ret_bool (by rw [HV.out, all_false_at hlt (by rw [HP.out, h3, h4, decide_eq_false (by omega)]; rfl)]), rfl⟩
      · go_wp2
        go_ret
        exact ⟨ret_bool (by rw [HV.out, hall.full (by omega)]), rfl⟩
  · have hv : validB s = false := by rw [validB, if_neg h0, if_neg h1, bt'_at hlt0, if_pos h2]
    have HV := Lib.hid hv
    clear hv h0
    go_enter Tryd.func124, Tryd.ntmps124
    go_wp2_with (go_at_call 135; refine (isLetter_c s[0] _).mono ?_; rintro e w' ⟨rfl, rfl⟩)
    go_ret
    exact ⟨ret_bool HV.out.symm, rfl⟩

/-- Whether one of several strings is too long. -/
def someLong (l : List ByteArray) : Bool := l.any longB
theorem some_hit {l : List ByteArray} {k : Nat} (hk : k < l.length) (h : longB l[k] = true) : someLong l = true :=
  List.any_eq_true.2 ⟨l[k], List.getElem_mem hk, h⟩
theorem some_full {l : List ByteArray} {k : Nat} (h : (l.take k).any longB = false) (hk : l.length ≤ k) : someLong l = false := by
  unfold someLong; rwa [List.take_of_length_le hk] at h
theorem some_succ {l : List ByteArray} {k : Nat} (h : (l.take k).any longB = false) (hk : k < l.length) (h1 : longB l[k] = false) : (l.take (k + 1)).any longB = false := by
  rw [List.take_succ_eq_append_getElem hk, List.any_append, h, List.any_cons, h1]; rfl
set_option maxHeartbeats 400000 in
theorem some_c (l : List ByteArray) (v : Value) (w : World) (hv : StrsAt w v l) (hl : l.length ≤ maxLen) (hs : ∀ x ∈ l, x.size ≤ maxLen) :
    Calls Tryd.prog 125 #[v, .func (.func 126) #[] #[]] w fun e w' => e = .returned (.bool (someLong l)) ∧ w = w' := by
  unfold maxLen at hl
  have HS := Lib.hid hs
  clear hs
  obtain ⟨a, c, hsl⟩ := hv.slice
  have hhv : v = .slice a l.length c := by rcases hsl with h | h <;> exact h.1
  subst hhv
  have HSA := Lib.hid hv
  clear hv hsl
  have elong : ∀ args w, (callFunc 126 args).run Tryd.prog w = .ok (.enter 126 args) w := enters_of Tryd.func126 (by kernel_rfl) rfl
  go_enter Tryd.func125, Tryd.ntmps125
  go_wp2_with fail
  go_loop [9] (fun i => ∃ k : Nat, k ≤ l.length ∧ Hid ((l.take k).any longB = false) ∧ i = .int .i64 k) (fun i => l.length - (intOf i).toNat)
  case atStart => exact ⟨0, Nat.zero_le _, by simp [Hid], rfl⟩
  case round =>
    obtain ⟨k, hk, hnone, rfl⟩ := hrel
    by_cases hlt : k < l.length
    · obtain ⟨b, off, cap, hv2, hcap, hbs, hx⟩ := HSA.out.at (by omega)
      simp only [Value.slice.injEq] at hv2
      obtain ⟨rfl, _, rfl⟩ := hv2
      have hxk : l[k]? = some l[k] := List.getElem?_eq_getElem hlt
      have hcell := hx k _ hxk
      clear hx hxk
      have hsz := HS.out l[k] (List.getElem_mem hlt)
      have HSZ := Lib.hid hsz
      clear hsz
      go_wp2_with (go_at_fn 126; refine (long_c l[k] _ HSZ.out).mono ?_; rintro e w' ⟨rfl, rfl⟩)
      · go_ret
        exact ⟨ret_bool (some_hit hlt (by assumption)).symm, rfl⟩
      · exact ⟨⟨k + 1, by omega, some_succ hnone hlt (by simpa using (by assumption)), by go_num⟩, by simp [intOf]; omega⟩
    · go_wp2
      go_ret
      exact ⟨ret_bool (some_full hnone (by omega)).symm, rfl⟩

/-- The first error of a field, 0 if there is none. -/
def fieldE (n b : ByteArray) : Nat := if validB n = false then 12 else if 0 ≤ printableI b then 6 else if squeezeS b = b then (if 8192 < b.size ∨ someLong (wordsS b) = true then 5 else 0) else 3
def FieldPost (n b : ByteArray) (w : World) (e : Ending) (w' : World) : Prop := e = .returned (.int .i64 (fieldE n b)) ∧ Below w.heap.size w w'
theorem fe3 {n b : ByteArray} (h1 : validB n = true) (h2 : ¬ 0 ≤ printableI b) (h3 : ¬ squeezeS b = b) : (3 : Int) = (fieldE n b : Int) := by rw [fieldE, if_neg (by simp [h1]), if_neg h2, if_neg h3]; rfl
theorem fe5 {n b : ByteArray} (h1 : validB n = true) (h2 : ¬ 0 ≤ printableI b) (h3 : squeezeS b = b) (h4 : 8192 < b.size ∨ someLong (wordsS b) = true) : (5 : Int) = (fieldE n b : Int) := by rw [fieldE, if_neg (by simp [h1]), if_neg h2, if_pos h3, if_pos h4]; rfl
theorem fe0 {n b : ByteArray} (h1 : validB n = true) (h2 : ¬ 0 ≤ printableI b) (h3 : squeezeS b = b) (h4 : ¬ 8192 < b.size) (h5 : someLong (wordsS b) = false) : (0 : Int) = (fieldE n b : Int) := by rw [fieldE, if_neg (by simp [h1]), if_neg h2, if_pos h3, if_neg (by simp [h5]; omega)]; rfl
theorem word_size (s : ByteArray) : ∀ x ∈ wordsS s, x.size ≤ s.size := by
  intro x hx
  have h := wordsL_lens [] (by' s)
  have h1 : x.data.toList ∈ wordsL [] (by' s) := by
    rw [← words_map]; exact List.mem_map.2 ⟨x, hx, rfl⟩
  have h2 : ∀ (l : List (List UInt8)) y, y ∈ l → y.length ≤ (l.map List.length).sum := by
    intro l
    induction l with
    | nil => intro y hy; cases hy
    | cons z r ih =>
      intro y hy
      rw [List.map_cons, List.sum_cons]
      rcases List.mem_cons.1 hy with rfl | hy
      · omega
      · have := ih y hy; omega
  have h3 := h2 _ _ h1
  have h4 : x.data.toList.length = x.size := by simp
  simp at h h3 h4 ⊢
  omega
set_option maxHeartbeats 1000000 in
theorem field_c (n b : ByteArray) (w : World) (hn : n.size ≤ maxLen) (hb : b.size ≤ 1099511627776) :
    Calls Tryd.prog 105 #[.agg #[.string n, .string b]] w (FieldPost n b w) := by
  have HN := Lib.hid hn
  have HB := Lib.hid hb
  clear hn
  have hm : b.size ≤ maxLen := by unfold maxLen; omega
  have HM := Lib.hid hm
  clear hm
  go_enter Tryd.func105, Tryd.ntmps105
  go_upto_region 6 with (first | (go_at_call 88; refine (words_c b _ HB.out).mono ?_; rintro e w1 ⟨v, rfl, ho, hb1⟩; have HO := Lib.hid ho; have HB1 := Lib.hid hb1; have c0 : w1.cell? ⟨w.heap.size, 0, none⟩ = some (.string n) := (hb1.cell (p := ⟨w.heap.size, 0, none⟩) (by simp)).trans (World.cell?_alloc_new _ _ _ 0); have c1 : w1.cell? ⟨w.heap.size, 1, none⟩ = some (.string b) := (hb1.cell (p := ⟨w.heap.size, 1, none⟩) (by simp)).trans (World.cell?_alloc_new _ _ _ 1); clear ho hb1) | (go_at_call 124; refine (valid_c n _ HN.out).mono ?_; rintro e w' ⟨rfl, rfl⟩) | (go_at_call 64; refine (printable_c b _ HM.out).mono ?_; rintro e w' ⟨rfl, rfl⟩))
  · go_ret
    exact ⟨ret_int (by rw [fieldE, if_pos (not_t ‹_›)]; rfl), ((Below.refl _ w).alloc (Nat.le_refl _) _).trans (HB1.out.mono (by simp))⟩
  · go_ret
    exact ⟨ret_int (by rw [fieldE, if_neg (by simp [not_f ‹_›]), if_pos (by omega)]; rfl), ((Below.refl _ w).alloc (Nat.le_refl _) _).trans (HB1.out.mono (by simp))⟩
  · have hva := not_f ‹(!validB n) = false›
    have hpr : ¬ 0 ≤ printableI b := by omega
    have HVA := Lib.hid hva
    have HPR := Lib.hid hpr
    have HW : ∀ w2, Below w1.heap.size w1 w2 → w2.cell? ⟨w.heap.size, 1, none⟩ = some (.string b) := fun w2 h => (h.cell (p := ⟨w.heap.size, 1, none⟩) (by have := HB1.out.size; simp at this ⊢; omega)).trans c1
    have hlen := wordsS_len b
    have hsq := squeeze_len b
    go_region_law (first | (go_simp; go_at_call 58; refine (join_c (wordsS b) ⟨#[32]⟩ v w1.drew (show OwnStrs _ _ w1.drew v from HO.out) (by omega) (by simp only at hsq ⊢; omega)).mono ?_; rintro e w2 ⟨rfl, hb2⟩; have HB2 := Lib.hid ((Below.refl _ w1).drew.trans hb2); have d1 := HW w2 HB2.out; clear hb2))
    all_goals
      have hsa : StrsAt w2 v (wordsS b) := HO.out.strsAt.below HB2.out
      have HSA := Lib.hid hsa
      clear hsa
      go_wp2_with (go_at_call 125; refine (some_c (wordsS b) v _ HSA.out (by unfold maxLen; omega) (fun x hx => by have := word_size b x hx; unfold maxLen; omega)).mono ?_; rintro e w' ⟨rfl, rfl⟩)
      all_goals
        have hB : Below w.heap.size w w2 := (((Below.refl _ w).alloc (Nat.le_refl _) _).trans (HB1.out.mono (by simp))).trans (HB2.out.mono (by have := HB1.out.size; simp at this ⊢; omega))
        go_ret
        first | (exact ⟨ret_int (fe3 HVA.out (by omega) (toList_ne (by assumption))), hB⟩) | (exact ⟨ret_int (fe5 HVA.out (by omega) (toList_same (by assumption)) (by first | (exact .inl (by omega)) | (rename_i hh; rcases hh with hh | hh <;> first | (exact .inr hh) | (exact .inl (by omega))))), hB⟩) | (exact ⟨ret_int (fe0 HVA.out (by omega) (toList_same (by assumption)) (by omega) (by first | (exact And.right (by assumption)) | simp_all)), hB⟩)
end Go.Proofs.YtfcfddfjifofgaaDoor
