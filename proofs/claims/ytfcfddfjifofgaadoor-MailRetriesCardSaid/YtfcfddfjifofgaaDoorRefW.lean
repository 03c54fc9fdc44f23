/- What the reference's Printable, Words and Squeeze return. -/
import Derived.Test.YtfcfddfjifofgaaDoorWords
namespace Go.Proofs.YtfcfddfjifofgaaDoor
open Go.RowKit Go.Shelf

set_option maxHeartbeats 400000 in
theorem rPrintable_c (s : ByteArray) (w : World) (hs : s.size ≤ maxLen) :
    Calls Tryd.prog 69 #[.string s] w fun e w' => e = .returned (.int .i64 (printableI s)) ∧ w = w' := by
  unfold maxLen at hs
  go_enter Tryd.func69, Tryd.ntmps69
  go_wp2_with fail
  go_loop [3] (fun i => ∃ j : Nat, j ≤ s.size ∧ Hid (spanP printB s 0 = spanP printB s j) ∧ i = .int .i64 j) (fun i => s.size - (intOf i).toNat)
  case atStart => exact ⟨0, Nat.zero_le _, Lib.hid rfl, rfl⟩
  case round =>
    obtain ⟨j, hj, HE, rfl⟩ := hrel
    by_cases hlt : j < s.size
    · have hp : printB s[j] = (s[j].toNat == 32 || visibleB s[j]) := rfl
      have HP := Lib.hid hp
      clear hp
      cases hv : visibleB s[j]
      · by_cases h32 : s[j].toNat = 32
        · have HX := Lib.hid h32
          have b1 : ((s[j].toNat : Int) != 32) = false := by simp [h32]
          clear h32
          go_wp2_with (go_at_call 89; refine (rVisible_c s[j] _).mono ?_; rintro e w' ⟨rfl, rfl⟩)
          exact ⟨⟨j + 1, by omega, HE.out.trans (spanP_step hlt (by rw [HP.out, HX.out]; rfl)), by go_num⟩, by simp [intOf]; omega⟩
        · have HX := Lib.hid h32
          have b1 : ((s[j].toNat : Int) != 32) = true := by rw [bne_iff_ne]; omega
          have b2 : ¬ (s[j].toNat : Int) = 32 := by omega
          clear h32
          go_wp2_with (go_at_call 89; refine (rVisible_c s[j] _).mono ?_; rintro e w' ⟨rfl, rfl⟩)
          go_ret
          have hq : printB s[j] = false := by rw [HP.out, hv]; simp [HX.out]
          exact ⟨ret_int (by rw [printableI, HE.out, spanP_stop hlt hq, if_neg (by omega)]), rfl⟩
      · go_wp2_with (go_at_call 89; refine (rVisible_c s[j] _).mono ?_; rintro e w' ⟨rfl, rfl⟩)
        exact ⟨⟨j + 1, by omega, HE.out.trans (spanP_step hlt (by rw [HP.out, hv]; simp)), by go_num⟩, by simp [intOf]; omega⟩
    · go_wp2
      go_ret
      exact ⟨ret_int (by rw [printableI, HE.out, spanP_end (by omega), if_pos (by omega)]), rfl⟩

/-- The bytes of the current word: from offset f to offset i. -/
def curOf (s : ByteArray) (fo : Option Nat) (i : Nat) : List UInt8 := match fo with
  | none => []
  | some f => ((by' s).drop f).take (i - f)
def fromI (fo : Option Nat) : Int := match fo with
  | none => -1
  | some f => f
structure RefWords (B : Nat) (s : ByteArray) (i : Nat) (fo : Option Nat) (l : List ByteArray) (w wr : World) (v : Value) : Prop where
  hi : i ≤ s.size + 1
  hf : ∀ f, fo = some f → f < i ∧ i ≤ s.size
  below : Below B w wr
  own : OwnStrs B l wr v
  eq : l ++ (wordsL (curOf s fo i) ((by' s).drop i)).map (fun l => (⟨l.toArray⟩ : ByteArray)) = wordsS s
theorem drop_at (s : ByteArray) (i : Nat) (h : i < s.size) : (by' s).drop i = s[i] :: (by' s).drop (i + 1) := by
  rw [List.drop_eq_getElem_cons (by simpa using h)]; rfl
theorem curOf_ne (s : ByteArray) (f i : Nat) (h : f < i) (hi : i ≤ s.size) : curOf s (some f) i ≠ [] := by
  intro e
  have := congrArg List.length e
  simp [curOf] at this
  have h4 : s.data.size = s.size := rfl
  omega
theorem curOf_start (s : ByteArray) (i : Nat) (h : i < s.size) : curOf s (some i) (i + 1) = [s[i]] := by
  simp only [curOf]
  rw [drop_at s i h, Nat.add_sub_cancel_left]; rfl
theorem curOf_next (s : ByteArray) (f i : Nat) (hf : f < i) (h : i < s.size) : curOf s (some f) (i + 1) = curOf s (some f) i ++ [s[i]] := by
  simp only [curOf]
  rw [show i + 1 - f = (i - f) + 1 from by omega, List.take_succ_eq_append_getElem (by simp; have h4 : s.data.size = s.size := rfl; omega)]
  congr 1
  simp only [List.getElem_drop]
  congr 1
  simp only [Nat.add_sub_cancel' (Nat.le_of_lt hf)]; rfl
theorem extract_cur (s : ByteArray) (f i : Nat) : s.extract f i = ⟨(curOf s (some f) i).toArray⟩ := by
  refine bytes_ext ?_
  rw [ByteArray.data_extract, Array.toList_extract, List.extract_eq_take_drop]
  rfl

theorem refWords_len {B : Nat} {s : ByteArray} {i : Nat} {fo : Option Nat} {l : List ByteArray} {w wr : World} {v : Value} (h : RefWords B s i fo l w wr v) (hs : s.size ≤ 1099511627776) : l.length ≤ 1099511627776 := by
  have h1 := wordsS_len s
  have h2 := congrArg List.length h.eq
  rw [List.length_append] at h2
  omega
def RW (B : Nat) (s : ByteArray) (w : World) (v f i : Value) (wr : World) : Prop := ∃ (k : Nat) (fo : Option Nat) (l : List ByteArray), RefWords B s k fo l w wr v ∧ f = .int .i64 (fromI fo) ∧ i = .int .i64 k

set_option maxRecDepth 100000 in
set_option maxHeartbeats 1000000 in
theorem rWords_c (s : ByteArray) (w : World) (hs : s.size ≤ 1099511627776) :
    Calls Tryd.prog 90 #[.string s] w (WordsPost s w) := by
  have HS := Lib.hid hs
  have hs2 : s.size < 9223372036854775807 := by omega
  clear hs
  go_enter Tryd.func90, Tryd.ntmps90
  go_wp2_with fail
  go_loopw [3, 4, 5] (fun v f i wr => RW w.heap.size s w v f i wr) (fun _ _ i _ => s.size + 1 - (intOf i).toNat)
  case atStart => exact ⟨0, none, [], ⟨Nat.zero_le _, fun f h => (by cases h), Below.refl _ _, World.ownsRow_nil _ _ _ _, rfl⟩, rfl, rfl⟩
  case round =>
    obtain ⟨k, fo, l, hr, rfl, rfl⟩ := hrel
    have HR := Lib.hid hr
    clear hr
    have hk := HR.out.hi
    by_cases hle : k ≤ s.size
    · by_cases hlt : k < s.size
      · have hd := Lib.hid (drop_at s k hlt)
        cases hb : blankB s[k]
        · cases fo with
          | none =>
            simp only [fromI]
            go_wp2_with (go_at_call 109; refine (rBlank_c s[k] _).mono ?_; rintro e w' ⟨rfl, rfl⟩)
            refine ⟨⟨k + 1, some k, l, ⟨by omega, fun f h => by cases h; omega, HR.out.below, HR.out.own, ?_⟩, rfl, by go_num⟩, by simp [intOf]; omega⟩
            have h := HR.out.eq
            rw [hd.out] at h
            rw [curOf_start s k hlt, ← h]
            simp [wordsL, hb, curOf]
          | some f =>
            have hf := (HR.out.hf f rfl).1
            simp only [fromI]
            go_wp2_with (go_at_call 109; refine (rBlank_c s[k] _).mono ?_; rintro e w' ⟨rfl, rfl⟩)
            refine ⟨⟨k + 1, some f, l, ⟨by omega, fun f' h => by cases h; omega, HR.out.below, HR.out.own, ?_⟩, rfl, by go_num⟩, by simp [intOf]; omega⟩
            have h := HR.out.eq
            rw [hd.out] at h
            rw [curOf_next s f k hf hlt, ← h]
            simp [wordsL, hb]
        · cases fo with
          | none =>
            simp only [fromI]
            go_wp2_with (go_at_call 109; refine (rBlank_c s[k] _).mono ?_; rintro e w' ⟨rfl, rfl⟩)
            refine ⟨⟨k + 1, none, l, ⟨by omega, (fun f h => by cases h), HR.out.below, HR.out.own, ?_⟩, rfl, by go_num⟩, by simp [intOf]; omega⟩
            have h := HR.out.eq
            rw [hd.out] at h
            rw [← h]
            simp [wordsL, hb, curOf]
          | some f =>
            have hf := (HR.out.hf f rfl).1
            have HW := Lib.hid HR.out.own
            have HLL := Lib.hid (refWords_len HR.out HS.out)
            have c1 : (0 : Int) ≤ (f : Int) ∧ (f : Int) ≤ (k : Int) := by omega
            have c2 : (0 : Int) ≤ (k : Int) ∧ (k : Int) ≤ (s.size : Int) := by omega
            simp only [fromI]
            go_wp2_with (first | (go_at_call 109; refine (rBlank_c s[k] _).mono ?_; rintro e w' ⟨rfl, rfl⟩) | (at_builtin; refine wpList_append_str rfl _ _ rfl w.heap.size l u3 (s.extract f k) wr rfl rfl HW.out HLL.out HR.out.below.size ?_; intro v' w' ho hg hex; have HO := Lib.hid ho; have HG := Lib.hid hg; have HX := Lib.hid hex; clear ho hg hex))
            refine ⟨⟨k + 1, none, l ++ [s.extract f k], ⟨by omega, (fun f h => by cases h), below_append HW.out HR.out.below (Nat.le_refl _) HR.out.below.size HG.out, HO.out, ?_⟩, rfl, by go_num⟩, by simp [intOf]; omega⟩
            have h := HR.out.eq
            rw [hd.out] at h
            rw [← h, extract_cur]
            simp [wordsL, hb, curOf_ne s f k hf hle]
            rfl
      · cases fo with
        | none =>
          simp only [fromI]
          go_wp2
          refine ⟨⟨k + 1, none, l, ⟨by omega, (fun f h => by cases h), HR.out.below, HR.out.own, ?_⟩, rfl, by go_num⟩, by simp [intOf]; omega⟩
          have h := HR.out.eq
          rw [List.drop_eq_nil_of_le (by simp; have h4 : s.data.size = s.size := rfl; omega)] at h
          rw [← h, List.drop_eq_nil_of_le (by simp; have h4 : s.data.size = s.size := rfl; omega)]
          rfl
        | some f =>
          have hf := (HR.out.hf f rfl).1
          have HW := Lib.hid HR.out.own
          have HLL := Lib.hid (refWords_len HR.out HS.out)
          have c1 : (0 : Int) ≤ (f : Int) ∧ (f : Int) ≤ (k : Int) := by omega
          have c2 : (0 : Int) ≤ (k : Int) ∧ (k : Int) ≤ (s.size : Int) := by omega
          simp only [fromI]
          go_wp2_with (at_builtin; refine wpList_append_str rfl _ _ rfl w.heap.size l u3 (s.extract f k) wr rfl rfl HW.out HLL.out HR.out.below.size ?_; intro v' w' ho hg hex; have HO := Lib.hid ho; have HG := Lib.hid hg; have HX := Lib.hid hex; clear ho hg hex)
          refine ⟨⟨k + 1, none, l ++ [s.extract f k], ⟨by omega, (fun f h => by cases h), below_append HW.out HR.out.below (Nat.le_refl _) HR.out.below.size HG.out, HO.out, ?_⟩, rfl, by go_num⟩, by simp [intOf]; omega⟩
          have h := HR.out.eq
          rw [List.drop_eq_nil_of_le (by simp; have h4 : s.data.size = s.size := rfl; omega)] at h
          rw [← h, extract_cur, List.drop_eq_nil_of_le (by simp; have h4 : s.data.size = s.size := rfl; omega)]
          simp [wordsL, curOf_ne s f k hf hle]
          rfl
    · have hfo : fo = none := by
        cases fo with
        | none => rfl
        | some f => have := (HR.out.hf f rfl).2; omega
      subst hfo
      go_wp2
      go_ret
      have h := HR.out.eq
      rw [List.drop_eq_nil_of_le (by simp; have h4 : s.data.size = s.size := rfl; omega)] at h
      refine ⟨u3, rfl, ?_, HR.out.below⟩
      rw [← h]
      simpa [wordsL, curOf] using HR.out.own
end Go.Proofs.YtfcfddfjifofgaaDoor
/- What the reference's Squeeze and its test of a subject return. -/
namespace Go.Proofs.YtfcfddfjifofgaaDoor
open Go.RowKit Go.Shelf

theorem join_take_zero (xs : List (List UInt8)) (x : List UInt8) (sep : List UInt8) (h : xs[0]? = some x) : Lib.join (xs.take 1) sep = x := by
  cases xs with
  | nil => cases h
  | cons y r => simp at h; subst h; simp [Lib.join_one]
theorem join_take_succ (xs : List (List UInt8)) (k : Nat) (x : List UInt8) (sep : List UInt8) (h0 : 0 < k) (h : xs[k]? = some x) : Lib.join (xs.take (k + 1)) sep = Lib.join (xs.take k) sep ++ sep ++ x := by
  cases xs with
  | nil => cases h
  | cons y r =>
    obtain ⟨j, rfl⟩ : ∃ j, k = j + 1 := ⟨k - 1, by omega⟩
    rw [List.take_succ_cons, List.take_succ_cons, Lib.join_cons, Lib.join_cons, Lib.joinTail_take_succ sep r j x (by simpa using h)]
    simp
theorem lens_take (xs : List (List UInt8)) (k : Nat) : ((xs.take k).map List.length).sum ≤ (xs.map List.length).sum := by
  induction xs generalizing k with
  | nil => simp
  | cons x r ih =>
    cases k with
    | zero => simp
    | succ k =>
      rw [List.take_succ_cons, List.map_cons, List.map_cons, List.sum_cons, List.sum_cons]
      have := ih k
      omega
/-- The first k strings of a list, joined. -/
def joinT (l : List ByteArray) (sep : ByteArray) (k : Nat) : ByteArray := joinS (l.take k) sep
theorem joinT_len (l : List ByteArray) (sep : ByteArray) (k : Nat) : (joinT l sep k).size ≤ sep.size * l.length + ((l.map (·.data.toList)).map List.length).sum := by
  have h := join_len ((l.take k).map (·.data.toList)) sep.data.toList
  have h2 := lens_take (l.map (·.data.toList)) k
  have h3 : (joinT l sep k).size = (Lib.join ((l.take k).map (·.data.toList)) sep.data.toList).length := by simp [joinT, joinS, ByteArray.size]
  rw [h3]
  have h4 : sep.data.toList.length = sep.size := by simp
  rw [← List.map_take] at h2
  rw [h4] at h
  have h5 : ((l.take k).map (·.data.toList)).length ≤ l.length := by simp; omega
  have h6 := Nat.mul_le_mul_left sep.size h5
  omega
theorem joinT_first (l : List ByteArray) (sep x : ByteArray) (h : l[0]? = some x) : joinT l sep 1 = x := by
  refine bytes_ext ?_
  show Lib.join ((l.take 1).map (·.data.toList)) sep.data.toList = _
  rw [List.map_take]
  exact join_take_zero _ _ _ (by simp [h])
theorem joinT_next (l : List ByteArray) (sep x : ByteArray) (k : Nat) (h0 : 0 < k) (h : l[k]? = some x) : joinT l sep (k + 1) = joinT l sep k ++ sep ++ x := by
  refine bytes_ext ?_
  show Lib.join ((l.take (k + 1)).map (·.data.toList)) sep.data.toList = _
  rw [List.map_take, join_take_succ _ k x.data.toList _ h0 (by simp [h])]
  simp only [ByteArray.data_append, Array.toList_append, joinT, joinS, List.map_take]
theorem joinT_zero (l : List ByteArray) (sep : ByteArray) : joinT l sep 0 = ⟨#[]⟩ := by simp [joinT, joinS, Lib.join]
theorem joinT_all (l : List ByteArray) (sep : ByteArray) : joinT l sep l.length = joinS l sep := by simp [joinT]

/-- What an index of a []string of the call's own reads. -/
theorem ownStrs_at {B : Nat} {l : List ByteArray} {w : World} {v : Value} (h : OwnStrs B l w v) (hl : 0 < l.length) :
    ∃ g cap, v = .slice (some ⟨g, 0, none⟩) l.length cap ∧ ∀ (j : Nat) x, l[j]? = some x → w.cell? ⟨g, j, none⟩ = some (.string x) := by
  rcases ownStrs_cases h with ⟨rfl, _⟩ | ⟨g, cap, rfl, _, _, _, hx⟩
  · simp at hl
  · exact ⟨g, cap, rfl, fun j x hj => by have := hx j x hj; simpa using this⟩
theorem ownStrs_len {B : Nat} {l : List ByteArray} {w : World} {v : Value} (h : OwnStrs B l w v) : ∃ a c, v = .slice a l.length c := by
  rcases ownStrs_cases h with ⟨rfl, a, c, rfl⟩ | ⟨g, cap, rfl, _⟩
  · exact ⟨a, c, rfl⟩
  · exact ⟨_, _, rfl⟩

set_option maxRecDepth 100000 in
set_option maxHeartbeats 1000000 in
theorem rSqueeze_c (s : ByteArray) (w : World) (hs : s.size ≤ 1099511627776) :
    Calls Tryd.prog 70 #[.string s] w (SqueezePost s w) := by
  have HS := Lib.hid hs
  clear hs
  go_enter Tryd.func70, Tryd.ntmps70
  go_wp2_with fail
  refine (rWords_c s _ HS.out).mono ?_
  rintro e w1 ⟨v, rfl, ho, hb⟩
  have hlen : ((wordsS s).map (·.data.toList)).map List.length = (wordsL [] (by' s)).map List.length := by rw [words_map]
  have hbnd : ∀ k, (joinT (wordsS s) ⟨#[32]⟩ k).size ≤ 2 * s.size := fun k => by
    have h1 := joinT_len (wordsS s) ⟨#[32]⟩ k
    have h2 := wordsS_len s
    have h3 := wordsL_lens [] (by' s)
    rw [hlen] at h1
    simp at h1 h3
    have h4 : s.data.size = s.size := rfl
    have h5 : (⟨#[32]⟩ : ByteArray).size = 1 := rfl
    rw [h5] at h1
    omega
  have HO := Lib.hid ho
  have HB := Lib.hid hb
  have HN := Lib.hid hbnd
  clear ho hb hbnd hlen
  obtain ⟨a, c, hv⟩ := ownStrs_len HO.out
  have HV := Lib.hid hv
  rw [hv]
  clear hv
  have hll := wordsS_len s
  generalize hW : wordsS s = l at *
  have HW := Lib.hid hW
  clear hW
  have hl2 : l.length ≤ 1099511627776 := by have := HS.out; omega
  go_wp2_with fail
  go_loop [3, 5] (fun o i => ∃ k : Nat, k ≤ l.length ∧ i = .int .i64 k ∧ o = .string (joinT l ⟨#[32]⟩ k)) (fun _ i => l.length - (intOf i).toNat)
  case atStart => exact ⟨0, Nat.zero_le _, rfl, by rw [joinT_zero]⟩
  case round =>
    obtain ⟨k, hk, rfl, rfl⟩ := hrel
    by_cases hlt : k < l.length
    · obtain ⟨g, cap, hv2, hx⟩ := ownStrs_at HO.out (by omega)
      have hac := HV.out.symm.trans hv2
      simp only [Value.slice.injEq] at hac
      obtain ⟨rfl, _, rfl⟩ := hac
      have hxk : l[k]? = some l[k] := List.getElem?_eq_getElem hlt
      have hcell := hx k _ hxk
      have h1 := HN.out k
      have h2 := HN.out (k + 1)
      have h3 := HS.out
      have hjn : 0 < k → joinT l ⟨#[32]⟩ (k + 1) = joinT l ⟨#[32]⟩ k ++ ⟨#[32]⟩ ++ l[k] := fun h0 => joinT_next l _ _ k h0 hxk
      have HJ := Lib.hid hjn
      have HXK := Lib.hid hxk
      clear hx hxk hjn hv2
      by_cases h0 : k = 0
      · subst h0
        have hj1 := joinT_first l ⟨#[32]⟩ l[0] HXK.out
        have HJ1 := Lib.hid hj1
        have hz := Lib.hid (joinT_zero l ⟨#[32]⟩)
        rw [hj1] at h2
        clear hj1 h1
        rw [hz.out]
        go_wp2
        exact ⟨⟨1, by omega, rfl, by rw [HJ1.out]; congr 1⟩, by simp [intOf]; omega⟩
      · have h0' : 0 < k := by omega
        rw [HJ.out h0', ByteArray.size_append, ByteArray.size_append] at h2
        have h5 : (⟨#[32]⟩ : ByteArray).size = 1 := rfl
        rw [h5] at h2
        clear h5
        generalize hJ : joinT l ⟨#[32]⟩ k = j at *
        clear hJ
        go_wp2
        exact ⟨⟨k + 1, by omega, by go_num, by rw [HJ.out h0']⟩, by simp [intOf]; omega⟩
    · obtain rfl : k = l.length := by omega
      go_wp2
      go_ret
      exact ⟨by rw [squeezeS, HW.out, ← joinT_all]; rfl, HB.out⟩

set_option maxHeartbeats 400000 in
theorem rSubject_c (s : ByteArray) (w : World) (hs : s.size ≤ maxLen) :
    Calls Tryd.prog 42 #[.string s] w (SubjectPost s w) := by
  have hm := hs
  unfold maxLen at hs
  by_cases h1 : 200 < s.size
  · go_enter Tryd.func42, Tryd.ntmps42
    go_wp2
    go_ret
    exact ⟨ret_int (by rw [subjectE, if_pos h1]; rfl), Below.refl _ _⟩
  by_cases h2 : 0 ≤ printableI s
  · go_enter Tryd.func42, Tryd.ntmps42
    go_wp2_with (go_at_call 69; refine (rPrintable_c s _ hm).mono ?_; rintro e w' ⟨rfl, rfl⟩)
    go_ret
    exact ⟨ret_int (by rw [subjectE, if_neg h1, if_pos h2]; rfl), Below.refl _ _⟩
  go_enter Tryd.func42, Tryd.ntmps42
  go_wp2_with (first | (go_at_call 69; refine (rPrintable_c s _ hm).mono ?_; rintro e w' ⟨rfl, rfl⟩) | (go_at_call 70; refine (rSqueeze_c s _ (by omega)).mono ?_; rintro e w1 ⟨rfl, hb⟩; have HB := Lib.hid hb; clear hb))
  · go_ret
    exact ⟨ret_int (by rw [subjectE, if_neg h1, if_neg (show ¬ 0 ≤ printableI s by omega), if_neg (toList_ne (by assumption))]; rfl), HB.out⟩
  · go_ret
    exact ⟨ret_int (by rw [subjectE, if_neg h1, if_neg (show ¬ 0 ≤ printableI s by omega), if_pos (toList_same (by assumption))]; rfl), HB.out⟩
end Go.Proofs.YtfcfddfjifofgaaDoor
