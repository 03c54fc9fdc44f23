/- What the reference's Printable, Words and Squeeze return. -/
import Derived.Test.YtfcfddfjifofgaaDoorSubject
import Derived.Test.YtfcfddfjifofgaaDoorAppend
namespace Go.Proofs.YtfcfddfjifofgaaDoor
open Go.RowKit Go.Shelf

set_option maxHeartbeats 400000 in
theorem rPrintable_c (s : ByteArray) (w : World) (hs : s.size ≤ maxLen) :
    Calls Tryd.prog 69 #[.string s] w fun e w' => e = .returned (.int .i64 (printableI s)) ∧ w = w' := by
  unfold maxLen at hs
  go_enter Tryd.func69, Tryd.ntmps69
  go_wp2_with fail
  go_loop [3] (fun i => ∃ j : Nat, j ≤ s.size ∧ Hid (spanP printB s 0 = spanP printB s j) ∧ i = .int .i64 j) (fun i => s.size - (intOf i).toNat)
  case atStart => exact ⟨0, Nat.zero_le _, Lib.hid rfl, rfl⟩
  case round =>
    obtain ⟨j, hj, HE, rfl⟩ := hrel
    by_cases hlt : j < s.size
    · have hp : printB s[j] = (s[j].toNat == 32 || visibleB s[j]) := rfl
      have HP := Lib.hid hp
      clear hp
      cases hv : visibleB s[j]
      · by_cases h32 : s[j].toNat = 32
        · have HX := Lib.hid h32
          have b1 : ((s[j].toNat : Int) != 32) = false := by simp [h32]
          clear h32
          go_wp2_with (go_at_call 89; refine (rVisible_c s[j] _).mono ?_; rintro e w' ⟨rfl, rfl⟩)
          exact ⟨⟨j + 1, by omega, HE.out.trans (spanP_step hlt (by rw [HP.out, HX.out]; rfl)), by go_num⟩, by simp [intOf]; omega⟩
        · have HX := Lib.hid h32
          have b1 : ((s[j].toNat : Int) != 32) = true := by rw [bne_iff_ne]; omega
          have b2 : ¬ (s[j].toNat : Int) = 32 := by omega
          clear h32
          go_wp2_with (go_at_call 89; refine (rVisible_c s[j] _).mono ?_; rintro e w' ⟨rfl, rfl⟩)
          go_ret
          have hq : printB s[j] = false := by rw [HP.out, hv]; simp [HX.out]
          exact ⟨ret_int (by rw [printableI, HE.out, spanP_stop hlt hq, if_neg (by omega)]), rfl⟩
      · go_wp2_with (go_at_call 89; refine (rVisible_c s[j] _).mono ?_; rintro e w' ⟨rfl, rfl⟩)
        exact ⟨⟨j + 1, by omega, HE.out.trans (spanP_step hlt (by rw [HP.out, hv]; simp)), by go_num⟩, by simp [intOf]; omega⟩
    · go_wp2
      go_ret
      exact ⟨ret_int (by rw [printableI, HE.out, spanP_end (by omega), if_pos (by omega)]), rfl⟩

/-- The bytes of the current word: from offset f to offset i. -/
def curOf (s : ByteArray) (fo : Option Nat) (i : Nat) : List UInt8 := match fo with
  | none => []
  | some f => ((by' s).drop f).take (i - f)
def fromI (fo : Option Nat) : Int := match fo with
  | none => -1
  | some f => f
structure RefWords (B : Nat) (s : ByteArray) (i : Nat) (fo : Option Nat) (l : List ByteArray) (w wr : World) (v : Value) : Prop where
  hi : i ≤ s.size + 1
  hf : ∀ f, fo = some f → f < i ∧ i ≤ s.size
  below : Below B w wr
  own : OwnStrs B l wr v
  eq : l ++ (wordsL (curOf s fo i) ((by' s).drop i)).map (fun l => (⟨l.toArray⟩ : ByteArray)) = wordsS s
theorem drop_at (s : ByteArray) (i : Nat) (h : i < s.size) : (by' s).drop i = s[i] :: (by' s).drop (i + 1) := by
  rw [List.drop_eq_getElem_cons (by simpa using h)]; rfl
theorem curOf_ne (s : ByteArray) (f i : Nat) (h : f < i) (hi : i ≤ s.size) : curOf s (some f) i ≠ [] := by
  intro e
  have := congrArg List.length e
  simp [curOf] at this
  have h4 : s.data.size = s.size := rfl
  omega
theorem curOf_start (s : ByteArray) (i : Nat) (h : i < s.size) : curOf s (some i) (i + 1) = [s[i]] := by
  simp only [curOf]
  rw [drop_at s i h, Nat.add_sub_cancel_left]; rfl
theorem curOf_next (s : ByteArray) (f i : Nat) (hf : f < i) (h : i < s.size) : curOf s (some f) (i + 1) = curOf s (some f) i ++ [s[i]] := by
  simp only [curOf]
  rw [show i + 1 - f = (i - f) + 1 from by omega, List.take_succ_eq_append_getElem (by simp; have h4 : s.data.size = s.size := rfl; omega)]
  congr 1
  simp only [List.getElem_drop]
  congr 1
  simp only [Nat.add_sub_cancel' (Nat.le_of_lt hf)]; rfl
theorem extract_cur (s : ByteArray) (f i : Nat) : s.extract f i = ⟨(curOf s (some f) i).toArray⟩ := by
  refine bytes_ext ?_
  rw [ByteArray.data_extract, Array.toList_extract, List.extract_eq_take_drop]
  rfl

theorem refWords_len {B : Nat} {s : ByteArray} {i : Nat} {fo : Option Nat} {l : List ByteArray} {w wr : World} {v : Value} (h : RefWords B s i fo l w wr v) (hs : s.size ≤ 1099511627776) : l.length ≤ 1099511627776 := by
  have h1 := wordsS_len s
  have h2 := congrArg List.length h.eq
  rw [List.length_append] at h2
  omega
def RW (B : Nat) (s : ByteArray) (w : World) (v f i : Value) (wr : World) : Prop := ∃ (k : Nat) (fo : Option Nat) (l : List ByteArray), RefWords B s k fo l w wr v ∧ f = .int .i64 (fromI fo) ∧ i = .int .i64 k

set_option maxRecDepth 100000 in
set_option maxHeartbeats 1000000 in
theorem rWords_c (s : ByteArray) (w : World) (hs : s.size ≤ 1099511627776) :
    Calls Tryd.prog 90 #[.string s] w (WordsPost s w) := by
  have HS := Lib.hid hs
  have hs2 : s.size < 9223372036854775807 := by omega
  clear hs
  go_enter Tryd.func90, Tryd.ntmps90
  go_wp2_with fail
  go_loopw [3, 4, 5] (fun v f i wr => RW w.heap.size s w v f i wr) (fun _ _ i _ => s.size + 1 - (intOf i).toNat)
  case atStart => exact ⟨0, none, [], ⟨Nat.zero_le _, fun f h => (by cases h), Below.refl _ _, World.ownsRow_nil _ _ _ _, rfl⟩, rfl, rfl⟩
  case round =>
    obtain ⟨k, fo, l, hr, rfl, rfl⟩ := hrel
    have HR := Lib.hid hr
    clear hr
    have hk := HR.out.hi
    by_cases hle : k ≤ s.size
    · by_cases hlt : k < s.size
      · have hd := Lib.hid (drop_at s k hlt)
        cases hb : blankB s[k]
        · cases fo with
          | none =>
            simp only [fromI]
            go_wp2_with (go_at_call 109; refine (rBlank_c s[k] _).mono ?_; rintro e w' ⟨rfl, rfl⟩)
            refine ⟨⟨k + 1, some k, l, ⟨by omega, fun f h => by cases h; omega, HR.out.below, HR.out.own, ?_⟩, rfl, by go_num⟩, by simp [intOf]; omega⟩
            have h := HR.out.eq
            rw [hd.out] at h
            rw [curOf_start s k hlt, ← h]
            simp [wordsL, hb, curOf]
          | some f =>
            have hf := (HR.out.hf f rfl).1
            simp only [fromI]
            go_wp2_with (go_at_call 109; refine (rBlank_c s[k] _).mono ?_; rintro e w' ⟨rfl, rfl⟩)
            refine ⟨⟨k + 1, some f, l, ⟨by omega, fun f' h => by cases h; omega, HR.out.below, HR.out.own, ?_⟩, rfl, by go_num⟩, by simp [intOf]; omega⟩
            have h := HR.out.eq
            rw [hd.out] at h
            rw [curOf_next s f k hf hlt, ← h]
            simp [wordsL, hb]
        · cases fo with
          | none =>
            simp only [fromI]
            go_wp2_with (go_at_call 109; refine (rBlank_c s[k] _).mono ?_; rintro e w' ⟨rfl, rfl⟩)
            refine ⟨⟨k + 1, none, l, ⟨by omega, (fun f h => by cases h), HR.out.below, HR.out.own, ?_⟩, rfl, by go_num⟩, by simp [intOf]; omega⟩
            have h := HR.out.eq
            rw [hd.out] at h
            rw [← h]
            simp [wordsL, hb, curOf]
          | some f =>
            have hf := (HR.out.hf f rfl).1
            have HW := Lib.hid HR.out.own
            have HLL := Lib.hid (refWords_len HR.out HS.out)
            have c1 : (0 : Int) ≤ (f : Int) ∧ (f : Int) ≤ (k : Int) := by omega
            have c2 : (0 : Int) ≤ (k : Int) ∧ (k : Int) ≤ (s.size : Int) := by omega
            simp only [fromI]
            go_wp2_with (first | (go_at_call 109; refine (rBlank_c s[k] _).mono ?_; rintro e w' ⟨rfl, rfl⟩) | (at_builtin; refine wpList_append_str rfl _ _ rfl w.heap.size l u3 (s.extract f k) wr rfl rfl HW.out HLL.out HR.out.below.size ?_; intro v' w' ho hg hex; have HO := Lib.hid ho; have HG := Lib.hid hg; have HX := Lib.hid hex; clear ho hg hex))
            refine ⟨⟨k + 1, none, l ++ [s.extract f k], ⟨by omega, (fun f h => by cases h), below_append HW.out HR.out.below (Nat.le_refl _) HR.out.below.size HG.out, HO.out, ?_⟩, rfl, by go_num⟩, by simp [intOf]; omega⟩
            have h := HR.out.eq
            rw [hd.out] at h
            rw [← h, extract_cur]
            simp [wordsL, hb, curOf_ne s f k hf hle]
            rfl
      · cases fo with
        | none =>
          simp only [fromI]
          go_wp2
          refine ⟨⟨k + 1, none, l, ⟨by omega, (fun f h => by cases h), HR.out.below, HR.out.own, ?_⟩, rfl, by go_num⟩, by simp [intOf]; omega⟩
          have h := HR.out.eq
          rw [List.drop_eq_nil_of_le (by simp; have h4 : s.data.size = s.size := rfl; omega)] at h
          rw [← h, List.drop_eq_nil_of_le (by simp; have h4 : s.data.size = s.size := rfl; omega)]
          rfl
        | some f =>
          have hf := (HR.out.hf f rfl).1
          have HW := Lib.hid HR.out.own
          have HLL := Lib.hid (refWords_len HR.out HS.out)
          have c1 : (0 : Int) ≤ (f : Int) ∧ (f : Int) ≤ (k : Int) := by omega
          have c2 : (0 : Int) ≤ (k : Int) ∧ (k : Int) ≤ (s.size : Int) := by omega
          simp only [fromI]
          go_wp2_with (at_builtin; refine wpList_append_str rfl _ _ rfl w.heap.size l u3 (s.extract f k) wr rfl rfl HW.out HLL.out HR.out.below.size ?_; intro v' w' ho hg hex; have HO := Lib.hid ho; have HG := Lib.hid hg; have HX := Lib.hid hex; clear ho hg hex)
          refine ⟨⟨k + 1, none, l ++ [s.extract f k], ⟨by omega, (fun f h => by cases h), below_append HW.out HR.out.below (Nat.le_refl _) HR.out.below.size HG.out, HO.out, ?_⟩, rfl, by go_num⟩, by simp [intOf]; omega⟩
          have h := HR.out.eq
          rw [List.drop_eq_nil_of_le (by simp; have h4 : s.data.size = s.size := rfl; omega)] at h
          rw [← h, extract_cur, List.drop_eq_nil_of_le (by simp; have h4 : s.data.size = s.size := rfl; omega)]
          simp [wordsL, curOf_ne s f k hf hle]
          rfl
    · have hfo : fo = none := by
        cases fo with
        | none => rfl
        | some f => have := (HR.out.hf f rfl).2; omega
      subst hfo
      go_wp2
      go_ret
      have h := HR.out.eq
      rw [List.drop_eq_nil_of_le (by simp; have h4 : s.data.size = s.size := rfl; omega)] at h
      refine ⟨u3, rfl, ?_, HR.out.below⟩
      rw [← h]
      simpa [wordsL, curOf] using HR.out.own
end Go.Proofs.YtfcfddfjifofgaaDoor
