/- What ascii.span, the closures that it is given, and ascii.Words return. -/
import Derived.Test.YtfcfddfjifofgaaDoorAscii
import Derived.Test.YtfcfddfjifofgaaDoorPure
import Derived.Shelf.Abstract
import Derived.Test.YtfcfddfjifofgaaDoorShelf
import Derived.Deep.AppendLies
namespace Go.Proofs.YtfcfddfjifofgaaDoor
open Go.RowKit Go.Shelf

/-- A function value that computes a class of bytes in every world that meets W. -/
def ClassOf (f : Nat) (cap : Array Value) (p : UInt8 → Bool) (w : World) : Prop :=
  (∀ args w, (callFunc f args).run Tryd.prog w = .ok (.enter f args) w) ∧ ∀ c : UInt8, Calls Tryd.prog f (#[.int .u8 c.toNat] ++ cap) w fun e w' => e = .returned (.bool (p c)) ∧ w = w'

theorem classBlank (w : World) : ClassOf 128 #[] blankB w := ⟨enters_of Tryd.func128 (by kernel_rfl) rfl, fun c => isBlank_c c w⟩
theorem classDigit (w : World) : ClassOf 62 #[] digitB w := ⟨enters_of Tryd.func62 (by kernel_rfl) rfl, fun c => isDigit_c c w⟩

set_option maxHeartbeats 400000 in
theorem not1_c (c : UInt8) (b : Nat) (w : World) (hc : w.cell? ⟨b, 0, none⟩ = some (.func (.func 128) #[] #[])) :
    Calls Tryd.prog 136 #[.int .u8 c.toNat, .pointer (some ⟨b, 0, none⟩)] w fun e w' => e = .returned (.bool (!blankB c)) ∧ w = w' := by
  go_enter Tryd.func136, Tryd.ntmps136
  go_wp2_with (go_at_call 128; refine (isBlank_c c _).mono ?_; rintro e w' ⟨rfl, rfl⟩)
  go_ret
  exact ⟨rfl, rfl⟩
theorem classVisible (b : Nat) (w : World) (hc : w.cell? ⟨b, 0, none⟩ = some (.func (.func 128) #[] #[])) :
    ClassOf 136 #[.pointer (some ⟨b, 0, none⟩)] (fun c => !blankB c) w := ⟨enters_of Tryd.func136 (by kernel_rfl) rfl, fun c => not1_c c b w hc⟩
def printB (c : UInt8) : Bool := c.toNat == 32 || visibleB c
set_option maxHeartbeats 400000 in
theorem printable1_c (c : UInt8) (w : World) :
    Calls Tryd.prog 86 #[.int .u8 c.toNat] w fun e w' => e = .returned (.bool (printB c)) ∧ w = w' := by
  by_cases h : c.toNat = 32
  · have h1 : ((c.toNat : Int) == 32) = true := by rw [beq_iff_eq]; omega
    go_enter Tryd.func86, Tryd.ntmps86
    go_wp2_with (go_at_call 87; refine (isVisible_c c _).mono ?_; rintro e w' ⟨rfl, rfl⟩)
    go_ret
    exact ⟨ret_bool (by simp [printB, h]), rfl⟩
  · have h1 : ((c.toNat : Int) == 32) = false := by rw [beq_eq_false_iff_ne]; omega
    go_enter Tryd.func86, Tryd.ntmps86
    go_wp2_with (go_at_call 87; refine (isVisible_c c _).mono ?_; rintro e w' ⟨rfl, rfl⟩)
    go_ret
    exact ⟨ret_bool (by simp [printB, h]), rfl⟩
theorem classPrint (w : World) : ClassOf 86 #[] printB w := ⟨enters_of Tryd.func86 (by kernel_rfl) rfl, fun c => printable1_c c w⟩

set_option maxHeartbeats 400000 in
theorem span_c (f : Nat) (cap : Array Value) (p : UInt8 → Bool) (s : ByteArray) (k : Nat) (hk : k ≤ s.size) (w : World) (hs : s.size ≤ maxLen) (hp : ClassOf f cap p w) :
    Calls Tryd.prog 85 #[.string s, .int .i64 k, .func (.func f) #[] cap] w fun e w' => e = .returned (.int .i64 (spanP p s k)) ∧ w = w' := by
  unfold maxLen at hs
  obtain ⟨eg, hp⟩ := hp
  have HP := Lib.hid hp
  clear hp
  go_enter Tryd.func85, Tryd.ntmps85
  go_wp2_with fail
  go_loop [1] (fun i => ∃ j : Nat, j ≤ s.size ∧ Hid (spanP p s k = spanP p s j) ∧ i = .int .i64 j) (fun i => s.size - (intOf i).toNat)
  case atStart => exact ⟨k, hk, Lib.hid rfl, rfl⟩
  case round =>
    obtain ⟨j, hj, HE, rfl⟩ := hrel
    by_cases hlt : j < s.size
    · cases hq : p s[j]
      all_goals
        have HC : Hid (Calls Tryd.prog f (#[.int .u8 s[j].toNat] ++ cap) w fun e w' => e = .returned (.bool (p s[j])) ∧ w = w') := HP.out _
        have hq' := Lib.hid hq
        rw [hq] at HC
        clear hq
        go_wp2_with (go_at_fn f; refine HC.out.mono ?_; rintro e w' ⟨rfl, rfl⟩)
      · go_ret
        exact ⟨ret_int (by rw [HE.out, spanP_stop hlt hq'.out]), rfl⟩
      · exact ⟨⟨j + 1, by omega, HE.out.trans (spanP_step hlt hq'.out), by go_num⟩, by simp [intOf]; omega⟩
    · go_wp2
      go_ret
      exact ⟨ret_int (by rw [HE.out, spanP_end (by omega)]), rfl⟩
end Go.Proofs.YtfcfddfjifofgaaDoor
/- What ascii.Words returns: the words, in memory of the call's own. -/
namespace Go.Proofs.YtfcfddfjifofgaaDoor
open Go.RowKit Go.Shelf

theorem infoString : (Tryd.prog.info? 9).map (fun i => (i.zero, i.size, i.bytes)) = some (some (.string ⟨#[]⟩), 1, 16) := by kernel_rfl

/-- The strings of a list as values. -/
abbrev strs (l : List ByteArray) : List Value := l.map Value.string

/-- Block b holds one cell v, a []string of the call's own that holds l, in blocks behind b. -/
structure OutAt (b : Nat) (l : List ByteArray) (w : World) (v : Value) : Prop where
  cell : w.heap[b]? = some (.cells #[v] 24 (0, 0))
  row : w.ownsRow (b + 1) 9 1 v l.length (strs l)

def Words1Post (b : Nat) (l : List ByteArray) (v0 : Value) (w : World) (e : Ending) (w' : World) : Prop :=
  e = .returned (.tuple #[]) ∧ Below b w w' ∧ (∀ k, k < w.heap.size → k ≠ b → some k ≠ v0.ownBlock → w'.heap[k]? = w.heap[k]?) ∧ ∃ v, OutAt b l w' v

set_option maxHeartbeats 1000000 in
theorem words1_c (x : ByteArray) (b : Nat) (l : List ByteArray) (v : Value) (w : World) (h : OutAt b l w v) (hl : l.length ≤ 1099511627776) :
    Calls Tryd.prog 108 #[.string x, .pointer (some ⟨b, 0, none⟩)] w (Words1Post b (l ++ [x]) v w) := by
  obtain ⟨i0, hi, hz0, hz1, hz2⟩ := info_parts infoString
  have hc := h.cell
  have hcell : w.cell? ⟨b, 0, none⟩ = some v := cell_of_one hc
  have hfree : w.frozen? ⟨b, 0, none⟩ = false := free_of_one hc
  have hrow := Lib.hid h.row
  have hrowlt : ∀ k, v.ownBlock = some k → b ≤ k := fun k hk => by have := h.row.lt k hk; omega
  have hbs : b < w.heap.size := by
    rcases Nat.lt_or_ge b w.heap.size with h' | h'
    · exact h'
    · rw [Array.getElem?_eq_none h'] at hc; cases hc
  clear h
  go_enter Tryd.func108, Tryd.ntmps108
  go_wp2_with (at_builtin; refine wpList_append_own _ rfl _ _ 24 rfl (b + 1) 9 i0 (.string ⟨#[]⟩) 1 16 Tryd.underlying24 hi hz0 hz1 hz2 rfl (by decide) _ _ _ rfl (hrow.out.alloc _) ⟨w.heap.size, 0, none⟩ 1 1 [.string x] rfl rfl ?c1 ?c2 ?c3 ?c4 ?c5 ?_)
  case c1 =>
    intro j u hu
    cases j with
    | zero => simp at hu; subst hu; exact World.cell?_alloc_new _ _ _ 0
    | succ j => simp at hu
  case c2 => intro u hu; simp at hu; subst hu; rfl
  case c3 => unfold maxLen; omega
  case c4 => omega
  case c5 => simp; omega
  intro v' w' hown hg hne
  have hb' : w'.heap[b]? = some (.cells #[v] 24 (0, 0)) := by
    rw [hg.block b (by simp; omega) (fun e => by have := hrow.out.lt b e.symm; omega), Below.heap_alloc _ _ _ hbs]; exact hc
  have hcell2 : w'.cell? ⟨b, 0, none⟩ = some v := cell_of_one hb'
  have hfree2 : w'.frozen? ⟨b, 0, none⟩ = false := free_of_one hb'
  have hex : ∃ g cap, v' = .slice (some ⟨g, 0, none⟩) (l.length + 1) cap := by
    rcases hown.2 with ⟨h1, h2⟩ | ⟨g, cap, cur, h1, h2⟩
    · exact absurd h1 hne
    · exact ⟨g, cap, h1⟩
  obtain ⟨g, cap, hv⟩ := hex
  have HO := Lib.hid hown
  have HG := Lib.hid hg
  have HL := Lib.hid hrowlt
  clear hown hg hne hcell hfree hrow hc hrowlt
  rw [hv]
  rw [hv] at HO
  clear hv
  go_wp2
  have hown := HO.out
  have hg := HG.out
  go_end0
  refine ⟨rfl, ?_, fun k hk hkb hkv => ?_, .slice (some ⟨g, 0, none⟩) (l.length + 1) cap, ?_, ?_⟩
  · refine Below.setCell (Below.grown ((Below.refl b w).alloc (by omega) _) hg (by simp; omega) (fun k hk => ?_)) (by simp) _
    have := (HL.out k hk); omega
  · rw [Below.heap_setCell _ _ _ _ hkb, hg.block k (by simp; omega) hkv, Below.heap_alloc _ _ _ hk]
  · exact one_setCell hb'
  · have e : strs (l ++ [x]) = strs l ++ [.string x] := by simp [strs]
    rw [e, List.length_append]
    exact ownsRow_setCell_below hown (by simp) _

set_option maxHeartbeats 400000 in
theorem not_c (w : World) :
    Calls Tryd.prog 127 #[.func (.func 128) #[] #[]] w fun e w' => e = .returned (.func (.func 136) #[] #[.pointer (some ⟨w.heap.size, 0, none⟩)]) ∧ w' = w.alloc (.cells #[.func (.func 128) #[] #[]] 107) := by
  go_enter Tryd.func127, Tryd.ntmps127
  go_wp2
  go_ret
  exact ⟨rfl, rfl⟩

def EachPost (b : Nat) (s : ByteArray) (w : World) (e : Ending) (w' : World) : Prop :=
  e = .returned (.tuple #[]) ∧ Below b w w' ∧ ∃ v, OutAt b (wordsS s) w' v

/-- What holds at the head of each's loop: the words met so far lie in the variable. -/
structure EachRel (b nb : Nat) (s : ByteArray) (k : Nat) (w wr : World) : Prop where
  start : StartAt s k
  below : Below b w wr
  cls : wr.heap[nb]? = some (.cells #[.func (.func 128) #[] #[]] 107 (0, 0))
  out : ∃ l v, OutAt b l wr v ∧ l ++ (wordsL [] ((by' s).drop k)).map (fun l => (⟨l.toArray⟩ : ByteArray)) = wordsS s

set_option maxRecDepth 100000 in
set_option maxHeartbeats 1000000 in
theorem each_c (s : ByteArray) (b : Nat) (v : Value) (w : World) (h : OutAt b [] w v) (hs : s.size ≤ 1099511627776) :
    Calls Tryd.prog 107 #[.string s, .func (.func 108) #[] #[.pointer (some ⟨b, 0, none⟩)]] w (EachPost b s w) := by
  have hbs : b < w.heap.size := lt_of_block h.cell
  have hm : s.size ≤ maxLen := by unfold maxLen; omega
  have H := Lib.hid h
  clear h
  go_enter Tryd.func107, Tryd.ntmps107
  go_wp2_with fail
  refine (not_c _).mono ?_
  rintro e w1 ⟨rfl, rfl⟩
  go_wp2_with fail
  refine (span_c _ _ blankB s 0 (Nat.zero_le _) _ hm (classBlank _)).mono ?_
  rintro e w1 ⟨rfl, rfl⟩
  go_wp2_with fail
  go_loopw [5] (fun i wr => ∃ k : Nat, EachRel b w.heap.size s k w wr ∧ i = .int .i64 k) (fun i _ => s.size - (intOf i).toNat)
  case atStart =>
    refine ⟨spanP blankB s 0, ⟨startAt_span _ _ (Nat.zero_le _), (Below.refl b w).alloc (by omega) _, heap_alloc_new _ _, [], v, ⟨?_, H.out.row.alloc _⟩, ?_⟩, rfl⟩
    · rw [Below.heap_alloc _ _ _ hbs]; exact H.out.cell
    · rw [words_start]; rfl
  case round =>
    obtain ⟨k, hrel, rfl⟩ := hrel
    have HR := Lib.hid hrel
    clear hrel
    by_cases hlt : k < s.size
    · have g1 : k < spanP (fun c => !blankB c) s k := spanP_gt hlt (by rw [HR.out.start.2 hlt]; rfl)
      have g2 : spanP (fun c => !blankB c) s k ≤ s.size := spanP_le _ _ _ (by omega)
      generalize hK : spanP (fun c => !blankB c) s k = q at g1 g2
      have HK := Lib.hid hK
      clear hK
      go_wp2_with fail
      refine (span_c _ _ (fun c => !blankB c) s k (by omega) _ hm (classVisible w.heap.size wr (cell_of_one HR.out.cls))).mono ?_
      rintro e w1 ⟨rfl, rfl⟩
      rw [HK.out]
      obtain ⟨l, v', hout, hw⟩ := HR.out.out
      have HO := Lib.hid hout
      have HW := Lib.hid hw
      clear hout hw
      have hll : l.length ≤ 1099511627776 := by
        have h1 := wordsS_len s
        have h2 := congrArg List.length HW.out
        rw [List.length_append] at h2
        omega
      have HLL := Lib.hid hll
      clear hll
      have c1 : (0 : Int) ≤ (k : Int) ∧ (k : Int) ≤ (q : Int) := by omega
      have c2 : (0 : Int) ≤ (q : Int) ∧ (q : Int) ≤ (s.size : Int) := by omega
      go_wp2_with fail
      refine (words1_c _ b l v' _ HO.out HLL.out).mono ?_
      rintro e w1 ⟨rfl, hb1, hk1, v1, ho1⟩
      have HB := Lib.hid hb1
      have HK1 := Lib.hid hk1
      have HO1 := Lib.hid ho1
      clear hb1 hk1 ho1
      go_wp2_with fail
      refine (span_c _ _ blankB s q (by omega) _ hm (classBlank _)).mono ?_
      rintro e w2 ⟨rfl, rfl⟩
      go_wp2_with fail
      have hb1 := HB.out
      have hcls := HR.out.cls
      have hne : w.heap.size ≠ b := by omega
      have hown : some w.heap.size ≠ v'.ownBlock := by
        intro e
        rcases HO.out.row.2 with ⟨h1, _⟩ | ⟨g, cap, cur, h1, _, h3, _⟩
        · rw [h1] at e; cases e
        · rw [h1] at e
          simp only [Value.ownBlock, Option.some.injEq] at e
          rw [e] at hcls
          rw [h3] at hcls
          simp at hcls
      have hlw : w.heap.size < wr.heap.size := lt_of_block hcls
      have hge := spanP_ge blankB s q
      refine ⟨⟨spanP blankB s q, ⟨startAt_span _ _ g2, HR.out.below.trans hb1, (HK1.out _ hlw hne hown).trans hcls, _, v1, HO1.out, ?_⟩, rfl⟩, by simp [intOf]; omega⟩
      have hw := HW.out
      rw [words_step s k hlt (HR.out.start.2 hlt), HK.out] at hw
      rw [List.append_assoc]
      exact hw
    · go_wp2
      go_end0
      obtain ⟨l, v', hout, hw⟩ := HR.out.out
      rw [words_done s k (by omega), List.append_nil] at hw
      subst hw
      exact ⟨rfl, HR.out.below, v', hout⟩

/-- A []string that reads as l, in memory from block B on that is the call's own (nil if l is empty). -/
def OwnStrs (B : Nat) (l : List ByteArray) (w : World) (v : Value) : Prop := w.ownsRow B 9 1 v l.length (strs l)
def WordsPost (s : ByteArray) (w : World) (e : Ending) (w' : World) : Prop :=
  ∃ v, e = .returned v ∧ OwnStrs w.heap.size (wordsS s) w' v ∧ Below w.heap.size w w'

set_option maxHeartbeats 1000000 in
theorem words_c (s : ByteArray) (w : World) (hs : s.size ≤ 1099511627776) :
    Calls Tryd.prog 88 #[.string s] w (WordsPost s w) := by
  have hm : s.size ≤ maxLen := by unfold maxLen; omega
  have h0 : OutAt w.heap.size [] (w.alloc (.cells #[.slice none 0 0] 24)) (.slice none 0 0) := ⟨heap_alloc_new _ _, World.ownsRow_nil _ _ _ _⟩
  have H := Lib.hid h0
  have HS := Lib.hid hs
  clear h0 hs
  go_enter Tryd.func88, Tryd.ntmps88
  go_wp2_with fail
  refine (each_c s _ _ _ H.out HS.out).mono ?_
  rintro e w1 ⟨rfl, hb, v, ho⟩
  have HB := Lib.hid hb
  have HO := Lib.hid ho
  clear hb ho
  have hcell : w1.cell? ⟨w.heap.size, 0, none⟩ = some v := cell_of_one HO.out.cell
  go_wp2_with fail
  go_ret
  refine ⟨v, rfl, ?_, ?_⟩
  · have h := HO.out.row
    refine ⟨h.1, h.2.imp id ?_⟩
    rintro ⟨g, cap, cur, h1, h2, h3⟩
    exact ⟨g, cap, cur, h1, by omega, h3⟩
  · exact ((Below.refl _ w).alloc (Nat.le_refl _) _).trans HB.out
end Go.Proofs.YtfcfddfjifofgaaDoor
/- What ascii.Printable, ascii.Squeeze and the program's test of a subject return. -/
namespace Go.Proofs.YtfcfddfjifofgaaDoor
open Go.RowKit Go.Shelf

def printableI (s : ByteArray) : Int := if spanP printB s 0 = s.size then -1 else (spanP printB s 0 : Int)
set_option maxHeartbeats 400000 in
theorem printable_c (s : ByteArray) (w : World) (hs : s.size ≤ maxLen) :
    Calls Tryd.prog 64 #[.string s] w fun e w' => e = .returned (.int .i64 (printableI s)) ∧ w = w' := by
  have hm := hs
  unfold maxLen at hs
  have h2 := spanP_le printB s 0 (Nat.zero_le _)
  rcases Nat.lt_or_eq_of_le h2 with h | h
  · have hb : ((spanP printB s 0 : Int) == (s.size : Int)) = false := by rw [beq_eq_false_iff_ne]; omega
    go_enter Tryd.func64, Tryd.ntmps64
    go_wp2_with (go_at_call 85; refine (span_c _ _ printB s 0 (Nat.zero_le _) _ hm (classPrint _)).mono ?_; rintro e w' ⟨rfl, rfl⟩)
    go_ret
    exact ⟨ret_int (by rw [printableI, if_neg (by omega)]), rfl⟩
  · have hb : ((spanP printB s 0 : Int) == (s.size : Int)) = true := by rw [beq_iff_eq]; omega
    go_enter Tryd.func64, Tryd.ntmps64
    go_wp2_with (go_at_call 85; refine (span_c _ _ printB s 0 (Nat.zero_le _) _ hm (classPrint _)).mono ?_; rintro e w' ⟨rfl, rfl⟩)
    go_ret
    exact ⟨ret_int (by rw [printableI, if_pos h]), rfl⟩

theorem ownStrs_cases {B : Nat} {l : List ByteArray} {w : World} {v : Value} (h : OwnStrs B l w v) :
    (l = [] ∧ ∃ a c, v = .slice a 0 c) ∨ (∃ g cap, v = .slice (some ⟨g, 0, none⟩) l.length cap ∧ l.length ≤ cap ∧ B ≤ g ∧ g < w.heap.size ∧ ∀ (j : Nat) x, l[j]? = some x → w.cell? ⟨g, 0 + j, none⟩ = some (.string x)) := by
  rcases h.2 with ⟨h1, h2⟩ | ⟨g, cap, cur, h1, h2, h3, h4, h5, h6, h7⟩
  · exact .inl ⟨List.eq_nil_of_length_eq_zero h2, none, 0, by rw [h1]⟩
  · refine .inr ⟨g, cap, h1, h4, h2, lt_of_block h3, fun j x hx => ?_⟩
    have h8 : (strs l)[j]? = some (.string x) := by simp [strs, hx]
    rw [← h7] at h8
    rw [World.cell?, h3]
    simp only [Option.isSome_none, Bool.false_eq_true, if_false, Nat.zero_add]
    rw [List.getElem?_take] at h8
    split at h8
    · rw [← Array.getElem?_toList]; exact h8
    · cases h8

/-- The strings of a list, joined. -/
def joinS (l : List ByteArray) (sep : ByteArray) : ByteArray := ⟨(Lib.join (l.map (·.data.toList)) sep.data.toList).toArray⟩
theorem join_c {B : Nat} (l : List ByteArray) (sep : ByteArray) (v : Value) (w : World) (h : OwnStrs B l w v) (h1 : l.length ≤ 140737488355328) (h2 : (Lib.join (l.map (·.data.toList)) sep.data.toList).length ≤ 140737488355328) :
    Calls Tryd.prog 58 #[v, .string sep] w fun e w' => e = .returned (.string (joinS l sep)) ∧ Below w.heap.size w w' := by
  rcases ownStrs_cases h with ⟨rfl, a, c, rfl⟩ | ⟨g, cap, rfl, hc, _, hg, hx⟩
  · exact (Tryd.strings_Join_none a c sep w).mono fun e w' ⟨he, hw⟩ => ⟨by rw [he]; simp [joinS, Lib.join], hw ▸ Below.refl _ _⟩
  · exact Tryd.strings_Join g 0 cap l sep w hx hg h1 hc h2
end Go.Proofs.YtfcfddfjifofgaaDoor
/- Appending one string to a []string of the call's own. -/
namespace Go.Proofs.YtfcfddfjifofgaaDoor
open Go.RowKit Go.Shelf

theorem wpList_append_str {ops : Array Oper} {rest : List Oper} {o : Oper} {a : Act} {Q : Exit → Act → World → Prop} (hgd : o.guard = none) (s x : Operand)
    (ho : o.op = .call { callee := .builtin .append, args := #[s, x], argTypes := #[24, 24] })
    (B : Nat) (l : List ByteArray) (v : Value) (y : ByteArray) (wr : World) (hs : a.eval s = v) (hx : a.eval x = .slice (some ⟨wr.heap.size, 0, none⟩) 1 1)
    (h : OwnStrs B l wr v) (hl : l.length ≤ 1099511627776) (hB : B ≤ wr.heap.size)
    (next : ∀ v' w', OwnStrs B (l ++ [y]) w' v' → (wr.alloc (.cells #[.string y] 9)).grownBy w' v.ownBlock → (∃ g cap, v' = .slice (some ⟨g, 0, none⟩) (l.length + 1) cap) → wpList Tryd.prog ops Q rest (a.put o.dst v') w') :
    wpList Tryd.prog ops Q (o :: rest) a (wr.alloc (.cells #[.string y] 9)) := by
  obtain ⟨i0, hi, hz0, hz1, hz2⟩ := info_parts infoString
  refine wpList_append_own _ hgd _ _ 24 ho B 9 i0 (.string ⟨#[]⟩) 1 16 Tryd.underlying24 hi hz0 hz1 hz2 rfl (by decide) v _ _ hs (h.alloc _) ⟨wr.heap.size, 0, none⟩ 1 1 [.string y] hx rfl ?c1 ?c2 ?c3 ?c4 ?c5 ?_
  case c1 =>
    intro j u hu
    cases j with
    | zero => simp at hu; subst hu; exact World.cell?_alloc_new _ _ _ 0
    | succ j => simp at hu
  case c2 => intro u hu; simp at hu; subst hu; rfl
  case c3 => unfold maxLen; omega
  case c4 => omega
  case c5 => simp; omega
  intro v' w' hown hg hne
  have hex : ∃ g cap, v' = .slice (some ⟨g, 0, none⟩) (l.length + 1) cap := by
    rcases hown.2 with ⟨h1, h2⟩ | ⟨g, cap, cur, h1, h2⟩
    · omega
    · exact ⟨g, cap, h1⟩
  refine next v' w' ?_ hg hex
  unfold OwnStrs
  rw [List.length_append]
  have e : strs (l ++ [y]) = strs l ++ [.string y] := by simp [strs]
  rw [e]; exact hown
/-- What such an append leaves of the world below B. -/
theorem below_append {B b : Nat} {l : List ByteArray} {w0 wr w' : World} {v : Value} {o : Obj} (h : OwnStrs B l wr v) (hb : Below b w0 wr) (hbB : b ≤ B) (hB : b ≤ wr.heap.size) (hg : (wr.alloc o).grownBy w' v.ownBlock) : Below b w0 w' :=
  Below.grown (hb.alloc hB _) hg (by simp; omega) (fun k hk => by have := h.lt k hk; omega)
/-- The same inside a region that draws its order. -/
theorem step_append_str {ops : Array Oper} {o : Oper} {a : Act} {K : Act → World → Prop} {Q : Exit → Act → World → Prop} {E : Prop} (hgd : o.guard = none) (s x : Operand)
    (ho : o.op = .call { callee := .builtin .append, args := #[s, x], argTypes := #[24, 24] })
    (B : Nat) (l : List ByteArray) (v : Value) (y : ByteArray) (w2 : World) (bn : Nat) (hs : a.eval s = v) (hx : a.eval x = .slice (some ⟨bn, 0, none⟩) 1 1) (hbn : w2.heap[bn]? = some (.cells #[.string y] 9 (0, 0)))
    (h : OwnStrs B l w2 v) (hl : l.length ≤ 1099511627776) (hB : B ≤ w2.heap.size)
    (next : ∀ g cap w', OwnStrs B (l ++ [y]) w' (.slice (some ⟨g, 0, none⟩) (l.length + 1) cap) → w2.grownBy w' v.ownBlock → K (a.put o.dst (.slice (some ⟨g, 0, none⟩) (l.length + 1) cap)) w') :
    if Region.wanted o (yielded ops a.tmps) = true then Oper.wp Tryd.prog o a w2 K Q else E := by
  obtain ⟨i0, hi, hz0, hz1, hz2⟩ := info_parts infoString
  refine step_append_lies w2 hgd s x 24 ho B 9 i0 (.string ⟨#[]⟩) 1 16 Tryd.underlying24 hi hz0 hz1 hz2 rfl (by decide) v _ _ hs h ⟨bn, 0, none⟩ 1 1 [.string y] hx rfl ?c1 ?c2 (by omega) ?c3 ?c4 hB _ rfl ?_
  case c1 =>
    intro j u hu
    cases j with
    | zero => simp at hu; subst hu; exact cell_of_one hbn
    | succ j => simp at hu
  case c2 => intro u hu; simp at hu; subst hu; rfl
  case c3 => unfold maxLen; omega
  case c4 => omega
  intro g cap w' hown hg _ _
  refine next g cap w' ?_ hg
  unfold OwnStrs
  rw [List.length_append]
  have e : strs (l ++ [y]) = strs l ++ [.string y] := by simp [strs]
  rw [e]; exact hown
end Go.Proofs.YtfcfddfjifofgaaDoor
/- What ascii.Squeeze and the program's test of a subject return. -/
namespace Go.Proofs.YtfcfddfjifofgaaDoor
open Go.RowKit Go.Shelf

theorem wordsL_lens (cur l : List UInt8) : ((wordsL cur l).map List.length).sum ≤ cur.length + l.length := by
  induction l generalizing cur with
  | nil => unfold wordsL; split <;> simp
  | cons c l ih =>
    unfold wordsL
    split
    · split
      · have := ih []; simp at this ⊢; omega
      · have := ih []; simp at this ⊢; omega
    · have := ih (cur ++ [c]); simp at this ⊢; omega
theorem lens_sum (l : List (List UInt8)) : Lib.lens l = (l.map List.length).sum := by
  induction l with
  | nil => rfl
  | cons x l ih => unfold Lib.lens at *; simp at *
theorem join_len (l : List (List UInt8)) (sep : List UInt8) : (Lib.join l sep).length ≤ sep.length * l.length + (l.map List.length).sum := by
  cases l with
  | nil => simp [Lib.join]
  | cons x r =>
    rw [Lib.join_length, lens_sum]
    simp only [List.length_cons]
    rw [Nat.mul_add]
    omega
def squeezeS (s : ByteArray) : ByteArray := joinS (wordsS s) ⟨#[32]⟩
theorem words_map (s : ByteArray) : (wordsS s).map (·.data.toList) = wordsL [] (by' s) := by
  unfold wordsS
  rw [List.map_map]
  exact List.map_id'' (fun _ => rfl) _
theorem squeeze_len (s : ByteArray) : (Lib.join ((wordsS s).map (·.data.toList)) ([32] : List UInt8)).length ≤ 2 * s.size := by
  have h1 := join_len ((wordsS s).map (·.data.toList)) [32]
  rw [words_map] at *
  have h2 := wordsL_len [] (by' s)
  have h3 := wordsL_lens [] (by' s)
  simp at h1 h2 h3
  have h4 : s.data.size = s.size := rfl
  omega

def SqueezePost (s : ByteArray) (w : World) (e : Ending) (w' : World) : Prop := e = .returned (.string (squeezeS s)) ∧ Below w.heap.size w w'
set_option maxHeartbeats 400000 in
theorem squeeze_c (s : ByteArray) (w : World) (hs : s.size ≤ 1099511627776) :
    Calls Tryd.prog 65 #[.string s] w (SqueezePost s w) := by
  have HS := Lib.hid hs
  clear hs
  go_enter Tryd.func65, Tryd.ntmps65
  go_wp2_with fail
  refine (words_c s _ HS.out).mono ?_
  rintro e w1 ⟨v, rfl, ho, hb⟩
  have HO := Lib.hid ho
  have HB := Lib.hid hb
  clear ho hb
  go_wp2_with fail
  refine (join_c (wordsS s) ⟨#[32]⟩ v w1 HO.out (by have := wordsS_len s; have := HS.out; omega) (by have := squeeze_len s; have := HS.out; simp only at this ⊢; omega)).mono ?_
  rintro e w2 ⟨rfl, hb2⟩
  have HB2 := Lib.hid hb2
  clear hb2
  go_wp2_with fail
  go_ret
  exact ⟨rfl, HB.out.trans (HB2.out.mono HB.out.size)⟩

theorem bytes_ext {x y : ByteArray} (h : x.data.toList = y.data.toList) : x = y := by
  cases x; cases y
  simp only [ByteArray.mk.injEq]
  exact Array.toList_inj.1 h
theorem toList_ne {x y : ByteArray} (h : (!(x.toList == y.toList)) = true) : ¬ x = y := by
  rintro rfl; simp at h
theorem toList_same {x y : ByteArray} (h : (!(x.toList == y.toList)) = false) : x = y := by
  simp only [Bool.not_eq_false', beq_iff_eq, ByteArray.toList_eq] at h
  exact bytes_ext h
def subjectE (s : ByteArray) : Nat := if 200 < s.size then 5 else if 0 ≤ printableI s then 6 else if squeezeS s = s then 0 else 3
def SubjectPost (s : ByteArray) (w : World) (e : Ending) (w' : World) : Prop := e = .returned (.int .i64 (subjectE s)) ∧ Below w.heap.size w w'
set_option maxHeartbeats 400000 in
theorem subject_c (s : ByteArray) (w : World) (hs : s.size ≤ maxLen) :
    Calls Tryd.prog 39 #[.string s] w (SubjectPost s w) := by
  have hm := hs
  unfold maxLen at hs
  by_cases h1 : 200 < s.size
  · go_enter Tryd.func39, Tryd.ntmps39
    go_wp2
    go_ret
    exact ⟨ret_int (by rw [subjectE, if_pos h1]; rfl), Below.refl _ _⟩
  by_cases h2 : 0 ≤ printableI s
  · go_enter Tryd.func39, Tryd.ntmps39
    go_wp2_with (go_at_call 64; refine (printable_c s _ hm).mono ?_; rintro e w' ⟨rfl, rfl⟩)
    go_ret
    exact ⟨ret_int (by rw [subjectE, if_neg h1, if_pos h2]; rfl), Below.refl _ _⟩
  go_enter Tryd.func39, Tryd.ntmps39
  go_wp2_with (first | (go_at_call 64; refine (printable_c s _ hm).mono ?_; rintro e w' ⟨rfl, rfl⟩) | (go_at_call 65; refine (squeeze_c s _ (by omega)).mono ?_; rintro e w1 ⟨rfl, hb⟩; have HB := Lib.hid hb; clear hb))
  · go_ret
    exact ⟨ret_int (by rw [subjectE, if_neg h1, if_neg (show ¬ 0 ≤ printableI s by omega), if_neg (toList_ne (by assumption))]; rfl), HB.out⟩
  · go_ret
    exact ⟨ret_int (by rw [subjectE, if_neg h1, if_neg (show ¬ 0 ≤ printableI s by omega), if_pos (toList_same (by assumption))]; rfl), HB.out⟩
end Go.Proofs.YtfcfddfjifofgaaDoor
