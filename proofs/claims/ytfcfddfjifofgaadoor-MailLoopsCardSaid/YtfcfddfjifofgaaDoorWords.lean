/- What ascii.Words returns: the words, in memory of the call's own. -/
import Derived.Test.YtfcfddfjifofgaaDoorSpan
namespace Go.Proofs.YtfcfddfjifofgaaDoor
open Go.RowKit Go.Shelf

theorem infoString : (Tryd.prog.info? 9).map (fun i => (i.zero, i.size, i.bytes)) = some (some (.string ⟨#[]⟩), 1, 16) := by kernel_rfl

/-- The strings of a list as values. -/
abbrev strs (l : List ByteArray) : List Value := l.map Value.string

/-- Block b holds one cell v, a []string of the call's own that holds l, in blocks behind b. -/
structure OutAt (b : Nat) (l : List ByteArray) (w : World) (v : Value) : Prop where
  cell : w.heap[b]? = some (.cells #[v] 24 (0, 0))
  row : w.ownsRow (b + 1) 9 1 v l.length (strs l)

def Words1Post (b : Nat) (l : List ByteArray) (v0 : Value) (w : World) (e : Ending) (w' : World) : Prop :=
  e = .returned (.tuple #[]) ∧ Below b w w' ∧ (∀ k, k < w.heap.size → k ≠ b → some k ≠ v0.ownBlock → w'.heap[k]? = w.heap[k]?) ∧ ∃ v, OutAt b l w' v

set_option maxHeartbeats 1000000 in
theorem words1_c (x : ByteArray) (b : Nat) (l : List ByteArray) (v : Value) (w : World) (h : OutAt b l w v) (hl : l.length ≤ 1099511627776) :
    Calls Tryd.prog 108 #[.string x, .pointer (some ⟨b, 0, none⟩)] w (Words1Post b (l ++ [x]) v w) := by
  obtain ⟨i0, hi, hz0, hz1, hz2⟩ := info_parts infoString
  have hc := h.cell
  have hcell : w.cell? ⟨b, 0, none⟩ = some v := cell_of_one hc
  have hfree : w.frozen? ⟨b, 0, none⟩ = false := free_of_one hc
  have hrow := Lib.hid h.row
  have hrowlt : ∀ k, v.ownBlock = some k → b ≤ k := fun k hk => by have := h.row.lt k hk; omega
  have hbs : b < w.heap.size := by
    rcases Nat.lt_or_ge b w.heap.size with h' | h'
    · exact h'
    · rw [Array.getElem?_eq_none h'] at hc; cases hc
  clear h
  go_enter Tryd.func108, Tryd.ntmps108
  go_wp2_with (at_builtin; refine wpList_append_own _ rfl _ _ 24 rfl (b + 1) 9 i0 (.string ⟨#[]⟩) 1 16 Tryd.underlying24 hi hz0 hz1 hz2 rfl (by decide) _ _ _ rfl (hrow.out.alloc _) ⟨w.heap.size, 0, none⟩ 1 1 [.string x] rfl rfl ?c1 ?c2 ?c3 ?c4 ?c5 ?_)
  case c1 =>
    intro j u hu
    cases j with
    | zero => simp at hu; subst hu; exact World.cell?_alloc_new _ _ _ 0
    | succ j => simp at hu
  case c2 => intro u hu; simp at hu; subst hu; rfl
  case c3 => unfold maxLen; omega
  case c4 => omega
  case c5 => simp; omega
  intro v' w' hown hg hne
  have hb' : w'.heap[b]? = some (.cells #[v] 24 (0, 0)) := by
    rw [hg.block b (by simp; omega) (fun e => by have := hrow.out.lt b e.symm; omega), Below.heap_alloc _ _ _ hbs]; exact hc
  have hcell2 : w'.cell? ⟨b, 0, none⟩ = some v := cell_of_one hb'
  have hfree2 : w'.frozen? ⟨b, 0, none⟩ = false := free_of_one hb'
  have hex : ∃ g cap, v' = .slice (some ⟨g, 0, none⟩) (l.length + 1) cap := by
    rcases hown.2 with ⟨h1, h2⟩ | ⟨g, cap, cur, h1, h2⟩
    · exact absurd h1 hne
    · exact ⟨g, cap, h1⟩
  obtain ⟨g, cap, hv⟩ := hex
  have HO := Lib.hid hown
  have HG := Lib.hid hg
  have HL := Lib.hid hrowlt
  clear hown hg hne hcell hfree hrow hc hrowlt
  rw [hv]
  rw [hv] at HO
  clear hv
  go_wp2
  have hown := HO.out
  have hg := HG.out
  go_end0
  refine ⟨rfl, ?_, fun k hk hkb hkv => ?_, .slice (some ⟨g, 0, none⟩) (l.length + 1) cap, ?_, ?_⟩
  · refine Below.setCell (Below.grown ((Below.refl b w).alloc (by omega) _) hg (by simp; omega) (fun k hk => ?_)) (by simp) _
    have := (HL.out k hk); omega
  · rw [Below.heap_setCell _ _ _ _ hkb, hg.block k (by simp; omega) hkv, Below.heap_alloc _ _ _ hk]
  · exact one_setCell hb'
  · have e : strs (l ++ [x]) = strs l ++ [.string x] := by simp [strs]
    rw [e, List.length_append]
    exact ownsRow_setCell_below hown (by simp) _

set_option maxHeartbeats 400000 in
theorem not_c (w : World) :
    Calls Tryd.prog 127 #[.func (.func 128) #[] #[]] w fun e w' => e = .returned (.func (.func 136) #[] #[.pointer (some ⟨w.heap.size, 0, none⟩)]) ∧ w' = w.alloc (.cells #[.func (.func 128) #[] #[]] 107) := by
  go_enter Tryd.func127, Tryd.ntmps127
  go_wp2
  go_ret
  exact ⟨rfl, rfl⟩

def EachPost (b : Nat) (s : ByteArray) (w : World) (e : Ending) (w' : World) : Prop :=
  e = .returned (.tuple #[]) ∧ Below b w w' ∧ ∃ v, OutAt b (wordsS s) w' v

/-- What holds at the head of each's loop: the words met so far lie in the variable. -/
structure EachRel (b nb : Nat) (s : ByteArray) (k : Nat) (w wr : World) : Prop where
  start : StartAt s k
  below : Below b w wr
  cls : wr.heap[nb]? = some (.cells #[.func (.func 128) #[] #[]] 107 (0, 0))
  out : ∃ l v, OutAt b l wr v ∧ l ++ (wordsL [] ((by' s).drop k)).map (fun l => (⟨l.toArray⟩ : ByteArray)) = wordsS s

set_option maxRecDepth 100000 in
set_option maxHeartbeats 1000000 in
theorem each_c (s : ByteArray) (b : Nat) (v : Value) (w : World) (h : OutAt b [] w v) (hs : s.size ≤ 1099511627776) :
    Calls Tryd.prog 107 #[.string s, .func (.func 108) #[] #[.pointer (some ⟨b, 0, none⟩)]] w (EachPost b s w) := by
  have hbs : b < w.heap.size := lt_of_block h.cell
  have hm : s.size ≤ maxLen := by unfold maxLen; omega
  have H := Lib.hid h
  clear h
  go_enter Tryd.func107, Tryd.ntmps107
  go_wp2_with fail
  refine (not_c _).mono ?_
  rintro e w1 ⟨rfl, rfl⟩
  go_wp2_with fail
  refine (span_c _ _ blankB s 0 (Nat.zero_le _) _ hm (classBlank _)).mono ?_
  rintro e w1 ⟨rfl, rfl⟩
  go_wp2_with fail
  go_loopw [5] (fun i wr => ∃ k : Nat, EachRel b w.heap.size s k w wr ∧ i = .int .i64 k) (fun i _ => s.size - (intOf i).toNat)
  case atStart =>
    refine ⟨spanP blankB s 0, ⟨startAt_span _ _ (Nat.zero_le _), (Below.refl b w).alloc (by omega) _, heap_alloc_new _ _, [], v, ⟨?_, H.out.row.alloc _⟩, ?_⟩, rfl⟩
    · rw [Below.heap_alloc _ _ _ hbs]; exact H.out.cell
    · rw [words_start]; rfl
  case round =>
    obtain ⟨k, hrel, rfl⟩ := hrel
    have HR := Lib.hid hrel
    clear hrel
    by_cases hlt : k < s.size
    · have g1 : k < spanP (fun c => !blankB c) s k := spanP_gt hlt (by rw [HR.out.start.2 hlt]; rfl)
      have g2 : spanP (fun c => !blankB c) s k ≤ s.size := spanP_le _ _ _ (by omega)
      generalize hK : spanP (fun c => !blankB c) s k = q at g1 g2
      have HK := Lib.hid hK
      clear hK
      go_wp2_with fail
      refine (span_c _ _ (fun c => !blankB c) s k (by omega) _ hm (classVisible w.heap.size wr (cell_of_one HR.out.cls))).mono ?_
      rintro e w1 ⟨rfl, rfl⟩
      rw [HK.out]
      obtain ⟨l, v', hout, hw⟩ := HR.out.out
      have HO := Lib.hid hout
      have HW := Lib.hid hw
      clear hout hw
      have hll : l.length ≤ 1099511627776 := by
        have h1 := wordsS_len s
        have h2 := congrArg List.length HW.out
        rw [List.length_append] at h2
        omega
      have HLL := Lib.hid hll
      clear hll
      have c1 : (0 : Int) ≤ (k : Int) ∧ (k : Int) ≤ (q : Int) := by omega
      have c2 : (0 : Int) ≤ (q : Int) ∧ (q : Int) ≤ (s.size : Int) := by omega
      go_wp2_with fail
      refine (words1_c _ b l v' _ HO.out HLL.out).mono ?_
      rintro e w1 ⟨rfl, hb1, hk1, v1, ho1⟩
      have HB := Lib.hid hb1
      have HK1 := Lib.hid hk1
      have HO1 := Lib.hid ho1
      clear hb1 hk1 ho1
      go_wp2_with fail
      refine (span_c _ _ blankB s q (by omega) _ hm (classBlank _)).mono ?_
      rintro e w2 ⟨rfl, rfl⟩
      go_wp2_with fail
      have hb1 := HB.out
      have hcls := HR.out.cls
      have hne : w.heap.size ≠ b := by omega
      have hown : some w.heap.size ≠ v'.ownBlock := by
        intro e
        rcases HO.out.row.2 with ⟨h1, _⟩ | ⟨g, cap, cur, h1, _, h3, _⟩
        · rw [h1] at e; cases e
        · rw [h1] at e
          simp only [Value.ownBlock, Option.some.injEq] at e
          rw [e] at hcls
          rw [h3] at hcls
          simp at hcls
      have hlw : w.heap.size < wr.heap.size := lt_of_block hcls
      have hge := spanP_ge blankB s q
      refine ⟨⟨spanP blankB s q, ⟨startAt_span _ _ g2, HR.out.below.trans hb1, (HK1.out _ hlw hne hown).trans hcls, _, v1, HO1.out, ?_⟩, rfl⟩, by simp [intOf]; omega⟩
      have hw := HW.out
      rw [words_step s k hlt (HR.out.start.2 hlt), HK.out] at hw
      rw [List.append_assoc]
      exact hw
    · go_wp2
      go_end0
      obtain ⟨l, v', hout, hw⟩ := HR.out.out
      rw [words_done s k (by omega), List.append_nil] at hw
      subst hw
      exact ⟨rfl, HR.out.below, v', hout⟩

/-- A []string that reads as l, in memory from block B on that is the call's own (nil if l is empty). -/
def OwnStrs (B : Nat) (l : List ByteArray) (w : World) (v : Value) : Prop := w.ownsRow B 9 1 v l.length (strs l)
def WordsPost (s : ByteArray) (w : World) (e : Ending) (w' : World) : Prop :=
  ∃ v, e = .returned v ∧ OwnStrs w.heap.size (wordsS s) w' v ∧ Below w.heap.size w w'

set_option maxHeartbeats 1000000 in
theorem words_c (s : ByteArray) (w : World) (hs : s.size ≤ 1099511627776) :
    Calls Tryd.prog 88 #[.string s] w (WordsPost s w) := by
  have hm : s.size ≤ maxLen := by unfold maxLen; omega
  have h0 : OutAt w.heap.size [] (w.alloc (.cells #[.slice none 0 0] 24)) (.slice none 0 0) := ⟨heap_alloc_new _ _, World.ownsRow_nil _ _ _ _⟩
  have H := Lib.hid h0
  have HS := Lib.hid hs
  clear h0 hs
  go_enter Tryd.func88, Tryd.ntmps88
  go_wp2_with fail
  refine (each_c s _ _ _ H.out HS.out).mono ?_
  rintro e w1 ⟨rfl, hb, v, ho⟩
  have HB := Lib.hid hb
  have HO := Lib.hid ho
  clear hb ho
  have hcell : w1.cell? ⟨w.heap.size, 0, none⟩ = some v := cell_of_one HO.out.cell
  go_wp2_with fail
  go_ret
  refine ⟨v, rfl, ?_, ?_⟩
  · have h := HO.out.row
    refine ⟨h.1, h.2.imp id ?_⟩
    rintro ⟨g, cap, cur, h1, h2, h3⟩
    exact ⟨g, cap, cur, h1, by omega, h3⟩
  · exact ((Below.refl _ w).alloc (Nat.le_refl _) _).trans HB.out
end Go.Proofs.YtfcfddfjifofgaaDoor
