/- What field.Field.Fold returns. -/
import Derived.Test.YtfcfddfjifofgaaDoorField
import Derived.Test.YtfcfddfjifofgaaDoorBuild
namespace Go.Proofs.YtfcfddfjifofgaaDoor
open Go.RowKit Go.Shelf

/-- A field's lines as they are built: the line, whether it holds no word yet, the bytes of the lines ahead of it. -/
structure FoldSt where
  line : ByteArray
  empty : Bool
  out : List UInt8
def foldStep (st : FoldSt) (x : ByteArray) : FoldSt :=
  if st.empty = false ∧ 78 < st.line.size + 1 + x.size then ⟨⟨#[]⟩ ++ ⟨#[32]⟩ ++ x, false, st.out ++ by' (st.line ++ ⟨#[10]⟩)⟩ else ⟨st.line ++ ⟨#[32]⟩ ++ x, false, st.out⟩
def foldSt (n : ByteArray) (l : List ByteArray) : FoldSt := l.foldl foldStep ⟨n ++ ⟨#[58]⟩, true, []⟩
def foldB (n b : ByteArray) : List UInt8 := (foldSt n (wordsS b)).out ++ by' ((foldSt n (wordsS b)).line ++ ⟨#[10]⟩)
def foldT (n b : ByteArray) : ByteArray := if fieldE n b = 0 then ⟨(foldB n b).toArray⟩ else ⟨#[]⟩
theorem foldSt_succ (n : ByteArray) (l : List ByteArray) (k : Nat) (h : k < l.length) : foldSt n (l.take (k + 1)) = foldStep (foldSt n (l.take k)) l[k] := by
  unfold foldSt
  rw [List.take_succ_eq_append_getElem h, List.foldl_append]; rfl
theorem foldStep_size (st : FoldSt) (x : ByteArray) : (foldStep st x).out.length + (foldStep st x).line.size ≤ st.out.length + st.line.size + x.size + 2 := by
  unfold foldStep
  split
  · simp [ByteArray.size_append]
    have : (⟨#[32]⟩ : ByteArray).size = 1 := rfl
    have : (⟨#[]⟩ : ByteArray).size = 0 := rfl
    have : (⟨#[10]⟩ : ByteArray).size = 1 := rfl
    have h4 : st.line.data.size = st.line.size := rfl
    omega
  · simp only [ByteArray.size_append]
    have : (⟨#[32]⟩ : ByteArray).size = 1 := rfl
    omega
theorem foldSt_size (n : ByteArray) (l : List ByteArray) (M : Nat) (h : ∀ x ∈ l, x.size ≤ M) : (foldSt n l).out.length + (foldSt n l).line.size ≤ n.size + 1 + l.length * (M + 2) := by
  unfold foldSt
  have key : ∀ (l : List ByteArray) (st : FoldSt), (∀ x ∈ l, x.size ≤ M) → (l.foldl foldStep st).out.length + (l.foldl foldStep st).line.size ≤ st.out.length + st.line.size + l.length * (M + 2) := by
    intro l
    induction l with
    | nil => intro st _; simp
    | cons x r ih =>
      intro st hx
      rw [List.foldl_cons]
      have h1 := ih (foldStep st x) (fun y hy => hx y (List.mem_cons_of_mem _ hy))
      have h2 := foldStep_size st x
      have h3 := hx x (List.mem_cons_self)
      rw [List.length_cons, Nat.add_mul]
      omega
  have h1 := key l ⟨n ++ ⟨#[58]⟩, true, []⟩ h
  have h2 : (⟨#[58]⟩ : ByteArray).size = 1 := rfl
  simp only [ByteArray.size_append, List.length_nil, h2] at h1
  omega
theorem ret_tup {a a' : ByteArray} {c : Value} (h : a = a') : Ending.returned (.tuple #[.string a, c]) = .returned (.tuple #[.string a', c]) := by rw [h]
theorem own_kept {B b : Nat} {l : List ByteArray} {w w' : World} {v : Value} (h : OwnStrs B l w v) (hb : b < B) (hk : Lib.OthersKept 5 (some b) w w') : OwnStrs B l w' v := by
  refine ⟨h.1, ?_⟩
  rcases h.2 with h4 | ⟨g, cap, cur, q1, q2, q3, q4⟩
  · exact .inl h4
  · refine .inr ⟨g, cap, cur, q1, q2, hk g _ q3 (fun e => ?_) (fun c fz e => ?_), q4⟩
    · cases e; omega
    · injection e with _ e2; cases e2
/-- The state behind the first k words. -/
abbrev foldAt (n b : ByteArray) (k : Nat) : FoldSt := foldSt n ((wordsS b).take k)
structure FoldRel (n b : ByteArray) (B g k : Nat) (v : Value) (w wr : World) : Prop where
  le : k ≤ (wordsS b).length
  own : OwnStrs (g + 1) (wordsS b) wr v
  bld : Lib.IsBuilder 119 5 g g (Lib.byteCells (foldAt n b k).out) wr
  bel : Below B w wr
  lt : g ≤ wr.heap.size
theorem write_bound {line : ByteArray} {out : List UInt8} (h : out.length + line.size ≤ 70000000) : (Lib.byteCells out).length + (line ++ ⟨#[10]⟩).size ≤ 140737488355328 := by
  rw [Lib.byteCells_length, ByteArray.size_append]
  have : (⟨#[10]⟩ : ByteArray).size = 1 := rfl
  omega
theorem fold_next {n b : ByteArray} {B g k : Nat} {v : Value} {w wr : World} {line : ByteArray} {out : List UInt8} (hlt : k < (wordsS b).length) (hs : foldAt n b (k + 1) = ⟨line, false, out⟩) (ho : OwnStrs (g + 1) (wordsS b) wr v)
    (hb : Lib.IsBuilder 119 5 g g (Lib.byteCells out) wr) (hl : Below B w wr) (hg : g ≤ wr.heap.size) {i : Value} (hi : i = .int .i64 ((k + 1 : Nat) : Int)) :
    ∃ k' : Nat, FoldRel n b B g k' v w wr ∧ Value.string line = .string (foldAt n b k').line ∧ Value.bool false = .bool (foldAt n b k').empty ∧ i = .int .i64 k' :=
  ⟨k + 1, ⟨hlt, ho, by rw [hs]; exact hb, hl, hg⟩, by rw [hs], by rw [hs], hi⟩
theorem fieldE_ok {n b : ByteArray} (h : fieldE n b = 0) : n.size ≤ 40 ∧ b.size ≤ 8192 := by
  unfold fieldE at h
  split at h
  · omega
  · rename_i hv
    split at h
    · omega
    · split at h
      · split at h
        · omega
        · refine ⟨?_, by omega⟩
          unfold validB at hv
          simp only [Bool.not_eq_false] at hv
          split at hv
          · cases hv
          · split at hv
            · cases hv
            · omega
      · omega
def FoldPost (n b : ByteArray) (w : World) (e : Ending) (w' : World) : Prop := e = .returned (.tuple #[.string (foldT n b), .int .i64 (fieldE n b)]) ∧ Below w.heap.size w w'
set_option maxRecDepth 100000 in
set_option maxHeartbeats 1000000 in
theorem fold_c (n b : ByteArray) (w : World) (hn : n.size ≤ maxLen) (hb : b.size ≤ 1099511627776) :
    Calls Tryd.prog 82 #[.agg #[.string n, .string b]] w (FoldPost n b w) := by
  have HN := Lib.hid hn
  have HB := Lib.hid hb
  clear hn
  go_enter Tryd.func82, Tryd.ntmps82
  go_upto_region 5 with (first | (go_at_call 105; refine (field_c n b _ HN.out HB.out).mono ?_; rintro e w1 ⟨rfl, hb1⟩; have l1 : w.heap.size < w1.heap.size := (by have := hb1.size; simp at this; omega); have HB1 := Lib.hid hb1; have c0 : w1.cell? ⟨w.heap.size, 0, none⟩ = some (.string n) := (hb1.cell (p := ⟨w.heap.size, 0, none⟩) (by simp)).trans (World.cell?_alloc_new _ _ _ 0); have c1 : w1.cell? ⟨w.heap.size, 1, none⟩ = some (.string b) := (hb1.cell (p := ⟨w.heap.size, 1, none⟩) (by simp)).trans (World.cell?_alloc_new _ _ _ 1); clear hb1))
  · go_ret2
    exact ⟨ret_tup (by rw [foldT, if_neg (bne_t ‹_›)]), ((Below.refl _ w).alloc (Nat.le_refl _) _).trans (HB1.out.mono (by simp))⟩
  · have hok := bne_f ‹((fieldE n b : Int) != 0) = false›
    obtain ⟨hn40, hb8⟩ := fieldE_ok hok
    have HOK := Lib.hid hok
    clear hok
    have hlen := wordsS_len b
    have hl2 : (wordsS b).length ≤ 8192 := by omega
    go_wp2_with (first | (go_at_call 88; refine (words_c b _ HB.out).mono ?_; rintro e w3 ⟨v, rfl, ho, hb3⟩; obtain ⟨a, c, hv⟩ := ownStrs_len ho; have HV := Lib.hid hv; rw [hv]; clear hv; have HO := Lib.hid ho; have HB3 := Lib.hid hb3; clear ho hb3))
    have hfr : Lib.IsBuilder 119 5 w1.heap.size w1.heap.size [] w3 := builder_below (Lib.fresh_isBuilder _ _ w1) HB3.out
    have hst : FoldRel n b w.heap.size w1.heap.size 0 v w w3 := ⟨Nat.zero_le _, by simpa using HO.out, hfr, (((Below.refl _ w).alloc (Nat.le_refl _) _).trans (HB1.out.mono (by simp))).trans (((Below.refl _ w1).alloc (Nat.le_refl _) _).trans (HB3.out.mono (by simp)) |>.mono (by omega)), by have := HB3.out.size; simp at this; omega⟩
    have HST := Lib.hid hst
    clear hst hfr
    go_loopw [6, 7, 22] (fun l e i wr => ∃ k : Nat, FoldRel n b w.heap.size w1.heap.size k v w wr ∧ l = .string (foldAt n b k).line ∧ e = .bool (foldAt n b k).empty ∧ i = .int .i64 k) (fun _ _ i _ => (wordsS b).length - (intOf i).toNat)
    case atStart => exact ⟨0, HST.out, rfl, rfl, rfl⟩
    case round =>
      obtain ⟨k, hrl, rfl, rfl, rfl⟩ := hrel
      have hk := hrl.le
      have HR := Lib.hid hrl
      clear hrl
      rename_i wr
      by_cases hlt : k < (wordsS b).length
      · have hsz := foldSt_size n ((wordsS b).take k) b.size (fun x hx => word_size b x (List.mem_of_mem_take hx))
        have hsucc := Lib.hid (foldSt_succ n (wordsS b) k hlt)
        have hws := word_size b (wordsS b)[k] (List.getElem_mem hlt)
        obtain ⟨g, cap, hv2, hx⟩ := ownStrs_at HR.out.own (by omega)
        have hac := HV.out.symm.trans hv2
        simp only [Value.slice.injEq] at hac
        obtain ⟨rfl, _, rfl⟩ := hac
        clear hv2
        have hxk : (wordsS b)[k]? = some (wordsS b)[k] := List.getElem?_eq_getElem hlt
        have hcell := hx k _ hxk
        have HX := Lib.hid hx
        clear hx hxk
        have hkb : ((wordsS b).take k).length * (b.size + 2) ≤ 8192 * 8194 := by
          exact Nat.mul_le_mul (by simp; omega) (by omega)
        have hsz2 : (foldAt n b k).out.length + (foldAt n b k).line.size ≤ 70000000 := by
          show (foldSt n ((wordsS b).take k)).out.length + (foldSt n ((wordsS b).take k)).line.size ≤ _
          omega
        have hbyte : ∀ st : FoldSt, Lib.byteCells st.out ++ Lib.strCells (st.line ++ ⟨#[10]⟩) = Lib.byteCells (st.out ++ by' (st.line ++ ⟨#[10]⟩)) := fun st => by rw [Lib.strCells_eq, Lib.byteCells_append]
        have HBY := Lib.hid hbyte
        have HSU : Hid (foldAt n b (k + 1) = foldStep (foldAt n b k) (wordsS b)[k]) := hsucc
        have HBD := Lib.hid HR.out.bld
        have HOW := Lib.hid HR.out.own
        have HBE := Lib.hid HR.out.bel
        have hgl := HR.out.lt
        clear hbyte hsucc HR hsz hkb
        generalize hX : (wordsS b)[k] = x at *
        clear hX
        generalize hS : foldAt n b k = st at *
        clear hS
        obtain ⟨line, em, out⟩ := st
        simp only at hsz2
        cases em with
        | true =>
          have hfs : foldStep ⟨line, true, out⟩ x = ⟨line ++ ⟨#[32]⟩ ++ x, false, out⟩ := if_neg (by simp)
          rw [hfs] at HSU
          clear hfs
          go_wp2
          exact ⟨fold_next hlt HSU.out HOW.out HBD.out HBE.out hgl (by go_num), by simp [intOf]; omega⟩
        | false =>
          by_cases hover : 78 < line.size + 1 + x.size
          · have hfs : foldStep ⟨line, false, out⟩ x = ⟨⟨#[]⟩ ++ ⟨#[32]⟩ ++ x, false, out ++ by' (line ++ ⟨#[10]⟩)⟩ := if_pos ⟨rfl, hover⟩
            rw [hfs] at HSU
            clear hfs
            have HWB := Lib.hid (write_bound (line := line) (out := out) hsz2)
            have HWC := Lib.hid (write_c w1.heap.size w1.heap.size (Lib.byteCells out) (line ++ ⟨#[10]⟩) wr HBD.out HWB.out hgl)
            go_wp2_with (go_at_call 80; refine HWC.out.mono ?_; rintro e w4 ⟨rfl, h4, hb4, hk4⟩; have H4 := Lib.hid h4; have HB4 := Lib.hid hb4; have HK4 := Lib.hid hk4; clear h4 hb4 hk4)
            exact ⟨fold_next hlt HSU.out (own_kept HOW.out (by omega) HK4.out) (.inr (by rw [← HBY.out ⟨line, false, out⟩]; exact H4.out)) (HBE.out.trans (HB4.out.mono (by omega))) (by have := HB4.out.size; omega) (by go_num), by simp [intOf]; omega⟩
          · have hfs : foldStep ⟨line, false, out⟩ x = ⟨line ++ ⟨#[32]⟩ ++ x, false, out⟩ := if_neg (fun h => hover h.2)
            rw [hfs] at HSU
            clear hfs
            go_wp2
            exact ⟨fold_next hlt HSU.out HOW.out HBD.out HBE.out hgl (by go_num), by simp [intOf]; omega⟩
      · have hke : (wordsS b).take k = wordsS b := List.take_of_length_le (by omega)
        have hsz := foldSt_size n (wordsS b) b.size (fun x hx => word_size b x hx)
        have hkb : (wordsS b).length * (b.size + 2) ≤ 8192 * 8194 := Nat.mul_le_mul (by omega) (by omega)
        have hsz2 : (foldSt n (wordsS b)).out.length + (foldSt n (wordsS b)).line.size ≤ 70000000 := by omega
        have hfa : foldAt n b k = foldSt n (wordsS b) := by show foldSt n ((wordsS b).take k) = _; rw [hke]
        have hft : foldT n b = ⟨((foldSt n (wordsS b)).out ++ by' ((foldSt n (wordsS b)).line ++ ⟨#[10]⟩)).toArray⟩ := if_pos HOK.out
        have HFT := Lib.hid hft
        have hbd := HR.out.bld
        rw [hfa] at hbd
        rw [hfa]
        have HBD := Lib.hid hbd
        have HBE := Lib.hid HR.out.bel
        have hgl := HR.out.lt
        have hbyte : Lib.byteCells (foldSt n (wordsS b)).out ++ Lib.strCells ((foldSt n (wordsS b)).line ++ ⟨#[10]⟩) = Lib.byteCells ((foldSt n (wordsS b)).out ++ by' ((foldSt n (wordsS b)).line ++ ⟨#[10]⟩)) := by rw [Lib.strCells_eq, Lib.byteCells_append]
        have HBY := Lib.hid hbyte
        clear hbyte hbd hfa hke hsz hkb hft HR
        generalize hS : foldSt n (wordsS b) = st at *
        clear hS
        obtain ⟨line, em, out⟩ := st
        simp only at hsz2
        have HWC := Lib.hid (write_c w1.heap.size w1.heap.size (Lib.byteCells out) (line ++ ⟨#[10]⟩) wr HBD.out (write_bound hsz2) hgl)
        go_wp2_with (first | (go_at_call 80; refine HWC.out.mono ?_; rintro e w4 ⟨rfl, h4, hb4, hk4⟩; have hl4 : w1.heap.size ≤ w4.heap.size := Nat.le_trans hgl hb4.size; have HSC := Lib.hid (Tryd.Builder_String_any w1.heap.size w1.heap.size (out ++ by' (line ++ ⟨#[10]⟩)) w4 (.inr (by rw [← HBY.out]; exact h4)) hl4); have HB4 := Lib.hid hb4; clear h4 hb4 hk4) | (go_at_call 81; refine HSC.out.mono ?_; rintro e w5 ⟨rfl, hb5⟩; have HB5 := Lib.hid hb5; clear hb5))
        go_ret2
        exact ⟨by rw [HOK.out, HFT.out]; rfl, HBE.out.trans ((HB4.out.mono (by omega)).trans (HB5.out.mono (by omega)))⟩
end Go.Proofs.YtfcfddfjifofgaaDoor
