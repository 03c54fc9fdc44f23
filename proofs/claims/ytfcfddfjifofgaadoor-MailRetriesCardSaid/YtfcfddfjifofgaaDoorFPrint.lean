/- What field.Print returns. -/
import Derived.Test.YtfcfddfjifofgaaDoorFold
namespace Go.Proofs.YtfcfddfjifofgaaDoor
open Go.RowKit Go.Shelf

/-- A slice that reads as a list of fields. -/
def FieldsAt (w : World) (v : Value) (l : List (ByteArray × ByteArray)) : Prop :=
  (l = [] ∧ ∃ a c, v = .slice a 0 c) ∨ ∃ b cap, v = .slice (some ⟨b, 0, none⟩) l.length cap ∧ l.length ≤ cap ∧ b < w.heap.size ∧ ∀ (j : Nat) x, l[j]? = some x → w.cell? ⟨b, j * 2, none⟩ = some (.string x.1) ∧ w.cell? ⟨b, j * 2 + 1, none⟩ = some (.string x.2)
theorem FieldsAt.slice {w : World} {v : Value} {l : List (ByteArray × ByteArray)} (h : FieldsAt w v l) : ∃ a c, v = .slice a l.length c := by
  rcases h with ⟨rfl, a, c, h⟩ | ⟨b, cap, h1, _⟩
  · exact ⟨a, c, h⟩
  · exact ⟨_, _, h1⟩
def linesTo (l : List (ByteArray × ByteArray)) (k : Nat) : List UInt8 := (l.take k).flatMap (fun f => foldB f.1 f.2)
def badAt (l : List (ByteArray × ByteArray)) (i : Nat) : Bool := fieldE (l.getD i (⟨#[]⟩, ⟨#[]⟩)).1 (l.getD i (⟨#[]⟩, ⟨#[]⟩)).2 != 0
/-- The header with the given fields, and the error. -/
def fieldsR (l : List (ByteArray × ByteArray)) : ByteArray × Nat :=
  if 64 < l.length then (⟨#[]⟩, 9) else
  match firstAt (badAt l) l.length with
  | some i => (⟨#[]⟩, fieldE (l.getD i (⟨#[]⟩, ⟨#[]⟩)).1 (l.getD i (⟨#[]⟩, ⟨#[]⟩)).2)
  | none => if 65536 < (linesTo l l.length).length then (⟨#[]⟩, 5) else (⟨(linesTo l l.length).toArray⟩, 0)
theorem foldB_len {n b : ByteArray} (h : fieldE n b = 0) : (foldB n b).length ≤ 70000001 := by
  obtain ⟨hn, hb⟩ := fieldE_ok h
  have hsz := foldSt_size n (wordsS b) b.size (fun x hx => word_size b x hx)
  have hlen := wordsS_len b
  have hkb : (wordsS b).length * (b.size + 2) ≤ 8192 * 8194 := Nat.mul_le_mul (by omega) (by omega)
  unfold foldB
  simp only [List.length_append, Array.length_toList, ByteArray.data_append, Array.size_append]
  have h4 : (foldSt n (wordsS b)).line.data.size = (foldSt n (wordsS b)).line.size := rfl
  have h5 : (#[10] : Array UInt8).size = 1 := rfl
  omega
theorem foldT_size (n b : ByteArray) : (foldT n b).size ≤ 70000001 := by
  unfold foldT
  split
  · rename_i h
    have := foldB_len h
    simpa [ByteArray.size] using this
  · show 0 ≤ _; omega
theorem foldT_bytes {n b : ByteArray} (h : fieldE n b = 0) : Lib.strCells (foldT n b) = Lib.byteCells (foldB n b) := by rw [foldT, if_pos h]; rfl
theorem lines_succ {l : List (ByteArray × ByteArray)} {k : Nat} (h : k < l.length) : linesTo l (k + 1) = linesTo l k ++ foldB l[k].1 l[k].2 := by
  unfold linesTo
  rw [List.take_succ_eq_append_getElem h, List.flatMap_append]
  simp
theorem bad_false {l : List (ByteArray × ByteArray)} {k : Nat} (h : k < l.length) (h0 : fieldE l[k].1 l[k].2 = 0) : badAt l k = false := by
  unfold badAt
  rw [List.getD_eq_getElem?_getD, List.getElem?_eq_getElem h, Option.getD_some, h0]; rfl
theorem bad_true {l : List (ByteArray × ByteArray)} {k : Nat} (h : k < l.length) (h0 : fieldE l[k].1 l[k].2 ≠ 0) : badAt l k = true := by
  unfold badAt
  rw [List.getD_eq_getElem?_getD, List.getElem?_eq_getElem h, Option.getD_some]
  simpa using h0
theorem fieldsR_bad {l : List (ByteArray × ByteArray)} {k : Nat} (h64 : ¬ 64 < l.length) (hn : NoneTo (badAt l) k) (h : k < l.length) (h0 : fieldE l[k].1 l[k].2 ≠ 0) : fieldsR l = (⟨#[]⟩, fieldE l[k].1 l[k].2) := by
  rw [fieldsR, if_neg h64, hn.hit h (bad_true h h0)]
  simp only
  rw [List.getD_eq_getElem?_getD, List.getElem?_eq_getElem h, Option.getD_some]
theorem fieldsR_end {l : List (ByteArray × ByteArray)} (h64 : ¬ 64 < l.length) (hn : NoneTo (badAt l) l.length) : fieldsR l = if 65536 < (linesTo l l.length).length then (⟨#[]⟩, 5) else (⟨(linesTo l l.length).toArray⟩, 0) := by
  rw [fieldsR, if_neg h64, hn.full (Nat.le_refl _)]
def FieldsPost (l : List (ByteArray × ByteArray)) (w : World) (e : Ending) (w' : World) : Prop := e = .returned (.tuple #[.string (fieldsR l).1, .int .i64 (fieldsR l).2]) ∧ Below w.heap.size w w'
structure FieldsRel (l : List (ByteArray × ByteArray)) (k : Nat) (w wr : World) : Prop where
  le : k ≤ l.length
  none : NoneTo (badAt l) k
  bld : Lib.IsBuilder 119 5 w.heap.size w.heap.size (Lib.byteCells (linesTo l k)) wr
  bel : Below w.heap.size w wr
  len : (linesTo l k).length ≤ k * 70000001
set_option maxRecDepth 100000 in
set_option maxHeartbeats 1000000 in
theorem fields_c (l : List (ByteArray × ByteArray)) (v : Value) (w : World) (hv : FieldsAt w v l) (hl : l.length ≤ 1099511627776) (hs : ∀ x ∈ l, x.1.size ≤ maxLen ∧ x.2.size ≤ 1099511627776) :
    Calls Tryd.prog 60 #[v] w (FieldsPost l w) := by
  obtain ⟨a, c, rfl⟩ := hv.slice
  have HV := Lib.hid hv
  have HS := Lib.hid hs
  clear hv hs
  by_cases h64 : 64 < l.length
  · have hr : fieldsR l = (⟨#[]⟩, 9) := if_pos h64
    have HR := Lib.hid hr
    clear hr
    go_enter Tryd.func60, Tryd.ntmps60
    go_wp2
    go_ret2
    exact ⟨by rw [HR.out]; rfl, Below.refl _ _⟩
  · go_enter Tryd.func60, Tryd.ntmps60
    go_wp2_with fail
    have hst : FieldsRel l 0 w (w.alloc (.cells #[.pointer none, .slice none 0 0] 119)) := ⟨Nat.zero_le _, NoneTo.zero _, Lib.fresh_isBuilder _ _ w, (Below.refl _ w).alloc (Nat.le_refl _) _, Nat.zero_le _⟩
    have HST := Lib.hid hst
    clear hst
    go_loopw [14] (fun i wr => ∃ k : Nat, FieldsRel l k w wr ∧ i = .int .i64 k) (fun i _ => l.length - (intOf i).toNat)
    case atStart => exact ⟨0, HST.out, rfl⟩
    case round =>
      obtain ⟨k, hrl, rfl⟩ := hrel
      have hk := hrl.le
      have HR := Lib.hid hrl
      clear hrl
      rename_i wr
      by_cases hlt : k < l.length
      · rcases HV.out with ⟨rfl, _⟩ | ⟨g, cap, hv2, hcap, hgs, hx⟩
        · simp at hlt
        simp only [Value.slice.injEq] at hv2
        obtain ⟨rfl, _, rfl⟩ := hv2
        obtain ⟨hx1, hx2⟩ := hx k _ (List.getElem?_eq_getElem hlt)
        have hc1 := (HR.out.bel.cell (p := ⟨g, k * 2, none⟩) hgs).trans hx1
        have hc2 := (HR.out.bel.cell (p := ⟨g, k * 2 + 1, none⟩) hgs).trans hx2
        have HX := Lib.hid hx
        clear hx hx1 hx2
        obtain ⟨hs1, hs2⟩ := HS.out l[k] (List.getElem_mem hlt)
        have HS1 := Lib.hid hs1
        have HS2 := Lib.hid hs2
        clear hs1 hs2
        have hbnd : (Lib.byteCells (linesTo l k)).length + (foldT l[k].1 l[k].2).size ≤ 140737488355328 := by
          rw [Lib.byteCells_length]
          have h1 := foldT_size l[k].1 l[k].2
          have h2 := HR.out.len
          omega
        have HBN := Lib.hid hbnd
        clear hbnd
        go_wp2_with (first | (go_at_call 82; refine (fold_c l[k].1 l[k].2 _ HS1.out HS2.out).mono ?_; rintro e w3 ⟨rfl, hb3⟩; have HB3 := Lib.hid ((HR.out.bel.alloc HR.out.bel.size _).trans (hb3.mono (by have := HR.out.bel.size; simp; omega))); have HWC := Lib.hid (write_c w.heap.size w.heap.size (Lib.byteCells (linesTo l k)) (foldT l[k].1 l[k].2) w3 (builder_below (builder_alloc HR.out.bld _) hb3) HBN.out HB3.out.size); clear hb3) | (go_at_call 80; refine HWC.out.mono ?_; rintro e w4 ⟨rfl, h4, hb4, hk4⟩; have H4 := Lib.hid h4; have HB4 := Lib.hid hb4; clear h4 hb4 hk4))
        · go_ret2
          exact ⟨by rw [fieldsR_bad h64 HR.out.none hlt (bne_t ‹_›)]; rfl, HB3.out⟩
        · have h0 := bne_f ‹((fieldE l[k].1 l[k].2 : Int) != 0) = false›
          have hbl := H4.out
          rw [foldT_bytes h0, ← Lib.byteCells_append, ← lines_succ hlt] at hbl
          have h2 := HR.out.len
          have h3 := foldB_len h0
          exact ⟨⟨k + 1, ⟨hlt, HR.out.none.succ (bad_false hlt h0), .inr hbl, HB3.out.trans HB4.out, by rw [lines_succ hlt, List.length_append]; omega⟩, by go_num⟩, by simp [intOf]; omega⟩
      · obtain rfl : k = l.length := by omega
        have hR := fieldsR_end h64 HR.out.none
        have HRR := Lib.hid hR
        have HBD := Lib.hid HR.out.bld
        have HBE := Lib.hid HR.out.bel
        clear hR HR
        generalize hL : linesTo l l.length = bs at *
        clear hL
        have HSC := Lib.hid (Tryd.Builder_String_any w.heap.size w.heap.size bs wr HBD.out HBE.out.size)
        have HLC := Lib.hid (Tryd.Builder_Len w.heap.size w.heap.size (Lib.byteCells bs) wr HBD.out)
        have hbl : (Lib.byteCells bs).length = bs.length := Lib.byteCells_length bs
        go_wp2_with (first | (go_at_call 83; refine HLC.out.mono ?_; rintro e w4 ⟨rfl, rfl⟩; rw [hbl]) | (go_at_call 81; refine HSC.out.mono ?_; rintro e w5 ⟨rfl, hb5⟩; have HB5 := Lib.hid hb5; clear hb5))
        · go_ret2
          exact ⟨by rw [HRR.out, if_pos (by omega)]; rfl, HBE.out⟩
        · go_ret2
          exact ⟨by rw [HRR.out, if_neg (by omega)]; rfl, HBE.out.trans HB5.out⟩
end Go.Proofs.YtfcfddfjifofgaaDoor
