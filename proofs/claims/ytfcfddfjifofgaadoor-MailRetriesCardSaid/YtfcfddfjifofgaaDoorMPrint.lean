/- What mail.Print returns. -/
import Derived.Test.YtfcfddfjifofgaaDoorNames
import Derived.Test.YtfcfddfjifofgaaDoorCheck
import Derived.Test.YtfcfddfjifofgaaDoorItoa
import Derived.Test.YtfcfddfjifofgaaDoorAddr
import Derived.Deep.RegionHeld3
namespace Go.Proofs.YtfcfddfjifofgaaDoor
open Go.RowKit Go.Shelf

theorem hops_ok {l : List ByteArray} (h : hopsE l = 0) : ∀ x ∈ l, siteE x = 0 := by
  intro x hx
  obtain ⟨i, hi, rfl⟩ := List.getElem_of_mem hx
  unfold hopsE at h
  split at h
  · rename_i j hj
    unfold firstAt at hj
    have := List.find?_some hj
    simp [h] at this
  · rename_i hj
    unfold firstAt at hj
    rw [List.find?_eq_none] at hj
    have h1 := hj i (by simpa using hi)
    simp only [bne_iff_ne, ne_eq, Decidable.not_not] at h1
    unfold hopErr at h1
    rw [List.getD_eq_getElem?_getD, List.getElem?_eq_getElem hi, Option.getD_some] at h1
    split at h1
    · exact h1
    · rename_i h2
      simpa using h2
theorem hops_len {l : List ByteArray} (h : ∀ x ∈ l, x.size ≤ 30) (hl : l.length ≤ 16) : (joinS l ⟨#[32]⟩).size ≤ 496 ∧ (Lib.join (l.map (·.data.toList)) ([32] : List UInt8)).length ≤ 496 := by
  have h1 := join_len (l.map (·.data.toList)) [32]
  have key : ∀ l : List ByteArray, (∀ x ∈ l, x.size ≤ 30) → ((l.map (·.data.toList)).map List.length).sum ≤ 30 * l.length := by
    intro l
    induction l with
    | nil => intro _; simp
    | cons x r ih =>
      intro h
      have h1 := ih (fun y hy => h y (List.mem_cons_of_mem _ hy))
      have h2 : x.data.toList.length = x.size := by simp
      have h3 := h x List.mem_cons_self
      simp only [List.map_cons, List.sum_cons, List.length_cons] at h1 ⊢
      omega
  have h2 := key l h
  have h3 : (joinS l ⟨#[32]⟩).size = (Lib.join (l.map (·.data.toList)) ([32] : List UInt8)).length := by simp [joinS, ByteArray.size]
  simp only [List.length_map, List.length_cons, List.length_nil] at h1
  omega
theorem joinA_c (l : List ByteArray) (sep : ByteArray) (v : Value) (w : World) (h : StrsAt w v l) (h1 : l.length ≤ 140737488355328) (h2 : (Lib.join (l.map (·.data.toList)) sep.data.toList).length ≤ 140737488355328) :
    Calls Tryd.prog 58 #[v, .string sep] w fun e w' => e = .returned (.string (joinS l sep)) ∧ Below w.heap.size w w' := by
  rcases h with ⟨rfl, a, c, rfl⟩ | ⟨g, off, cap, rfl, hc, hg, hx⟩
  · exact (Tryd.strings_Join_none a c sep w).mono fun e w' ⟨he, hw⟩ => ⟨by rw [he]; simp [joinS, Lib.join], hw ▸ Below.refl _ _⟩
  · exact Tryd.strings_Join g off cap l sep w hx hg h1 hc h2
/-- The fields of a message's text. -/
def msgF (m : Msg) : List (ByteArray × ByteArray) := [(nFrom, textA m.fu m.fs), (nTo, textA m.tu m.ts), (nNumber, itoaB m.num), (nDate, itoaB m.date), (nHops, joinS m.hops ⟨#[32]⟩), (nSubject, m.sj)]
/-- The text of a message, and the error. -/
def printR (m : Msg) : ByteArray × Nat := if checkE m = 0 then (if (fieldsR (msgF m)).2 = 0 then ((fieldsR (msgF m)).1 ++ ⟨#[10]⟩ ++ m.body, 0) else (⟨#[]⟩, (fieldsR (msgF m)).2)) else (⟨#[]⟩, checkE m)
def PrintPost (m : Msg) (w : World) (e : Ending) (w' : World) : Prop := e = .returned (.tuple #[.string (printR m).1, .int .i64 (printR m).2]) ∧ Below w.heap.size w w'
/-- What Print needs of a world while it makes the fields' bodies. -/
structure PA (m : Msg) (hv : Value) (b : Nat) (w0 wx : World) : Prop where
  bel : Below w0.heap.size w0 wx
  row : wx.heap[b]? = some (.cells (msgC m hv) 29 (0, 0))
  pow : PowT wx
  hops : StrsAt wx hv m.hops
theorem PA.next {m : Msg} {hv : Value} {b : Nat} {w0 wx wy : World} (h : PA m hv b w0 wx) (hb : Below wx.heap.size wx wy) : PA m hv b w0 wy :=
  ⟨h.bel.trans (hb.mono h.bel.size), (hb.block b (lt_of_block h.row)).trans h.row, h.pow.below hb, h.hops.below hb⟩
theorem PA.drew {m : Msg} {hv : Value} {b : Nat} {w0 wx : World} (h : PA m hv b w0 wx) : PA m hv b w0 wx.drew := h.next (Below.refl _ wx).drew
def KeepP (m : Msg) (hv : Value) (b : Nat) (wx : World) : Prop := wx.cell? ⟨b, 0, none⟩ = some (.string m.fu) ∧ wx.cell? ⟨b, 1, none⟩ = some (.string m.fs) ∧ wx.cell? ⟨b, 2, none⟩ = some (.string m.tu) ∧ wx.cell? ⟨b, 3, none⟩ = some (.string m.ts) ∧ wx.cell? ⟨b, 4, none⟩ = some (.int .i64 m.num) ∧ wx.cell? ⟨b, 5, none⟩ = some (.int .i64 m.date) ∧ wx.cell? ⟨b, 6, none⟩ = some (.string m.sj) ∧ wx.cell? ⟨b, 7, none⟩ = some hv
theorem PA.keep {m : Msg} {hv : Value} {b : Nat} {w0 wx : World} (h : PA m hv b w0 wx) : KeepP m hv b wx :=
  ⟨cell_at h.row 0, cell_at h.row 1, cell_at h.row 2, cell_at h.row 3, cell_at h.row 4, cell_at h.row 5, cell_at h.row 6, cell_at h.row 7⟩
theorem idx0 (a0 a1 a2 a3 a4 a5 : ByteArray) (w : World) : (Instr.index 102 (.agg #[.string a0, .string a1, .string a2, .string a3, .string a4, .string a5]) (.int .i64 0)).run Tryd.prog w = .ok (.string a0) w := by kernel_rfl
theorem idx1 (a0 a1 a2 a3 a4 a5 : ByteArray) (w : World) : (Instr.index 102 (.agg #[.string a0, .string a1, .string a2, .string a3, .string a4, .string a5]) (.int .i64 1)).run Tryd.prog w = .ok (.string a1) w := by kernel_rfl
theorem idx2 (a0 a1 a2 a3 a4 a5 : ByteArray) (w : World) : (Instr.index 102 (.agg #[.string a0, .string a1, .string a2, .string a3, .string a4, .string a5]) (.int .i64 2)).run Tryd.prog w = .ok (.string a2) w := by kernel_rfl
theorem idx3 (a0 a1 a2 a3 a4 a5 : ByteArray) (w : World) : (Instr.index 102 (.agg #[.string a0, .string a1, .string a2, .string a3, .string a4, .string a5]) (.int .i64 3)).run Tryd.prog w = .ok (.string a3) w := by kernel_rfl
theorem idx4 (a0 a1 a2 a3 a4 a5 : ByteArray) (w : World) : (Instr.index 102 (.agg #[.string a0, .string a1, .string a2, .string a3, .string a4, .string a5]) (.int .i64 4)).run Tryd.prog w = .ok (.string a4) w := by kernel_rfl
theorem idx5 (a0 a1 a2 a3 a4 a5 : ByteArray) (w : World) : (Instr.index 102 (.agg #[.string a0, .string a1, .string a2, .string a3, .string a4, .string a5]) (.int .i64 5)).run Tryd.prog w = .ok (.string a5) w := by kernel_rfl
theorem OwnFields.below {B : Nat} {l : List (ByteArray × ByteArray)} {w w' : World} {v : Value} (h : OwnFields B l w v) (hb : Below w.heap.size w w') : OwnFields B l w' v := by
  refine ⟨h.1, ?_⟩
  rcases h.2 with h4 | ⟨g, cap, cur, q1, q2, q3, q4⟩
  · exact .inl h4
  · exact .inr ⟨g, cap, cur, q1, q2, (hb.block g (lt_of_block q3)).trans q3, q4⟩
theorem fieldsR_size (l : List (ByteArray × ByteArray)) : (fieldsR l).1.size ≤ 65536 := by
  unfold fieldsR
  split
  · exact Nat.zero_le _
  · split
    · exact Nat.zero_le _
    · split
      · exact Nat.zero_le _
      · rename_i h
        show (linesTo l l.length).toArray.size ≤ 65536
        simp; omega
theorem msgF_size {m : Msg} (h0 : m.fu.size ≤ 40) (h1 : m.fs.size ≤ 40) (h2 : m.tu.size ≤ 40) (h3 : m.ts.size ≤ 40) (h4 : m.sj.size ≤ 200) (h5 : (joinS m.hops ⟨#[32]⟩).size ≤ 496)
    (n0 : -9223372036854775808 ≤ m.num) (n1 : m.num ≤ 9223372036854775807) (n2 : -9223372036854775808 ≤ m.date) (n3 : m.date ≤ 9223372036854775807) : ∀ x ∈ msgF m, x.1.size ≤ maxLen ∧ x.2.size ≤ 1099511627776 := by
  have hi : ∀ n : Int, -9223372036854775808 ≤ n → n ≤ 9223372036854775807 → (itoaB n).size ≤ 21 := fun n a b => by
    have := Lib.itoa_length_le n a b
    simpa [itoaB, ByteArray.size] using this
  have i1 := hi _ n0 n1
  have i2 := hi _ n2 n3
  have t1 : (textA m.fu m.fs).size ≤ 81 := by unfold textA; rw [ByteArray.size_append, ByteArray.size_append, sat]; omega
  have t2 : (textA m.tu m.ts).size ≤ 81 := by unfold textA; rw [ByteArray.size_append, ByteArray.size_append, sat]; omega
  intro x hx
  simp only [msgF, List.mem_cons, List.not_mem_nil, or_false] at hx
  unfold maxLen
  rcases hx with rfl | rfl | rfl | rfl | rfl | rfl
  · exact ⟨(by decide : nFrom.size ≤ 2 ^ 63 - 1), by simp only; omega⟩
  · exact ⟨(by decide : nTo.size ≤ 2 ^ 63 - 1), by simp only; omega⟩
  · exact ⟨(by decide : nNumber.size ≤ 2 ^ 63 - 1), by simp only; omega⟩
  · exact ⟨(by decide : nDate.size ≤ 2 ^ 63 - 1), by simp only; omega⟩
  · exact ⟨(by decide : nHops.size ≤ 2 ^ 63 - 1), by simp only; omega⟩
  · exact ⟨(by decide : nSubject.size ≤ 2 ^ 63 - 1), by simp only; omega⟩
structure MPRel (m : Msg) (w2 : World) (k : Nat) (v : Value) (wr : World) : Prop where
  le : k ≤ 6
  own : OwnFields w2.heap.size ((msgF m).take k) wr v
  bel : Below w2.heap.size w2 wr
set_option maxRecDepth 100000 in
set_option maxHeartbeats 2000000 in
theorem print_c (m : Msg) (hv : Value) (w : World) (hf : m.Fits) (hh : StrsAt w hv m.hops) (h0 : -9223372036854775808 ≤ m.num) (h1 : m.num ≤ 9223372036854775807) (h2 : -9223372036854775808 ≤ m.date) (h3 : m.date ≤ 9223372036854775807) (hp : PowT w) :
    Calls Tryd.prog 37 #[.agg (msgC m hv)] w (PrintPost m w) := by
  obtain ⟨a, c, hsl⟩ := hh.slice
  have hhv : hv = .slice a m.hops.length c := by rcases hsl with h | h <;> exact h.1
  subst hhv
  have HF := Lib.hid hf
  have HH := Lib.hid hh
  have HP := Lib.hid hp
  have H0 := Lib.hid h0
  have H1 := Lib.hid h1
  have H2 := Lib.hid h2
  have H3 := Lib.hid h3
  clear hf hh hsl hp h0 h1 h2 h3
  unfold msgC
  go_enter Tryd.func37, Tryd.ntmps37
  go_upto_region 5 with (first | (go_at_call 15; refine (check_c m _ _ HF.out (HH.out.alloc _)).mono ?_; rintro e w1 ⟨rfl, hb⟩; have HB := Lib.hid hb; have HAA := Lib.hid ((hb.block w.heap.size (by simp)).trans (heap_alloc_new w (.cells (msgC m (.slice a m.hops.length c)) 29))); clear hb))
  · go_ret2
    exact ⟨by rw [printR, if_neg (bne_t ‹_›)]; rfl, ((Below.refl _ w).alloc (Nat.le_refl _) _).trans (HB.out.mono (by simp))⟩
  · have hck := bne_f ‹((checkE m : Int) != 0) = false›
    obtain ⟨hd, h16, hho, hbd⟩ := checkE_ok hck
    have z0 := user_size hd.a1
    have z1 := site_size hd.a2
    have z2 := user_size hd.a3
    have z3 := site_size hd.a5
    have z4 := subject_size hd.a8
    have z5 := hops_len (fun x hx => site_size (hops_ok hho x hx)) h16
    have hpa : PA m (.slice a m.hops.length c) w.heap.size w w1 := ⟨((Below.refl _ w).alloc (Nat.le_refl _) _).trans (HB.out.mono (by simp)), HAA.out, (HP.out.alloc _).below HB.out, (HH.out.alloc _).below HB.out⟩
    have HPA := Lib.hid hpa.drew
    have HKW := Lib.hid hpa.drew.keep
    have HCK := Lib.hid hck
    clear hd hho hpa hck
    go_region_held3 (fun w' => w'.cell? ⟨w.heap.size, 0, none⟩ = some (.string m.fu) ∧ w'.cell? ⟨w.heap.size, 1, none⟩ = some (.string m.fs) ∧ w'.cell? ⟨w.heap.size, 2, none⟩ = some (.string m.tu) ∧ w'.cell? ⟨w.heap.size, 3, none⟩ = some (.string m.ts) ∧ w'.cell? ⟨w.heap.size, 4, none⟩ = some (.int .i64 m.num) ∧ w'.cell? ⟨w.heap.size, 5, none⟩ = some (.int .i64 m.date) ∧ w'.cell? ⟨w.heap.size, 6, none⟩ = some (.string m.sj) ∧ w'.cell? ⟨w.heap.size, 7, none⟩ = some (.slice a m.hops.length c)) (first | (exact HKW.out) | go_keep) (first | (go_at_call 22; refine (string_c _ _ _ (by omega) (by omega)).mono ?_; rintro e w2 ⟨rfl, hb2⟩; have HPA := Lib.hid (HPA.out.next hb2); have HKW := Lib.hid HPA.out.keep; clear hb2) | (go_at_call 31; refine (digits_c _ (by first | exact H0.out | exact H2.out) (by first | exact H1.out | exact H3.out) _ HPA.out.pow).mono ?_; rintro e w2 ⟨rfl, hb2⟩; have HPA := Lib.hid (HPA.out.next hb2); have HKW := Lib.hid HPA.out.keep; clear hb2) | (go_at_call 58; refine (joinA_c m.hops ⟨#[32]⟩ _ _ HPA.out.hops (by omega) (by have := z5.2; simp only at this ⊢; omega)).mono ?_; rintro e w2 ⟨rfl, hb2⟩; have HPA := Lib.hid (HPA.out.next hb2); have HKW := Lib.hid HPA.out.keep; clear hb2))
    have hst : MPRel m w2 0 (.slice none 0 0) w2 := ⟨by omega, by unfold OwnFields; exact World.ownsRow_nil _ _ _ _, Below.refl _ _⟩
    have HST := Lib.hid hst
    clear hst
    go_wp2_with fail
    go_loopw [5, 33] (fun v i wr => ∃ k : Nat, MPRel m w2 k v wr ∧ i = .int .i64 k) (fun _ i _ => 6 - (intOf i).toNat)
    case atStart => exact ⟨0, HST.out, rfl⟩
    case round =>
      obtain ⟨k, hrl, rfl⟩ := hrel
      rename_i wr _
      have hk := hrl.le
      have HR := Lib.hid hrl
      clear hrl
      by_cases hlt : k < 6
      · obtain rfl | rfl | rfl | rfl | rfl | rfl : k = 0 ∨ k = 1 ∨ k = 2 ∨ k = 3 ∨ k = 4 ∨ k = 5 := by omega
        all_goals
          have i0 := idx0
          have i1 := idx1
          have i2 := idx2
          have i3 := idx3
          have i4 := idx4
          have i5 := idx5
          go_wp2_with (first | (go_at_call 59; refine (names_c wr).mono ?_; rintro e w4 ⟨rfl, hb4⟩; have HB4 := Lib.hid hb4; have HO4 := Lib.hid (HR.out.own.below hb4); have hs4 : w2.heap.size ≤ w4.heap.size := Nat.le_trans HR.out.bel.size hb4.size; clear hb4) | (at_builtin; refine wpList_append_field rfl _ _ rfl w2.heap.size _ _ (_, _) w4 rfl rfl HO4.out (by simp [msgF]) hs4 ?_; intro v' w5 ho5 hg5 hex; have HO5 := Lib.hid ho5; have HB5 := Lib.hid (below_append_f HO4.out (HR.out.bel.trans (HB4.out.mono HR.out.bel.size)) (Nat.le_refl _) hs4 hg5); obtain ⟨gg, cc, rfl⟩ := hex; clear ho5 hg5))
          clear i0 i1 i2 i3 i4 i5
          first | (exact ⟨⟨1, ⟨by omega, HO5.out, HB5.out⟩, by go_num⟩, by simp [intOf]⟩) | (exact ⟨⟨2, ⟨by omega, HO5.out, HB5.out⟩, by go_num⟩, by simp [intOf]⟩) | (exact ⟨⟨3, ⟨by omega, HO5.out, HB5.out⟩, by go_num⟩, by simp [intOf]⟩) | (exact ⟨⟨4, ⟨by omega, HO5.out, HB5.out⟩, by go_num⟩, by simp [intOf]⟩) | (exact ⟨⟨5, ⟨by omega, HO5.out, HB5.out⟩, by go_num⟩, by simp [intOf]⟩) | (exact ⟨⟨6, ⟨by omega, HO5.out, HB5.out⟩, by go_num⟩, by simp [intOf]⟩) | trace_state
      · obtain rfl : k = 6 := by omega
        have hfa : FieldsAt wr _ (msgF m) := HR.out.own.at
        have hsz : ∀ x ∈ msgF m, x.1.size ≤ maxLen ∧ x.2.size ≤ 1099511627776 := msgF_size (by omega) (by omega) (by omega) (by omega) (by omega) z5.1 H0.out H1.out H2.out H3.out
        have hbl : Below w.heap.size w wr := HPA.out.bel.trans (HR.out.bel.mono HPA.out.bel.size)
        have hrow : wr.heap[w.heap.size]? = some (.cells (msgC m (.slice a m.hops.length c)) 29 (0, 0)) := (HR.out.bel.block w.heap.size (lt_of_block HPA.out.row)).trans HPA.out.row
        have HFA := Lib.hid hfa
        have HSZ := Lib.hid hsz
        have HBL := Lib.hid hbl
        have HRO := Lib.hid hrow
        have hfs := fieldsR_size (msgF m)
        clear hfa hsz hbl hrow
        go_wp2_with (first | (go_at_call 60; refine (fields_c (msgF m) _ wr HFA.out (by simp [msgF]) HSZ.out).mono ?_; rintro e w6 ⟨rfl, hb6⟩; have d8 : w6.cell? ⟨w.heap.size, 8, none⟩ = some (.string m.body) := cell_at ((hb6.block w.heap.size (lt_of_block HRO.out)).trans HRO.out) 8; have HB6 := Lib.hid (HBL.out.trans (hb6.mono HBL.out.size)); clear hb6))
        · go_ret2
          exact ⟨by rw [printR, if_pos HCK.out, if_neg (bne_t ‹_›)]; rfl, HB6.out⟩
        · go_ret2
          exact ⟨by rw [printR, if_pos HCK.out, if_pos (bne_f ‹((((fieldsR (msgF m)).2 : Nat) : Int) != 0) = false›)]; rfl, HB6.out⟩
end Go.Proofs.YtfcfddfjifofgaaDoor
