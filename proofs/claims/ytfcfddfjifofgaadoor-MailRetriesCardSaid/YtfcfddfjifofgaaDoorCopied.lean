/- What slices.Clone of strings and mail.copied return. -/
import Derived.Test.YtfcfddfjifofgaaDoorBuild
import Derived.Test.YtfcfddfjifofgaaDoorCheck
import Derived.Test.YtfcfddfjifofgaaDoorBounce
import Derived.Laws.Rows
namespace Go.Proofs.YtfcfddfjifofgaaDoor
open Go.RowKit Go.Shelf

def ClonePost (l : List ByteArray) (w : World) (e : Ending) (w' : World) : Prop := ∃ v, e = .returned v ∧ OwnStrs w.heap.size l w' v ∧ Below w.heap.size w w'
theorem clone_c (l : List ByteArray) (v : Value) (w : World) (h : StrsAt w v l) (hl : l.length ≤ 1099511627776) :
    Calls Tryd.prog 45 #[v] w (ClonePost l w) := by
  rcases h with ⟨rfl, a, c, rfl⟩ | ⟨b, off, cap, rfl, hc, hb, hx⟩
  · cases a with
    | none =>
      refine (Tryd.slices_Clone_string_nil 0 c w).mono ?_
      rintro e w' ⟨rfl, rfl⟩
      exact ⟨_, rfl, World.ownsRow_nil _ _ _ _, Below.refl _ _⟩
    | some a =>
      refine (Tryd.slices_Clone_string_zero a c w).mono ?_
      rintro e w' ⟨v', rfl, ho, _, hb⟩
      exact ⟨_, rfl, ho, hb⟩
  · refine (Tryd.slices_Clone_string b off l.length cap l w (Nat.le_refl _) (by omega) (fun j hj => by rw [hx j l[j] (List.getElem?_eq_getElem hj), List.getD_eq_getElem?_getD, List.getElem?_eq_getElem hj]; rfl)).mono ?_
    rintro e w' ⟨v', rfl, ho, _, hb⟩
    refine ⟨_, rfl, ?_, hb⟩
    rw [List.take_length] at ho
    exact ho
def CopiedPost (m : Msg) (w : World) (e : Ending) (w' : World) : Prop := ∃ v, e = .returned (.agg (msgC m v)) ∧ OwnStrs w.heap.size m.hops w' v ∧ Below w.heap.size w w'
theorem OwnStrs.mono {B B' : Nat} {l : List ByteArray} {w : World} {v : Value} (h : OwnStrs B l w v) (hb : B' ≤ B) : OwnStrs B' l w v := by
  refine ⟨h.1, ?_⟩
  rcases h.2 with h4 | ⟨g, cap, cur, q1, q2, q3⟩
  · exact .inl h4
  · exact .inr ⟨g, cap, cur, q1, Nat.le_trans hb q2, q3⟩
theorem own_other {B : Nat} {l : List ByteArray} {w w' : World} {v : Value} (h : OwnStrs B l w v) (hk : ∀ k, B ≤ k → w'.heap[k]? = w.heap[k]?) : OwnStrs B l w' v := by
  refine ⟨h.1, ?_⟩
  rcases h.2 with h4 | ⟨g, cap, cur, q1, q2, q3, q4⟩
  · exact .inl h4
  · exact .inr ⟨g, cap, cur, q1, q2, (hk g q2).trans q3, q4⟩
set_option maxRecDepth 100000 in
set_option maxHeartbeats 1000000 in
theorem copied_c (m : Msg) (hv : Value) (w : World) (hh : StrsAt w hv m.hops) (hl : m.hops.length ≤ 1099511627776) :
    Calls Tryd.prog 49 #[.agg (msgC m hv)] w (CopiedPost m w) := by
  have HH := Lib.hid hh
  have HL := Lib.hid hl
  clear hh hl
  unfold msgC
  go_enter Tryd.func49, Tryd.ntmps49
  go_wp2_with (first | (go_at_call 45; refine (clone_c m.hops hv _ ((HH.out.alloc _).alloc _) HL.out).mono ?_; rintro e w1 ⟨v, rfl, ho, hb⟩; obtain ⟨a, c, hv2⟩ := ownStrs_len ho; subst hv2; have hra : w1.heap[w.heap.size]? = some (.cells (msgC m hv) 29 (0, 0)) := (hb.block w.heap.size (by simp; omega)).trans (heap_alloc2_old _ _ _); have hrr : w1.heap[w.heap.size + 1]? = some (.cells (msgC zeroM (.slice none 0 0)) 29 (0, 0)) := (hb.block (w.heap.size + 1) (by simp)).trans (heap_alloc2_new _ _ _); have d7 : w1.cell? ⟨w.heap.size, 7, none⟩ = some hv := cell_at hra 7; have f7 : w1.frozen? ⟨w.heap.size, 7, none⟩ = false := free_at hra 7; have HXX : Hid ((w1.setCell ⟨w.heap.size, 7, none⟩ (.slice a m.hops.length c)).heap[w.heap.size]? = some (.cells (msgC m (.slice a m.hops.length c)) 29 (0, 0))) := heap_setCell_same _ w.heap.size 7 _ _ (.slice a m.hops.length c) hra; have HRX := Lib.hid ((Below.heap_setCell w1 ⟨w.heap.size, 7, none⟩ (.slice a m.hops.length c) (w.heap.size + 1) (by show w.heap.size + 1 ≠ w.heap.size; omega)).trans hrr); have HO := Lib.hid ho; have HB := Lib.hid hb; clear ho hb hra hrr) | (with_reducible refine wpList_load_row rfl 29 (.tmp 1) rfl _ rfl _ _ _ _ HXX.out Tryd.underlying29 rfl (by kernel_rfl) ?_) | (with_reducible refine wpList_store_row rfl 29 (.tmp 2) (.tmp 7) rfl _ rfl _ _ _ rfl HRX.out (by kernel_rfl) (by simp [msgC]) (by simp [msgC, Value.oneCell']) ?_))
  exact bodyPost_ret (results_cell_row Tryd.results49 _ _ _ _ _ _ _ (by rfl) (setRow_heap _ _ _ _ _ _ HRX.out) Tryd.underlying29 rfl (by kernel_rfl)) rfl ⟨_, rfl, (own_other HO.out (fun k hk => (setRow_other _ _ k _ (by simp at hk; omega)).trans (Below.heap_setCell _ _ _ _ (by simp at hk; show k ≠ w.heap.size; omega)))).mono (by simp; omega), below_setRow ((((Below.refl _ w).alloc (Nat.le_refl _) _).alloc (by simp) _ |>.trans (HB.out.mono (by simp; omega))).setCell (p := ⟨w.heap.size, 7, none⟩) (Nat.le_refl _) _) (by omega) _⟩
end Go.Proofs.YtfcfddfjifofgaaDoor
