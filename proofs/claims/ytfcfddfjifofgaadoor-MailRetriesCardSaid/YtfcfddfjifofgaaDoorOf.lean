/- What the laws' conversion Of returns: the same message in memory of its own. -/
import Derived.Test.YtfcfddfjifofgaaDoorTo
import Derived.Test.YtfcfddfjifofgaaDoorBuild
import Derived.WalkSmall
import Derived.Laws.CopyOwn
import Derived.Deep.RegionHeld3
import Derived.Deep.RegionLaw
import Derived.Deep.DeepCutAuto
import Derived.Deep.CutBlock
namespace Go.Proofs.YtfcfddfjifofgaaDoor
open Go.RowKit Go.Shelf

/-- What holds at the head of Of's loop. -/
structure OfRel (m : Msg) (hv : Value) (k : Nat) (w wr : World) (v : Value) : Prop where
  k1 : k ≤ m.hops.length
  below : Below w.heap.size w wr
  arg : wr.heap[w.heap.size]? = some (.cells (msgC m hv) 29 (0, 0))
  res : wr.heap[w.heap.size + 1]? = some (.cells (msgC ⟨⟨#[]⟩, ⟨#[]⟩, ⟨#[]⟩, ⟨#[]⟩, 0, 0, ⟨#[]⟩, [], ⟨#[]⟩⟩ (.slice none 0 0)) 26 (0, 0))
  x : wr.heap[w.heap.size + 1 + 1]? = some (.cells (msgC m v) 26 (0, 0))
  own : OwnStrs (w.heap.size + 1 + 1 + 1) (m.hops.take k) wr v

/-- The end of Of. -/
theorem of_end (m : Msg) {hv : Value} {k : Nat} {w wr : World} {v : Value} (tmps : Array Value) (ds : List Deferred) (hk : k = m.hops.length) (h : OfRel m hv k w wr v) (h2 : tmps.getD 2 undef = .pointer (some ⟨w.heap.size + 1, 0, none⟩)) (hd : ds = []) :
    bodyPost Tryd.prog Tryd.f12 (MsgPost m w) .ret ⟨tmps, ds⟩ (wr.setRow (w.heap.size + 1) (msgC m v)) := by
  have hl : m.hops.take k = m.hops := by rw [hk]; exact List.take_of_length_le (Nat.le_refl _)
  have hr := setRow_heap wr (w.heap.size + 1) _ (msgC m v) _ _ h.res
  refine bodyPost_ret (v := .agg (msgC m v)) (results_cell_row Tryd.results12 _ _ _ _ _ _ _ h2 hr Tryd.underlying26 rfl (by kernel_rfl)) hd ⟨v, rfl, ?_, ?_⟩
  · have ho := h.own
    rw [hl] at ho
    refine ⟨ho.1, ho.2.imp id ?_⟩
    rintro ⟨g, cap, cur, e1, e2, e3, e4⟩
    exact ⟨g, cap, cur, e1, by omega, by rw [setRow_other _ _ _ _ (by omega)]; exact e3, e4⟩
  · exact below_setRow h.below (by omega) _
theorem of_step {m : Msg} {hv : Value} {k : Nat} {w wr w1 : World} {v : Value} {o : Obj} {g cap : Nat} (h : OfRel m hv k w wr v) (h1 : k < m.hops.length)
    (ho : OwnStrs (w.heap.size + 1 + 1 + 1) (m.hops.take k ++ [m.hops[k]]) w1 (.slice (some ⟨g, 0, none⟩) (k + 1) cap)) (hg : ((wr.alloc o).drew).grownBy w1 v.ownBlock) :
    OfRel m hv (k + 1) w (w1.setCell ⟨w.heap.size + 1 + 1, 7, none⟩ (.slice (some ⟨g, 0, none⟩) (k + 1) cap)) (.slice (some ⟨g, 0, none⟩) (k + 1) cap) := by
  have lx : w.heap.size + 1 + 1 < wr.heap.size := lt_of_block h.x
  have hb : ∀ bb, bb < w.heap.size + 1 + 1 + 1 → w1.heap[bb]? = wr.heap[bb]? := fun bb hp => by
    rw [hg.block bb (by simp; omega) (fun e => by have := h.own.lt _ e.symm; omega)]
    exact Below.heap_alloc wr o _ (by omega)
  refine ⟨by omega, ?_, ?_, ?_, ?_, ?_⟩
  · refine Below.setCell ?_ (by simp; omega) _
    exact Below.grown ((h.below.alloc (by omega) _).drew) hg (by simp; omega) (fun kk hk => by have := h.own.lt kk hk; omega)
  · rw [Below.heap_setCell _ _ _ _ (by simp; omega), hb _ (by omega)]; exact h.arg
  · rw [Below.heap_setCell _ _ _ _ (by simp), hb _ (by omega)]; exact h.res
  · have hx : w1.heap[w.heap.size + 1 + 1]? = _ := (hb _ (by omega)).trans h.x
    rw [heap_setCell_same _ _ _ _ _ _ hx]; rfl
  · have e : m.hops.take (k + 1) = m.hops.take k ++ [m.hops[k]] := by rw [List.take_add_one, List.getElem?_eq_getElem h1]; rfl
    rw [e]
    exact ownsRow_setCell_below ho (by simp) _
set_option maxHeartbeats 2000000 in
theorem of_c (m : Msg) (hv : Value) (w : World) (hf : m.Fits) (hh : StrsAt w hv m.hops) (hl : m.hops.length ≤ 1099511627776) :
    Calls Tryd.prog 12 #[.agg (msgC m hv)] w (MsgPost m w) := by
  unfold msgC
  have HF := Lib.hid hf
  clear hf
  obtain ⟨a, c, hsl⟩ := hh.slice
  have hhv : hv = .slice a m.hops.length c := by rcases hsl with h | h <;> exact h.1
  subst hhv
  have HH := Lib.hid hh
  clear hh hsl
  have hlen := HF.out.len
  unfold maxLen at hlen
  have hbody := HF.out.body
  unfold maxLen at hbody
  go_enter Tryd.func12, Tryd.ntmps12
  go_wp2_with fail
  go_loopw [4] (fun i wr => ∃ (k : Nat) (v : Value), OfRel m (.slice a m.hops.length c) k w wr v ∧ i = .int .i64 k) (fun i _ => m.hops.length - (intOf i).toNat)
  case atStart =>
    refine ⟨0, .slice none 0 0, ⟨Nat.zero_le _, ?_, ?_, ?_, ?_, World.ownsRow_nil _ _ _ _⟩, rfl⟩
    · exact (((Below.refl _ w).alloc (Nat.le_refl _) _).alloc (by simp) _).alloc (by simp; omega) _
    · exact heap_alloc3_a _ _ _ _
    · exact heap_alloc3_b _ _ _ _
    · exact heap_alloc3_c _ _ _ _
  case round =>
    obtain ⟨k, v, hr, rfl⟩ := hrel
    have HR := Lib.hid hr
    clear hr
    have hk1 := HR.out.k1
    have d7 : wr.cell? ⟨w.heap.size, 7, none⟩ = some (.slice a m.hops.length c) := cell_at HR.out.arg 7
    by_cases h1 : k < m.hops.length
    · obtain ⟨b, off, cap, hv2, hcap, hbs, hx⟩ := HH.out.at (by omega)
      simp only [Value.slice.injEq] at hv2
      obtain ⟨rfl, _, rfl⟩ := hv2
      have hxk : m.hops[k]? = some m.hops[k] := List.getElem?_eq_getElem h1
      have hcell : wr.cell? ⟨b, off + k, none⟩ = some (.string m.hops[k]) := (HR.out.below.cell (p := ⟨b, off + k, none⟩) hbs).trans (hx k _ hxk)
      have HXK := Lib.hid hxk
      have HB := Lib.hid hbs
      clear hx hxk hbs
      have x7 : wr.cell? ⟨w.heap.size + 1 + 1, 7, none⟩ = some v := cell_at HR.out.x 7
      have f7 : wr.frozen? ⟨w.heap.size + 1 + 1, 7, none⟩ = false := free_at HR.out.x 7
      have lx : w.heap.size + 1 + 1 < wr.heap.size := lt_of_block HR.out.x
      have hfz : ∀ o, (wr.alloc o).drew.frozen? ⟨w.heap.size + 1 + 1, 7, none⟩ = false := fun o => (World.frozen?_of_block (a := ⟨w.heap.size + 1 + 1, 7, none⟩) (Below.heap_alloc wr o _ lx)).trans f7
      have keepW : ∀ (o : Obj) (w1 : World), ((wr.alloc o).drew).grownBy w1 v.ownBlock → ∀ bb oo : Nat, bb < w.heap.size + 1 + 1 + 1 → w1.cell? ⟨bb, oo, none⟩ = wr.cell? ⟨bb, oo, none⟩ ∧ w1.frozen? ⟨bb, oo, none⟩ = wr.frozen? ⟨bb, oo, none⟩ := by
        intro o w1 hg bb oo hp
        have hb : w1.heap[bb]? = wr.heap[bb]? := by
          rw [hg.block bb (by simp; omega) (fun e => by have := HR.out.own.lt _ e.symm; omega)]
          exact Below.heap_alloc wr o _ (by omega)
        exact ⟨World.cell?_of_block (a := ⟨bb, oo, none⟩) hb, World.frozen?_of_block (a := ⟨bb, oo, none⟩) hb⟩
      have KW := Lib.hid keepW
      clear keepW
      have c0 : (0 : Int) ≤ (k : Int) := by omega
      have c1 : (k : Int) < (m.hops.length : Int) := by omega
      go_upto_block 1 with fail
      go_cut [] (fun wx => ∃ v', OfRel m (.slice (some ⟨b, off, none⟩) m.hops.length c) (k + 1) w wx v')
      case first =>
        go_wp2_with fail
        go_region_law ((refine step_append_str (by rfl) _ _ (by rfl) (w.heap.size + 1 + 1 + 1) (m.hops.take k) v m.hops[k] _ wr.heap.size (by rfl) (by rfl) (by exact heap_alloc_new _ _) (by exact (HR.out.own.alloc _).drew) (by simp; omega) (by simp; omega) ?_; intro g cap w1 ho hg; have x71 := (KW.out _ _ hg (w.heap.size + 1 + 1) 7 (by omega)).1.trans x7; have f71 := (KW.out _ _ hg (w.heap.size + 1 + 1) 7 (by omega)).2.trans f7))
        all_goals
          go_wp2_with fail
          go_meet
          rw [show (m.hops.take k).length = k from by rw [List.length_take]; omega] at ho
          exact ⟨_, of_step HR.out h1 ho hg⟩
      case rest =>
        obtain ⟨v', hr'⟩ := hcut
        have HR' := Lib.hid hr'
        clear hr'
        go_wp2
        exact ⟨⟨k + 1, v', HR'.out, by go_num⟩, by simp [intOf]; omega⟩
    · have hx := HR.out.x
      have hres := HR.out.res
      have HXX := Lib.hid hx
      have HRR := Lib.hid hres
      have hown := HR.out.own
      clear hx hres
      have hone : (msgC m v).all (·.oneCell') = true := by
        obtain ⟨a', c', hv⟩ := ownStrs_len hown
        rw [hv]; simp [msgC, Value.oneCell']
      have HO1 := Lib.hid hone
      clear hone hown
      have hlk : k = m.hops.length := by omega
      have HLK := Lib.hid hlk
      clear hlk
      go_wp2_with (first | (with_reducible refine wpList_load_row rfl 26 (.tmp 3) rfl _ rfl _ _ _ _ HXX.out Tryd.underlying26 rfl (by kernel_rfl) ?_) | (with_reducible refine wpList_store_row rfl 26 (.tmp 2) (.tmp 45) rfl _ rfl _ _ _ rfl HRR.out (by kernel_rfl) (by simp [msgC]) HO1.out ?_))
      exact of_end m _ _ HLK.out HR.out (by rfl) (by rfl)
end Go.Proofs.YtfcfddfjifofgaaDoor
