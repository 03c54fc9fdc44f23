/- What the laws' conversion To returns: the message with its first 20 hops and at most 33000 bytes of its body, in memory of its own. -/
import Derived.Test.YtfcfddfjifofgaaDoorMsg
import Derived.Test.YtfcfddfjifofgaaDoorWords
import Derived.Test.YtfcfddfjifofgaaDoorBuild
import Derived.WalkSmall
import Derived.Laws.CopyOwn
import Derived.Deep.RegionHeld3
import Derived.Deep.RegionLaw
import Derived.Deep.DeepCutAuto
import Derived.Deep.CutBlock
namespace Go.Proofs.YtfcfddfjifofgaaDoor
open Go.RowKit Go.Shelf

theorem heap_drew (w : World) : w.drew.heap = w.heap := rfl
theorem heap_alloc3_a (w : World) (A B C : Obj) : (((w.alloc A).alloc B).alloc C).heap[w.heap.size]? = some A := by
  rw [Below.heap_alloc _ _ _ (by simp; omega), Below.heap_alloc _ _ _ (by simp), heap_alloc_new]
theorem heap_alloc3_b (w : World) (A B C : Obj) : (((w.alloc A).alloc B).alloc C).heap[w.heap.size + 1]? = some B := by
  rw [Below.heap_alloc _ _ _ (by simp), heap_alloc2_new]
theorem heap_alloc3_c (w : World) (A B C : Obj) : (((w.alloc A).alloc B).alloc C).heap[w.heap.size + 1 + 1]? = some C := by
  have := heap_alloc_new ((w.alloc A).alloc B) C
  simpa using this
def cutB (s : ByteArray) : ByteArray := s.extract 0 (min (s.size : Int) 33000).toNat
def toM (m : Msg) : Msg := { m with hops := m.hops.take 20, body := cutB m.body }
def MsgPost (m : Msg) (w : World) (e : Ending) (w' : World) : Prop := ∃ v, e = .returned (.agg (msgC m v)) ∧ OwnStrs w.heap.size m.hops w' v ∧ Below w.heap.size w w'

/-- What holds at the head of To's loop. -/
structure ToRel (m : Msg) (hv : Value) (k : Nat) (w wr : World) (v : Value) : Prop where
  k1 : k ≤ m.hops.length
  k2 : k ≤ 20
  below : Below w.heap.size w wr
  arg : wr.heap[w.heap.size]? = some (.cells (msgC m hv) 26 (0, 0))
  res : wr.heap[w.heap.size + 1]? = some (.cells (msgC ⟨⟨#[]⟩, ⟨#[]⟩, ⟨#[]⟩, ⟨#[]⟩, 0, 0, ⟨#[]⟩, [], ⟨#[]⟩⟩ (.slice none 0 0)) 29 (0, 0))
  x : wr.heap[w.heap.size + 1 + 1]? = some (.cells (msgC (toM m) v) 29 (0, 0))
  own : OwnStrs (w.heap.size + 1 + 1 + 1) (m.hops.take k) wr v

theorem cell_at {w : World} {b : Nat} {cs : Array Value} {t : TypeId} {fr : Nat × Nat} (h : w.heap[b]? = some (.cells cs t fr)) (j : Nat) : w.cell? ⟨b, j, none⟩ = cs[j]? := by simp [World.cell?, h]
theorem free_at {w : World} {b : Nat} {cs : Array Value} {t : TypeId} (h : w.heap[b]? = some (.cells cs t (0, 0))) (j : Nat) : w.frozen? ⟨b, j, none⟩ = false := by simp [World.frozen?, h]

/-- The end of To. -/
theorem to_end (m : Msg) {hv : Value} {k : Nat} {w wr : World} {v : Value} (tmps : Array Value) (ds : List Deferred) (hk : k = (m.hops.take 20).length) (h : ToRel m hv k w wr v) (h2 : tmps.getD 2 undef = .pointer (some ⟨w.heap.size + 1, 0, none⟩)) (hd : ds = []) :
    bodyPost Tryd.prog Tryd.f9 (MsgPost (toM m) w) .ret ⟨tmps, ds⟩ (wr.setRow (w.heap.size + 1) (msgC (toM m) v)) := by
  have hl : m.hops.take k = (toM m).hops := by
    rw [hk]
    show _ = m.hops.take 20
    rw [List.length_take]
    rcases Nat.le_total m.hops.length 20 with h' | h'
    · rw [Nat.min_eq_right h', List.take_of_length_le (Nat.le_refl _), List.take_of_length_le h']
    · rw [Nat.min_eq_left h']
  have hr := setRow_heap wr (w.heap.size + 1) _ (msgC (toM m) v) _ _ h.res
  refine bodyPost_ret (v := .agg (msgC (toM m) v)) (results_cell_row Tryd.results9 _ _ _ _ _ _ _ h2 hr Tryd.underlying29 rfl (by kernel_rfl)) hd ⟨v, rfl, ?_, ?_⟩
  · have ho := h.own
    rw [hl] at ho
    refine ⟨ho.1, ho.2.imp id ?_⟩
    rintro ⟨g, cap, cur, e1, e2, e3, e4⟩
    exact ⟨g, cap, cur, e1, by omega, by rw [setRow_other _ _ _ _ (by omega)]; exact e3, e4⟩
  · exact below_setRow h.below (by omega) _
theorem to_step {m : Msg} {hv : Value} {k : Nat} {w wr w1 : World} {v : Value} {o : Obj} {g cap : Nat} (h : ToRel m hv k w wr v) (h1 : k < m.hops.length) (h2 : k < 20)
    (ho : OwnStrs (w.heap.size + 1 + 1 + 1) (m.hops.take k ++ [m.hops[k]]) w1 (.slice (some ⟨g, 0, none⟩) (k + 1) cap)) (hg : ((wr.alloc o).drew).grownBy w1 v.ownBlock) :
    ToRel m hv (k + 1) w (w1.setCell ⟨w.heap.size + 1 + 1, 7, none⟩ (.slice (some ⟨g, 0, none⟩) (k + 1) cap)) (.slice (some ⟨g, 0, none⟩) (k + 1) cap) := by
  have lx : w.heap.size + 1 + 1 < wr.heap.size := lt_of_block h.x
  have hb : ∀ bb, bb < w.heap.size + 1 + 1 + 1 → w1.heap[bb]? = wr.heap[bb]? := fun bb hp => by
    rw [hg.block bb (by simp; omega) (fun e => by have := h.own.lt _ e.symm; omega)]
    exact Below.heap_alloc wr o _ (by omega)
  refine ⟨by omega, by omega, ?_, ?_, ?_, ?_, ?_⟩
  · refine Below.setCell ?_ (by simp; omega) _
    exact Below.grown ((h.below.alloc (by omega) _).drew) hg (by simp; omega) (fun kk hk => by have := h.own.lt kk hk; omega)
  · rw [Below.heap_setCell _ _ _ _ (by simp; omega), hb _ (by omega)]; exact h.arg
  · rw [Below.heap_setCell _ _ _ _ (by simp), hb _ (by omega)]; exact h.res
  · have hx : w1.heap[w.heap.size + 1 + 1]? = _ := (hb _ (by omega)).trans h.x
    rw [heap_setCell_same _ _ _ _ _ _ hx]; rfl
  · have e : m.hops.take (k + 1) = m.hops.take k ++ [m.hops[k]] := by rw [List.take_add_one, List.getElem?_eq_getElem h1]; rfl
    rw [e]
    exact ownsRow_setCell_below ho (by simp) _
set_option maxHeartbeats 2000000 in
theorem to_c (m : Msg) (hv : Value) (w : World) (hf : m.Fits) (hh : StrsAt w hv m.hops) :
    Calls Tryd.prog 9 #[.agg (msgC m hv)] w (MsgPost (toM m) w) := by
  unfold msgC
  have HF := Lib.hid hf
  clear hf
  obtain ⟨a, c, hsl⟩ := hh.slice
  have hhv : hv = .slice a m.hops.length c := by rcases hsl with h | h <;> exact h.1
  subst hhv
  have HH := Lib.hid hh
  clear hh hsl
  have hlen := HF.out.len
  unfold maxLen at hlen
  have hbody := HF.out.body
  unfold maxLen at hbody
  have m0 : (0 : Int) ≤ min (m.body.size : Int) 33000 := by omega
  have m1 : min (m.body.size : Int) 33000 ≤ (m.body.size : Int) := by omega
  go_enter Tryd.func9, Tryd.ntmps9
  go_upto_region 1 with fail
  go_cut [3] (fun s3 wx => s3 = .pointer (some ⟨w.heap.size + 1 + 1, 0, none⟩) ∧ ToRel m (.slice a m.hops.length c) 0 w wx (.slice none 0 0))
  case first =>
    go_region_held3 (fun w' => w'.cell? ⟨w.heap.size, 0, none⟩ = some (.string m.fu) ∧ w'.cell? ⟨w.heap.size, 1, none⟩ = some (.string m.fs) ∧ w'.cell? ⟨w.heap.size, 2, none⟩ = some (.string m.tu) ∧ w'.cell? ⟨w.heap.size, 3, none⟩ = some (.string m.ts) ∧ w'.cell? ⟨w.heap.size, 4, none⟩ = some (.int .i64 m.num) ∧ w'.cell? ⟨w.heap.size, 5, none⟩ = some (.int .i64 m.date) ∧ w'.cell? ⟨w.heap.size, 6, none⟩ = some (.string m.sj) ∧ w'.cell? ⟨w.heap.size, 8, none⟩ = some (.string m.body)) (go_keep) (first | fail)
    all_goals
      go_wp2_with fail
      go_meet
      refine ⟨rfl, Nat.zero_le _, by omega, ?_, ?_, ?_, ?_, World.ownsRow_nil _ _ _ _⟩
      · exact (((((Below.refl _ w).alloc (Nat.le_refl _) _).alloc (by simp) _).alloc (by simp; omega) _).drew)
      · rw [heap_drew]; exact heap_alloc3_a _ _ _ _
      · rw [heap_drew]; exact heap_alloc3_b _ _ _ _
      · rw [heap_drew]; exact heap_alloc3_c _ _ _ _
  case rest =>
  obtain ⟨rfl, hstart⟩ := hcut
  have HST := Lib.hid hstart
  clear hstart m0 m1
  rename_i wx
  go_wp2_with fail
  go_loopw [4] (fun i wr => ∃ (k : Nat) (v : Value), ToRel m (.slice a m.hops.length c) k w wr v ∧ i = .int .i64 k) (fun i _ => m.hops.length - (intOf i).toNat)
  case atStart => exact ⟨0, .slice none 0 0, HST.out, rfl⟩
  case round =>
    obtain ⟨k, v, hr, rfl⟩ := hrel
    have HR := Lib.hid hr
    clear hr
    have hk1 := HR.out.k1
    have hk2 := HR.out.k2
    have d7 : wr.cell? ⟨w.heap.size, 7, none⟩ = some (.slice a m.hops.length c) := cell_at HR.out.arg 7
    by_cases hlt : k < m.hops.length ∧ k < 20
    · obtain ⟨h1, h2⟩ := hlt
      obtain ⟨b, off, cap, hv2, hcap, hbs, hx⟩ := HH.out.at (by omega)
      simp only [Value.slice.injEq] at hv2
      obtain ⟨rfl, _, rfl⟩ := hv2
      have hxk : m.hops[k]? = some m.hops[k] := List.getElem?_eq_getElem h1
      have hcell : wr.cell? ⟨b, off + k, none⟩ = some (.string m.hops[k]) := (HR.out.below.cell (p := ⟨b, off + k, none⟩) hbs).trans (hx k _ hxk)
      have HXK := Lib.hid hxk
      have HB := Lib.hid hbs
      clear hx hxk hbs
      have x7 : wr.cell? ⟨w.heap.size + 1 + 1, 7, none⟩ = some v := cell_at HR.out.x 7
      have f7 : wr.frozen? ⟨w.heap.size + 1 + 1, 7, none⟩ = false := free_at HR.out.x 7
      have lx : w.heap.size + 1 + 1 < wr.heap.size := lt_of_block HR.out.x
      have hfz : ∀ o, (wr.alloc o).drew.frozen? ⟨w.heap.size + 1 + 1, 7, none⟩ = false := fun o => (World.frozen?_of_block (a := ⟨w.heap.size + 1 + 1, 7, none⟩) (Below.heap_alloc wr o _ lx)).trans f7
      have keepW : ∀ (o : Obj) (w1 : World), ((wr.alloc o).drew).grownBy w1 v.ownBlock → ∀ bb oo : Nat, bb < w.heap.size + 1 + 1 + 1 → w1.cell? ⟨bb, oo, none⟩ = wr.cell? ⟨bb, oo, none⟩ ∧ w1.frozen? ⟨bb, oo, none⟩ = wr.frozen? ⟨bb, oo, none⟩ := by
        intro o w1 hg bb oo hp
        have hb : w1.heap[bb]? = wr.heap[bb]? := by
          rw [hg.block bb (by simp; omega) (fun e => by have := HR.out.own.lt _ e.symm; omega)]
          exact Below.heap_alloc wr o _ (by omega)
        exact ⟨World.cell?_of_block (a := ⟨bb, oo, none⟩) hb, World.frozen?_of_block (a := ⟨bb, oo, none⟩) hb⟩
      have KW := Lib.hid keepW
      clear keepW
      have c0 : (0 : Int) ≤ (k : Int) := by omega
      have c1 : (k : Int) < (m.hops.length : Int) := by omega
      go_upto_block 1 with fail
      go_cut [] (fun wx => ∃ v', ToRel m (.slice (some ⟨b, off, none⟩) m.hops.length c) (k + 1) w wx v')
      case first =>
        go_wp2_with fail
        go_region_law ((refine step_append_str (by rfl) _ _ (by rfl) (w.heap.size + 1 + 1 + 1) (m.hops.take k) v m.hops[k] _ wr.heap.size (by rfl) (by rfl) (by exact heap_alloc_new _ _) (by exact (HR.out.own.alloc _).drew) (by simp; omega) (by simp; omega) ?_; intro g cap w1 ho hg; have x71 := (KW.out _ _ hg (w.heap.size + 1 + 1) 7 (by omega)).1.trans x7; have f71 := (KW.out _ _ hg (w.heap.size + 1 + 1) 7 (by omega)).2.trans f7))
        all_goals
          go_wp2_with fail
          go_meet
          rw [show (m.hops.take k).length = k from by rw [List.length_take]; omega] at ho
          exact ⟨_, to_step HR.out h1 h2 ho hg⟩
      case rest =>
        obtain ⟨v', hr'⟩ := hcut
        have HR' := Lib.hid hr'
        clear hr'
        go_wp2
        exact ⟨⟨k + 1, v', HR'.out, by go_num⟩, by simp [intOf]; omega⟩
    · have hx := HR.out.x
      have hres := HR.out.res
      have HXX := Lib.hid hx
      have HRR := Lib.hid hres
      have hown := HR.out.own
      clear hx hres
      have hone : (msgC (toM m) v).all (·.oneCell') = true := by
        obtain ⟨a', c', hv⟩ := ownStrs_len hown
        rw [hv]; simp [msgC, Value.oneCell']
      have HO1 := Lib.hid hone
      clear hone hown
      have hlk : k = (m.hops.take 20).length := by rw [List.length_take]; omega
      have HLK := Lib.hid hlk
      clear hlk
      by_cases h3 : k < m.hops.length
      · have h4 : ¬ k < 20 := by omega
        go_wp2_with (first | (with_reducible refine wpList_load_row rfl 29 (.tmp 3) rfl _ rfl _ _ _ _ HXX.out Tryd.underlying29 rfl (by kernel_rfl) ?_) | (with_reducible refine wpList_store_row rfl 29 (.tmp 2) (.tmp 54) rfl _ rfl _ _ _ rfl HRR.out (by kernel_rfl) (by simp [msgC]) HO1.out ?_))
        exact to_end m _ _ HLK.out HR.out (by rfl) (by rfl)
      · go_wp2_with (first | (with_reducible refine wpList_load_row rfl 29 (.tmp 3) rfl _ rfl _ _ _ _ HXX.out Tryd.underlying29 rfl (by kernel_rfl) ?_) | (with_reducible refine wpList_store_row rfl 29 (.tmp 2) (.tmp 54) rfl _ rfl _ _ _ rfl HRR.out (by kernel_rfl) (by simp [msgC]) HO1.out ?_))
        exact to_end m _ _ HLK.out HR.out (by rfl) (by rfl)
end Go.Proofs.YtfcfddfjifofgaaDoor
