/- What Due returns. -/
import Derived.Test.YtfcfddfjifofgaaDoorSortD
import Derived.Test.YtfcfddfjifofgaaDoorGSortC
namespace Go.Proofs.YtfcfddfjifofgaaDoor
open Go.RowKit Go.Shelf
set_option maxRecDepth 100000 in
set_option maxHeartbeats 600000 in
theorem due_e (q mb : Nat) (site : ByteArray) (last now : Int) (l : List (Int × QEnt)) (w : World) (hq : QueueAt q mb site last l w) (hl : l.length ≤ 1000000) : Calls Tryd.prog 28 #[.pointer (some ⟨q, 0, none⟩), .int .i64 now] w (Ret (IsDue w.heap.size l now) w) := by
  refine enter_fn Tryd.func28 rfl Tryd.ntmps28 (Nat.le_of_ble_eq_true rfl) (fun a0 N D hA => ?_)
  have T0 : (fun v _ => v = .pointer (some ⟨q, 0, none⟩)) (a0.at 0) w := by rw [hA 0 (by simp)]; exact rfl
  have T1 : (fun v _ => v = .int .i64 now) (a0.at 1) w := by rw [hA 1 (by simp)]; exact rfl
  clear hA
  have E : Ext w w := Ext.refl w
  have R_q := hq.row
  refine wp_seq_k (fun K1 hK1 => ?_)
  -- region 0: mail.go:264
  show (Code.region 0 (rg Tryd.f28 0) false).wp _ _ _ _
  refine wp_region ?_
  show wpOps _ (rg Tryd.f28 0) _ [0] _ _
  refine tail_val rfl rfl rfl (ex_move (.inr rfl) (v := .slice none 0 0) (ev_const (v := .slice none 0 0))) ?_
  obtain ⟨a2, ha⟩ : ∃ x : Act, x = a0.put (some 4) (.slice none 0 0) := ⟨_, rfl⟩
  rw [← ha]
  replace T0 : (fun v _ => v = .pointer (some ⟨q, 0, none⟩)) (a2.at 0) w := by rw [ha, put_other rfl]; exact T0
  replace T1 : (fun v _ => v = .int .i64 now) (a2.at 1) w := by rw [ha, put_other rfl]; exact T1
  have T4 : (fun v _ => v = .slice none 0 0) (a2.at 4) w := by rw [ha, put_same N (by decide)]; skip
  replace N := (ha ▸ put_size _ _ _ : a2.tmps.size = _).trans N
  replace D := (ha ▸ put_defers' _ _ _ : a2.defers = _).trans D
  clear ha
  refine hK1 _ _ ?_
  refine wp_seq_k (fun K3 hK3 => ?_)
  refine wp_seq_k (fun K4 hK4 => ?_)
  -- region 1: mail.go:265
  show (Code.region 1 (rg Tryd.f28 1) false).wp _ _ _ _
  refine plain_list (n := 2) (N := 45) (deps := [[], [0]]) (F := [(fun v _ => v = .pointer (some ⟨q, 0, none⟩)), (fun v _ => v = .bool false)]) (by kernel_rfl) (by kernel_rfl) rfl (by kernel_rfl) ⟨(stab_eq _), (stab_eq _), trivial⟩ N (by kernel_rfl) ⟨?_, ?_, trivial⟩ ?_
  · -- 0 mail.go:265
    rintro aa ww hE hF ⟨-⟩
    have o0 : aa.eval (.tmp 0) = .pointer (some ⟨q, 0, none⟩) := hF.carry (fun v _ => v = .pointer (some ⟨q, 0, none⟩)) rfl (stab_eq _) hE T0
    exact opAt rfl (ok_run rfl (run_here rfl (ex_move (.inl rfl) o0) ( rfl)))
  · -- 1 mail.go:265
    rintro aa ww hE hF ⟨d0, -⟩
    replace d0 : aa.eval (.tmp 11) = .pointer (some ⟨q, 0, none⟩) := d0
    exact opAt rfl (ok_run rfl (run_here rfl (ex_binOp rfl (by rw [show aa.eval (.tmp 11) = .pointer (some ⟨q, 0, none⟩) from d0]; exact eqg_ptr) (by rw [show aa.eval (.tmp 11) = .pointer (some ⟨q, 0, none⟩) from d0]; exact run_eql_pointer_nil _ _ _ Tryd.underlying56)) ( rfl)))
  intro a5 w6 hE hF hfac hap
  obtain ⟨f0, f1, -⟩ := hfac
  replace N := hF.size.trans N
  replace D := hF.defers.trans D
  replace R_q := hE.row R_q
  replace T0 : (fun v _ => v = .pointer (some ⟨q, 0, none⟩)) (a5.at 0) w6 := hF.carry (fun v _ => v = .pointer (some ⟨q, 0, none⟩)) rfl (stab_eq _) hE T0
  replace T1 : (fun v _ => v = .int .i64 now) (a5.at 1) w6 := hF.carry (fun v _ => v = .int .i64 now) rfl (stab_eq _) hE T1
  replace T4 : (fun v _ => v = .slice none 0 0) (a5.at 4) w6 := hF.carry (fun v _ => v = .slice none 0 0) rfl (stab_eq _) hE T4
  have T12 : (fun v _ => v = .bool false) (a5.at 12) w6 := f1
  replace E := E.trans hE
  clear hE hF hap
  show wpOps _ (rg Tryd.f28 1) _ [] _ _
  refine hK4 _ _ ?_
  refine wp_cond_false T12 ?_
  refine wp_skip ?_
  refine hK3 _ _ ?_
  refine wp_seq_k (fun K7 hK7 => ?_)
  -- region 3: mail.go:268
  show (Code.region 3 (rg Tryd.f28 3) false).wp _ _ _ _
  refine wp_region ?_
  show wpOps _ (rg Tryd.f28 3) _ [0] _ _
  refine tail_val rfl rfl rfl (ex_move (.inr rfl) (v := .slice none 0 0) (ev_const (v := .slice none 0 0))) ?_
  obtain ⟨a8, ha⟩ : ∃ x : Act, x = a5.put (some 5) (.slice none 0 0) := ⟨_, rfl⟩
  rw [← ha]
  replace T0 : (fun v _ => v = .pointer (some ⟨q, 0, none⟩)) (a8.at 0) w6 := by rw [ha, put_other rfl]; exact T0
  replace T1 : (fun v _ => v = .int .i64 now) (a8.at 1) w6 := by rw [ha, put_other rfl]; exact T1
  replace T4 : (fun v _ => v = .slice none 0 0) (a8.at 4) w6 := by rw [ha, put_other rfl]; exact T4
  replace T12 : (fun v _ => v = .bool false) (a8.at 12) w6 := by rw [ha, put_other rfl]; exact T12
  have T5 : (fun v _ => v = .slice none 0 0) (a8.at 5) w6 := by rw [ha, put_same N (by decide)]; skip
  replace N := (ha ▸ put_size _ _ _ : a8.tmps.size = _).trans N
  replace D := (ha ▸ put_defers' _ _ _ : a8.defers = _).trans D
  clear ha
  clear T12
  refine hK7 _ _ ?_
  refine wp_seq_k (fun K9 hK9 => ?_)
  refine wp_seq_k (fun K10 hK10 => ?_)
  -- region 4: mail.go:269
  show (Code.region 4 (rg Tryd.f28 4) false).wp _ _ _ _
  refine plain_list (n := 5) (N := 45) (deps := [[], [0], [1], [2], [3]]) (F := [(fun v _ => v = .pointer (some ⟨q, 0, none⟩)), (fun v _ => v = .pointer (some ⟨q, 0, none⟩)), (fun v _ => v = .pointer (some ⟨q, 2, none⟩)), (fun v _ => v = .map (some mb)), (IsIter w.heap.size mb l)]) (by kernel_rfl) (by kernel_rfl) rfl (by kernel_rfl) ⟨(stab_eq _), (stab_eq _), (stab_eq _), (stab_eq _), (stab_iter _ _ _), trivial⟩ N (by kernel_rfl) ⟨?_, ?_, ?_, ?_, ?_, trivial⟩ ?_
  · -- 0 mail.go:269
    rintro aa ww hE hF ⟨-⟩
    have o0 : aa.eval (.tmp 0) = .pointer (some ⟨q, 0, none⟩) := hF.carry (fun v _ => v = .pointer (some ⟨q, 0, none⟩)) rfl (stab_eq _) hE T0
    exact opAt rfl (ok_run rfl (run_here rfl (ex_move (.inl rfl) o0) ( rfl)))
  · -- 1 mail.go:269
    rintro aa ww hE hF ⟨d0, -⟩
    replace d0 : aa.eval (.tmp 13) = .pointer (some ⟨q, 0, none⟩) := d0
    exact opAt rfl (ok_run rfl (run_here rfl (ex_nilCheck rfl d0) ( rfl)))
  · -- 2 mail.go:269
    rintro aa ww hE hF ⟨d1, -⟩
    replace d1 : aa.eval (.tmp 14) = .pointer (some ⟨q, 0, none⟩) := d1
    exact opAt rfl (ok_run rfl (run_here rfl (ex_fieldAddr rfl d1 Tryd.underlying84 rfl (fun w => ⟨_, Tryd.sizeOf82 w⟩) rfl) ( rfl)))
  · -- 3 mail.go:269
    rintro aa ww hE hF ⟨d2, -⟩
    replace d2 : aa.eval (.tmp 15) = .pointer (some ⟨q, 2, none⟩) := d2
    exact opAt rfl (ok_run rfl (run_here rfl (ex_load rfl d2 (load_cell Tryd.isAgg82 ((cell_row (hE.row R_q) 2).trans rfl))) ( rfl)))
  · -- 4 mail.go:269
    rintro aa ww hE hF ⟨d3, -⟩
    replace d3 : aa.eval (.tmp 16) = .map (some mb) := d3
    exact opAt rfl (ok_run rfl (run_iter rfl d3 (hq.map.ext (E.trans hE)) ((E.trans hE).size) (fun _ _ h =>  h)))
  intro a11 w12 hE hF hfac hap
  obtain ⟨f0, f1, f2, f3, f4, -⟩ := hfac
  replace N := hF.size.trans N
  replace D := hF.defers.trans D
  replace R_q := hE.row R_q
  clear T0
  replace T1 : (fun v _ => v = .int .i64 now) (a11.at 1) w12 := hF.carry (fun v _ => v = .int .i64 now) rfl (stab_eq _) hE T1
  replace T4 : (fun v _ => v = .slice none 0 0) (a11.at 4) w12 := hF.carry (fun v _ => v = .slice none 0 0) rfl (stab_eq _) hE T4
  replace T5 : (fun v _ => v = .slice none 0 0) (a11.at 5) w12 := hF.carry (fun v _ => v = .slice none 0 0) rfl (stab_eq _) hE T5
  have T17 : (IsIter w.heap.size mb l) (a11.at 17) w12 := f4
  replace E := E.trans hE
  clear hE hF hap
  show wpOps _ (rg Tryd.f28 4) _ [] _ _
  obtain ⟨r, T17, B_r, IT⟩ := T17
  replace T17 : (fun v _ => v = .pointer (some ⟨r, 0, none⟩)) (a11.at 17) w12 := T17
  have OW : OwnW w.heap.size [] w12 (.slice none 0 0) := OwnR.nil
  refine hK10 _ _ ?_
  refine wp_block ?_
  -- the loop (it writes)
  obtain ⟨I13, hI13⟩ : ∃ I : Nat → Act → World → Prop, I = fun μ aa ww => ∃ (H : List QEnt) (fv : Value), (aa.tmps.size = 45) ∧ (aa.defers = []) ∧ (Ext w ww) ∧ ((fun v _ => v = .int .i64 now) (aa.at 1) ww) ∧ ((fun v _ => v = .slice none 0 0) (aa.at 4) ww) ∧ ((fun v _ => v = .pointer (some ⟨r, 0, none⟩)) (aa.at 17) ww) ∧ ((fun v _ => v = fv) (aa.at 5) ww) ∧ (ww.heap[q]? = some (.cells #[.string site, .int .i64 last, .map (some mb)] 84 (0, 0))) ∧ (RangeAt r mb l H ww) ∧ (OwnW w.heap.size (H.filter (dueB now)) ww fv) ∧ (μ = l.length - H.length) := ⟨_, rfl⟩
  refine loop_rule I13 _ (by rw [hI13]; exact ⟨[], .slice none 0 0, N, D, E, T1, T4, T17, T5, R_q, IT, OW, rfl⟩) ?_
  clear N D E T1 T4 T5 T17 R_q IT OW
  intro μ a14 w15 hI
  rw [hI13] at hI
  obtain ⟨H, fv, N, D, E, T1, T4, T17, T5, R_q, IT, OW, hμ⟩ := hI
  have HM := Lib.hid hμ; clear hμ
  refine wp_seq_k (fun K16 hK16 => ?_)
  -- region 5: mail.go:269
  show (Code.region 5 (rg Tryd.f28 5) false).wp _ _ _ _
  refine wp_region ?_
  show wpOps _ (rg Tryd.f28 5) _ [0, 1] _ _
  obtain ⟨more17, _, w18, hrun, ⟨nrest, rfl⟩, hdone, hmore, -, hrow, hext⟩ := next_run IT 0
  refine tail_val rfl rfl rfl (v := .tuple (#[.bool more17] ++ nrest)) (ex_next rfl (by rw [show a14.eval (.tmp 17) = .pointer (some ⟨r, 0, none⟩) from (show a14.eval (.tmp 17) = .pointer (some ⟨r, 0, none⟩) from T17)]; exact hrun)) ?_
  replace R_q := hrow _ _ _ R_q
  replace OW : OwnW w.heap.size (H.filter (dueB now)) w18 fv := OwnR.kept OW hrow
  clear IT
  replace E := hext _ E B_r
  replace T1 : (fun v _ => v = .int .i64 now) (a14.at 1) w18 := T1
  replace T4 : (fun v _ => v = .slice none 0 0) (a14.at 4) w18 := T4
  replace T17 : (fun v _ => v = .pointer (some ⟨r, 0, none⟩)) (a14.at 17) w18 := T17
  replace T5 : (fun v _ => v = fv) (a14.at 5) w18 := T5
  clear hrun hrow hext
  obtain ⟨a19, ha⟩ : ∃ x : Act, x = a14.put (some 18) (.tuple (#[.bool more17] ++ nrest)) := ⟨_, rfl⟩
  rw [← ha]
  replace T1 : (fun v _ => v = .int .i64 now) (a19.at 1) w18 := by rw [ha, put_other rfl]; exact T1
  replace T4 : (fun v _ => v = .slice none 0 0) (a19.at 4) w18 := by rw [ha, put_other rfl]; exact T4
  replace T17 : (fun v _ => v = .pointer (some ⟨r, 0, none⟩)) (a19.at 17) w18 := by rw [ha, put_other rfl]; exact T17
  replace T5 : (fun v _ => v = fv) (a19.at 5) w18 := by rw [ha, put_other rfl]; exact T5
  have T18 : (fun v _ => v = .tuple (#[.bool more17] ++ nrest)) (a19.at 18) w18 := by rw [ha, put_same N (by decide)]; skip
  replace N := (ha ▸ put_size _ _ _ : a19.tmps.size = _).trans N
  replace D := (ha ▸ put_defers' _ _ _ : a19.defers = _).trans D
  clear ha
  refine tail_val rfl rfl rfl (v := .bool more17) (ex_tup0 (show a19.eval (.tmp 18) = .tuple (#[.bool more17] ++ nrest) from T18) rfl) ?_
  obtain ⟨a20, ha⟩ : ∃ x : Act, x = a19.put (some 19) (.bool more17) := ⟨_, rfl⟩
  rw [← ha]
  replace T1 : (fun v _ => v = .int .i64 now) (a20.at 1) w18 := by rw [ha, put_other rfl]; exact T1
  replace T4 : (fun v _ => v = .slice none 0 0) (a20.at 4) w18 := by rw [ha, put_other rfl]; exact T4
  replace T17 : (fun v _ => v = .pointer (some ⟨r, 0, none⟩)) (a20.at 17) w18 := by rw [ha, put_other rfl]; exact T17
  replace T5 : (fun v _ => v = fv) (a20.at 5) w18 := by rw [ha, put_other rfl]; exact T5
  replace T18 : (fun v _ => v = .tuple (#[.bool more17] ++ nrest)) (a20.at 18) w18 := by rw [ha, put_other rfl]; exact T18
  have T19 : (fun v _ => v = .bool more17) (a20.at 19) w18 := by rw [ha, put_same N (by decide)]; skip
  replace N := (ha ▸ put_size _ _ _ : a20.tmps.size = _).trans N
  replace D := (ha ▸ put_defers' _ _ _ : a20.defers = _).trans D
  clear ha
  clear T18
  refine hK16 _ _ ?_
  refine wp_seq_k (fun K21 hK21 => ?_)
  refine wp_cond_split (t := more17) T19 (fun C22 => ?_) (fun C22 => ?_)
  · clear T19
    obtain ⟨xe, hlx, IT, EN⟩ := hmore C22
    clear hdone hmore nrest
    obtain ⟨y, hyl, hyx⟩ := IT.mem xe (by simp)
    have wone : xe.hv.oneCell' = true := by rw [← hyx]; exact own_one (hq.own y hyl)
    have hH : (H.filter (dueB now)).length ≤ H.length := List.length_filter_le _ _
    refine wp_skip ?_
    refine hK21 _ _ ?_
    refine wp_block ?_
    refine wp_seq_k (fun K23 hK23 => ?_)
    -- region 6: mail.go:269
    show (Code.region 6 (rg Tryd.f28 6) false).wp _ _ _ _
    refine plain_list (n := 3) (N := 45) (deps := [[], [0], []]) (F := [(IsEnt xe), (fun v _ => v = .agg (wC xe)), (IsBox #[.string ⟨#[]⟩, .string ⟨#[]⟩, .string ⟨#[]⟩, .string ⟨#[]⟩, .int .i64 0, .int .i64 0, .string ⟨#[]⟩, .slice none 0 0, .string ⟨#[]⟩, .int .i64 0, .int .i64 0, .int .i64 0] 87 w18.heap.size)]) (by kernel_rfl) (by kernel_rfl) rfl (by kernel_rfl) ⟨(stab_ent _), (stab_eq _), (stab_box _ _ _), trivial⟩ N (by kernel_rfl) ⟨?_, ?_, ?_, trivial⟩ ?_
    · -- 0 mail.go:269
      rintro aa ww hE hF ⟨-⟩
      have o17 : aa.eval (.tmp 17) = .pointer (some ⟨r, 0, none⟩) := hF.carry (fun v _ => v = .pointer (some ⟨r, 0, none⟩)) rfl (stab_eq _) hE T17
      exact opAt rfl (ok_run rfl (by obtain ⟨key, hk⟩ := entry_run (EN.ext hE); exact run_here rfl (ex_entry rfl (by rw [show aa.eval (.tmp 17) = .pointer (some ⟨r, 0, none⟩) from o17]; exact hk)) ( ⟨key, rfl⟩)))
    · -- 1 mail.go:269
      rintro aa ww hE hF ⟨d0, -⟩
      replace d0 : (IsEnt xe) (aa.eval (.tmp 20)) ww := d0
      exact opAt rfl (ok_run rfl (run_here rfl (ex_ent1 (w := ww) (d0) rfl) ( rfl)))
    · -- 2 mail.go:269
      rintro aa ww hE hF ⟨-⟩
      exact opAt rfl (ok_run rfl (run_new (ex_alloc rfl Tryd.zeroValue87) ( (box_new hE.size))))
    intro a24 w25 hE hF hfac hap
    obtain ⟨f0, f1, f2, -⟩ := hfac
    replace N := hF.size.trans N
    replace D := hF.defers.trans D
    obtain ⟨b26, T7, B_b26, R_b26⟩ := f2
    have NE_q_b26 : q ≠ b26 := by have := row_lt R_q; omega
    have NB_b26_OW : ∀ g, fv.ownBlock = some g → g ≠ b26 := fun g e => by have := (OwnR.lt OW g e).1; omega
    replace B_b26 := Nat.le_trans E.size B_b26
    replace R_q := hE.row R_q
    replace OW : OwnW w.heap.size (H.filter (dueB now)) w25 fv := OW.ext hE
    replace IT : RangeAt r mb l (H ++ [xe]) w25 := IT.ext hE
    replace EN : EntAt r xe w25 := EN.ext hE
    replace T1 : (fun v _ => v = .int .i64 now) (a24.at 1) w25 := hF.carry (fun v _ => v = .int .i64 now) rfl (stab_eq _) hE T1
    replace T4 : (fun v _ => v = .slice none 0 0) (a24.at 4) w25 := hF.carry (fun v _ => v = .slice none 0 0) rfl (stab_eq _) hE T4
    replace T17 : (fun v _ => v = .pointer (some ⟨r, 0, none⟩)) (a24.at 17) w25 := hF.carry (fun v _ => v = .pointer (some ⟨r, 0, none⟩)) rfl (stab_eq _) hE T17
    replace T5 : (fun v _ => v = fv) (a24.at 5) w25 := hF.carry (fun v _ => v = fv) rfl (stab_eq _) hE T5
    have T21 : (fun v _ => v = .agg (wC xe)) (a24.at 21) w25 := f1
    replace E := E.trans hE
    clear hE hF hap
    show wpOps _ (rg Tryd.f28 6) _ [3] _ _
    refine tail_do rfl rfl rfl (ex_store rfl (show a24.eval (.tmp 7) = .pointer (some ⟨b26, 0, none⟩) from T7) (by rw [show a24.eval (.tmp 21) = .agg (wC xe) from (show a24.eval (.tmp 21) = .agg (wC xe) from T21)]; exact store_row R_b26 (by kernel_rfl) rfl (wC_one wone))) ?_
    obtain ⟨w27, hw⟩ : ∃ x : World, x = w25.setRow b26 (wC xe) := ⟨_, rfl⟩
    rw [← hw]
    replace R_q := hw ▸ row_other R_q (by first | exact NE_q_b26 | exact NE_b26_q.symm)
    replace E : Ext w w27 := hw ▸ below_row E B_b26
    replace T1 : (fun v _ => v = .int .i64 now) (a24.at 1) w27 := T1
    replace T4 : (fun v _ => v = .slice none 0 0) (a24.at 4) w27 := T4
    replace T17 : (fun v _ => v = .pointer (some ⟨r, 0, none⟩)) (a24.at 17) w27 := T17
    replace T5 : (fun v _ => v = fv) (a24.at 5) w27 := T5
    replace T21 : (fun v _ => v = .agg (wC xe)) (a24.at 21) w27 := T21
    replace T7 : (fun v _ => v = .pointer (some ⟨b26, 0, none⟩)) (a24.at 7) w27 := T7
    replace OW : OwnW w.heap.size (H.filter (dueB now)) w27 fv := hw ▸ OwnR.setRowNe OW NB_b26_OW
    replace IT : RangeAt r mb l (H ++ [xe]) w27 := hw ▸ IT.setRow R_b26 rfl
    replace EN : EntAt r xe w27 := hw ▸ EN.setRow R_b26 rfl
    replace R_b26 : w27.heap[b26]? = some (.cells (wC xe) 87 (0, 0)) := by rw [hw]; exact setRow_heap _ _ _ _ _ _ R_b26
    clear hw
    clear T21
    refine hK23 _ _ ?_
    refine wp_seq_k (fun K28 hK28 => ?_)
    -- region 7: mail.go:270
    show (Code.region 7 (rg Tryd.f28 7) false).wp _ _ _ _
    refine plain_list (n := 4) (N := 45) (deps := [[], [0], [], [1, 2]]) (F := [(fun v _ => v = .pointer (some ⟨b26, 10, none⟩)), (fun v _ => v = .int .i64 xe.due), (fun v _ => v = .int .i64 now), (fun v _ => v = .bool (decide (xe.due ≤ now)))]) (by kernel_rfl) (by kernel_rfl) rfl (by kernel_rfl) ⟨(stab_eq _), (stab_eq _), (stab_eq _), (stab_eq _), trivial⟩ N (by kernel_rfl) ⟨?_, ?_, ?_, ?_, trivial⟩ ?_
    · -- 0 mail.go:270
      rintro aa ww hE hF ⟨-⟩
      have o7 : aa.eval (.tmp 7) = .pointer (some ⟨b26, 0, none⟩) := hF.carry (fun v _ => v = .pointer (some ⟨b26, 0, none⟩)) rfl (stab_eq _) hE T7
      exact opAt rfl (ok_run rfl (run_here rfl (ex_fieldAddr rfl o7 Tryd.underlying87 rfl (fun w => ⟨_, Tryd.sizeOf3 w⟩) rfl) ( rfl)))
    · -- 1 mail.go:270
      rintro aa ww hE hF ⟨d0, -⟩
      replace d0 : aa.eval (.tmp 22) = .pointer (some ⟨b26, 10, none⟩) := d0
      exact opAt rfl (ok_run rfl (run_here rfl (ex_load rfl d0 (load_cell Tryd.isAgg3 ((cell_row (hE.row R_b26) 10).trans rfl))) ( rfl)))
    · -- 2 mail.go:270
      rintro aa ww hE hF ⟨-⟩
      have o1 : aa.eval (.tmp 1) = .int .i64 now := hF.carry (fun v _ => v = .int .i64 now) rfl (stab_eq _) hE T1
      exact opAt rfl (ok_run rfl (run_here rfl (ex_move (.inl rfl) o1) ( rfl)))
    · -- 3 mail.go:270
      rintro aa ww hE hF ⟨d1, d2, -⟩
      replace d1 : aa.eval (.tmp 23) = .int .i64 xe.due := d1
      replace d2 : aa.eval (.tmp 24) = .int .i64 now := d2
      exact opAt rfl (ok_run rfl (run_here rfl (ex_binOp rfl (by rw [show aa.eval (.tmp 23) = .int .i64 xe.due from d1, show aa.eval (.tmp 24) = .int .i64 now from d2]; exact eqg_int) (by rw [show aa.eval (.tmp 23) = .int .i64 xe.due from d1, show aa.eval (.tmp 24) = .int .i64 now from d2]; exact bin_leq)) ( rfl)))
    intro a29 w30 hE hF hfac hap
    obtain ⟨f0, f1, f2, f3, -⟩ := hfac
    replace N := hF.size.trans N
    replace D := hF.defers.trans D
    replace R_q := hE.row R_q
    replace R_b26 := hE.row R_b26
    replace OW : OwnW w.heap.size (H.filter (dueB now)) w30 fv := OW.ext hE
    replace IT : RangeAt r mb l (H ++ [xe]) w30 := IT.ext hE
    replace EN : EntAt r xe w30 := EN.ext hE
    replace T1 : (fun v _ => v = .int .i64 now) (a29.at 1) w30 := hF.carry (fun v _ => v = .int .i64 now) rfl (stab_eq _) hE T1
    replace T4 : (fun v _ => v = .slice none 0 0) (a29.at 4) w30 := hF.carry (fun v _ => v = .slice none 0 0) rfl (stab_eq _) hE T4
    replace T17 : (fun v _ => v = .pointer (some ⟨r, 0, none⟩)) (a29.at 17) w30 := hF.carry (fun v _ => v = .pointer (some ⟨r, 0, none⟩)) rfl (stab_eq _) hE T17
    replace T5 : (fun v _ => v = fv) (a29.at 5) w30 := hF.carry (fun v _ => v = fv) rfl (stab_eq _) hE T5
    replace T7 : (fun v _ => v = .pointer (some ⟨b26, 0, none⟩)) (a29.at 7) w30 := hF.carry (fun v _ => v = .pointer (some ⟨b26, 0, none⟩)) rfl (stab_eq _) hE T7
    have T25 : (fun v _ => v = .bool (decide (xe.due ≤ now))) (a29.at 25) w30 := f3
    replace E := E.trans hE
    clear hE hF hap
    show wpOps _ (rg Tryd.f28 7) _ [] _ _
    refine hK28 _ _ ?_
    refine wp_cond_split (t := decide (xe.due ≤ now)) T25 (fun C31 => ?_) (fun C31 => ?_)
    · clear T25
      -- region 8: mail.go:271
      show (Code.region 8 (rg Tryd.f28 8) false).wp _ _ _ _
      refine plain_list (n := 3) (N := 45) (deps := [[], [], [1]]) (F := [(fun v _ => v = fv), (fun v _ => v = .agg (wC xe)), (IsOneW xe)]) (by kernel_rfl) (by kernel_rfl) rfl (by kernel_rfl) ⟨(stab_eq _), (stab_eq _), (stab_oneW _), trivial⟩ N (by kernel_rfl) ⟨?_, ?_, ?_, trivial⟩ ?_
      · -- 0 mail.go:271
        rintro aa ww hE hF ⟨-⟩
        have o5 : aa.eval (.tmp 5) = fv := hF.carry (fun v _ => v = fv) rfl (stab_eq _) hE T5
        exact opAt rfl (ok_run rfl (run_here rfl (ex_move (.inl rfl) o5) ( rfl)))
      · -- 1 mail.go:271
        rintro aa ww hE hF ⟨-⟩
        have o7 : aa.eval (.tmp 7) = .pointer (some ⟨b26, 0, none⟩) := hF.carry (fun v _ => v = .pointer (some ⟨b26, 0, none⟩)) rfl (stab_eq _) hE T7
        exact opAt rfl (ok_run rfl (run_here rfl (ex_load rfl o7 (load_row (hE.row R_b26) Tryd.underlying87 rfl (by kernel_rfl))) ( rfl)))
      · -- 2 mail.go:271
        rintro aa ww hE hF ⟨d1, -⟩
        replace d1 : aa.eval (.tmp 27) = .agg (wC xe) := d1
        exact opAt rfl (ok_run rfl (run_ok rfl (ex_buildSlice rfl (by simp only [List.map_toArray, List.map_cons, List.map_nil, d1]; exact bs_wait1 _ _)) (Ext.alloc _ _) ( (new_oneW _ _))))
      intro a32 w33 hE hF hfac hap
      obtain ⟨f0, f1, f2, -⟩ := hfac
      replace N := hF.size.trans N
      replace D := hF.defers.trans D
      replace R_q := hE.row R_q
      replace R_b26 := hE.row R_b26
      replace OW : OwnW w.heap.size (H.filter (dueB now)) w33 fv := OW.ext hE
      replace IT : RangeAt r mb l (H ++ [xe]) w33 := IT.ext hE
      replace EN : EntAt r xe w33 := EN.ext hE
      replace T1 : (fun v _ => v = .int .i64 now) (a32.at 1) w33 := hF.carry (fun v _ => v = .int .i64 now) rfl (stab_eq _) hE T1
      replace T4 : (fun v _ => v = .slice none 0 0) (a32.at 4) w33 := hF.carry (fun v _ => v = .slice none 0 0) rfl (stab_eq _) hE T4
      replace T17 : (fun v _ => v = .pointer (some ⟨r, 0, none⟩)) (a32.at 17) w33 := hF.carry (fun v _ => v = .pointer (some ⟨r, 0, none⟩)) rfl (stab_eq _) hE T17
      replace T5 : (fun v _ => v = fv) (a32.at 5) w33 := hF.carry (fun v _ => v = fv) rfl (stab_eq _) hE T5
      replace T7 : (fun v _ => v = .pointer (some ⟨b26, 0, none⟩)) (a32.at 7) w33 := hF.carry (fun v _ => v = .pointer (some ⟨b26, 0, none⟩)) rfl (stab_eq _) hE T7
      have T26 : (fun v _ => v = fv) (a32.at 26) w33 := f0
      have T28 : (IsOneW xe) (a32.at 28) w33 := f2
      replace E := E.trans hE
      clear hE hF hap
      show wpOps _ (rg Tryd.f28 8) _ [3, 4] _ _
      obtain ⟨nb, enb, rnb⟩ := (show (IsOneW xe) (a32.eval (.tmp 28)) w33 from T28)
      obtain ⟨v34, w35, hrun, hown, hgr⟩ := app_wait 90 wone OW rnb (by omega) E.size
      refine tail_val rfl rfl rfl (v := v34) (ex_builtin rfl (fun cs => by simp only [List.map_toArray, List.map_cons, List.map_nil, enb, show a32.eval (.tmp 26) = fv from (show a32.eval (.tmp 26) = fv from T26)]; exact builtin_app hrun)) ?_
      replace R_q := OwnR.grown_row OW hgr R_q rfl
      clear R_b26
      replace IT : RangeAt r mb l (H ++ [xe]) w35 := OwnR.grown_range OW hgr IT
      clear EN
      replace E : Ext w w35 := OwnR.grown_ext OW hgr E (Nat.le_refl _)
      clear T26
      clear T28
      replace T1 : (fun v _ => v = .int .i64 now) (a32.at 1) w35 := T1
      replace T4 : (fun v _ => v = .slice none 0 0) (a32.at 4) w35 := T4
      replace T17 : (fun v _ => v = .pointer (some ⟨r, 0, none⟩)) (a32.at 17) w35 := T17
      replace T5 : (fun v _ => v = fv) (a32.at 5) w35 := T5
      replace T7 : (fun v _ => v = .pointer (some ⟨b26, 0, none⟩)) (a32.at 7) w35 := T7
      replace OW : OwnW w.heap.size ((H.filter (dueB now)) ++ [xe]) w35 v34 := hown
      clear hrun hown hgr enb rnb
      obtain ⟨a36, ha⟩ : ∃ x : Act, x = a32.put (some 29) (v34) := ⟨_, rfl⟩
      rw [← ha]
      replace T1 : (fun v _ => v = .int .i64 now) (a36.at 1) w35 := by rw [ha, put_other rfl]; exact T1
      replace T4 : (fun v _ => v = .slice none 0 0) (a36.at 4) w35 := by rw [ha, put_other rfl]; exact T4
      replace T17 : (fun v _ => v = .pointer (some ⟨r, 0, none⟩)) (a36.at 17) w35 := by rw [ha, put_other rfl]; exact T17
      replace T5 : (fun v _ => v = fv) (a36.at 5) w35 := by rw [ha, put_other rfl]; exact T5
      replace T7 : (fun v _ => v = .pointer (some ⟨b26, 0, none⟩)) (a36.at 7) w35 := by rw [ha, put_other rfl]; exact T7
      have T29 : (fun v _ => v = v34) (a36.at 29) w35 := by rw [ha, put_same N (by decide)]; skip
      replace N := (ha ▸ put_size _ _ _ : a36.tmps.size = _).trans N
      replace D := (ha ▸ put_defers' _ _ _ : a36.defers = _).trans D
      clear ha
      refine tail_val rfl rfl rfl (ex_move (.inr rfl) (v := v34) (show a36.eval (.tmp 29) = v34 from T29)) ?_
      obtain ⟨a37, ha⟩ : ∃ x : Act, x = a36.put (some 5) (v34) := ⟨_, rfl⟩
      rw [← ha]
      replace T1 : (fun v _ => v = .int .i64 now) (a37.at 1) w35 := by rw [ha, put_other rfl]; exact T1
      replace T4 : (fun v _ => v = .slice none 0 0) (a37.at 4) w35 := by rw [ha, put_other rfl]; exact T4
      replace T17 : (fun v _ => v = .pointer (some ⟨r, 0, none⟩)) (a37.at 17) w35 := by rw [ha, put_other rfl]; exact T17
      replace T7 : (fun v _ => v = .pointer (some ⟨b26, 0, none⟩)) (a37.at 7) w35 := by rw [ha, put_other rfl]; exact T7
      replace T29 : (fun v _ => v = v34) (a37.at 29) w35 := by rw [ha, put_other rfl]; exact T29
      replace T5 : (fun v _ => v = v34) (a37.at 5) w35 := by rw [ha, put_same N (by decide)]; skip
      replace N := (ha ▸ put_size _ _ _ : a37.tmps.size = _).trans N
      replace D := (ha ▸ put_defers' _ _ _ : a37.defers = _).trans D
      clear ha
      clear T29
      replace OW := filter_snocT C31 ▸ OW
      -- the round's end
      have hμ := HM.out
      refine ⟨_, by rw [hI13]; exact ⟨H ++ [xe], v34, N, D, E, T1, T4, T17, T5, R_q, IT, OW, rfl⟩, ?_⟩
      simp only [List.length_append, List.length_singleton]; omega
    · clear T25
      refine wp_skip ?_
      replace OW := filter_snocF C31 ▸ OW
      -- the round's end
      have hμ := HM.out
      refine ⟨_, by rw [hI13]; exact ⟨H ++ [xe], fv, N, D, E, T1, T4, T17, T5, R_q, IT, OW, rfl⟩, ?_⟩
      simp only [List.length_append, List.length_singleton]; omega
  · clear T19
    have hperm := hdone C22
    clear hdone hmore nrest
    refine wp_exit ?_
    refine hK9 _ _ ?_
    refine wp_seq_k (fun K38 hK38 => ?_)
    -- region 9: mail.go:274
    show (Code.region 9 (rg Tryd.f28 9) false).wp _ _ _ _
    refine plain_list (n := 1) (N := 45) (deps := [[]]) (F := [(fun v _ => v = fv)]) (by kernel_rfl) (by kernel_rfl) rfl (by kernel_rfl) ⟨(stab_eq _), trivial⟩ N (by kernel_rfl) ⟨?_, trivial⟩ ?_
    · -- 0 mail.go:274
      rintro aa ww hE hF ⟨-⟩
      have o5 : aa.eval (.tmp 5) = fv := hF.carry (fun v _ => v = fv) rfl (stab_eq _) hE T5
      exact opAt rfl (ok_run rfl (run_here rfl (ex_move (.inl rfl) o5) ( rfl)))
    intro a39 w40 hE hF hfac hap
    obtain ⟨f0, -⟩ := hfac
    replace N := hF.size.trans N
    replace D := hF.defers.trans D
    replace R_q := hE.row R_q
    replace OW : OwnW w.heap.size (H.filter (dueB now)) w40 fv := OW.ext hE
    clear T1
    replace T4 : (fun v _ => v = .slice none 0 0) (a39.at 4) w40 := hF.carry (fun v _ => v = .slice none 0 0) rfl (stab_eq _) hE T4
    clear T17
    replace T5 : (fun v _ => v = fv) (a39.at 5) w40 := hF.carry (fun v _ => v = fv) rfl (stab_eq _) hE T5
    have T30 : (fun v _ => v = fv) (a39.at 30) w40 := f0
    replace E := E.trans hE
    clear hE hF hap
    show wpOps _ (rg Tryd.f28 9) _ [1] _ _
    refine tail_call rfl rfl rfl Tryd.call50 ?_
    simp only [List.map_toArray, List.map_cons, List.map_nil, show a39.eval (.tmp 30) = fv from (show a39.eval (.tmp 30) = fv from T30)]
    refine (sort_e (by intro z hz; obtain ⟨y, hyl, e⟩ := List.mem_map.1 (hperm.mem_iff.1 ((List.mem_filter.1 hz).1)); rw [← e]; exact own_one (hq.own y hyl)) OW (by have h1 := List.length_filter_le (dueB now) H; have h2 := hperm.length_eq; rw [List.length_map] at h2; omega)).mono ?_
    rintro e w41 ⟨he, ds, hds, hpw, hown, hrow, hext⟩
    refine ⟨_, he, ?_⟩
    show wpOps _ _ _ _ (a39.put (some 31) (.tuple #[])) w41
    replace R_q := hrow _ _ _ R_q rfl
    replace E := hext _ E (Nat.le_refl _)
    clear he hrow hext OW
    obtain ⟨xf, cf, rfl⟩ := OwnR.len hown
    have OW : OwnW w.heap.size ds w41 (.slice xf ds.length cf) := hown
    clear hown
    clear T30
    replace T4 : (fun v _ => v = .slice none 0 0) (a39.at 4) w41 := T4
    replace T5 : (fun v _ => v = .slice xf ds.length cf) (a39.at 5) w41 := T5
    obtain ⟨a42, ha⟩ : ∃ x : Act, x = a39.put (some 31) (.tuple #[]) := ⟨_, rfl⟩
    rw [← ha]
    replace T4 : (fun v _ => v = .slice none 0 0) (a42.at 4) w41 := by rw [ha, put_other rfl]; exact T4
    replace T5 : (fun v _ => v = .slice xf ds.length cf) (a42.at 5) w41 := by rw [ha, put_other rfl]; exact T5
    have T31 : (fun v _ => v = .tuple #[]) (a42.at 31) w41 := by rw [ha, put_same N (by decide)]; skip
    replace N := (ha ▸ put_size _ _ _ : a42.tmps.size = _).trans N
    replace D := (ha ▸ put_defers' _ _ _ : a42.defers = _).trans D
    clear ha
    clear T31
    refine hK38 _ _ ?_
    refine wp_seq_k (fun K43 hK43 => ?_)
    -- region 10: mail.go:277
    show (Code.region 10 (rg Tryd.f28 10) false).wp _ _ _ _
    refine wp_region ?_
    show wpOps _ (rg Tryd.f28 10) _ [0] _ _
    refine tail_val rfl rfl rfl (ex_move (.inr rfl) (v := .slice none 0 0) (ev_const (v := .slice none 0 0))) ?_
    obtain ⟨a44, ha⟩ : ∃ x : Act, x = a42.put (some 8) (.slice none 0 0) := ⟨_, rfl⟩
    rw [← ha]
    replace T4 : (fun v _ => v = .slice none 0 0) (a44.at 4) w41 := by rw [ha, put_other rfl]; exact T4
    replace T5 : (fun v _ => v = .slice xf ds.length cf) (a44.at 5) w41 := by rw [ha, put_other rfl]; exact T5
    have T8 : (fun v _ => v = .slice none 0 0) (a44.at 8) w41 := by rw [ha, put_same N (by decide)]; skip
    replace N := (ha ▸ put_size _ _ _ : a44.tmps.size = _).trans N
    replace D := (ha ▸ put_defers' _ _ _ : a44.defers = _).trans D
    clear ha
    have OI : OwnI w.heap.size [] w41 (.slice none 0 0) := OwnR.nil
    refine hK43 _ _ ?_
    refine wp_seq_k (fun K45 hK45 => ?_)
    refine wp_seq_k (fun K46 hK46 => ?_)
    -- region 11: mail.go:278
    show (Code.region 11 (rg Tryd.f28 11) false).wp _ _ _ _
    refine plain_list (n := 3) (N := 45) (deps := [[], [0], []]) (F := [(fun v _ => v = .slice xf ds.length cf), (fun v _ => v = .int .i64 (ds.length : Int)), (fun v _ => v = .int .i64 0)]) (by kernel_rfl) (by kernel_rfl) rfl (by kernel_rfl) ⟨(stab_eq _), (stab_eq _), (stab_eq _), trivial⟩ N (by kernel_rfl) ⟨?_, ?_, ?_, trivial⟩ ?_
    · -- 0 mail.go:278
      rintro aa ww hE hF ⟨-⟩
      have o5 : aa.eval (.tmp 5) = .slice xf ds.length cf := hF.carry (fun v _ => v = .slice xf ds.length cf) rfl (stab_eq _) hE T5
      exact opAt rfl (ok_run rfl (run_here rfl (ex_move (.inl rfl) o5) ( rfl)))
    · -- 1 mail.go:278
      rintro aa ww hE hF ⟨d0, -⟩
      replace d0 : aa.eval (.tmp 32) = .slice xf ds.length cf := d0
      exact opAt rfl (ok_run rfl (run_here rfl (ex_builtin rfl (fun cs => by simp only [List.map_toArray, List.map_cons, List.map_nil, show aa.eval (.tmp 32) = .slice xf ds.length cf from d0]; exact len_slice Tryd.underlying90)) ( rfl)))
    · -- 2 mail.go:278
      rintro aa ww hE hF ⟨-⟩
      exact opAt rfl (ok_run rfl (run_here rfl (ex_move (.inl rfl) (ev_const (v := .int .i64 0))) ( rfl)))
    intro a47 w48 hE hF hfac hap
    obtain ⟨f0, f1, f2, -⟩ := hfac
    replace N := hF.size.trans N
    replace D := hF.defers.trans D
    replace R_q := hE.row R_q
    replace OW : OwnW w.heap.size ds w48 (.slice xf ds.length cf) := OW.ext hE
    replace OI : OwnI w.heap.size [] w48 (.slice none 0 0) := OI.ext hE
    replace T4 : (fun v _ => v = .slice none 0 0) (a47.at 4) w48 := hF.carry (fun v _ => v = .slice none 0 0) rfl (stab_eq _) hE T4
    clear T5
    replace T8 : (fun v _ => v = .slice none 0 0) (a47.at 8) w48 := hF.carry (fun v _ => v = .slice none 0 0) rfl (stab_eq _) hE T8
    have T32 : (fun v _ => v = .slice xf ds.length cf) (a47.at 32) w48 := f0
    have T33 : (fun v _ => v = .int .i64 (ds.length : Int)) (a47.at 33) w48 := f1
    have T34 : (fun v _ => v = .int .i64 0) (a47.at 34) w48 := f2
    replace E := E.trans hE
    clear hE hF hap
    show wpOps _ (rg Tryd.f28 11) _ [] _ _
    refine hK46 _ _ ?_
    refine wp_block ?_
    -- the loop (it writes)
    obtain ⟨I49, hI49⟩ : ∃ I : Nat → Act → World → Prop, I = fun μ aa ww => ∃ (ov : Value) (k : Nat), (aa.tmps.size = 45) ∧ (aa.defers = []) ∧ (Ext w ww) ∧ ((fun v _ => v = .slice none 0 0) (aa.at 4) ww) ∧ ((fun v _ => v = .slice xf ds.length cf) (aa.at 32) ww) ∧ ((fun v _ => v = .int .i64 (ds.length : Int)) (aa.at 33) ww) ∧ ((fun v _ => v = ov) (aa.at 8) ww) ∧ ((fun v _ => v = .int .i64 (k : Int)) (aa.at 34) ww) ∧ (ww.heap[q]? = some (.cells #[.string site, .int .i64 last, .map (some mb)] 84 (0, 0))) ∧ (OwnW w.heap.size ds ww (.slice xf ds.length cf)) ∧ (OwnI w.heap.size ((ds.take k).map (·.num)) ww ov) ∧ (μ = ds.length - k) ∧ (k ≤ ds.length) := ⟨_, rfl⟩
    refine loop_rule I49 _ (by rw [hI49]; exact ⟨.slice none 0 0, 0, N, D, E, T4, T32, T33, T8, T34, R_q, OW, OI, rfl, Nat.zero_le _⟩) ?_
    clear N D E T4 T8 T32 T33 T34 R_q OW OI
    intro μ a50 w51 hI
    rw [hI49] at hI
    obtain ⟨ov, k, N, D, E, T4, T32, T33, T8, T34, R_q, OW, OI, hμ, hk⟩ := hI
    have HM := Lib.hid hμ; clear hμ
    have hkl : ((ds.take k).map (·.num)).length ≤ k := by rw [List.length_map, List.length_take]; omega
    have hdl : ds.length ≤ l.length := by have h1 := hds.length_eq; have h2 := List.length_filter_le (dueB now) H; have h3 := hperm.length_eq; rw [List.length_map] at h3; omega
    refine wp_seq_k (fun K52 hK52 => ?_)
    -- region 12: mail.go:278
    show (Code.region 12 (rg Tryd.f28 12) false).wp _ _ _ _
    refine plain_list (n := 1) (N := 45) (deps := [[]]) (F := [(fun v _ => v = .bool (decide ((k : Int) < (ds.length : Int))))]) (by kernel_rfl) (by kernel_rfl) rfl (by kernel_rfl) ⟨(stab_eq _), trivial⟩ N (by kernel_rfl) ⟨?_, trivial⟩ ?_
    · -- 0 mail.go:278
      rintro aa ww hE hF ⟨-⟩
      have o33 : aa.eval (.tmp 33) = .int .i64 (ds.length : Int) := hF.carry (fun v _ => v = .int .i64 (ds.length : Int)) rfl (stab_eq _) hE T33
      have o34 : aa.eval (.tmp 34) = .int .i64 (k : Int) := hF.carry (fun v _ => v = .int .i64 (k : Int)) rfl (stab_eq _) hE T34
      exact opAt rfl (ok_run rfl (run_here rfl (ex_binOp rfl (by rw [show aa.eval (.tmp 34) = .int .i64 (k : Int) from o34, show aa.eval (.tmp 33) = .int .i64 (ds.length : Int) from o33]; exact eqg_int) (by rw [show aa.eval (.tmp 34) = .int .i64 (k : Int) from o34, show aa.eval (.tmp 33) = .int .i64 (ds.length : Int) from o33]; exact bin_lss)) ( rfl)))
    intro a53 w54 hE hF hfac hap
    obtain ⟨f0, -⟩ := hfac
    replace N := hF.size.trans N
    replace D := hF.defers.trans D
    replace R_q := hE.row R_q
    replace OW : OwnW w.heap.size ds w54 (.slice xf ds.length cf) := OW.ext hE
    replace OI : OwnI w.heap.size ((ds.take k).map (·.num)) w54 ov := OI.ext hE
    replace T4 : (fun v _ => v = .slice none 0 0) (a53.at 4) w54 := hF.carry (fun v _ => v = .slice none 0 0) rfl (stab_eq _) hE T4
    replace T32 : (fun v _ => v = .slice xf ds.length cf) (a53.at 32) w54 := hF.carry (fun v _ => v = .slice xf ds.length cf) rfl (stab_eq _) hE T32
    replace T33 : (fun v _ => v = .int .i64 (ds.length : Int)) (a53.at 33) w54 := hF.carry (fun v _ => v = .int .i64 (ds.length : Int)) rfl (stab_eq _) hE T33
    replace T8 : (fun v _ => v = ov) (a53.at 8) w54 := hF.carry (fun v _ => v = ov) rfl (stab_eq _) hE T8
    replace T34 : (fun v _ => v = .int .i64 (k : Int)) (a53.at 34) w54 := hF.carry (fun v _ => v = .int .i64 (k : Int)) rfl (stab_eq _) hE T34
    have T35 : (fun v _ => v = .bool (decide ((k : Int) < (ds.length : Int)))) (a53.at 35) w54 := f0
    replace E := E.trans hE
    clear hE hF hap
    show wpOps _ (rg Tryd.f28 12) _ [] _ _
    refine hK52 _ _ ?_
    refine wp_seq_k (fun K55 hK55 => ?_)
    refine wp_cond_split (t := decide ((k : Int) < (ds.length : Int))) T35 (fun C56 => ?_) (fun C56 => ?_)
    · clear T35
      have hlt : k < ds.length := by have := of_decide_eq_true C56; omega
      obtain ⟨gf, eF⟩ := OwnR.at0 OW (Nat.lt_of_le_of_lt (Nat.zero_le k) hlt)
      have wone : (ds[k]'hlt).hv.oneCell' = true := by obtain ⟨y, hyl, e⟩ := List.mem_map.1 (hperm.mem_iff.1 (List.mem_filter.1 (hds.mem_iff.1 (List.getElem_mem hlt))).1); rw [← e]; exact own_one (hq.own y hyl)
      refine wp_skip ?_
      refine hK55 _ _ ?_
      refine wp_seq_k (fun K57 hK57 => ?_)
      refine wp_block ?_
      refine wp_seq_k (fun K58 hK58 => ?_)
      -- region 13: mail.go:278
      show (Code.region 13 (rg Tryd.f28 13) false).wp _ _ _ _
      refine plain_list (n := 3) (N := 45) (deps := [[], [0], []]) (F := [(fun v _ => v = .pointer (some ⟨gf, 0 + k * 12, none⟩)), (fun v _ => v = .agg (wC (ds[k]'hlt))), (IsBox #[.string ⟨#[]⟩, .string ⟨#[]⟩, .string ⟨#[]⟩, .string ⟨#[]⟩, .int .i64 0, .int .i64 0, .string ⟨#[]⟩, .slice none 0 0, .string ⟨#[]⟩, .int .i64 0, .int .i64 0, .int .i64 0] 87 w54.heap.size)]) (by kernel_rfl) (by kernel_rfl) rfl (by kernel_rfl) ⟨(stab_eq _), (stab_eq _), (stab_box _ _ _), trivial⟩ N (by kernel_rfl) ⟨?_, ?_, ?_, trivial⟩ ?_
      · -- 0 mail.go:278
        rintro aa ww hE hF ⟨-⟩
        have o32 : aa.eval (.tmp 32) = .slice xf ds.length cf := hF.carry (fun v _ => v = .slice xf ds.length cf) rfl (stab_eq _) hE T32
        have o34 : aa.eval (.tmp 34) = .int .i64 (k : Int) := hF.carry (fun v _ => v = .int .i64 (k : Int)) rfl (stab_eq _) hE T34
        exact opAt rfl (ok_run rfl (run_here rfl (ex_indexAddr rfl (by rw [show aa.eval (.tmp 32) = .slice xf ds.length cf from o32, show aa.eval (.tmp 34) = .int .i64 (k : Int) from o34, eF]; exact index_slice Tryd.underlying90 hlt (fun w => Tryd.sizeOf87 w))) ( rfl)))
      · -- 1 mail.go:278
        rintro aa ww hE hF ⟨d0, -⟩
        replace d0 : aa.eval (.tmp 36) = .pointer (some ⟨gf, 0 + k * 12, none⟩) := d0
        exact opAt rfl (ok_run rfl (run_here rfl (ex_load rfl d0 (OwnR.load encW_len (OW.ext hE) eF (List.getElem?_eq_getElem hlt) Tryd.underlying87 rfl (by kernel_rfl))) ( rfl)))
      · -- 2 mail.go:278
        rintro aa ww hE hF ⟨-⟩
        exact opAt rfl (ok_run rfl (run_new (ex_alloc rfl Tryd.zeroValue87) ( (box_new hE.size))))
      intro a59 w60 hE hF hfac hap
      obtain ⟨f0, f1, f2, -⟩ := hfac
      replace N := hF.size.trans N
      replace D := hF.defers.trans D
      obtain ⟨b61, T10, B_b61, R_b61⟩ := f2
      have NE_q_b61 : q ≠ b61 := by have := row_lt R_q; omega
      have NB_b61_OW : ∀ g, (Value.slice xf ds.length cf).ownBlock = some g → g ≠ b61 := fun g e => by have := (OwnR.lt OW g e).1; omega
      replace B_b61 := Nat.le_trans E.size B_b61
      replace R_q := hE.row R_q
      replace OW : OwnW w.heap.size ds w60 (.slice xf ds.length cf) := OW.ext hE
      replace OI : OwnI w.heap.size ((ds.take k).map (·.num)) w60 ov := OI.ext hE
      replace T4 : (fun v _ => v = .slice none 0 0) (a59.at 4) w60 := hF.carry (fun v _ => v = .slice none 0 0) rfl (stab_eq _) hE T4
      replace T32 : (fun v _ => v = .slice xf ds.length cf) (a59.at 32) w60 := hF.carry (fun v _ => v = .slice xf ds.length cf) rfl (stab_eq _) hE T32
      replace T33 : (fun v _ => v = .int .i64 (ds.length : Int)) (a59.at 33) w60 := hF.carry (fun v _ => v = .int .i64 (ds.length : Int)) rfl (stab_eq _) hE T33
      replace T8 : (fun v _ => v = ov) (a59.at 8) w60 := hF.carry (fun v _ => v = ov) rfl (stab_eq _) hE T8
      replace T34 : (fun v _ => v = .int .i64 (k : Int)) (a59.at 34) w60 := hF.carry (fun v _ => v = .int .i64 (k : Int)) rfl (stab_eq _) hE T34
      have T37 : (fun v _ => v = .agg (wC (ds[k]'hlt))) (a59.at 37) w60 := f1
      replace E := E.trans hE
      clear hE hF hap
      show wpOps _ (rg Tryd.f28 13) _ [3] _ _
      refine tail_do rfl rfl rfl (ex_store rfl (show a59.eval (.tmp 10) = .pointer (some ⟨b61, 0, none⟩) from T10) (by rw [show a59.eval (.tmp 37) = .agg (wC (ds[k]'hlt)) from (show a59.eval (.tmp 37) = .agg (wC (ds[k]'hlt)) from T37)]; exact store_row R_b61 (by kernel_rfl) rfl (wC_one wone))) ?_
      obtain ⟨w62, hw⟩ : ∃ x : World, x = w60.setRow b61 (wC (ds[k]'hlt)) := ⟨_, rfl⟩
      rw [← hw]
      replace R_q := hw ▸ row_other R_q (by first | exact NE_q_b61 | exact NE_b61_q.symm)
      replace E : Ext w w62 := hw ▸ below_row E B_b61
      replace T4 : (fun v _ => v = .slice none 0 0) (a59.at 4) w62 := T4
      replace T32 : (fun v _ => v = .slice xf ds.length cf) (a59.at 32) w62 := T32
      replace T33 : (fun v _ => v = .int .i64 (ds.length : Int)) (a59.at 33) w62 := T33
      replace T8 : (fun v _ => v = ov) (a59.at 8) w62 := T8
      replace T34 : (fun v _ => v = .int .i64 (k : Int)) (a59.at 34) w62 := T34
      replace T37 : (fun v _ => v = .agg (wC (ds[k]'hlt))) (a59.at 37) w62 := T37
      replace T10 : (fun v _ => v = .pointer (some ⟨b61, 0, none⟩)) (a59.at 10) w62 := T10
      replace OW : OwnW w.heap.size ds w62 (.slice xf ds.length cf) := hw ▸ OwnR.setRowNe OW NB_b61_OW
      replace OI : OwnI w.heap.size ((ds.take k).map (·.num)) w62 ov := hw ▸ OI.setRow R_b61 rfl
      replace R_b61 : w62.heap[b61]? = some (.cells (wC (ds[k]'hlt)) 87 (0, 0)) := by rw [hw]; exact setRow_heap _ _ _ _ _ _ R_b61
      clear hw
      clear T37
      refine hK58 _ _ ?_
      -- region 14: mail.go:279
      show (Code.region 14 (rg Tryd.f28 14) false).wp _ _ _ _
      refine plain_list (n := 4) (N := 45) (deps := [[], [], [1], [2]]) (F := [(fun v _ => v = ov), (fun v _ => v = .pointer (some ⟨b61, 9, none⟩)), (fun v _ => v = .int .i64 ((ds[k]'hlt).num)), (IsOneI ((ds[k]'hlt).num))]) (by kernel_rfl) (by kernel_rfl) rfl (by kernel_rfl) ⟨(stab_eq _), (stab_eq _), (stab_eq _), (stab_oneI _), trivial⟩ N (by kernel_rfl) ⟨?_, ?_, ?_, ?_, trivial⟩ ?_
      · -- 0 mail.go:279
        rintro aa ww hE hF ⟨-⟩
        have o8 : aa.eval (.tmp 8) = ov := hF.carry (fun v _ => v = ov) rfl (stab_eq _) hE T8
        exact opAt rfl (ok_run rfl (run_here rfl (ex_move (.inl rfl) o8) ( rfl)))
      · -- 1 mail.go:279
        rintro aa ww hE hF ⟨-⟩
        have o10 : aa.eval (.tmp 10) = .pointer (some ⟨b61, 0, none⟩) := hF.carry (fun v _ => v = .pointer (some ⟨b61, 0, none⟩)) rfl (stab_eq _) hE T10
        exact opAt rfl (ok_run rfl (run_here rfl (ex_fieldAddr rfl o10 Tryd.underlying87 rfl (fun w => ⟨_, Tryd.sizeOf3 w⟩) rfl) ( rfl)))
      · -- 2 mail.go:279
        rintro aa ww hE hF ⟨d1, -⟩
        replace d1 : aa.eval (.tmp 39) = .pointer (some ⟨b61, 9, none⟩) := d1
        exact opAt rfl (ok_run rfl (run_here rfl (ex_load rfl d1 (load_cell Tryd.isAgg3 ((cell_row (hE.row R_b61) 9).trans rfl))) ( rfl)))
      · -- 3 mail.go:279
        rintro aa ww hE hF ⟨d2, -⟩
        replace d2 : aa.eval (.tmp 40) = .int .i64 ((ds[k]'hlt).num) := d2
        exact opAt rfl (ok_run rfl (run_ok rfl (ex_buildSlice rfl (by simp only [List.map_toArray, List.map_cons, List.map_nil, d2]; exact bs_int1 _ _)) (Ext.alloc _ _) ( (new_oneI _ _))))
      intro a63 w64 hE hF hfac hap
      obtain ⟨f0, f1, f2, f3, -⟩ := hfac
      replace N := hF.size.trans N
      replace D := hF.defers.trans D
      replace R_q := hE.row R_q
      replace R_b61 := hE.row R_b61
      replace OW : OwnW w.heap.size ds w64 (.slice xf ds.length cf) := OW.ext hE
      replace OI : OwnI w.heap.size ((ds.take k).map (·.num)) w64 ov := OI.ext hE
      replace T4 : (fun v _ => v = .slice none 0 0) (a63.at 4) w64 := hF.carry (fun v _ => v = .slice none 0 0) rfl (stab_eq _) hE T4
      replace T32 : (fun v _ => v = .slice xf ds.length cf) (a63.at 32) w64 := hF.carry (fun v _ => v = .slice xf ds.length cf) rfl (stab_eq _) hE T32
      replace T33 : (fun v _ => v = .int .i64 (ds.length : Int)) (a63.at 33) w64 := hF.carry (fun v _ => v = .int .i64 (ds.length : Int)) rfl (stab_eq _) hE T33
      replace T8 : (fun v _ => v = ov) (a63.at 8) w64 := hF.carry (fun v _ => v = ov) rfl (stab_eq _) hE T8
      replace T34 : (fun v _ => v = .int .i64 (k : Int)) (a63.at 34) w64 := hF.carry (fun v _ => v = .int .i64 (k : Int)) rfl (stab_eq _) hE T34
      replace T10 : (fun v _ => v = .pointer (some ⟨b61, 0, none⟩)) (a63.at 10) w64 := hF.carry (fun v _ => v = .pointer (some ⟨b61, 0, none⟩)) rfl (stab_eq _) hE T10
      have T38 : (fun v _ => v = ov) (a63.at 38) w64 := f0
      have T41 : (IsOneI ((ds[k]'hlt).num)) (a63.at 41) w64 := f3
      replace E := E.trans hE
      clear hE hF hap
      show wpOps _ (rg Tryd.f28 14) _ [4, 5] _ _
      obtain ⟨nb, enb, rnb⟩ := (show (IsOneI ((ds[k]'hlt).num)) (a63.eval (.tmp 41)) w64 from T41)
      obtain ⟨v65, w66, hrun, hown, hgr⟩ := app_int 66 OI rnb (by omega) E.size
      refine tail_val rfl rfl rfl (v := v65) (ex_builtin rfl (fun cs => by simp only [List.map_toArray, List.map_cons, List.map_nil, enb, show a63.eval (.tmp 38) = ov from (show a63.eval (.tmp 38) = ov from T38)]; exact builtin_app hrun)) ?_
      replace R_q := OwnR.grown_row OI hgr R_q rfl
      replace R_b61 := OwnR.grown_row OI hgr R_b61 rfl
      replace OW : OwnW w.heap.size ds w66 (.slice xf ds.length cf) := OwnR.grown_own OI hgr OW rfl
      replace E : Ext w w66 := OwnR.grown_ext OI hgr E (Nat.le_refl _)
      clear T38
      clear T41
      replace T4 : (fun v _ => v = .slice none 0 0) (a63.at 4) w66 := T4
      replace T32 : (fun v _ => v = .slice xf ds.length cf) (a63.at 32) w66 := T32
      replace T33 : (fun v _ => v = .int .i64 (ds.length : Int)) (a63.at 33) w66 := T33
      replace T8 : (fun v _ => v = ov) (a63.at 8) w66 := T8
      replace T34 : (fun v _ => v = .int .i64 (k : Int)) (a63.at 34) w66 := T34
      replace T10 : (fun v _ => v = .pointer (some ⟨b61, 0, none⟩)) (a63.at 10) w66 := T10
      replace OI : OwnI w.heap.size (((ds.take k).map (·.num)) ++ [(ds[k]'hlt).num]) w66 v65 := hown
      clear hrun hown hgr enb rnb
      obtain ⟨a67, ha⟩ : ∃ x : Act, x = a63.put (some 42) (v65) := ⟨_, rfl⟩
      rw [← ha]
      replace T4 : (fun v _ => v = .slice none 0 0) (a67.at 4) w66 := by rw [ha, put_other rfl]; exact T4
      replace T32 : (fun v _ => v = .slice xf ds.length cf) (a67.at 32) w66 := by rw [ha, put_other rfl]; exact T32
      replace T33 : (fun v _ => v = .int .i64 (ds.length : Int)) (a67.at 33) w66 := by rw [ha, put_other rfl]; exact T33
      replace T8 : (fun v _ => v = ov) (a67.at 8) w66 := by rw [ha, put_other rfl]; exact T8
      replace T34 : (fun v _ => v = .int .i64 (k : Int)) (a67.at 34) w66 := by rw [ha, put_other rfl]; exact T34
      replace T10 : (fun v _ => v = .pointer (some ⟨b61, 0, none⟩)) (a67.at 10) w66 := by rw [ha, put_other rfl]; exact T10
      have T42 : (fun v _ => v = v65) (a67.at 42) w66 := by rw [ha, put_same N (by decide)]; skip
      replace N := (ha ▸ put_size _ _ _ : a67.tmps.size = _).trans N
      replace D := (ha ▸ put_defers' _ _ _ : a67.defers = _).trans D
      clear ha
      refine tail_val rfl rfl rfl (ex_move (.inr rfl) (v := v65) (show a67.eval (.tmp 42) = v65 from T42)) ?_
      obtain ⟨a68, ha⟩ : ∃ x : Act, x = a67.put (some 8) (v65) := ⟨_, rfl⟩
      rw [← ha]
      replace T4 : (fun v _ => v = .slice none 0 0) (a68.at 4) w66 := by rw [ha, put_other rfl]; exact T4
      replace T32 : (fun v _ => v = .slice xf ds.length cf) (a68.at 32) w66 := by rw [ha, put_other rfl]; exact T32
      replace T33 : (fun v _ => v = .int .i64 (ds.length : Int)) (a68.at 33) w66 := by rw [ha, put_other rfl]; exact T33
      replace T34 : (fun v _ => v = .int .i64 (k : Int)) (a68.at 34) w66 := by rw [ha, put_other rfl]; exact T34
      replace T10 : (fun v _ => v = .pointer (some ⟨b61, 0, none⟩)) (a68.at 10) w66 := by rw [ha, put_other rfl]; exact T10
      replace T42 : (fun v _ => v = v65) (a68.at 42) w66 := by rw [ha, put_other rfl]; exact T42
      replace T8 : (fun v _ => v = v65) (a68.at 8) w66 := by rw [ha, put_same N (by decide)]; skip
      replace N := (ha ▸ put_size _ _ _ : a68.tmps.size = _).trans N
      replace D := (ha ▸ put_defers' _ _ _ : a68.defers = _).trans D
      clear ha
      clear T42
      refine hK57 _ _ ?_
      -- region 15: mail.go:278
      show (Code.region 15 (rg Tryd.f28 15) false).wp _ _ _ _
      refine plain_list (n := 1) (N := 45) (deps := [[]]) (F := [(fun v _ => v = .int .i64 ((k : Int) + 1))]) (by kernel_rfl) (by kernel_rfl) rfl (by kernel_rfl) ⟨(stab_eq _), trivial⟩ N (by kernel_rfl) ⟨?_, trivial⟩ ?_
      · -- 0 mail.go:278
        rintro aa ww hE hF ⟨-⟩
        have o34 : aa.eval (.tmp 34) = .int .i64 (k : Int) := hF.carry (fun v _ => v = .int .i64 (k : Int)) rfl (stab_eq _) hE T34
        exact opAt rfl (ok_run rfl (run_here rfl (ex_binOp rfl (by rw [show aa.eval (.tmp 34) = .int .i64 (k : Int) from o34, show aa.eval (.const (.int .i64 1)) = .int .i64 1 from (ev_const (v := .int .i64 1))]; exact eqg_int) (by rw [show aa.eval (.tmp 34) = .int .i64 (k : Int) from o34, show aa.eval (.const (.int .i64 1)) = .int .i64 1 from (ev_const (v := .int .i64 1))]; exact bin_addN (by omega) (by omega))) ( rfl)))
      intro a69 w70 hE hF hfac hap
      obtain ⟨f0, -⟩ := hfac
      replace N := hF.size.trans N
      replace D := hF.defers.trans D
      replace R_q := hE.row R_q
      replace R_b61 := hE.row R_b61
      replace OW : OwnW w.heap.size ds w70 (.slice xf ds.length cf) := OW.ext hE
      replace OI : OwnI w.heap.size (((ds.take k).map (·.num)) ++ [(ds[k]'hlt).num]) w70 v65 := OI.ext hE
      replace T4 : (fun v _ => v = .slice none 0 0) (a69.at 4) w70 := hF.carry (fun v _ => v = .slice none 0 0) rfl (stab_eq _) hE T4
      replace T32 : (fun v _ => v = .slice xf ds.length cf) (a69.at 32) w70 := hF.carry (fun v _ => v = .slice xf ds.length cf) rfl (stab_eq _) hE T32
      replace T33 : (fun v _ => v = .int .i64 (ds.length : Int)) (a69.at 33) w70 := hF.carry (fun v _ => v = .int .i64 (ds.length : Int)) rfl (stab_eq _) hE T33
      replace T8 : (fun v _ => v = v65) (a69.at 8) w70 := hF.carry (fun v _ => v = v65) rfl (stab_eq _) hE T8
      replace T34 : (fun v _ => v = .int .i64 (k : Int)) (a69.at 34) w70 := hF.carry (fun v _ => v = .int .i64 (k : Int)) rfl (stab_eq _) hE T34
      replace T10 : (fun v _ => v = .pointer (some ⟨b61, 0, none⟩)) (a69.at 10) w70 := hF.carry (fun v _ => v = .pointer (some ⟨b61, 0, none⟩)) rfl (stab_eq _) hE T10
      have T43 : (fun v _ => v = .int .i64 ((k : Int) + 1)) (a69.at 43) w70 := f0
      replace E := E.trans hE
      clear hE hF hap
      show wpOps _ (rg Tryd.f28 15) _ [1] _ _
      refine tail_val rfl rfl rfl (ex_move (.inl rfl) (v := .int .i64 ((k : Int) + 1)) (show a69.eval (.tmp 43) = .int .i64 ((k : Int) + 1) from T43)) ?_
      obtain ⟨a71, ha⟩ : ∃ x : Act, x = a69.put (some 34) (.int .i64 ((k : Int) + 1)) := ⟨_, rfl⟩
      rw [← ha]
      replace T4 : (fun v _ => v = .slice none 0 0) (a71.at 4) w70 := by rw [ha, put_other rfl]; exact T4
      replace T32 : (fun v _ => v = .slice xf ds.length cf) (a71.at 32) w70 := by rw [ha, put_other rfl]; exact T32
      replace T33 : (fun v _ => v = .int .i64 (ds.length : Int)) (a71.at 33) w70 := by rw [ha, put_other rfl]; exact T33
      replace T8 : (fun v _ => v = v65) (a71.at 8) w70 := by rw [ha, put_other rfl]; exact T8
      replace T10 : (fun v _ => v = .pointer (some ⟨b61, 0, none⟩)) (a71.at 10) w70 := by rw [ha, put_other rfl]; exact T10
      replace T43 : (fun v _ => v = .int .i64 ((k : Int) + 1)) (a71.at 43) w70 := by rw [ha, put_other rfl]; exact T43
      replace T34 : (fun v _ => v = .int .i64 ((k : Int) + 1)) (a71.at 34) w70 := by rw [ha, put_same N (by decide)]; skip
      replace N := (ha ▸ put_size _ _ _ : a71.tmps.size = _).trans N
      replace D := (ha ▸ put_defers' _ _ _ : a71.defers = _).trans D
      clear ha
      clear T43
      replace OI := take_snocQ hlt ▸ OI
      -- the round's end
      have hμ := HM.out
      refine ⟨_, by rw [hI49]; exact ⟨v65, k + 1, N, D, E, T4, T32, T33, T8, T34, R_q, OW, OI, rfl, hlt⟩, ?_⟩
      omega
    · clear T35
      have hge : ds.length ≤ k := by have := of_decide_eq_false C56; omega
      refine wp_exit ?_
      refine hK45 _ _ ?_
      refine wp_seq_k (fun K72 hK72 => ?_)
      -- region 16: mail.go:281
      show (Code.region 16 (rg Tryd.f28 16) false).wp _ _ _ _
      refine plain_list (n := 1) (N := 45) (deps := [[]]) (F := [(fun v _ => v = ov)]) (by kernel_rfl) (by kernel_rfl) rfl (by kernel_rfl) ⟨(stab_eq _), trivial⟩ N (by kernel_rfl) ⟨?_, trivial⟩ ?_
      · -- 0 mail.go:281
        rintro aa ww hE hF ⟨-⟩
        have o8 : aa.eval (.tmp 8) = ov := hF.carry (fun v _ => v = ov) rfl (stab_eq _) hE T8
        exact opAt rfl (ok_run rfl (run_here rfl (ex_move (.inl rfl) o8) ( rfl)))
      intro a73 w74 hE hF hfac hap
      obtain ⟨f0, -⟩ := hfac
      replace N := hF.size.trans N
      replace D := hF.defers.trans D
      replace R_q := hE.row R_q
      replace OW : OwnW w.heap.size ds w74 (.slice xf ds.length cf) := OW.ext hE
      replace OI : OwnI w.heap.size ((ds.take k).map (·.num)) w74 ov := OI.ext hE
      replace T4 : (fun v _ => v = .slice none 0 0) (a73.at 4) w74 := hF.carry (fun v _ => v = .slice none 0 0) rfl (stab_eq _) hE T4
      clear T32
      clear T33
      replace T8 : (fun v _ => v = ov) (a73.at 8) w74 := hF.carry (fun v _ => v = ov) rfl (stab_eq _) hE T8
      clear T34
      have T44 : (fun v _ => v = ov) (a73.at 44) w74 := f0
      replace E := E.trans hE
      clear hE hF hap
      show wpOps _ (rg Tryd.f28 16) _ [1] _ _
      refine tail_val rfl rfl rfl (ex_move (.inr rfl) (v := ov) (show a73.eval (.tmp 44) = ov from T44)) ?_
      obtain ⟨a75, ha⟩ : ∃ x : Act, x = a73.put (some 4) (ov) := ⟨_, rfl⟩
      rw [← ha]
      replace T8 : (fun v _ => v = ov) (a75.at 8) w74 := by rw [ha, put_other rfl]; exact T8
      replace T44 : (fun v _ => v = ov) (a75.at 44) w74 := by rw [ha, put_other rfl]; exact T44
      replace T4 : (fun v _ => v = ov) (a75.at 4) w74 := by rw [ha, put_same N (by decide)]; skip
      replace N := (ha ▸ put_size _ _ _ : a75.tmps.size = _).trans N
      replace D := (ha ▸ put_defers' _ _ _ : a75.defers = _).trans D
      clear ha
      clear T8
      clear T44
      refine hK72 _ _ ?_
      refine wp_ret ?_
      -- the end
      refine ret_1 Tryd.results28 D T4 ?_
      exact ⟨_, rfl, E, _, ⟨ds, hds.trans (hperm.filter _), hpw, rfl⟩, by rw [List.take_of_length_le hge] at OI; exact OI⟩

end Go.Proofs.YtfcfddfjifofgaaDoor
