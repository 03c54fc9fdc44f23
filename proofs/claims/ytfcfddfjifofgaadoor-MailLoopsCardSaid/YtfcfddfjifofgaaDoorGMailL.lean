/- What the law MailLoops returns: true. -/
import Derived.Test.YtfcfddfjifofgaaDoorEngF
import Derived.Test.YtfcfddfjifofgaaDoorGPass
import Derived.Test.YtfcfddfjifofgaaDoorKnown
import Derived.Test.YtfcfddfjifofgaaDoorRefC
import Derived.Test.YtfcfddfjifofgaaDoorSame
import Derived.Test.YtfcfddfjifofgaaDoorOf
import Derived.Test.YtfcfddfjifofgaaDoorMailB
namespace Go.Proofs.YtfcfddfjifofgaaDoor
open Go.RowKit Go.Shelf
theorem toM_len (m : Msg) : (toM m).hops.length ≤ 1099511627776 := by
  show (m.hops.take 20).length ≤ _
  rw [List.length_take]; omega
set_option maxRecDepth 100000 in
set_option maxHeartbeats 600000 in
theorem mailLoops_e (m : Msg) (mv : Value) (l : List ByteArray) (lv : Value) (w : World) (fm : m.Fits) (sm : StrsAt w mv m.hops) (ls : StrsAt w lv l) (hl : l.length ≤ maxLen) (hls : ∀ x ∈ l, x.size ≤ maxLen) (POW : PowT w) : Calls Tryd.prog 6 #[.agg (msgC m mv), lv] w (Ret (fun v _ => v = .bool true) w) := by
  obtain ⟨xl, cl, rfl⟩ := strs_form ls
  have hl' := hl
  unfold maxLen at hl'
  refine enter_fn Tryd.func6 rfl Tryd.ntmps6 (Nat.le_of_ble_eq_true rfl) (fun a0 N D hA => ?_)
  have T0 : (fun v _ => v = .agg (msgC m mv)) (a0.at 0) w := by rw [hA 0 (by simp)]; exact rfl
  have T1 : (fun v _ => v = .slice xl l.length cl) (a0.at 1) w := by rw [hA 1 (by simp)]; exact rfl
  clear hA
  have E : Ext w w := Ext.refl w
  refine wp_seq_k (fun K1 hK1 => ?_)
  -- region 0: law.go:105
  show (Code.region 0 (rg Tryd.f6 0) false).wp _ _ _ _
  refine plain_list (n := 1) (N := 76) (deps := [[]]) (F := [(IsBox (msgC m mv) 26 w.heap.size)]) (by kernel_rfl) (by kernel_rfl) rfl (by kernel_rfl) ⟨(stab_box _ _ _), trivial⟩ N (by kernel_rfl) ⟨?_, trivial⟩ ?_
  · -- 0 law.go:105
    rintro aa ww hE hF ⟨-⟩
    have o0 : aa.eval (.tmp 0) = .agg (msgC m mv) := hF.carry (fun v _ => v = .agg (msgC m mv)) rfl (stab_eq _) hE T0
    exact opAt rfl (ok_run rfl (run_new (ex_box rfl o0) ( (box_new hE.size))))
  intro a2 w3 hE hF hfac hap
  obtain ⟨f0, -⟩ := hfac
  replace N := hF.size.trans N
  replace D := hF.defers.trans D
  obtain ⟨b4, T2, B_b4, R_b4⟩ := f0
  replace B_b4 := Nat.le_trans E.size B_b4
  clear T0
  replace T1 : (fun v _ => v = .slice xl l.length cl) (a2.at 1) w3 := hF.carry (fun v _ => v = .slice xl l.length cl) rfl (stab_eq _) hE T1
  replace E := E.trans hE
  clear hE hF hap
  show wpOps _ (rg Tryd.f6 0) _ [1] _ _
  refine tail_val rfl rfl rfl (ex_move (.inr rfl) (v := .bool false) (ev_const (v := .bool false))) ?_
  obtain ⟨a5, ha⟩ : ∃ x : Act, x = a2.put (some 4) (.bool false) := ⟨_, rfl⟩
  rw [← ha]
  replace T1 : (fun v _ => v = .slice xl l.length cl) (a5.at 1) w3 := by rw [ha, put_other rfl]; exact T1
  replace T2 : (fun v _ => v = .pointer (some ⟨b4, 0, none⟩)) (a5.at 2) w3 := by rw [ha, put_other rfl]; exact T2
  have T4 : (fun v _ => v = .bool false) (a5.at 4) w3 := by rw [ha, put_same N (by decide)]; skip
  replace N := (ha ▸ put_size _ _ _ : a5.tmps.size = _).trans N
  replace D := (ha ▸ put_defers' _ _ _ : a5.defers = _).trans D
  clear ha
  refine hK1 _ _ ?_
  refine wp_seq_k (fun K6 hK6 => ?_)
  -- region 1: law.go:106
  show (Code.region 1 (rg Tryd.f6 1) false).wp _ _ _ _
  refine plain_list (n := 3) (N := 76) (deps := [[], [0], []]) (F := [(IsMsg m), (IsOwn (toM m)), (IsBox #[.string ⟨#[]⟩, .string ⟨#[]⟩, .string ⟨#[]⟩, .string ⟨#[]⟩, .int .i64 0, .int .i64 0, .string ⟨#[]⟩, .slice none 0 0, .string ⟨#[]⟩] 29 w3.heap.size)]) (by kernel_rfl) (by kernel_rfl) rfl (by kernel_rfl) ⟨(stab_msg _), (stab_own _), (stab_box _ _ _), trivial⟩ N (by kernel_rfl) ⟨?_, ?_, ?_, trivial⟩ ?_
  · -- 0 law.go:106
    rintro aa ww hE hF ⟨-⟩
    have o2 : aa.eval (.tmp 2) = .pointer (some ⟨b4, 0, none⟩) := hF.carry (fun v _ => v = .pointer (some ⟨b4, 0, none⟩)) rfl (stab_eq _) hE T2
    exact opAt rfl (ok_run rfl (run_here rfl (ex_load rfl o2 (load_row (hE.row R_b4) Tryd.underlying26 rfl (by kernel_rfl))) ( ⟨_, rfl, (sm.below (E.trans hE))⟩)))
  · -- 1 law.go:106
    rintro aa ww hE hF ⟨d0, -⟩
    replace d0 : (IsMsg m) (aa.eval (.tmp 10)) ww := d0
    exact opAt rfl (ok_run rfl (run_callR (ψ := (IsOwn (toM m))) rfl Tryd.call9 (by
      obtain ⟨hv0, e0, s0⟩ := d0
      simp only [List.map_toArray, List.map_cons, List.map_nil, e0]
      exact to_e fm ⟨_, rfl, s0⟩) (fun _ _ h =>  h)))
  · -- 2 law.go:106
    rintro aa ww hE hF ⟨-⟩
    exact opAt rfl (ok_run rfl (run_new (ex_alloc rfl Tryd.zeroValue29) ( (box_new hE.size))))
  intro a7 w8 hE hF hfac hap
  obtain ⟨f0, f1, f2, -⟩ := hfac
  replace N := hF.size.trans N
  replace D := hF.defers.trans D
  obtain ⟨b9, T5, B_b9, R_b9⟩ := f2
  have NE_b4_b9 : b4 ≠ b9 := by have := row_lt R_b4; omega
  replace B_b9 := Nat.le_trans E.size B_b9
  replace R_b4 := hE.row R_b4
  replace T1 : (fun v _ => v = .slice xl l.length cl) (a7.at 1) w8 := hF.carry (fun v _ => v = .slice xl l.length cl) rfl (stab_eq _) hE T1
  replace T2 : (fun v _ => v = .pointer (some ⟨b4, 0, none⟩)) (a7.at 2) w8 := hF.carry (fun v _ => v = .pointer (some ⟨b4, 0, none⟩)) rfl (stab_eq _) hE T2
  replace T4 : (fun v _ => v = .bool false) (a7.at 4) w8 := hF.carry (fun v _ => v = .bool false) rfl (stab_eq _) hE T4
  have T11 : (IsOwn (toM m)) (a7.at 11) w8 := f1
  replace E := E.trans hE
  clear hE hF hap
  obtain ⟨hv10, T11, S11⟩ := T11
  obtain ⟨x12, c13, rfl⟩ := ownStrs_len S11
  replace T11 : (fun v _ => v = .agg (msgC (toM m) (.slice x12 (((toM m).hops).length) c13))) (a7.at 11) w8 := T11
  show wpOps _ (rg Tryd.f6 1) _ [3] _ _
  refine tail_do rfl rfl rfl (ex_store rfl (show a7.eval (.tmp 5) = .pointer (some ⟨b9, 0, none⟩) from T5) (by rw [show a7.eval (.tmp 11) = .agg (msgC (toM m) (.slice x12 (((toM m).hops).length) c13)) from (show a7.eval (.tmp 11) = .agg (msgC (toM m) (.slice x12 (((toM m).hops).length) c13)) from T11)]; exact store_row R_b9 (by kernel_rfl) rfl (ownB_cell S11))) ?_
  obtain ⟨w14, hw⟩ : ∃ x : World, x = w8.setRow b9 (msgC (toM m) (.slice x12 (((toM m).hops).length) c13)) := ⟨_, rfl⟩
  rw [← hw]
  replace R_b4 := hw ▸ row_other R_b4 (by first | exact NE_b4_b9 | exact NE_b9_b4.symm)
  replace E : Ext w w14 := hw ▸ below_row E B_b9
  replace T1 : (fun v _ => v = .slice xl l.length cl) (a7.at 1) w14 := T1
  replace T2 : (fun v _ => v = .pointer (some ⟨b4, 0, none⟩)) (a7.at 2) w14 := T2
  replace T4 : (fun v _ => v = .bool false) (a7.at 4) w14 := T4
  replace T11 : (fun v _ => v = .agg (msgC (toM m) (.slice x12 (((toM m).hops).length) c13))) (a7.at 11) w14 := T11
  replace T5 : (fun v _ => v = .pointer (some ⟨b9, 0, none⟩)) (a7.at 5) w14 := T5
  replace S11 : OwnStrs 0 ((toM m).hops) w14 (.slice x12 (((toM m).hops).length) c13) := hw ▸ S11.setRow R_b9 rfl
  replace R_b9 : w14.heap[b9]? = some (.cells (msgC (toM m) (.slice x12 (((toM m).hops).length) c13)) 29 (0, 0)) := by rw [hw]; exact setRow_heap _ _ _ _ _ _ R_b9
  clear hw
  clear T2
  clear T11
  refine hK6 _ _ ?_
  refine wp_seq_k (fun K15 hK15 => ?_)
  -- region 2: law.go:107
  show (Code.region 2 (rg Tryd.f6 2) false).wp _ _ _ _
  refine plain_list (n := 1) (N := 76) (deps := [[]]) (F := [(fun v _ => v = .pointer (some ⟨b9, 7, none⟩))]) (by kernel_rfl) (by kernel_rfl) rfl (by kernel_rfl) ⟨(stab_eq _), trivial⟩ N (by kernel_rfl) ⟨?_, trivial⟩ ?_
  · -- 0 law.go:107
    rintro aa ww hE hF ⟨-⟩
    have o5 : aa.eval (.tmp 5) = .pointer (some ⟨b9, 0, none⟩) := hF.carry (fun v _ => v = .pointer (some ⟨b9, 0, none⟩)) rfl (stab_eq _) hE T5
    exact opAt rfl (ok_run rfl (run_here rfl (ex_fieldAddr rfl o5 Tryd.underlying29 rfl (fun w => ⟨_, Tryd.sizeOf24 w⟩) rfl) ( rfl)))
  intro a16 w17 hE hF hfac hap
  obtain ⟨f0, -⟩ := hfac
  replace N := hF.size.trans N
  replace D := hF.defers.trans D
  replace R_b4 := hE.row R_b4
  replace R_b9 := hE.row R_b9
  replace S11 : OwnStrs 0 ((toM m).hops) w17 (.slice x12 (((toM m).hops).length) c13) := S11.ext hE
  replace T1 : (fun v _ => v = .slice xl l.length cl) (a16.at 1) w17 := hF.carry (fun v _ => v = .slice xl l.length cl) rfl (stab_eq _) hE T1
  replace T4 : (fun v _ => v = .bool false) (a16.at 4) w17 := hF.carry (fun v _ => v = .bool false) rfl (stab_eq _) hE T4
  replace T5 : (fun v _ => v = .pointer (some ⟨b9, 0, none⟩)) (a16.at 5) w17 := hF.carry (fun v _ => v = .pointer (some ⟨b9, 0, none⟩)) rfl (stab_eq _) hE T5
  have T12 : (fun v _ => v = .pointer (some ⟨b9, 7, none⟩)) (a16.at 12) w17 := f0
  replace E := E.trans hE
  clear hE hF hap
  show wpOps _ (rg Tryd.f6 2) _ [1] _ _
  refine tail_do rfl rfl rfl (ex_store rfl (show a16.eval (.tmp 12) = .pointer (some ⟨b9, 7, none⟩) from T12) (by rw [show a16.eval (.const (.slice none 0 0)) = .slice none 0 0 from (ev_const (v := .slice none 0 0))]; exact store_cell R_b9 (Nat.le_of_ble_eq_true rfl) Tryd.sizeOf24 rfl rfl)) ?_
  obtain ⟨w18, hw⟩ : ∃ x : World, x = w17.setRow b9 (Array.setIfInBounds (msgC (toM m) (.slice x12 (((toM m).hops).length) c13)) 7 (.slice none 0 0)) := ⟨_, rfl⟩
  rw [← hw]
  replace R_b4 := hw ▸ row_other R_b4 (by first | exact NE_b4_b9 | exact NE_b9_b4.symm)
  replace E : Ext w w18 := hw ▸ below_row E B_b9
  replace T1 : (fun v _ => v = .slice xl l.length cl) (a16.at 1) w18 := T1
  replace T4 : (fun v _ => v = .bool false) (a16.at 4) w18 := T4
  replace T5 : (fun v _ => v = .pointer (some ⟨b9, 0, none⟩)) (a16.at 5) w18 := T5
  replace T12 : (fun v _ => v = .pointer (some ⟨b9, 7, none⟩)) (a16.at 12) w18 := T12
  replace S11 : OwnStrs 0 ((toM m).hops) w18 (.slice x12 (((toM m).hops).length) c13) := hw ▸ S11.setRow R_b9 rfl
  replace R_b9 : w18.heap[b9]? = some (.cells (msgC ({ toM m with hops := [] }) (.slice none 0 0)) 29 (0, 0)) := by rw [hw]; exact setRow_heap _ _ _ _ _ _ R_b9
  clear hw
  clear T12
  clear S11
  have SX : OwnStrs 0 [] w18 (.slice none 0 0) := ownNil _ _
  refine hK15 _ _ ?_
  refine wp_seq_k (fun K19 hK19 => ?_)
  refine wp_seq_k (fun K20 hK20 => ?_)
  -- region 3: law.go:108
  show (Code.region 3 (rg Tryd.f6 3) false).wp _ _ _ _
  refine plain_list (n := 7) (N := 76) (deps := [[], [0], [1], [2], [2, 3], [2, 4], [2, 5]]) (F := [(fun v _ => v = .bool true), (fun v _ => v = .bool false), (fun v _ => v = .bool false), (IsMsg ({ toM m with hops := [] })), (fun v _ => v = .int .i64 (checkE ({ toM m with hops := [] }) : Int)), (fun v _ => v = .bool ((checkE ({ toM m with hops := [] }) : Int) != (0 : Int))), (fun v _ => v = .bool ((checkE ({ toM m with hops := [] }) : Int) != (0 : Int)))]) (by kernel_rfl) (by kernel_rfl) rfl (by kernel_rfl) ⟨(stab_eq _), (stab_eq _), (stab_eq _), (stab_msg _), (stab_eq _), (stab_eq _), (stab_eq _), trivial⟩ N (by kernel_rfl) ⟨?_, ?_, ?_, ?_, ?_, ?_, ?_, trivial⟩ ?_
  · -- 0 law.go:108
    rintro aa ww hE hF ⟨-⟩
    exact opAt rfl (ok_run rfl (run_callR (ψ := (fun v _ => v = .bool true)) rfl Tryd.call14 (by
      simp only [List.map_toArray, List.map_nil]
      exact ret_below (known_c _ (POW.below (E.trans hE)))) (fun _ _ h =>  h)))
  · -- 1 law.go:108
    rintro aa ww hE hF ⟨d0, -⟩
    replace d0 : aa.eval (.tmp 13) = .bool true := d0
    exact opAt rfl (ok_run rfl (run_here rfl (ex_unOp rfl (by rw [show aa.eval (.tmp 13) = .bool true from d0]; exact un_not)) ( rfl)))
  · -- 2 law.go:108
    rintro aa ww hE hF ⟨d1, -⟩
    replace d1 : aa.eval (.tmp 14) = .bool false := d1
    exact opAt rfl (ok_run rfl (run_here rfl (ex_move (.inl rfl) d1) ( rfl)))
  · -- 3 law.go:108
    rintro aa ww hE hF ⟨d2, -⟩
    replace d2 : aa.eval (.tmp 15) = .bool false := d2
    have o5 : aa.eval (.tmp 5) = .pointer (some ⟨b9, 0, none⟩) := hF.carry (fun v _ => v = .pointer (some ⟨b9, 0, none⟩)) rfl (stab_eq _) hE T5
    exact opAt rfl (ok_guard rfl d2 (fun _ => run_here rfl (ex_load rfl o5 (load_row (hE.row R_b9) Tryd.underlying29 rfl (by kernel_rfl))) ( ⟨_, rfl, (strs_nil _ _ _)⟩)) (fun hn => absurd rfl hn))
  · -- 4 law.go:108
    rintro aa ww hE hF ⟨d2, d3, -⟩
    replace d2 : aa.eval (.tmp 15) = .bool false := d2
    replace d3 : (IsMsg ({ toM m with hops := [] })) (aa.eval (.tmp 16)) ww := d3
    exact opAt rfl (ok_guard rfl d2 (fun _ => run_callR (ψ := (fun v _ => v = .int .i64 (checkE ({ toM m with hops := [] }) : Int))) rfl Tryd.call15 (by
      obtain ⟨hv0, e0, s0⟩ := d3
      simp only [List.map_toArray, List.map_cons, List.map_nil, e0]
      exact ret_below (check_c _ _ _ (fits_nil (toM_fits fm)) s0)) (fun _ _ h =>  h)) (fun hn => absurd rfl hn))
  · -- 5 law.go:108
    rintro aa ww hE hF ⟨d2, d4, -⟩
    replace d2 : aa.eval (.tmp 15) = .bool false := d2
    replace d4 : aa.eval (.tmp 17) = .int .i64 (checkE ({ toM m with hops := [] }) : Int) := d4
    exact opAt rfl (ok_guard rfl d2 (fun _ => run_here rfl (ex_binOp rfl (by rw [show aa.eval (.tmp 17) = .int .i64 (checkE ({ toM m with hops := [] }) : Int) from d4, show aa.eval (.const (.int .i64 0)) = .int .i64 0 from (ev_const (v := .int .i64 0))]; exact eqg_int) (by rw [show aa.eval (.tmp 17) = .int .i64 (checkE ({ toM m with hops := [] }) : Int) from d4, show aa.eval (.const (.int .i64 0)) = .int .i64 0 from (ev_const (v := .int .i64 0))]; exact bin_neq)) ( rfl)) (fun hn => absurd rfl hn))
  · -- 6 law.go:108
    rintro aa ww hE hF ⟨d2, d5, -⟩
    replace d2 : aa.eval (.tmp 15) = .bool false := d2
    replace d5 : aa.eval (.tmp 18) = .bool ((checkE ({ toM m with hops := [] }) : Int) != (0 : Int)) := d5
    exact opAt rfl (ok_run rfl (run_here rfl (ex_pick_or rfl d2 (fun hp => d5)) ( rfl)))
  intro a21 w22 hE hF hfac hap
  obtain ⟨f0, f1, f2, f3, f4, f5, f6, -⟩ := hfac
  replace N := hF.size.trans N
  replace D := hF.defers.trans D
  replace R_b4 := hE.row R_b4
  replace R_b9 := hE.row R_b9
  replace SX : OwnStrs 0 [] w22 (.slice none 0 0) := SX.ext hE
  replace T1 : (fun v _ => v = .slice xl l.length cl) (a21.at 1) w22 := hF.carry (fun v _ => v = .slice xl l.length cl) rfl (stab_eq _) hE T1
  replace T4 : (fun v _ => v = .bool false) (a21.at 4) w22 := hF.carry (fun v _ => v = .bool false) rfl (stab_eq _) hE T4
  replace T5 : (fun v _ => v = .pointer (some ⟨b9, 0, none⟩)) (a21.at 5) w22 := hF.carry (fun v _ => v = .pointer (some ⟨b9, 0, none⟩)) rfl (stab_eq _) hE T5
  have T19 : (fun v _ => v = .bool ((checkE ({ toM m with hops := [] }) : Int) != (0 : Int))) (a21.at 19) w22 := f6
  replace E := E.trans hE
  clear hE hF hap
  show wpOps _ (rg Tryd.f6 3) _ [] _ _
  refine hK20 _ _ ?_
  refine wp_cond_split (t := (checkE ({ toM m with hops := [] }) : Int) != (0 : Int)) T19 (fun C23 => ?_) (fun C23 => ?_)
  · clear T19
    refine wp_seq_k (fun K24 hK24 => ?_)
    -- region 4: law.go:109
    show (Code.region 4 (rg Tryd.f6 4) false).wp _ _ _ _
    refine plain_list (n := 1) (N := 76) (deps := [[]]) (F := [(fun v _ => v = .bool true)]) (by kernel_rfl) (by kernel_rfl) rfl (by kernel_rfl) ⟨(stab_eq _), trivial⟩ N (by kernel_rfl) ⟨?_, trivial⟩ ?_
    · -- 0 law.go:109
      rintro aa ww hE hF ⟨-⟩
      exact opAt rfl (ok_run rfl (run_callR (ψ := (fun v _ => v = .bool true)) rfl Tryd.call14 (by
      simp only [List.map_toArray, List.map_nil]
      exact ret_below (known_c _ (POW.below (E.trans hE)))) (fun _ _ h =>  h)))
    intro a25 w26 hE hF hfac hap
    obtain ⟨f0, -⟩ := hfac
    replace N := hF.size.trans N
    replace D := hF.defers.trans D
    replace R_b4 := hE.row R_b4
    replace R_b9 := hE.row R_b9
    replace SX : OwnStrs 0 [] w26 (.slice none 0 0) := SX.ext hE
    replace T1 : (fun v _ => v = .slice xl l.length cl) (a25.at 1) w26 := hF.carry (fun v _ => v = .slice xl l.length cl) rfl (stab_eq _) hE T1
    replace T4 : (fun v _ => v = .bool false) (a25.at 4) w26 := hF.carry (fun v _ => v = .bool false) rfl (stab_eq _) hE T4
    replace T5 : (fun v _ => v = .pointer (some ⟨b9, 0, none⟩)) (a25.at 5) w26 := hF.carry (fun v _ => v = .pointer (some ⟨b9, 0, none⟩)) rfl (stab_eq _) hE T5
    have T20 : (fun v _ => v = .bool true) (a25.at 20) w26 := f0
    replace E := E.trans hE
    clear hE hF hap
    show wpOps _ (rg Tryd.f6 4) _ [1] _ _
    refine tail_val rfl rfl rfl (ex_move (.inr rfl) (v := .bool true) (show a25.eval (.tmp 20) = .bool true from T20)) ?_
    obtain ⟨a27, ha⟩ : ∃ x : Act, x = a25.put (some 4) (.bool true) := ⟨_, rfl⟩
    rw [← ha]
    replace T1 : (fun v _ => v = .slice xl l.length cl) (a27.at 1) w26 := by rw [ha, put_other rfl]; exact T1
    replace T5 : (fun v _ => v = .pointer (some ⟨b9, 0, none⟩)) (a27.at 5) w26 := by rw [ha, put_other rfl]; exact T5
    replace T20 : (fun v _ => v = .bool true) (a27.at 20) w26 := by rw [ha, put_other rfl]; exact T20
    replace T4 : (fun v _ => v = .bool true) (a27.at 4) w26 := by rw [ha, put_same N (by decide)]; skip
    replace N := (ha ▸ put_size _ _ _ : a27.tmps.size = _).trans N
    replace D := (ha ▸ put_defers' _ _ _ : a27.defers = _).trans D
    clear ha
    clear T20
    refine hK24 _ _ ?_
    refine wp_ret ?_
    -- the end
    refine ret_1 Tryd.results6 D T4 ?_
    exact ⟨_, rfl, E, rfl⟩
  · clear T19
    have hX0 : checkE { toM m with hops := [] } = 0 := bne_f C23
    refine wp_skip ?_
    refine hK19 _ _ ?_
    refine wp_seq_k (fun K28 hK28 => ?_)
    -- region 5: law.go:111
    show (Code.region 5 (rg Tryd.f6 5) false).wp _ _ _ _
    refine plain_list (n := 1) (N := 76) (deps := [[]]) (F := [(IsMapS w.heap.size [])]) (by kernel_rfl) (by kernel_rfl) rfl (by kernel_rfl) ⟨(stab_mapS _ _), trivial⟩ N (by kernel_rfl) ⟨?_, trivial⟩ ?_
    · -- 0 law.go:111
      rintro aa ww hE hF ⟨-⟩
      exact opAt rfl (ok_run rfl (run_ok rfl (ex_makeMap rfl) (Ext.alloc _ _) ( (new_map (E.trans hE).size))))
    intro a29 w30 hE hF hfac hap
    obtain ⟨f0, -⟩ := hfac
    replace N := hF.size.trans N
    replace D := hF.defers.trans D
    replace R_b4 := hE.row R_b4
    replace R_b9 := hE.row R_b9
    replace SX : OwnStrs 0 [] w30 (.slice none 0 0) := SX.ext hE
    replace T1 : (fun v _ => v = .slice xl l.length cl) (a29.at 1) w30 := hF.carry (fun v _ => v = .slice xl l.length cl) rfl (stab_eq _) hE T1
    replace T4 : (fun v _ => v = .bool false) (a29.at 4) w30 := hF.carry (fun v _ => v = .bool false) rfl (stab_eq _) hE T4
    replace T5 : (fun v _ => v = .pointer (some ⟨b9, 0, none⟩)) (a29.at 5) w30 := hF.carry (fun v _ => v = .pointer (some ⟨b9, 0, none⟩)) rfl (stab_eq _) hE T5
    have T21 : (IsMapS w.heap.size []) (a29.at 21) w30 := f0
    replace E := E.trans hE
    clear hE hF hap
    obtain ⟨mb31, T21, B_mb31, M32⟩ := T21
    replace T21 : (fun v _ => v = .map (some mb31)) (a29.at 21) w30 := T21
    show wpOps _ (rg Tryd.f6 5) _ [1] _ _
    refine tail_val rfl rfl rfl (ex_move (.inr rfl) (v := .map (some mb31)) (show a29.eval (.tmp 21) = .map (some mb31) from T21)) ?_
    obtain ⟨a33, ha⟩ : ∃ x : Act, x = a29.put (some 6) (.map (some mb31)) := ⟨_, rfl⟩
    rw [← ha]
    replace T1 : (fun v _ => v = .slice xl l.length cl) (a33.at 1) w30 := by rw [ha, put_other rfl]; exact T1
    replace T4 : (fun v _ => v = .bool false) (a33.at 4) w30 := by rw [ha, put_other rfl]; exact T4
    replace T5 : (fun v _ => v = .pointer (some ⟨b9, 0, none⟩)) (a33.at 5) w30 := by rw [ha, put_other rfl]; exact T5
    replace T21 : (fun v _ => v = .map (some mb31)) (a33.at 21) w30 := by rw [ha, put_other rfl]; exact T21
    have T6 : (fun v _ => v = .map (some mb31)) (a33.at 6) w30 := by rw [ha, put_same N (by decide)]; skip
    replace N := (ha ▸ put_size _ _ _ : a33.tmps.size = _).trans N
    replace D := (ha ▸ put_defers' _ _ _ : a33.defers = _).trans D
    clear ha
    clear T21
    refine hK28 _ _ ?_
    refine wp_seq_k (fun K34 hK34 => ?_)
    refine wp_seq_k (fun K35 hK35 => ?_)
    -- region 6: law.go:112
    show (Code.region 6 (rg Tryd.f6 6) false).wp _ _ _ _
    refine wp_region ?_
    show wpOps _ (rg Tryd.f6 6) _ [0] _ _
    refine tail_val rfl rfl rfl (ex_move (.inr rfl) (v := .int .i64 0) (ev_const (v := .int .i64 0))) ?_
    obtain ⟨a36, ha⟩ : ∃ x : Act, x = a33.put (some 7) (.int .i64 0) := ⟨_, rfl⟩
    rw [← ha]
    replace T1 : (fun v _ => v = .slice xl l.length cl) (a36.at 1) w30 := by rw [ha, put_other rfl]; exact T1
    replace T4 : (fun v _ => v = .bool false) (a36.at 4) w30 := by rw [ha, put_other rfl]; exact T4
    replace T5 : (fun v _ => v = .pointer (some ⟨b9, 0, none⟩)) (a36.at 5) w30 := by rw [ha, put_other rfl]; exact T5
    replace T6 : (fun v _ => v = .map (some mb31)) (a36.at 6) w30 := by rw [ha, put_other rfl]; exact T6
    have T7 : (fun v _ => v = .int .i64 0) (a36.at 7) w30 := by rw [ha, put_same N (by decide)]; skip
    replace N := (ha ▸ put_size _ _ _ : a36.tmps.size = _).trans N
    replace D := (ha ▸ put_defers' _ _ _ : a36.defers = _).trans D
    clear ha
    refine hK35 _ _ ?_
    refine wp_block ?_
    -- the loop (it writes)
    obtain ⟨I37, hI37⟩ : ∃ I : Nat → Act → World → Prop, I = fun μ aa ww => ∃ (X : Msg) (xx : Option Addr) (cc : Nat) (k : Nat) (lm : List (ByteArray × Value)), (aa.tmps.size = 76) ∧ (aa.defers = []) ∧ (Ext w ww) ∧ ((fun v _ => v = .slice xl l.length cl) (aa.at 1) ww) ∧ ((fun v _ => v = .bool false) (aa.at 4) ww) ∧ ((fun v _ => v = .pointer (some ⟨b9, 0, none⟩)) (aa.at 5) ww) ∧ ((fun v _ => v = .map (some mb31)) (aa.at 6) ww) ∧ ((fun v _ => v = .int .i64 (k : Int)) (aa.at 7) ww) ∧ (ww.heap[b4]? = some (.cells (msgC m mv) 26 (0, 0))) ∧ (ww.heap[b9]? = some (.cells (msgC X (.slice xx X.hops.length cc)) 29 (0, 0))) ∧ (OwnStrs 0 X.hops ww (.slice xx X.hops.length cc)) ∧ (MapIs sKey ww mb31 lm) ∧ (μ = l.length - k) ∧ (k ≤ l.length ∧ checkE X = 0 ∧ X.Fits ∧ ∀ s, s ∉ X.hops → valOf lm s (.bool false) = .bool false) := ⟨_, rfl⟩
    refine loop_rule I37 _ (by rw [hI37]; exact ⟨{ toM m with hops := [] }, none, 0, 0, [], N, D, E, T1, T4, T5, T6, T7, R_b4, R_b9, SX, M32, rfl, ⟨Nat.zero_le _, hX0, fits_nil (toM_fits fm), fun s _ => rfl⟩⟩) ?_
    clear N D E T1 T4 T5 T6 T7 R_b4 R_b9 SX M32
    intro μ a38 w39 hI
    rw [hI37] at hI
    obtain ⟨X, xx, cc, k, lm, N, D, E, T1, T4, T5, T6, T7, R_b4, R_b9, SX, M32, hμ, ⟨hk, hX, fX, hmap⟩⟩ := hI
    have HM := Lib.hid hμ; clear hμ
    have hXl := (checkE_ok hX).2.1
    refine wp_seq_k (fun K40 hK40 => ?_)
    refine wp_seq_k (fun K41 hK41 => ?_)
    -- region 7: law.go:112
    show (Code.region 7 (rg Tryd.f6 7) false).wp _ _ _ _
    refine plain_list (n := 8) (N := 76) (deps := [[], [], [1], [0, 2], [3], [4], [4, 5], [4, 6]]) (F := [(fun v _ => v = .int .i64 (k : Int)), (fun v _ => v = .slice xl l.length cl), (fun v _ => v = .int .i64 (l.length : Int)), (fun v _ => v = .bool (decide ((k : Int) < (l.length : Int)))), (fun v _ => v = .bool (decide ((k : Int) < (l.length : Int)))), (fun v w => (decide ((k : Int) < (l.length : Int))) = true → (fun v _ => v = .int .i64 (k : Int)) v w), (fun v w => (decide ((k : Int) < (l.length : Int))) = true → (fun v _ => v = .bool (decide ((k : Int) < (60 : Int)))) v w), (fun v _ => v = .bool ((decide ((k : Int) < (l.length : Int))) && (decide ((k : Int) < (60 : Int)))))]) (by kernel_rfl) (by kernel_rfl) rfl (by kernel_rfl) ⟨(stab_eq _), (stab_eq _), (stab_eq _), (stab_eq _), (stab_eq _), (stab_imp (stab_eq _)), (stab_imp (stab_eq _)), (stab_eq _), trivial⟩ N (by kernel_rfl) ⟨?_, ?_, ?_, ?_, ?_, ?_, ?_, ?_, trivial⟩ ?_
    · -- 0 law.go:112
      rintro aa ww hE hF ⟨-⟩
      have o7 : aa.eval (.tmp 7) = .int .i64 (k : Int) := hF.carry (fun v _ => v = .int .i64 (k : Int)) rfl (stab_eq _) hE T7
      exact opAt rfl (ok_run rfl (run_here rfl (ex_move (.inl rfl) o7) ( rfl)))
    · -- 1 law.go:112
      rintro aa ww hE hF ⟨-⟩
      have o1 : aa.eval (.tmp 1) = .slice xl l.length cl := hF.carry (fun v _ => v = .slice xl l.length cl) rfl (stab_eq _) hE T1
      exact opAt rfl (ok_run rfl (run_here rfl (ex_move (.inl rfl) o1) ( rfl)))
    · -- 2 law.go:112
      rintro aa ww hE hF ⟨d1, -⟩
      replace d1 : aa.eval (.tmp 23) = .slice xl l.length cl := d1
      exact opAt rfl (ok_run rfl (run_here rfl (ex_builtin rfl (fun cs => by simp only [List.map_toArray, List.map_cons, List.map_nil, show aa.eval (.tmp 23) = .slice xl l.length cl from d1]; exact len_slice Tryd.underlying24)) ( rfl)))
    · -- 3 law.go:112
      rintro aa ww hE hF ⟨d0, d2, -⟩
      replace d0 : aa.eval (.tmp 22) = .int .i64 (k : Int) := d0
      replace d2 : aa.eval (.tmp 24) = .int .i64 (l.length : Int) := d2
      exact opAt rfl (ok_run rfl (run_here rfl (ex_binOp rfl (by rw [show aa.eval (.tmp 22) = .int .i64 (k : Int) from d0, show aa.eval (.tmp 24) = .int .i64 (l.length : Int) from d2]; exact eqg_int) (by rw [show aa.eval (.tmp 22) = .int .i64 (k : Int) from d0, show aa.eval (.tmp 24) = .int .i64 (l.length : Int) from d2]; exact bin_lss)) ( rfl)))
    · -- 4 law.go:112
      rintro aa ww hE hF ⟨d3, -⟩
      replace d3 : aa.eval (.tmp 25) = .bool (decide ((k : Int) < (l.length : Int))) := d3
      exact opAt rfl (ok_run rfl (run_here rfl (ex_move (.inl rfl) d3) ( rfl)))
    · -- 5 law.go:112
      rintro aa ww hE hF ⟨d4, -⟩
      replace d4 : aa.eval (.tmp 26) = .bool (decide ((k : Int) < (l.length : Int))) := d4
      have o7 : aa.eval (.tmp 7) = .int .i64 (k : Int) := hF.carry (fun v _ => v = .int .i64 (k : Int)) rfl (stab_eq _) hE T7
      exact opAt rfl (ok_guard rfl d4 (fun hc => run_here rfl (ex_move (.inl rfl) o7) (fun _ =>  rfl)) (fun hn hc => absurd hc hn))
    · -- 6 law.go:112
      rintro aa ww hE hF ⟨d4, d5, -⟩
      replace d4 : aa.eval (.tmp 26) = .bool (decide ((k : Int) < (l.length : Int))) := d4
      replace d5 : (decide ((k : Int) < (l.length : Int))) = true → aa.eval (.tmp 27) = .int .i64 (k : Int) := d5
      exact opAt rfl (ok_guard rfl d4 (fun hc => run_here rfl (ex_binOp rfl (by rw [show aa.eval (.tmp 27) = .int .i64 (k : Int) from (d5 hc), show aa.eval (.const (.int .i64 60)) = .int .i64 60 from (ev_const (v := .int .i64 60))]; exact eqg_int) (by rw [show aa.eval (.tmp 27) = .int .i64 (k : Int) from (d5 hc), show aa.eval (.const (.int .i64 60)) = .int .i64 60 from (ev_const (v := .int .i64 60))]; exact bin_lss)) (fun _ =>  rfl)) (fun hn hc => absurd hc hn))
    · -- 7 law.go:112
      rintro aa ww hE hF ⟨d4, d6, -⟩
      replace d4 : aa.eval (.tmp 26) = .bool (decide ((k : Int) < (l.length : Int))) := d4
      replace d6 : (decide ((k : Int) < (l.length : Int))) = true → aa.eval (.tmp 28) = .bool (decide ((k : Int) < (60 : Int))) := d6
      exact opAt rfl (ok_run rfl (run_here rfl (ex_pick_and rfl d4 (fun hp => (d6 hp))) ( rfl)))
    intro a42 w43 hE hF hfac hap
    obtain ⟨f0, f1, f2, f3, f4, f5, f6, f7, -⟩ := hfac
    replace N := hF.size.trans N
    replace D := hF.defers.trans D
    replace R_b4 := hE.row R_b4
    replace R_b9 := hE.row R_b9
    replace SX : OwnStrs 0 X.hops w43 (.slice xx X.hops.length cc) := SX.ext hE
    replace M32 : MapIs sKey w43 mb31 lm := M32.ext hE
    replace T1 : (fun v _ => v = .slice xl l.length cl) (a42.at 1) w43 := hF.carry (fun v _ => v = .slice xl l.length cl) rfl (stab_eq _) hE T1
    replace T4 : (fun v _ => v = .bool false) (a42.at 4) w43 := hF.carry (fun v _ => v = .bool false) rfl (stab_eq _) hE T4
    replace T5 : (fun v _ => v = .pointer (some ⟨b9, 0, none⟩)) (a42.at 5) w43 := hF.carry (fun v _ => v = .pointer (some ⟨b9, 0, none⟩)) rfl (stab_eq _) hE T5
    replace T6 : (fun v _ => v = .map (some mb31)) (a42.at 6) w43 := hF.carry (fun v _ => v = .map (some mb31)) rfl (stab_eq _) hE T6
    replace T7 : (fun v _ => v = .int .i64 (k : Int)) (a42.at 7) w43 := hF.carry (fun v _ => v = .int .i64 (k : Int)) rfl (stab_eq _) hE T7
    have T29 : (fun v _ => v = .bool ((decide ((k : Int) < (l.length : Int))) && (decide ((k : Int) < (60 : Int))))) (a42.at 29) w43 := f7
    replace E := E.trans hE
    clear hE hF hap
    show wpOps _ (rg Tryd.f6 7) _ [] _ _
    refine hK41 _ _ ?_
    refine wp_cond_split (t := ((decide ((k : Int) < (l.length : Int))) && (decide ((k : Int) < (60 : Int))))) T29 (fun C44 => ?_) (fun C44 => ?_)
    · clear T29
      have hlt : k < l.length := by have := of_decide_eq_true (and_l C44); omega
      obtain ⟨gs, os, eS⟩ := str_some ls hlt
      have hsz : (l[k]'hlt).size ≤ maxLen := hls _ (List.getElem_mem hlt)
      refine wp_skip ?_
      refine hK40 _ _ ?_
      refine wp_seq_k (fun K45 hK45 => ?_)
      refine wp_block ?_
      refine wp_seq_k (fun K46 hK46 => ?_)
      -- region 9 (drawn): law.go:113
      show (Code.region 9 (rg Tryd.f6 9) true).wp _ _ _ _
      refine draw_list (n := 10) (N := 76) (deps := [[], [], [], [1, 2], [1, 2, 3], [0, 1, 2, 3, 4], [0, 1, 2, 3, 4, 5], [0, 1, 2, 3, 4, 5, 6], [0, 1, 2, 3, 4, 5, 6], [], [0, 1, 2, 3, 4, 5, 6, 7, 9], [0, 1, 2, 3, 4, 5, 6, 7, 8, 9, 10]]) (F := [(IsOwnB 0 X), (fun v _ => v = .slice xl l.length cl), (fun v _ => v = .int .i64 (k : Int)), (fun v _ => v = .pointer (some ⟨gs, os + k * 1, none⟩)), (fun v _ => v = .string (l[k]'hlt)), (IsOwnE w43.heap.size ((passR X (l[k]'hlt)).1) ((passR X (l[k]'hlt)).2)), (IsOwnE w43.heap.size ((passR X (l[k]'hlt)).1) ((passR X (l[k]'hlt)).2)), (IsOwnB w43.heap.size ((passR X (l[k]'hlt)).1)), (fun v _ => v = .int .i64 ((passR X (l[k]'hlt)).2 : Int)), (IsBox #[.string ⟨#[]⟩, .string ⟨#[]⟩, .string ⟨#[]⟩, .string ⟨#[]⟩, .int .i64 0, .int .i64 0, .string ⟨#[]⟩, .slice none 0 0, .string ⟨#[]⟩] 29 w43.heap.size)]) (E := [8]) Trydmixed ⟨by kernel_rfl, by kernel_rfl, by kernel_rfl, by kernel_rfl, by kernel_rfl, by kernel_rfl, Nat.le_of_ble_eq_true (by kernel_rfl)⟩ rfl (by kernel_rfl) ⟨(stab_ownB _ _), (stab_eq _), (stab_eq _), (stab_eq _), (stab_eq _), (stab_ownE _ _ _), (stab_ownE _ _ _), (stab_ownB _ _), (stab_eq _), (stab_box _ _ _), trivial⟩ N ⟨?_, ?_, ?_, ?_, ?_, ?_, ?_, ?_, ?_, ?_, trivial⟩ ⟨?_, trivial⟩ ?_
      · -- 0 law.go:113
        rintro aa ww hE hF ⟨-⟩
        have o5 : aa.eval (.tmp 5) = .pointer (some ⟨b9, 0, none⟩) := hF.carry (fun v _ => v = .pointer (some ⟨b9, 0, none⟩)) rfl (stab_eq _) hE T5
        exact opAt rfl (ok_run rfl (run_here rfl (ex_load rfl o5 (load_row (hE.row R_b9) Tryd.underlying29 rfl (by kernel_rfl))) ( ⟨_, rfl, SX.ext hE⟩)))
      · -- 1 law.go:113
        rintro aa ww hE hF ⟨-⟩
        have o1 : aa.eval (.tmp 1) = .slice xl l.length cl := hF.carry (fun v _ => v = .slice xl l.length cl) rfl (stab_eq _) hE T1
        exact opAt rfl (ok_run rfl (run_here rfl (ex_move (.inl rfl) o1) ( rfl)))
      · -- 2 law.go:113
        rintro aa ww hE hF ⟨-⟩
        have o7 : aa.eval (.tmp 7) = .int .i64 (k : Int) := hF.carry (fun v _ => v = .int .i64 (k : Int)) rfl (stab_eq _) hE T7
        exact opAt rfl (ok_run rfl (run_here rfl (ex_move (.inl rfl) o7) ( rfl)))
      · -- 3 law.go:113
        rintro aa ww hE hF ⟨d1, d2, -⟩
        replace d1 : aa.eval (.tmp 34) = .slice xl l.length cl := d1
        replace d2 : aa.eval (.tmp 35) = .int .i64 (k : Int) := d2
        exact opAt rfl (ok_run rfl (run_here rfl (ex_indexAddr rfl (by rw [show aa.eval (.tmp 34) = .slice xl l.length cl from d1, show aa.eval (.tmp 35) = .int .i64 (k : Int) from d2, eS]; exact index_slice Tryd.underlying24 hlt (fun w => Tryd.sizeOf9 w))) ( rfl)))
      · -- 4 law.go:113
        rintro aa ww hE hF ⟨-, -, d3, -⟩
        replace d3 : aa.eval (.tmp 36) = .pointer (some ⟨gs, os + k * 1, none⟩) := d3
        exact opAt rfl (ok_run rfl (run_here rfl (ex_load rfl d3 (load_cell Tryd.isAgg9 (str_get (ls.below (E.trans hE)) eS (get_lt hlt)))) ( rfl)))
      · -- 5 law.go:113
        rintro aa ww hE hF ⟨d0, -, -, -, d4, -⟩
        replace d0 : (IsOwnB 0 X) (aa.eval (.tmp 33)) ww := d0
        replace d4 : aa.eval (.tmp 37) = .string (l[k]'hlt) := d4
        exact opAt rfl (ok_run rfl (run_callR (ψ := (IsOwnE w43.heap.size ((passR X (l[k]'hlt)).1) ((passR X (l[k]'hlt)).2))) rfl Tryd.call18 (by
      obtain ⟨hv0, e0, s0⟩ := IsOwnB.msg (d0)
      simp only [List.map_toArray, List.map_cons, List.map_nil, e0, d4]
      exact (pass_e X _ (l[k]'hlt) _ fX s0 (by first | with_reducible assumption | (simp only [ByteArray.size_extract]; unfold maxLen at *; omega)) (by have := (checkE_ok hX).2.1; omega)).mono (fun _ _ ⟨v, e, y, o⟩ => ⟨v, e, y, o.mono hE.size⟩)) (fun _ _ h =>  h)))
      · -- 6 law.go:113
        rintro aa ww hE hF ⟨-, -, -, -, -, d5, -⟩
        replace d5 : (IsOwnE w43.heap.size ((passR X (l[k]'hlt)).1) ((passR X (l[k]'hlt)).2)) (aa.eval (.tmp 38)) ww := d5
        exact opAt rfl (ok_run rfl (run_here rfl (ex_move (.inl rfl) rfl) ( d5)))
      · -- 7 law.go:113
        rintro aa ww hE hF ⟨-, -, -, -, -, -, d6, -⟩
        replace d6 : (IsOwnE w43.heap.size ((passR X (l[k]'hlt)).1) ((passR X (l[k]'hlt)).2)) (aa.eval (.tmp 32)) ww := d6
        exact opAt rfl (ok_run rfl (run_ext0 rfl (d6) (fun _ h =>  h)))
      · -- 8 law.go:113
        rintro aa ww hE hF ⟨-, -, -, -, -, -, d6, -⟩
        replace d6 : (IsOwnE w43.heap.size ((passR X (l[k]'hlt)).1) ((passR X (l[k]'hlt)).2)) (aa.eval (.tmp 32)) ww := d6
        exact opAt rfl (ok_run rfl (run_here rfl (ex_ext1 (d6) rfl) ( rfl)))
      · -- 9 law.go:113
        rintro aa ww hE hF ⟨-⟩
        exact opAt rfl (ok_run rfl (run_new (ex_alloc rfl Tryd.zeroValue29) ( (box_new hE.size))))
      · -- 8 as soon as it can
        rintro o ho aa ww hE hF ⟨-, -, -, -, -, -, d6, -⟩
        replace d6 : (IsOwnE w43.heap.size ((passR X (l[k]'hlt)).1) ((passR X (l[k]'hlt)).2)) (aa.eval (.tmp 32)) ww := d6
        exact free_of rfl rfl rfl (fun _ => (ex_ext1 (d6) rfl)) ( rfl) o ho
      intro a47 w48 hE hF hfac hap
      obtain ⟨f0, f1, f2, f3, f4, f5, f6, f7, f8, f9, -⟩ := hfac
      replace N := hF.size.trans N
      replace D := hF.defers.trans D
      obtain ⟨b49, T8, B_b49, R_b49⟩ := f9
      have NE_b4_b49 : b4 ≠ b49 := by have := row_lt R_b4; omega
      have NE_b9_b49 : b9 ≠ b49 := by have := row_lt R_b9; omega
      replace B_b49 := Nat.le_trans E.size B_b49
      replace R_b4 := hE.row R_b4
      replace R_b9 := hE.row R_b9
      replace SX : OwnStrs 0 X.hops w48 (.slice xx X.hops.length cc) := SX.ext hE
      replace M32 : MapIs sKey w48 mb31 lm := M32.ext hE
      replace T1 : (fun v _ => v = .slice xl l.length cl) (a47.at 1) w48 := hF.carry (fun v _ => v = .slice xl l.length cl) rfl (stab_eq _) hE T1
      replace T4 : (fun v _ => v = .bool false) (a47.at 4) w48 := hF.carry (fun v _ => v = .bool false) rfl (stab_eq _) hE T4
      replace T5 : (fun v _ => v = .pointer (some ⟨b9, 0, none⟩)) (a47.at 5) w48 := hF.carry (fun v _ => v = .pointer (some ⟨b9, 0, none⟩)) rfl (stab_eq _) hE T5
      replace T6 : (fun v _ => v = .map (some mb31)) (a47.at 6) w48 := hF.carry (fun v _ => v = .map (some mb31)) rfl (stab_eq _) hE T6
      replace T7 : (fun v _ => v = .int .i64 (k : Int)) (a47.at 7) w48 := hF.carry (fun v _ => v = .int .i64 (k : Int)) rfl (stab_eq _) hE T7
      have T39 : (IsOwnB w43.heap.size ((passR X (l[k]'hlt)).1)) (a47.at 39) w48 := f7
      have T40 : (fun v _ => v = .int .i64 ((passR X (l[k]'hlt)).2 : Int)) (a47.at 40) w48 := f8
      replace E := E.trans hE
      clear hE hF hap
      obtain ⟨hv50, T39, S51⟩ := T39
      obtain ⟨x52, c53, rfl⟩ := ownStrs_len S51
      replace T39 : (fun v _ => v = .agg (msgC ((passR X (l[k]'hlt)).1) (.slice x52 ((((passR X (l[k]'hlt)).1).hops).length) c53))) (a47.at 39) w48 := T39
      show wpOps _ (rg Tryd.f6 9) _ [10, 11] _ _
      refine tail_do rfl rfl rfl (ex_store rfl (show a47.eval (.tmp 8) = .pointer (some ⟨b49, 0, none⟩) from T8) (by rw [show a47.eval (.tmp 39) = .agg (msgC ((passR X (l[k]'hlt)).1) (.slice x52 ((((passR X (l[k]'hlt)).1).hops).length) c53)) from (show a47.eval (.tmp 39) = .agg (msgC ((passR X (l[k]'hlt)).1) (.slice x52 ((((passR X (l[k]'hlt)).1).hops).length) c53)) from T39)]; exact store_row R_b49 (by kernel_rfl) rfl (ownB_cell S51))) ?_
      obtain ⟨w54, hw⟩ : ∃ x : World, x = w48.setRow b49 (msgC ((passR X (l[k]'hlt)).1) (.slice x52 ((((passR X (l[k]'hlt)).1).hops).length) c53)) := ⟨_, rfl⟩
      rw [← hw]
      replace R_b4 := hw ▸ row_other R_b4 (by first | exact NE_b4_b49 | exact NE_b49_b4.symm)
      replace R_b9 := hw ▸ row_other R_b9 (by first | exact NE_b9_b49 | exact NE_b49_b9.symm)
      replace E : Ext w w54 := hw ▸ below_row E B_b49
      replace T1 : (fun v _ => v = .slice xl l.length cl) (a47.at 1) w54 := T1
      replace T4 : (fun v _ => v = .bool false) (a47.at 4) w54 := T4
      replace T5 : (fun v _ => v = .pointer (some ⟨b9, 0, none⟩)) (a47.at 5) w54 := T5
      replace T6 : (fun v _ => v = .map (some mb31)) (a47.at 6) w54 := T6
      replace T7 : (fun v _ => v = .int .i64 (k : Int)) (a47.at 7) w54 := T7
      replace T39 : (fun v _ => v = .agg (msgC ((passR X (l[k]'hlt)).1) (.slice x52 ((((passR X (l[k]'hlt)).1).hops).length) c53))) (a47.at 39) w54 := T39
      replace T40 : (fun v _ => v = .int .i64 ((passR X (l[k]'hlt)).2 : Int)) (a47.at 40) w54 := T40
      replace T8 : (fun v _ => v = .pointer (some ⟨b49, 0, none⟩)) (a47.at 8) w54 := T8
      replace SX : OwnStrs 0 X.hops w54 (.slice xx X.hops.length cc) := hw ▸ SX.setRow R_b49 rfl
      replace M32 : MapIs sKey w54 mb31 lm := hw ▸ M32.setRow R_b49 rfl
      replace S51 : OwnStrs w43.heap.size (((passR X (l[k]'hlt)).1).hops) w54 (.slice x52 ((((passR X (l[k]'hlt)).1).hops).length) c53) := hw ▸ S51.setRow R_b49 rfl
      replace R_b49 : w54.heap[b49]? = some (.cells (msgC ((passR X (l[k]'hlt)).1) (.slice x52 ((((passR X (l[k]'hlt)).1).hops).length) c53)) 29 (0, 0)) := by rw [hw]; exact setRow_heap _ _ _ _ _ _ R_b49
      clear hw
      refine tail_val rfl rfl rfl (ex_move (.inr rfl) (v := .int .i64 ((passR X (l[k]'hlt)).2 : Int)) (show a47.eval (.tmp 40) = .int .i64 ((passR X (l[k]'hlt)).2 : Int) from T40)) ?_
      obtain ⟨a55, ha⟩ : ∃ x : Act, x = a47.put (some 9) (.int .i64 ((passR X (l[k]'hlt)).2 : Int)) := ⟨_, rfl⟩
      rw [← ha]
      replace T1 : (fun v _ => v = .slice xl l.length cl) (a55.at 1) w54 := by rw [ha, put_other rfl]; exact T1
      replace T4 : (fun v _ => v = .bool false) (a55.at 4) w54 := by rw [ha, put_other rfl]; exact T4
      replace T5 : (fun v _ => v = .pointer (some ⟨b9, 0, none⟩)) (a55.at 5) w54 := by rw [ha, put_other rfl]; exact T5
      replace T6 : (fun v _ => v = .map (some mb31)) (a55.at 6) w54 := by rw [ha, put_other rfl]; exact T6
      replace T7 : (fun v _ => v = .int .i64 (k : Int)) (a55.at 7) w54 := by rw [ha, put_other rfl]; exact T7
      replace T39 : (fun v _ => v = .agg (msgC ((passR X (l[k]'hlt)).1) (.slice x52 ((((passR X (l[k]'hlt)).1).hops).length) c53))) (a55.at 39) w54 := by rw [ha, put_other rfl]; exact T39
      replace T40 : (fun v _ => v = .int .i64 ((passR X (l[k]'hlt)).2 : Int)) (a55.at 40) w54 := by rw [ha, put_other rfl]; exact T40
      replace T8 : (fun v _ => v = .pointer (some ⟨b49, 0, none⟩)) (a55.at 8) w54 := by rw [ha, put_other rfl]; exact T8
      have T9 : (fun v _ => v = .int .i64 ((passR X (l[k]'hlt)).2 : Int)) (a55.at 9) w54 := by rw [ha, put_same N (by decide)]; skip
      replace N := (ha ▸ put_size _ _ _ : a55.tmps.size = _).trans N
      replace D := (ha ▸ put_defers' _ _ _ : a55.defers = _).trans D
      clear ha
      clear T39
      clear T40
      refine hK46 _ _ ?_
      refine wp_seq_k (fun K56 hK56 => ?_)
      refine wp_seq_k (fun K57 hK57 => ?_)
      -- region 10: law.go:114
      show (Code.region 10 (rg Tryd.f6 10) false).wp _ _ _ _
      refine plain_list (n := 2) (N := 76) (deps := [[], [0]]) (F := [(fun v _ => v = .int .i64 ((passR X (l[k]'hlt)).2 : Int)), (fun v _ => v = .bool (((passR X (l[k]'hlt)).2 : Int) != (0 : Int)))]) (by kernel_rfl) (by kernel_rfl) rfl (by kernel_rfl) ⟨(stab_eq _), (stab_eq _), trivial⟩ N (by kernel_rfl) ⟨?_, ?_, trivial⟩ ?_
      · -- 0 law.go:114
        rintro aa ww hE hF ⟨-⟩
        have o9 : aa.eval (.tmp 9) = .int .i64 ((passR X (l[k]'hlt)).2 : Int) := hF.carry (fun v _ => v = .int .i64 ((passR X (l[k]'hlt)).2 : Int)) rfl (stab_eq _) hE T9
        exact opAt rfl (ok_run rfl (run_here rfl (ex_move (.inl rfl) o9) ( rfl)))
      · -- 1 law.go:114
        rintro aa ww hE hF ⟨d0, -⟩
        replace d0 : aa.eval (.tmp 41) = .int .i64 ((passR X (l[k]'hlt)).2 : Int) := d0
        exact opAt rfl (ok_run rfl (run_here rfl (ex_binOp rfl (by rw [show aa.eval (.tmp 41) = .int .i64 ((passR X (l[k]'hlt)).2 : Int) from d0, show aa.eval (.const (.int .i64 0)) = .int .i64 0 from (ev_const (v := .int .i64 0))]; exact eqg_int) (by rw [show aa.eval (.tmp 41) = .int .i64 ((passR X (l[k]'hlt)).2 : Int) from d0, show aa.eval (.const (.int .i64 0)) = .int .i64 0 from (ev_const (v := .int .i64 0))]; exact bin_neq)) ( rfl)))
      intro a58 w59 hE hF hfac hap
      obtain ⟨f0, f1, -⟩ := hfac
      replace N := hF.size.trans N
      replace D := hF.defers.trans D
      replace R_b4 := hE.row R_b4
      replace R_b9 := hE.row R_b9
      replace R_b49 := hE.row R_b49
      replace SX : OwnStrs 0 X.hops w59 (.slice xx X.hops.length cc) := SX.ext hE
      replace M32 : MapIs sKey w59 mb31 lm := M32.ext hE
      replace S51 : OwnStrs w43.heap.size (((passR X (l[k]'hlt)).1).hops) w59 (.slice x52 ((((passR X (l[k]'hlt)).1).hops).length) c53) := S51.ext hE
      replace T1 : (fun v _ => v = .slice xl l.length cl) (a58.at 1) w59 := hF.carry (fun v _ => v = .slice xl l.length cl) rfl (stab_eq _) hE T1
      replace T4 : (fun v _ => v = .bool false) (a58.at 4) w59 := hF.carry (fun v _ => v = .bool false) rfl (stab_eq _) hE T4
      replace T5 : (fun v _ => v = .pointer (some ⟨b9, 0, none⟩)) (a58.at 5) w59 := hF.carry (fun v _ => v = .pointer (some ⟨b9, 0, none⟩)) rfl (stab_eq _) hE T5
      replace T6 : (fun v _ => v = .map (some mb31)) (a58.at 6) w59 := hF.carry (fun v _ => v = .map (some mb31)) rfl (stab_eq _) hE T6
      replace T7 : (fun v _ => v = .int .i64 (k : Int)) (a58.at 7) w59 := hF.carry (fun v _ => v = .int .i64 (k : Int)) rfl (stab_eq _) hE T7
      replace T8 : (fun v _ => v = .pointer (some ⟨b49, 0, none⟩)) (a58.at 8) w59 := hF.carry (fun v _ => v = .pointer (some ⟨b49, 0, none⟩)) rfl (stab_eq _) hE T8
      replace T9 : (fun v _ => v = .int .i64 ((passR X (l[k]'hlt)).2 : Int)) (a58.at 9) w59 := hF.carry (fun v _ => v = .int .i64 ((passR X (l[k]'hlt)).2 : Int)) rfl (stab_eq _) hE T9
      have T42 : (fun v _ => v = .bool (((passR X (l[k]'hlt)).2 : Int) != (0 : Int))) (a58.at 42) w59 := f1
      replace E := E.trans hE
      clear hE hF hap
      show wpOps _ (rg Tryd.f6 10) _ [] _ _
      refine hK57 _ _ ?_
      refine wp_cond_split (t := ((passR X (l[k]'hlt)).2 : Int) != (0 : Int)) T42 (fun C60 => ?_) (fun C60 => ?_)
      · clear T42
        refine wp_exit ?_
        refine hK45 _ _ ?_
        -- region 8: law.go:112
        show (Code.region 8 (rg Tryd.f6 8) false).wp _ _ _ _
        refine plain_list (n := 2) (N := 76) (deps := [[], [0]]) (F := [(fun v _ => v = .int .i64 (k : Int)), (fun v _ => v = .int .i64 ((k : Int) + 1))]) (by kernel_rfl) (by kernel_rfl) rfl (by kernel_rfl) ⟨(stab_eq _), (stab_eq _), trivial⟩ N (by kernel_rfl) ⟨?_, ?_, trivial⟩ ?_
        · -- 0 law.go:112
          rintro aa ww hE hF ⟨-⟩
          have o7 : aa.eval (.tmp 7) = .int .i64 (k : Int) := hF.carry (fun v _ => v = .int .i64 (k : Int)) rfl (stab_eq _) hE T7
          exact opAt rfl (ok_run rfl (run_here rfl (ex_move (.inl rfl) o7) ( rfl)))
        · -- 1 law.go:112
          rintro aa ww hE hF ⟨d0, -⟩
          replace d0 : aa.eval (.tmp 30) = .int .i64 (k : Int) := d0
          exact opAt rfl (ok_run rfl (run_here rfl (ex_binOp rfl (by rw [show aa.eval (.tmp 30) = .int .i64 (k : Int) from d0, show aa.eval (.const (.int .i64 1)) = .int .i64 1 from (ev_const (v := .int .i64 1))]; exact eqg_int) (by rw [show aa.eval (.tmp 30) = .int .i64 (k : Int) from d0, show aa.eval (.const (.int .i64 1)) = .int .i64 1 from (ev_const (v := .int .i64 1))]; exact bin_addN (by omega) (by omega))) ( rfl)))
        intro a61 w62 hE hF hfac hap
        obtain ⟨f0, f1, -⟩ := hfac
        replace N := hF.size.trans N
        replace D := hF.defers.trans D
        replace R_b4 := hE.row R_b4
        replace R_b9 := hE.row R_b9
        replace R_b49 := hE.row R_b49
        replace SX : OwnStrs 0 X.hops w62 (.slice xx X.hops.length cc) := SX.ext hE
        replace M32 : MapIs sKey w62 mb31 lm := M32.ext hE
        replace S51 : OwnStrs w43.heap.size (((passR X (l[k]'hlt)).1).hops) w62 (.slice x52 ((((passR X (l[k]'hlt)).1).hops).length) c53) := S51.ext hE
        replace T1 : (fun v _ => v = .slice xl l.length cl) (a61.at 1) w62 := hF.carry (fun v _ => v = .slice xl l.length cl) rfl (stab_eq _) hE T1
        replace T4 : (fun v _ => v = .bool false) (a61.at 4) w62 := hF.carry (fun v _ => v = .bool false) rfl (stab_eq _) hE T4
        replace T5 : (fun v _ => v = .pointer (some ⟨b9, 0, none⟩)) (a61.at 5) w62 := hF.carry (fun v _ => v = .pointer (some ⟨b9, 0, none⟩)) rfl (stab_eq _) hE T5
        replace T6 : (fun v _ => v = .map (some mb31)) (a61.at 6) w62 := hF.carry (fun v _ => v = .map (some mb31)) rfl (stab_eq _) hE T6
        replace T7 : (fun v _ => v = .int .i64 (k : Int)) (a61.at 7) w62 := hF.carry (fun v _ => v = .int .i64 (k : Int)) rfl (stab_eq _) hE T7
        replace T8 : (fun v _ => v = .pointer (some ⟨b49, 0, none⟩)) (a61.at 8) w62 := hF.carry (fun v _ => v = .pointer (some ⟨b49, 0, none⟩)) rfl (stab_eq _) hE T8
        replace T9 : (fun v _ => v = .int .i64 ((passR X (l[k]'hlt)).2 : Int)) (a61.at 9) w62 := hF.carry (fun v _ => v = .int .i64 ((passR X (l[k]'hlt)).2 : Int)) rfl (stab_eq _) hE T9
        have T31 : (fun v _ => v = .int .i64 ((k : Int) + 1)) (a61.at 31) w62 := f1
        replace E := E.trans hE
        clear hE hF hap
        show wpOps _ (rg Tryd.f6 8) _ [2] _ _
        refine tail_val rfl rfl rfl (ex_move (.inr rfl) (v := .int .i64 ((k : Int) + 1)) (show a61.eval (.tmp 31) = .int .i64 ((k : Int) + 1) from T31)) ?_
        obtain ⟨a63, ha⟩ : ∃ x : Act, x = a61.put (some 7) (.int .i64 ((k : Int) + 1)) := ⟨_, rfl⟩
        rw [← ha]
        replace T1 : (fun v _ => v = .slice xl l.length cl) (a63.at 1) w62 := by rw [ha, put_other rfl]; exact T1
        replace T4 : (fun v _ => v = .bool false) (a63.at 4) w62 := by rw [ha, put_other rfl]; exact T4
        replace T5 : (fun v _ => v = .pointer (some ⟨b9, 0, none⟩)) (a63.at 5) w62 := by rw [ha, put_other rfl]; exact T5
        replace T6 : (fun v _ => v = .map (some mb31)) (a63.at 6) w62 := by rw [ha, put_other rfl]; exact T6
        replace T8 : (fun v _ => v = .pointer (some ⟨b49, 0, none⟩)) (a63.at 8) w62 := by rw [ha, put_other rfl]; exact T8
        replace T9 : (fun v _ => v = .int .i64 ((passR X (l[k]'hlt)).2 : Int)) (a63.at 9) w62 := by rw [ha, put_other rfl]; exact T9
        replace T31 : (fun v _ => v = .int .i64 ((k : Int) + 1)) (a63.at 31) w62 := by rw [ha, put_other rfl]; exact T31
        replace T7 : (fun v _ => v = .int .i64 ((k : Int) + 1)) (a63.at 7) w62 := by rw [ha, put_same N (by decide)]; skip
        replace N := (ha ▸ put_size _ _ _ : a63.tmps.size = _).trans N
        replace D := (ha ▸ put_defers' _ _ _ : a63.defers = _).trans D
        clear ha
        clear T31
        -- the round's end
        have hμ := HM.out
        refine ⟨_, by rw [hI37]; exact ⟨X, xx, cc, k + 1, lm, N, D, E, T1, T4, T5, T6, T7, R_b4, R_b9, SX, M32, rfl, ⟨hlt, hX, fX, hmap⟩⟩, ?_⟩
        omega
      · clear T42
        obtain ⟨hY, hnin, hYc⟩ := pass_went hX C60
        have hnew := hmap _ hnin
        have hYl : (((passR X (l[k]'hlt)).1.hops.length : Int) != ((X.hops.length : Int) + 1)) = false := by rw [hY]; simp
        have hYg : decide ((16 : Int) < ((passR X (l[k]'hlt)).1.hops.length : Int)) = false := by have := (checkE_ok hYc).2.1; exact decide_eq_false (by omega)
        have hYe : ((checkE (passR X (l[k]'hlt)).1 : Int) != 0) = false := by rw [hYc]; rfl
        have fY : Msg.Fits (passR X (l[k]'hlt)).1 := passR_fits fX hsz (le_max (by have := (checkE_ok hX).2.1; omega))
        refine wp_skip ?_
        refine hK56 _ _ ?_
        refine wp_seq_k (fun K64 hK64 => ?_)
        refine wp_seq_k (fun K65 hK65 => ?_)
        -- region 11: law.go:117
        show (Code.region 11 (rg Tryd.f6 11) false).wp _ _ _ _
        refine plain_list (n := 27) (N := 76) (deps := [[], [], [], [1, 2], [3], [0, 4], [5], [6], [6, 7], [6, 8], [6], [6, 10], [6, 11], [6, 12], [6, 9, 13], [6, 14], [15], [16], [16, 17], [16, 18], [16, 19], [16, 20], [21], [22], [22, 23], [22, 24], [22, 25]]) (F := [(fun v _ => v = .map (some mb31)), (fun v _ => v = .slice xl l.length cl), (fun v _ => v = .int .i64 (k : Int)), (fun v _ => v = .pointer (some ⟨gs, os + k * 1, none⟩)), (fun v _ => v = .string (l[k]'hlt)), (fun v _ => v = .bool false), (fun v _ => v = .bool false), (fun v _ => v = .pointer (some ⟨b49, 7, none⟩)), (IsStrs (((passR X (l[k]'hlt)).1).hops)), (fun v _ => v = .int .i64 ((((passR X (l[k]'hlt)).1).hops).length : Int)), (fun v _ => v = .pointer (some ⟨b9, 7, none⟩)), (IsStrs X.hops), (fun v _ => v = .int .i64 (X.hops.length : Int)), (fun v _ => v = .int .i64 ((X.hops.length : Int) + 1)), (fun v _ => v = .bool (((((passR X (l[k]'hlt)).1).hops).length : Int) != ((X.hops.length : Int) + 1))), (fun v _ => v = .bool (((((passR X (l[k]'hlt)).1).hops).length : Int) != ((X.hops.length : Int) + 1))), (fun v _ => v = .bool (((((passR X (l[k]'hlt)).1).hops).length : Int) != ((X.hops.length : Int) + 1))), (fun v w => (((((passR X (l[k]'hlt)).1).hops).length : Int) != ((X.hops.length : Int) + 1)) = false → (fun v _ => v = .pointer (some ⟨b49, 7, none⟩)) v w), (fun v w => (((((passR X (l[k]'hlt)).1).hops).length : Int) != ((X.hops.length : Int) + 1)) = false → (IsStrs (((passR X (l[k]'hlt)).1).hops)) v w), (fun v w => (((((passR X (l[k]'hlt)).1).hops).length : Int) != ((X.hops.length : Int) + 1)) = false → (fun v _ => v = .int .i64 ((((passR X (l[k]'hlt)).1).hops).length : Int)) v w), (fun v w => (((((passR X (l[k]'hlt)).1).hops).length : Int) != ((X.hops.length : Int) + 1)) = false → (fun v _ => v = .bool (decide ((16 : Int) < ((((passR X (l[k]'hlt)).1).hops).length : Int)))) v w), (fun v _ => v = .bool ((((((passR X (l[k]'hlt)).1).hops).length : Int) != ((X.hops.length : Int) + 1)) || (decide ((16 : Int) < ((((passR X (l[k]'hlt)).1).hops).length : Int))))), (fun v _ => v = .bool ((((((passR X (l[k]'hlt)).1).hops).length : Int) != ((X.hops.length : Int) + 1)) || (decide ((16 : Int) < ((((passR X (l[k]'hlt)).1).hops).length : Int))))), (fun v w => ((((((passR X (l[k]'hlt)).1).hops).length : Int) != ((X.hops.length : Int) + 1)) || (decide ((16 : Int) < ((((passR X (l[k]'hlt)).1).hops).length : Int)))) = false → (IsOwnB w43.heap.size ((passR X (l[k]'hlt)).1)) v w), (fun v w => ((((((passR X (l[k]'hlt)).1).hops).length : Int) != ((X.hops.length : Int) + 1)) || (decide ((16 : Int) < ((((passR X (l[k]'hlt)).1).hops).length : Int)))) = false → (fun v _ => v = .int .i64 (checkE ((passR X (l[k]'hlt)).1) : Int)) v w), (fun v w => ((((((passR X (l[k]'hlt)).1).hops).length : Int) != ((X.hops.length : Int) + 1)) || (decide ((16 : Int) < ((((passR X (l[k]'hlt)).1).hops).length : Int)))) = false → (fun v _ => v = .bool ((checkE ((passR X (l[k]'hlt)).1) : Int) != (0 : Int))) v w), (fun v _ => v = .bool (((((((passR X (l[k]'hlt)).1).hops).length : Int) != ((X.hops.length : Int) + 1)) || (decide ((16 : Int) < ((((passR X (l[k]'hlt)).1).hops).length : Int)))) || ((checkE ((passR X (l[k]'hlt)).1) : Int) != (0 : Int))))]) (by kernel_rfl) (by kernel_rfl) rfl (by kernel_rfl) ⟨(stab_eq _), (stab_eq _), (stab_eq _), (stab_eq _), (stab_eq _), (stab_eq _), (stab_eq _), (stab_eq _), (stab_strs _), (stab_eq _), (stab_eq _), (stab_strs _), (stab_eq _), (stab_eq _), (stab_eq _), (stab_eq _), (stab_eq _), (stab_imp (stab_eq _)), (stab_imp (stab_strs _)), (stab_imp (stab_eq _)), (stab_imp (stab_eq _)), (stab_eq _), (stab_eq _), (stab_imp (stab_ownB _ _)), (stab_imp (stab_eq _)), (stab_imp (stab_eq _)), (stab_eq _), trivial⟩ N (by kernel_rfl) ⟨?_, ?_, ?_, ?_, ?_, ?_, ?_, ?_, ?_, ?_, ?_, ?_, ?_, ?_, ?_, ?_, ?_, ?_, ?_, ?_, ?_, ?_, ?_, ?_, ?_, ?_, ?_, trivial⟩ ?_
        · -- 0 law.go:117
          rintro aa ww hE hF ⟨-⟩
          have o6 : aa.eval (.tmp 6) = .map (some mb31) := hF.carry (fun v _ => v = .map (some mb31)) rfl (stab_eq _) hE T6
          exact opAt rfl (ok_run rfl (run_here rfl (ex_move (.inl rfl) o6) ( rfl)))
        · -- 1 law.go:117
          rintro aa ww hE hF ⟨-⟩
          have o1 : aa.eval (.tmp 1) = .slice xl l.length cl := hF.carry (fun v _ => v = .slice xl l.length cl) rfl (stab_eq _) hE T1
          exact opAt rfl (ok_run rfl (run_here rfl (ex_move (.inl rfl) o1) ( rfl)))
        · -- 2 law.go:117
          rintro aa ww hE hF ⟨-⟩
          have o7 : aa.eval (.tmp 7) = .int .i64 (k : Int) := hF.carry (fun v _ => v = .int .i64 (k : Int)) rfl (stab_eq _) hE T7
          exact opAt rfl (ok_run rfl (run_here rfl (ex_move (.inl rfl) o7) ( rfl)))
        · -- 3 law.go:117
          rintro aa ww hE hF ⟨d1, d2, -⟩
          replace d1 : aa.eval (.tmp 44) = .slice xl l.length cl := d1
          replace d2 : aa.eval (.tmp 45) = .int .i64 (k : Int) := d2
          exact opAt rfl (ok_run rfl (run_here rfl (ex_indexAddr rfl (by rw [show aa.eval (.tmp 44) = .slice xl l.length cl from d1, show aa.eval (.tmp 45) = .int .i64 (k : Int) from d2, eS]; exact index_slice Tryd.underlying24 hlt (fun w => Tryd.sizeOf9 w))) ( rfl)))
        · -- 4 law.go:117
          rintro aa ww hE hF ⟨d3, -⟩
          replace d3 : aa.eval (.tmp 46) = .pointer (some ⟨gs, os + k * 1, none⟩) := d3
          exact opAt rfl (ok_run rfl (run_here rfl (ex_load rfl d3 (load_cell Tryd.isAgg9 (str_get (ls.below (E.trans hE)) eS (get_lt hlt)))) ( rfl)))
        · -- 5 law.go:117
          rintro aa ww hE hF ⟨d0, d4, -⟩
          replace d0 : aa.eval (.tmp 43) = .map (some mb31) := d0
          replace d4 : aa.eval (.tmp 47) = .string (l[k]'hlt) := d4
          exact opAt rfl (ok_run rfl (run_here rfl (ex_lookup rfl (by rw [show aa.eval (.tmp 43) = .map (some mb31) from d0, show aa.eval (.tmp 47) = .string (l[k]'hlt) from d4]; exact look1 (strKey Tryd.underlying9) Tryd.underlying48 (M32.ext hE) _ (Tryd.zeroValue4 _))) ( hnew)))
        · -- 6 law.go:117
          rintro aa ww hE hF ⟨d5, -⟩
          replace d5 : aa.eval (.tmp 48) = .bool false := d5
          exact opAt rfl (ok_run rfl (run_here rfl (ex_move (.inl rfl) d5) ( rfl)))
        · -- 7 law.go:117
          rintro aa ww hE hF ⟨d6, -⟩
          replace d6 : aa.eval (.tmp 49) = .bool false := d6
          have o8 : aa.eval (.tmp 8) = .pointer (some ⟨b49, 0, none⟩) := hF.carry (fun v _ => v = .pointer (some ⟨b49, 0, none⟩)) rfl (stab_eq _) hE T8
          exact opAt rfl (ok_guard rfl d6 (fun _ => run_here rfl (ex_fieldAddr rfl o8 Tryd.underlying29 rfl (fun w => ⟨_, Tryd.sizeOf24 w⟩) rfl) ( rfl)) (fun hn => absurd rfl hn))
        · -- 8 law.go:117
          rintro aa ww hE hF ⟨d6, d7, -⟩
          replace d6 : aa.eval (.tmp 49) = .bool false := d6
          replace d7 : aa.eval (.tmp 50) = .pointer (some ⟨b49, 7, none⟩) := d7
          exact opAt rfl (ok_guard rfl d6 (fun _ => run_here rfl (ex_load rfl d7 (load_cell Tryd.isAgg24 ((cell_row (hE.row R_b49) 7).trans rfl))) ( (S51.ext hE).strsAt)) (fun hn => absurd rfl hn))
        · -- 9 law.go:117
          rintro aa ww hE hF ⟨d6, d8, -⟩
          replace d6 : aa.eval (.tmp 49) = .bool false := d6
          replace d8 : (IsStrs (((passR X (l[k]'hlt)).1).hops)) (aa.eval (.tmp 51)) ww := d8
          exact opAt rfl (ok_guard rfl d6 (fun _ => run_here rfl (ex_builtin rfl (fun cs => by obtain ⟨_, _, e⟩ := strs_form (d8); simp only [List.map_toArray, List.map_cons, List.map_nil, e]; exact len_slice Tryd.underlying24)) ( rfl)) (fun hn => absurd rfl hn))
        · -- 10 law.go:117
          rintro aa ww hE hF ⟨d6, -⟩
          replace d6 : aa.eval (.tmp 49) = .bool false := d6
          have o5 : aa.eval (.tmp 5) = .pointer (some ⟨b9, 0, none⟩) := hF.carry (fun v _ => v = .pointer (some ⟨b9, 0, none⟩)) rfl (stab_eq _) hE T5
          exact opAt rfl (ok_guard rfl d6 (fun _ => run_here rfl (ex_fieldAddr rfl o5 Tryd.underlying29 rfl (fun w => ⟨_, Tryd.sizeOf24 w⟩) rfl) ( rfl)) (fun hn => absurd rfl hn))
        · -- 11 law.go:117
          rintro aa ww hE hF ⟨d6, d10, -⟩
          replace d6 : aa.eval (.tmp 49) = .bool false := d6
          replace d10 : aa.eval (.tmp 53) = .pointer (some ⟨b9, 7, none⟩) := d10
          exact opAt rfl (ok_guard rfl d6 (fun _ => run_here rfl (ex_load rfl d10 (load_cell Tryd.isAgg24 ((cell_row (hE.row R_b9) 7).trans rfl))) ( (SX.ext hE).strsAt)) (fun hn => absurd rfl hn))
        · -- 12 law.go:117
          rintro aa ww hE hF ⟨d6, d11, -⟩
          replace d6 : aa.eval (.tmp 49) = .bool false := d6
          replace d11 : (IsStrs X.hops) (aa.eval (.tmp 54)) ww := d11
          exact opAt rfl (ok_guard rfl d6 (fun _ => run_here rfl (ex_builtin rfl (fun cs => by obtain ⟨_, _, e⟩ := strs_form (d11); simp only [List.map_toArray, List.map_cons, List.map_nil, e]; exact len_slice Tryd.underlying24)) ( rfl)) (fun hn => absurd rfl hn))
        · -- 13 law.go:117
          rintro aa ww hE hF ⟨d6, d12, -⟩
          replace d6 : aa.eval (.tmp 49) = .bool false := d6
          replace d12 : aa.eval (.tmp 55) = .int .i64 (X.hops.length : Int) := d12
          exact opAt rfl (ok_guard rfl d6 (fun _ => run_here rfl (ex_binOp rfl (by rw [show aa.eval (.tmp 55) = .int .i64 (X.hops.length : Int) from d12, show aa.eval (.const (.int .i64 1)) = .int .i64 1 from (ev_const (v := .int .i64 1))]; exact eqg_int) (by rw [show aa.eval (.tmp 55) = .int .i64 (X.hops.length : Int) from d12, show aa.eval (.const (.int .i64 1)) = .int .i64 1 from (ev_const (v := .int .i64 1))]; exact bin_addN (by omega) (by omega))) ( rfl)) (fun hn => absurd rfl hn))
        · -- 14 law.go:117
          rintro aa ww hE hF ⟨d6, d9, d13, -⟩
          replace d6 : aa.eval (.tmp 49) = .bool false := d6
          replace d9 : aa.eval (.tmp 52) = .int .i64 ((((passR X (l[k]'hlt)).1).hops).length : Int) := d9
          replace d13 : aa.eval (.tmp 56) = .int .i64 ((X.hops.length : Int) + 1) := d13
          exact opAt rfl (ok_guard rfl d6 (fun _ => run_here rfl (ex_binOp rfl (by rw [show aa.eval (.tmp 52) = .int .i64 ((((passR X (l[k]'hlt)).1).hops).length : Int) from d9, show aa.eval (.tmp 56) = .int .i64 ((X.hops.length : Int) + 1) from d13]; exact eqg_int) (by rw [show aa.eval (.tmp 52) = .int .i64 ((((passR X (l[k]'hlt)).1).hops).length : Int) from d9, show aa.eval (.tmp 56) = .int .i64 ((X.hops.length : Int) + 1) from d13]; exact bin_neq)) ( rfl)) (fun hn => absurd rfl hn))
        · -- 15 law.go:117
          rintro aa ww hE hF ⟨d6, d14, -⟩
          replace d6 : aa.eval (.tmp 49) = .bool false := d6
          replace d14 : aa.eval (.tmp 57) = .bool (((((passR X (l[k]'hlt)).1).hops).length : Int) != ((X.hops.length : Int) + 1)) := d14
          exact opAt rfl (ok_run rfl (run_here rfl (ex_pick_or rfl d6 (fun hp => d14)) ( rfl)))
        · -- 16 law.go:117
          rintro aa ww hE hF ⟨d15, -⟩
          replace d15 : aa.eval (.tmp 58) = .bool (((((passR X (l[k]'hlt)).1).hops).length : Int) != ((X.hops.length : Int) + 1)) := d15
          exact opAt rfl (ok_run rfl (run_here rfl (ex_move (.inl rfl) d15) ( rfl)))
        · -- 17 law.go:117
          rintro aa ww hE hF ⟨d16, -⟩
          replace d16 : aa.eval (.tmp 59) = .bool (((((passR X (l[k]'hlt)).1).hops).length : Int) != ((X.hops.length : Int) + 1)) := d16
          have o8 : aa.eval (.tmp 8) = .pointer (some ⟨b49, 0, none⟩) := hF.carry (fun v _ => v = .pointer (some ⟨b49, 0, none⟩)) rfl (stab_eq _) hE T8
          exact opAt rfl (ok_guard rfl d16 (fun hc => run_here rfl (ex_fieldAddr rfl o8 Tryd.underlying29 rfl (fun w => ⟨_, Tryd.sizeOf24 w⟩) rfl) (fun _ =>  rfl)) (fun hn hc => absurd hc hn))
        · -- 18 law.go:117
          rintro aa ww hE hF ⟨d16, d17, -⟩
          replace d16 : aa.eval (.tmp 59) = .bool (((((passR X (l[k]'hlt)).1).hops).length : Int) != ((X.hops.length : Int) + 1)) := d16
          replace d17 : (((((passR X (l[k]'hlt)).1).hops).length : Int) != ((X.hops.length : Int) + 1)) = false → aa.eval (.tmp 60) = .pointer (some ⟨b49, 7, none⟩) := d17
          exact opAt rfl (ok_guard rfl d16 (fun hc => run_here rfl (ex_load rfl (d17 hc) (load_cell Tryd.isAgg24 ((cell_row (hE.row R_b49) 7).trans rfl))) (fun _ =>  (S51.ext hE).strsAt)) (fun hn hc => absurd hc hn))
        · -- 19 law.go:117
          rintro aa ww hE hF ⟨d16, d18, -⟩
          replace d16 : aa.eval (.tmp 59) = .bool (((((passR X (l[k]'hlt)).1).hops).length : Int) != ((X.hops.length : Int) + 1)) := d16
          replace d18 : (((((passR X (l[k]'hlt)).1).hops).length : Int) != ((X.hops.length : Int) + 1)) = false → (IsStrs (((passR X (l[k]'hlt)).1).hops)) (aa.eval (.tmp 61)) ww := d18
          exact opAt rfl (ok_guard rfl d16 (fun hc => run_here rfl (ex_builtin rfl (fun cs => by obtain ⟨_, _, e⟩ := strs_form ((d18 hc)); simp only [List.map_toArray, List.map_cons, List.map_nil, e]; exact len_slice Tryd.underlying24)) (fun _ =>  rfl)) (fun hn hc => absurd hc hn))
        · -- 20 law.go:117
          rintro aa ww hE hF ⟨d16, d19, -⟩
          replace d16 : aa.eval (.tmp 59) = .bool (((((passR X (l[k]'hlt)).1).hops).length : Int) != ((X.hops.length : Int) + 1)) := d16
          replace d19 : (((((passR X (l[k]'hlt)).1).hops).length : Int) != ((X.hops.length : Int) + 1)) = false → aa.eval (.tmp 62) = .int .i64 ((((passR X (l[k]'hlt)).1).hops).length : Int) := d19
          exact opAt rfl (ok_guard rfl d16 (fun hc => run_here rfl (ex_binOp rfl (by rw [show aa.eval (.tmp 62) = .int .i64 ((((passR X (l[k]'hlt)).1).hops).length : Int) from (d19 hc), show aa.eval (.const (.int .i64 16)) = .int .i64 16 from (ev_const (v := .int .i64 16))]; exact eqg_int) (by rw [show aa.eval (.tmp 62) = .int .i64 ((((passR X (l[k]'hlt)).1).hops).length : Int) from (d19 hc), show aa.eval (.const (.int .i64 16)) = .int .i64 16 from (ev_const (v := .int .i64 16))]; exact bin_gtr)) (fun _ =>  rfl)) (fun hn hc => absurd hc hn))
        · -- 21 law.go:117
          rintro aa ww hE hF ⟨d16, d20, -⟩
          replace d16 : aa.eval (.tmp 59) = .bool (((((passR X (l[k]'hlt)).1).hops).length : Int) != ((X.hops.length : Int) + 1)) := d16
          replace d20 : (((((passR X (l[k]'hlt)).1).hops).length : Int) != ((X.hops.length : Int) + 1)) = false → aa.eval (.tmp 63) = .bool (decide ((16 : Int) < ((((passR X (l[k]'hlt)).1).hops).length : Int))) := d20
          exact opAt rfl (ok_run rfl (run_here rfl (ex_pick_or rfl d16 (fun hp => (d20 hp))) ( rfl)))
        · -- 22 law.go:117
          rintro aa ww hE hF ⟨d21, -⟩
          replace d21 : aa.eval (.tmp 64) = .bool ((((((passR X (l[k]'hlt)).1).hops).length : Int) != ((X.hops.length : Int) + 1)) || (decide ((16 : Int) < ((((passR X (l[k]'hlt)).1).hops).length : Int)))) := d21
          exact opAt rfl (ok_run rfl (run_here rfl (ex_move (.inl rfl) d21) ( rfl)))
        · -- 23 law.go:117
          rintro aa ww hE hF ⟨d22, -⟩
          replace d22 : aa.eval (.tmp 65) = .bool ((((((passR X (l[k]'hlt)).1).hops).length : Int) != ((X.hops.length : Int) + 1)) || (decide ((16 : Int) < ((((passR X (l[k]'hlt)).1).hops).length : Int)))) := d22
          have o8 : aa.eval (.tmp 8) = .pointer (some ⟨b49, 0, none⟩) := hF.carry (fun v _ => v = .pointer (some ⟨b49, 0, none⟩)) rfl (stab_eq _) hE T8
          exact opAt rfl (ok_guard rfl d22 (fun hc => run_here rfl (ex_load rfl o8 (load_row (hE.row R_b49) Tryd.underlying29 rfl (by kernel_rfl))) (fun _ =>  ⟨_, rfl, S51.ext hE⟩)) (fun hn hc => absurd hc hn))
        · -- 24 law.go:117
          rintro aa ww hE hF ⟨d22, d23, -⟩
          replace d22 : aa.eval (.tmp 65) = .bool ((((((passR X (l[k]'hlt)).1).hops).length : Int) != ((X.hops.length : Int) + 1)) || (decide ((16 : Int) < ((((passR X (l[k]'hlt)).1).hops).length : Int)))) := d22
          replace d23 : ((((((passR X (l[k]'hlt)).1).hops).length : Int) != ((X.hops.length : Int) + 1)) || (decide ((16 : Int) < ((((passR X (l[k]'hlt)).1).hops).length : Int)))) = false → (IsOwnB w43.heap.size ((passR X (l[k]'hlt)).1)) (aa.eval (.tmp 66)) ww := d23
          exact opAt rfl (ok_guard rfl d22 (fun hc => run_callR (ψ := (fun v _ => v = .int .i64 (checkE ((passR X (l[k]'hlt)).1) : Int))) rfl Tryd.call15 (by
      obtain ⟨hv0, e0, s0⟩ := IsOwnB.msg ((d23 hc))
      simp only [List.map_toArray, List.map_cons, List.map_nil, e0]
      exact ret_below (check_c _ _ _ fY s0)) (fun _ _ h => fun _ =>  h)) (fun hn hc => absurd hc hn))
        · -- 25 law.go:117
          rintro aa ww hE hF ⟨d22, d24, -⟩
          replace d22 : aa.eval (.tmp 65) = .bool ((((((passR X (l[k]'hlt)).1).hops).length : Int) != ((X.hops.length : Int) + 1)) || (decide ((16 : Int) < ((((passR X (l[k]'hlt)).1).hops).length : Int)))) := d22
          replace d24 : ((((((passR X (l[k]'hlt)).1).hops).length : Int) != ((X.hops.length : Int) + 1)) || (decide ((16 : Int) < ((((passR X (l[k]'hlt)).1).hops).length : Int)))) = false → aa.eval (.tmp 67) = .int .i64 (checkE ((passR X (l[k]'hlt)).1) : Int) := d24
          exact opAt rfl (ok_guard rfl d22 (fun hc => run_here rfl (ex_binOp rfl (by rw [show aa.eval (.tmp 67) = .int .i64 (checkE ((passR X (l[k]'hlt)).1) : Int) from (d24 hc), show aa.eval (.const (.int .i64 0)) = .int .i64 0 from (ev_const (v := .int .i64 0))]; exact eqg_int) (by rw [show aa.eval (.tmp 67) = .int .i64 (checkE ((passR X (l[k]'hlt)).1) : Int) from (d24 hc), show aa.eval (.const (.int .i64 0)) = .int .i64 0 from (ev_const (v := .int .i64 0))]; exact bin_neq)) (fun _ =>  rfl)) (fun hn hc => absurd hc hn))
        · -- 26 law.go:117
          rintro aa ww hE hF ⟨d22, d25, -⟩
          replace d22 : aa.eval (.tmp 65) = .bool ((((((passR X (l[k]'hlt)).1).hops).length : Int) != ((X.hops.length : Int) + 1)) || (decide ((16 : Int) < ((((passR X (l[k]'hlt)).1).hops).length : Int)))) := d22
          replace d25 : ((((((passR X (l[k]'hlt)).1).hops).length : Int) != ((X.hops.length : Int) + 1)) || (decide ((16 : Int) < ((((passR X (l[k]'hlt)).1).hops).length : Int)))) = false → aa.eval (.tmp 68) = .bool ((checkE ((passR X (l[k]'hlt)).1) : Int) != (0 : Int)) := d25
          exact opAt rfl (ok_run rfl (run_here rfl (ex_pick_or rfl d22 (fun hp => (d25 hp))) ( rfl)))
        intro a66 w67 hE hF hfac hap
        obtain ⟨f0, f1, f2, f3, f4, f5, f6, f7, f8, f9, f10, f11, f12, f13, f14, f15, f16, f17, f18, f19, f20, f21, f22, f23, f24, f25, f26, -⟩ := hfac
        replace N := hF.size.trans N
        replace D := hF.defers.trans D
        replace R_b4 := hE.row R_b4
        replace R_b9 := hE.row R_b9
        replace R_b49 := hE.row R_b49
        replace SX : OwnStrs 0 X.hops w67 (.slice xx X.hops.length cc) := SX.ext hE
        replace M32 : MapIs sKey w67 mb31 lm := M32.ext hE
        replace S51 : OwnStrs w43.heap.size (((passR X (l[k]'hlt)).1).hops) w67 (.slice x52 ((((passR X (l[k]'hlt)).1).hops).length) c53) := S51.ext hE
        replace T1 : (fun v _ => v = .slice xl l.length cl) (a66.at 1) w67 := hF.carry (fun v _ => v = .slice xl l.length cl) rfl (stab_eq _) hE T1
        replace T4 : (fun v _ => v = .bool false) (a66.at 4) w67 := hF.carry (fun v _ => v = .bool false) rfl (stab_eq _) hE T4
        replace T5 : (fun v _ => v = .pointer (some ⟨b9, 0, none⟩)) (a66.at 5) w67 := hF.carry (fun v _ => v = .pointer (some ⟨b9, 0, none⟩)) rfl (stab_eq _) hE T5
        replace T6 : (fun v _ => v = .map (some mb31)) (a66.at 6) w67 := hF.carry (fun v _ => v = .map (some mb31)) rfl (stab_eq _) hE T6
        replace T7 : (fun v _ => v = .int .i64 (k : Int)) (a66.at 7) w67 := hF.carry (fun v _ => v = .int .i64 (k : Int)) rfl (stab_eq _) hE T7
        replace T8 : (fun v _ => v = .pointer (some ⟨b49, 0, none⟩)) (a66.at 8) w67 := hF.carry (fun v _ => v = .pointer (some ⟨b49, 0, none⟩)) rfl (stab_eq _) hE T8
        replace T9 : (fun v _ => v = .int .i64 ((passR X (l[k]'hlt)).2 : Int)) (a66.at 9) w67 := hF.carry (fun v _ => v = .int .i64 ((passR X (l[k]'hlt)).2 : Int)) rfl (stab_eq _) hE T9
        have T69 : (fun v _ => v = .bool (((((((passR X (l[k]'hlt)).1).hops).length : Int) != ((X.hops.length : Int) + 1)) || (decide ((16 : Int) < ((((passR X (l[k]'hlt)).1).hops).length : Int)))) || ((checkE ((passR X (l[k]'hlt)).1) : Int) != (0 : Int)))) (a66.at 69) w67 := f26
        replace E := E.trans hE
        clear hE hF hap
        show wpOps _ (rg Tryd.f6 11) _ [] _ _
        refine hK65 _ _ ?_
        refine wp_cond_split (t := (((((((passR X (l[k]'hlt)).1).hops).length : Int) != ((X.hops.length : Int) + 1)) || (decide ((16 : Int) < ((((passR X (l[k]'hlt)).1).hops).length : Int)))) || ((checkE ((passR X (l[k]'hlt)).1) : Int) != (0 : Int)))) T69 (fun C68 => ?_) (fun C68 => ?_)
        · clear T69
          rw [hYl, hYg, hYe] at C68
          exact absurd C68 (by decide)
        · clear T69
          refine wp_skip ?_
          refine hK64 _ _ ?_
          refine wp_seq_k (fun K69 hK69 => ?_)
          -- region 13: law.go:120
          show (Code.region 13 (rg Tryd.f6 13) false).wp _ _ _ _
          refine plain_list (n := 5) (N := 76) (deps := [[], [], [], [1, 2], [3]]) (F := [(fun v _ => v = .map (some mb31)), (fun v _ => v = .slice xl l.length cl), (fun v _ => v = .int .i64 (k : Int)), (fun v _ => v = .pointer (some ⟨gs, os + k * 1, none⟩)), (fun v _ => v = .string (l[k]'hlt))]) (by kernel_rfl) (by kernel_rfl) rfl (by kernel_rfl) ⟨(stab_eq _), (stab_eq _), (stab_eq _), (stab_eq _), (stab_eq _), trivial⟩ N (by kernel_rfl) ⟨?_, ?_, ?_, ?_, ?_, trivial⟩ ?_
          · -- 0 law.go:120
            rintro aa ww hE hF ⟨-⟩
            have o6 : aa.eval (.tmp 6) = .map (some mb31) := hF.carry (fun v _ => v = .map (some mb31)) rfl (stab_eq _) hE T6
            exact opAt rfl (ok_run rfl (run_here rfl (ex_move (.inl rfl) o6) ( rfl)))
          · -- 1 law.go:120
            rintro aa ww hE hF ⟨-⟩
            have o1 : aa.eval (.tmp 1) = .slice xl l.length cl := hF.carry (fun v _ => v = .slice xl l.length cl) rfl (stab_eq _) hE T1
            exact opAt rfl (ok_run rfl (run_here rfl (ex_move (.inl rfl) o1) ( rfl)))
          · -- 2 law.go:120
            rintro aa ww hE hF ⟨-⟩
            have o7 : aa.eval (.tmp 7) = .int .i64 (k : Int) := hF.carry (fun v _ => v = .int .i64 (k : Int)) rfl (stab_eq _) hE T7
            exact opAt rfl (ok_run rfl (run_here rfl (ex_move (.inl rfl) o7) ( rfl)))
          · -- 3 law.go:120
            rintro aa ww hE hF ⟨d1, d2, -⟩
            replace d1 : aa.eval (.tmp 71) = .slice xl l.length cl := d1
            replace d2 : aa.eval (.tmp 72) = .int .i64 (k : Int) := d2
            exact opAt rfl (ok_run rfl (run_here rfl (ex_indexAddr rfl (by rw [show aa.eval (.tmp 71) = .slice xl l.length cl from d1, show aa.eval (.tmp 72) = .int .i64 (k : Int) from d2, eS]; exact index_slice Tryd.underlying24 hlt (fun w => Tryd.sizeOf9 w))) ( rfl)))
          · -- 4 law.go:120
            rintro aa ww hE hF ⟨d3, -⟩
            replace d3 : aa.eval (.tmp 73) = .pointer (some ⟨gs, os + k * 1, none⟩) := d3
            exact opAt rfl (ok_run rfl (run_here rfl (ex_load rfl d3 (load_cell Tryd.isAgg9 (str_get (ls.below (E.trans hE)) eS (get_lt hlt)))) ( rfl)))
          intro a70 w71 hE hF hfac hap
          obtain ⟨f0, f1, f2, f3, f4, -⟩ := hfac
          replace N := hF.size.trans N
          replace D := hF.defers.trans D
          replace R_b4 := hE.row R_b4
          replace R_b9 := hE.row R_b9
          replace R_b49 := hE.row R_b49
          replace SX : OwnStrs 0 X.hops w71 (.slice xx X.hops.length cc) := SX.ext hE
          replace M32 : MapIs sKey w71 mb31 lm := M32.ext hE
          replace S51 : OwnStrs w43.heap.size (((passR X (l[k]'hlt)).1).hops) w71 (.slice x52 ((((passR X (l[k]'hlt)).1).hops).length) c53) := S51.ext hE
          replace T1 : (fun v _ => v = .slice xl l.length cl) (a70.at 1) w71 := hF.carry (fun v _ => v = .slice xl l.length cl) rfl (stab_eq _) hE T1
          replace T4 : (fun v _ => v = .bool false) (a70.at 4) w71 := hF.carry (fun v _ => v = .bool false) rfl (stab_eq _) hE T4
          replace T5 : (fun v _ => v = .pointer (some ⟨b9, 0, none⟩)) (a70.at 5) w71 := hF.carry (fun v _ => v = .pointer (some ⟨b9, 0, none⟩)) rfl (stab_eq _) hE T5
          replace T6 : (fun v _ => v = .map (some mb31)) (a70.at 6) w71 := hF.carry (fun v _ => v = .map (some mb31)) rfl (stab_eq _) hE T6
          replace T7 : (fun v _ => v = .int .i64 (k : Int)) (a70.at 7) w71 := hF.carry (fun v _ => v = .int .i64 (k : Int)) rfl (stab_eq _) hE T7
          replace T8 : (fun v _ => v = .pointer (some ⟨b49, 0, none⟩)) (a70.at 8) w71 := hF.carry (fun v _ => v = .pointer (some ⟨b49, 0, none⟩)) rfl (stab_eq _) hE T8
          replace T9 : (fun v _ => v = .int .i64 ((passR X (l[k]'hlt)).2 : Int)) (a70.at 9) w71 := hF.carry (fun v _ => v = .int .i64 ((passR X (l[k]'hlt)).2 : Int)) rfl (stab_eq _) hE T9
          have T70 : (fun v _ => v = .map (some mb31)) (a70.at 70) w71 := f0
          have T74 : (fun v _ => v = .string (l[k]'hlt)) (a70.at 74) w71 := f4
          replace E := E.trans hE
          clear hE hF hap
          show wpOps _ (rg Tryd.f6 13) _ [5] _ _
          obtain ⟨ob73, hrun, hmp⟩ := upd1 (strKey Tryd.underlying9) Tryd.underlying48 M32 (l[k]'hlt) (.bool true)
          refine tail_do rfl rfl rfl (ex_mapUpdate rfl (by rw [show a70.eval (.tmp 70) = .map (some mb31) from (show a70.eval (.tmp 70) = .map (some mb31) from T70), show a70.eval (.tmp 74) = .string (l[k]'hlt) from (show a70.eval (.tmp 74) = .string (l[k]'hlt) from T74)]; exact hrun)) ?_
          obtain ⟨w72, hw⟩ : ∃ y : World, y = setBlk w71 mb31 ob73 := ⟨_, rfl⟩
          rw [← hw] at hmp ⊢
          replace R_b4 := hw ▸ row_setBlk M32 R_b4 ob73
          replace R_b9 := hw ▸ row_setBlk M32 R_b9 ob73
          replace R_b49 := hw ▸ row_setBlk M32 R_b49 ob73
          replace E : Ext w w72 := hw ▸ below_setBlk E B_mb31 ob73
          replace SX : OwnStrs 0 X.hops w72 (.slice xx X.hops.length cc) := hw ▸ own_setBlk M32 SX ob73
          replace S51 : OwnStrs w43.heap.size (((passR X (l[k]'hlt)).1).hops) w72 (.slice x52 ((((passR X (l[k]'hlt)).1).hops).length) c53) := hw ▸ own_setBlk M32 S51 ob73
          replace M32 : MapIs sKey w72 mb31 (setK lm (l[k]'hlt) (.bool true)) := hmp
          replace T1 : (fun v _ => v = .slice xl l.length cl) (a70.at 1) w72 := T1
          replace T4 : (fun v _ => v = .bool false) (a70.at 4) w72 := T4
          replace T5 : (fun v _ => v = .pointer (some ⟨b9, 0, none⟩)) (a70.at 5) w72 := T5
          replace T6 : (fun v _ => v = .map (some mb31)) (a70.at 6) w72 := T6
          replace T7 : (fun v _ => v = .int .i64 (k : Int)) (a70.at 7) w72 := T7
          replace T8 : (fun v _ => v = .pointer (some ⟨b49, 0, none⟩)) (a70.at 8) w72 := T8
          replace T9 : (fun v _ => v = .int .i64 ((passR X (l[k]'hlt)).2 : Int)) (a70.at 9) w72 := T9
          replace T70 : (fun v _ => v = .map (some mb31)) (a70.at 70) w72 := T70
          replace T74 : (fun v _ => v = .string (l[k]'hlt)) (a70.at 74) w72 := T74
          clear hw hrun hmp
          clear T70
          clear T74
          refine hK69 _ _ ?_
          -- region 14: law.go:121
          show (Code.region 14 (rg Tryd.f6 14) false).wp _ _ _ _
          refine plain_list (n := 1) (N := 76) (deps := [[]]) (F := [(IsOwnB w43.heap.size ((passR X (l[k]'hlt)).1))]) (by kernel_rfl) (by kernel_rfl) rfl (by kernel_rfl) ⟨(stab_ownB _ _), trivial⟩ N (by kernel_rfl) ⟨?_, trivial⟩ ?_
          · -- 0 law.go:121
            rintro aa ww hE hF ⟨-⟩
            have o8 : aa.eval (.tmp 8) = .pointer (some ⟨b49, 0, none⟩) := hF.carry (fun v _ => v = .pointer (some ⟨b49, 0, none⟩)) rfl (stab_eq _) hE T8
            exact opAt rfl (ok_run rfl (run_here rfl (ex_load rfl o8 (load_row (hE.row R_b49) Tryd.underlying29 rfl (by kernel_rfl))) ( ⟨_, rfl, S51.ext hE⟩)))
          intro a74 w75 hE hF hfac hap
          obtain ⟨f0, -⟩ := hfac
          replace N := hF.size.trans N
          replace D := hF.defers.trans D
          replace R_b4 := hE.row R_b4
          replace R_b9 := hE.row R_b9
          replace R_b49 := hE.row R_b49
          replace SX : OwnStrs 0 X.hops w75 (.slice xx X.hops.length cc) := SX.ext hE
          replace M32 : MapIs sKey w75 mb31 (setK lm (l[k]'hlt) (.bool true)) := M32.ext hE
          replace S51 : OwnStrs w43.heap.size (((passR X (l[k]'hlt)).1).hops) w75 (.slice x52 ((((passR X (l[k]'hlt)).1).hops).length) c53) := S51.ext hE
          replace T1 : (fun v _ => v = .slice xl l.length cl) (a74.at 1) w75 := hF.carry (fun v _ => v = .slice xl l.length cl) rfl (stab_eq _) hE T1
          replace T4 : (fun v _ => v = .bool false) (a74.at 4) w75 := hF.carry (fun v _ => v = .bool false) rfl (stab_eq _) hE T4
          replace T5 : (fun v _ => v = .pointer (some ⟨b9, 0, none⟩)) (a74.at 5) w75 := hF.carry (fun v _ => v = .pointer (some ⟨b9, 0, none⟩)) rfl (stab_eq _) hE T5
          replace T6 : (fun v _ => v = .map (some mb31)) (a74.at 6) w75 := hF.carry (fun v _ => v = .map (some mb31)) rfl (stab_eq _) hE T6
          replace T7 : (fun v _ => v = .int .i64 (k : Int)) (a74.at 7) w75 := hF.carry (fun v _ => v = .int .i64 (k : Int)) rfl (stab_eq _) hE T7
          replace T8 : (fun v _ => v = .pointer (some ⟨b49, 0, none⟩)) (a74.at 8) w75 := hF.carry (fun v _ => v = .pointer (some ⟨b49, 0, none⟩)) rfl (stab_eq _) hE T8
          replace T9 : (fun v _ => v = .int .i64 ((passR X (l[k]'hlt)).2 : Int)) (a74.at 9) w75 := hF.carry (fun v _ => v = .int .i64 ((passR X (l[k]'hlt)).2 : Int)) rfl (stab_eq _) hE T9
          have T75 : (IsOwnB w43.heap.size ((passR X (l[k]'hlt)).1)) (a74.at 75) w75 := f0
          replace E := E.trans hE
          clear hE hF hap
          obtain ⟨hv76, T75, S77⟩ := T75
          obtain ⟨x78, c79, rfl⟩ := ownStrs_len S77
          replace T75 : (fun v _ => v = .agg (msgC ((passR X (l[k]'hlt)).1) (.slice x78 ((((passR X (l[k]'hlt)).1).hops).length) c79))) (a74.at 75) w75 := T75
          show wpOps _ (rg Tryd.f6 14) _ [1] _ _
          refine tail_do rfl rfl rfl (ex_store rfl (show a74.eval (.tmp 5) = .pointer (some ⟨b9, 0, none⟩) from T5) (by rw [show a74.eval (.tmp 75) = .agg (msgC ((passR X (l[k]'hlt)).1) (.slice x78 ((((passR X (l[k]'hlt)).1).hops).length) c79)) from (show a74.eval (.tmp 75) = .agg (msgC ((passR X (l[k]'hlt)).1) (.slice x78 ((((passR X (l[k]'hlt)).1).hops).length) c79)) from T75)]; exact store_row R_b9 (by kernel_rfl) rfl (ownB_cell S77))) ?_
          obtain ⟨w80, hw⟩ : ∃ x : World, x = w75.setRow b9 (msgC ((passR X (l[k]'hlt)).1) (.slice x78 ((((passR X (l[k]'hlt)).1).hops).length) c79)) := ⟨_, rfl⟩
          rw [← hw]
          replace R_b4 := hw ▸ row_other R_b4 (by first | exact NE_b4_b9 | exact NE_b9_b4.symm)
          replace R_b49 := hw ▸ row_other R_b49 (by first | exact NE_b49_b9 | exact NE_b9_b49.symm)
          replace E : Ext w w80 := hw ▸ below_row E B_b9
          replace T1 : (fun v _ => v = .slice xl l.length cl) (a74.at 1) w80 := T1
          replace T4 : (fun v _ => v = .bool false) (a74.at 4) w80 := T4
          replace T5 : (fun v _ => v = .pointer (some ⟨b9, 0, none⟩)) (a74.at 5) w80 := T5
          replace T6 : (fun v _ => v = .map (some mb31)) (a74.at 6) w80 := T6
          replace T7 : (fun v _ => v = .int .i64 (k : Int)) (a74.at 7) w80 := T7
          replace T8 : (fun v _ => v = .pointer (some ⟨b49, 0, none⟩)) (a74.at 8) w80 := T8
          replace T9 : (fun v _ => v = .int .i64 ((passR X (l[k]'hlt)).2 : Int)) (a74.at 9) w80 := T9
          replace T75 : (fun v _ => v = .agg (msgC ((passR X (l[k]'hlt)).1) (.slice x78 ((((passR X (l[k]'hlt)).1).hops).length) c79))) (a74.at 75) w80 := T75
          replace SX : OwnStrs 0 X.hops w80 (.slice xx X.hops.length cc) := hw ▸ SX.setRow R_b9 rfl
          replace M32 : MapIs sKey w80 mb31 (setK lm (l[k]'hlt) (.bool true)) := hw ▸ M32.setRow R_b9 rfl
          replace S51 : OwnStrs w43.heap.size (((passR X (l[k]'hlt)).1).hops) w80 (.slice x52 ((((passR X (l[k]'hlt)).1).hops).length) c53) := hw ▸ S51.setRow R_b9 rfl
          replace S77 : OwnStrs w43.heap.size (((passR X (l[k]'hlt)).1).hops) w80 (.slice x78 ((((passR X (l[k]'hlt)).1).hops).length) c79) := hw ▸ S77.setRow R_b9 rfl
          replace R_b9 : w80.heap[b9]? = some (.cells (msgC ((passR X (l[k]'hlt)).1) (.slice x78 ((((passR X (l[k]'hlt)).1).hops).length) c79)) 29 (0, 0)) := by rw [hw]; exact setRow_heap _ _ _ _ _ _ R_b9
          clear hw
          clear T75
          refine hK45 _ _ ?_
          -- region 8: law.go:112
          show (Code.region 8 (rg Tryd.f6 8) false).wp _ _ _ _
          refine plain_list (n := 2) (N := 76) (deps := [[], [0]]) (F := [(fun v _ => v = .int .i64 (k : Int)), (fun v _ => v = .int .i64 ((k : Int) + 1))]) (by kernel_rfl) (by kernel_rfl) rfl (by kernel_rfl) ⟨(stab_eq _), (stab_eq _), trivial⟩ N (by kernel_rfl) ⟨?_, ?_, trivial⟩ ?_
          · -- 0 law.go:112
            rintro aa ww hE hF ⟨-⟩
            have o7 : aa.eval (.tmp 7) = .int .i64 (k : Int) := hF.carry (fun v _ => v = .int .i64 (k : Int)) rfl (stab_eq _) hE T7
            exact opAt rfl (ok_run rfl (run_here rfl (ex_move (.inl rfl) o7) ( rfl)))
          · -- 1 law.go:112
            rintro aa ww hE hF ⟨d0, -⟩
            replace d0 : aa.eval (.tmp 30) = .int .i64 (k : Int) := d0
            exact opAt rfl (ok_run rfl (run_here rfl (ex_binOp rfl (by rw [show aa.eval (.tmp 30) = .int .i64 (k : Int) from d0, show aa.eval (.const (.int .i64 1)) = .int .i64 1 from (ev_const (v := .int .i64 1))]; exact eqg_int) (by rw [show aa.eval (.tmp 30) = .int .i64 (k : Int) from d0, show aa.eval (.const (.int .i64 1)) = .int .i64 1 from (ev_const (v := .int .i64 1))]; exact bin_addN (by omega) (by omega))) ( rfl)))
          intro a81 w82 hE hF hfac hap
          obtain ⟨f0, f1, -⟩ := hfac
          replace N := hF.size.trans N
          replace D := hF.defers.trans D
          replace R_b4 := hE.row R_b4
          replace R_b9 := hE.row R_b9
          replace R_b49 := hE.row R_b49
          replace SX : OwnStrs 0 X.hops w82 (.slice xx X.hops.length cc) := SX.ext hE
          replace M32 : MapIs sKey w82 mb31 (setK lm (l[k]'hlt) (.bool true)) := M32.ext hE
          replace S51 : OwnStrs w43.heap.size (((passR X (l[k]'hlt)).1).hops) w82 (.slice x52 ((((passR X (l[k]'hlt)).1).hops).length) c53) := S51.ext hE
          replace S77 : OwnStrs w43.heap.size (((passR X (l[k]'hlt)).1).hops) w82 (.slice x78 ((((passR X (l[k]'hlt)).1).hops).length) c79) := S77.ext hE
          replace T1 : (fun v _ => v = .slice xl l.length cl) (a81.at 1) w82 := hF.carry (fun v _ => v = .slice xl l.length cl) rfl (stab_eq _) hE T1
          replace T4 : (fun v _ => v = .bool false) (a81.at 4) w82 := hF.carry (fun v _ => v = .bool false) rfl (stab_eq _) hE T4
          replace T5 : (fun v _ => v = .pointer (some ⟨b9, 0, none⟩)) (a81.at 5) w82 := hF.carry (fun v _ => v = .pointer (some ⟨b9, 0, none⟩)) rfl (stab_eq _) hE T5
          replace T6 : (fun v _ => v = .map (some mb31)) (a81.at 6) w82 := hF.carry (fun v _ => v = .map (some mb31)) rfl (stab_eq _) hE T6
          replace T7 : (fun v _ => v = .int .i64 (k : Int)) (a81.at 7) w82 := hF.carry (fun v _ => v = .int .i64 (k : Int)) rfl (stab_eq _) hE T7
          replace T8 : (fun v _ => v = .pointer (some ⟨b49, 0, none⟩)) (a81.at 8) w82 := hF.carry (fun v _ => v = .pointer (some ⟨b49, 0, none⟩)) rfl (stab_eq _) hE T8
          replace T9 : (fun v _ => v = .int .i64 ((passR X (l[k]'hlt)).2 : Int)) (a81.at 9) w82 := hF.carry (fun v _ => v = .int .i64 ((passR X (l[k]'hlt)).2 : Int)) rfl (stab_eq _) hE T9
          have T31 : (fun v _ => v = .int .i64 ((k : Int) + 1)) (a81.at 31) w82 := f1
          replace E := E.trans hE
          clear hE hF hap
          show wpOps _ (rg Tryd.f6 8) _ [2] _ _
          refine tail_val rfl rfl rfl (ex_move (.inr rfl) (v := .int .i64 ((k : Int) + 1)) (show a81.eval (.tmp 31) = .int .i64 ((k : Int) + 1) from T31)) ?_
          obtain ⟨a83, ha⟩ : ∃ x : Act, x = a81.put (some 7) (.int .i64 ((k : Int) + 1)) := ⟨_, rfl⟩
          rw [← ha]
          replace T1 : (fun v _ => v = .slice xl l.length cl) (a83.at 1) w82 := by rw [ha, put_other rfl]; exact T1
          replace T4 : (fun v _ => v = .bool false) (a83.at 4) w82 := by rw [ha, put_other rfl]; exact T4
          replace T5 : (fun v _ => v = .pointer (some ⟨b9, 0, none⟩)) (a83.at 5) w82 := by rw [ha, put_other rfl]; exact T5
          replace T6 : (fun v _ => v = .map (some mb31)) (a83.at 6) w82 := by rw [ha, put_other rfl]; exact T6
          replace T8 : (fun v _ => v = .pointer (some ⟨b49, 0, none⟩)) (a83.at 8) w82 := by rw [ha, put_other rfl]; exact T8
          replace T9 : (fun v _ => v = .int .i64 ((passR X (l[k]'hlt)).2 : Int)) (a83.at 9) w82 := by rw [ha, put_other rfl]; exact T9
          replace T31 : (fun v _ => v = .int .i64 ((k : Int) + 1)) (a83.at 31) w82 := by rw [ha, put_other rfl]; exact T31
          replace T7 : (fun v _ => v = .int .i64 ((k : Int) + 1)) (a83.at 7) w82 := by rw [ha, put_same N (by decide)]; skip
          replace N := (ha ▸ put_size _ _ _ : a83.tmps.size = _).trans N
          replace D := (ha ▸ put_defers' _ _ _ : a83.defers = _).trans D
          clear ha
          clear T31
          replace SX := OwnStrs.lower S77
          -- the round's end
          have hμ := HM.out
          refine ⟨_, by rw [hI37]; exact ⟨(passR X (l[k]'hlt)).1, x78, c79, k + 1, (setK lm (l[k]'hlt) (.bool true)), N, D, E, T1, T4, T5, T6, T7, R_b4, R_b9, SX, M32, rfl, ⟨hlt, hYc, fY, fun s hs => by rw [hY] at hs; simp at hs; rw [valOf_setK _ _ _ _ _ hs.2]; exact hmap s hs.1⟩⟩, ?_⟩
          omega
    · clear T29
      refine wp_exit ?_
      refine hK34 _ _ ?_
      refine wp_seq_k (fun K84 hK84 => ?_)
      -- region 15: law.go:123
      show (Code.region 15 (rg Tryd.f6 15) false).wp _ _ _ _
      refine wp_region ?_
      show wpOps _ (rg Tryd.f6 15) _ [0] _ _
      refine tail_val rfl rfl rfl (ex_move (.inr rfl) (v := .bool true) (ev_const (v := .bool true))) ?_
      obtain ⟨a85, ha⟩ : ∃ x : Act, x = a42.put (some 4) (.bool true) := ⟨_, rfl⟩
      rw [← ha]
      replace T1 : (fun v _ => v = .slice xl l.length cl) (a85.at 1) w43 := by rw [ha, put_other rfl]; exact T1
      replace T5 : (fun v _ => v = .pointer (some ⟨b9, 0, none⟩)) (a85.at 5) w43 := by rw [ha, put_other rfl]; exact T5
      replace T6 : (fun v _ => v = .map (some mb31)) (a85.at 6) w43 := by rw [ha, put_other rfl]; exact T6
      replace T7 : (fun v _ => v = .int .i64 (k : Int)) (a85.at 7) w43 := by rw [ha, put_other rfl]; exact T7
      replace T4 : (fun v _ => v = .bool true) (a85.at 4) w43 := by rw [ha, put_same N (by decide)]; skip
      replace N := (ha ▸ put_size _ _ _ : a85.tmps.size = _).trans N
      replace D := (ha ▸ put_defers' _ _ _ : a85.defers = _).trans D
      clear ha
      clear T1
      clear T5
      clear T6
      clear T7
      refine hK84 _ _ ?_
      refine wp_ret ?_
      -- the end
      refine ret_1 Tryd.results6 D T4 ?_
      exact ⟨_, rfl, E, rfl⟩

end Go.Proofs.YtfcfddfjifofgaaDoor
