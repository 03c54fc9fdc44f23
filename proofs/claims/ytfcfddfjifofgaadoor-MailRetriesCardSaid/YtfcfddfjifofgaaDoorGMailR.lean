/- What the law MailRetries returns: true. -/
import Derived.Test.YtfcfddfjifofgaaDoorRetry
import Derived.Test.YtfcfddfjifofgaaDoorAddrP
import Derived.Test.YtfcfddfjifofgaaDoorEngC
import Derived.Test.YtfcfddfjifofgaaDoorKnown
import Derived.Test.YtfcfddfjifofgaaDoorOf
namespace Go.Proofs.YtfcfddfjifofgaaDoor
open Go.RowKit Go.Shelf
theorem toM_len (m : Msg) : (toM m).hops.length ≤ 1099511627776 := by
  show (m.hops.take 20).length ≤ _
  rw [List.length_take]; omega
set_option maxRecDepth 100000 in
set_option maxHeartbeats 600000 in
theorem mailRetries_e (m : Msg) (mv : Value) (s : ByteArray) (now : Int) (w : World) (fm : m.Fits) (sm : StrsAt w mv m.hops) (hs : s.size ≤ maxLen) (POW : PowT w) : Calls Tryd.prog 8 #[.agg (msgC m mv), .string s, .int .i64 now] w (Ret (fun v _ => v = .bool true) w) := by
  have hs' := hs
  unfold maxLen at hs'
  have hSz : (s.extract 0 ((min (s.size : Int) 60)).toNat).size ≤ maxLen := le_max (by simp only [ByteArray.size_extract]; omega)
  refine enter_fn Tryd.func8 rfl Tryd.ntmps8 (Nat.le_of_ble_eq_true rfl) (fun a0 N D hA => ?_)
  have T0 : (fun v _ => v = .agg (msgC m mv)) (a0.at 0) w := by rw [hA 0 (by simp)]; exact rfl
  have T1 : (fun v _ => v = .string s) (a0.at 1) w := by rw [hA 1 (by simp)]; exact rfl
  have T2 : (fun v _ => v = .int .i64 now) (a0.at 2) w := by rw [hA 2 (by simp)]; exact rfl
  clear hA
  have E : Ext w w := Ext.refl w
  refine wp_seq_k (fun K1 hK1 => ?_)
  -- region 0: law.go:216
  show (Code.region 0 (rg Tryd.f8 0) false).wp _ _ _ _
  refine plain_list (n := 1) (N := 152) (deps := [[]]) (F := [(IsBox (msgC m mv) 26 w.heap.size)]) (by kernel_rfl) (by kernel_rfl) rfl (by kernel_rfl) ⟨(stab_box _ _ _), trivial⟩ N (by kernel_rfl) ⟨?_, trivial⟩ ?_
  · -- 0 law.go:216
    rintro aa ww hE hF ⟨-⟩
    have o0 : aa.eval (.tmp 0) = .agg (msgC m mv) := hF.carry (fun v _ => v = .agg (msgC m mv)) rfl (stab_eq _) hE T0
    exact opAt rfl (ok_run rfl (run_new (ex_box rfl o0) ( (box_new hE.size))))
  intro a2 w3 hE hF hfac hap
  obtain ⟨f0, -⟩ := hfac
  replace N := hF.size.trans N
  replace D := hF.defers.trans D
  obtain ⟨b4, T3, B_b4, R_b4⟩ := f0
  replace B_b4 := Nat.le_trans E.size B_b4
  clear T0
  replace T1 : (fun v _ => v = .string s) (a2.at 1) w3 := hF.carry (fun v _ => v = .string s) rfl (stab_eq _) hE T1
  replace T2 : (fun v _ => v = .int .i64 now) (a2.at 2) w3 := hF.carry (fun v _ => v = .int .i64 now) rfl (stab_eq _) hE T2
  replace E := E.trans hE
  clear hE hF hap
  show wpOps _ (rg Tryd.f8 0) _ [1] _ _
  refine tail_val rfl rfl rfl (ex_move (.inr rfl) (v := .bool false) (ev_const (v := .bool false))) ?_
  obtain ⟨a5, ha⟩ : ∃ x : Act, x = a2.put (some 6) (.bool false) := ⟨_, rfl⟩
  rw [← ha]
  replace T1 : (fun v _ => v = .string s) (a5.at 1) w3 := by rw [ha, put_other rfl]; exact T1
  replace T2 : (fun v _ => v = .int .i64 now) (a5.at 2) w3 := by rw [ha, put_other rfl]; exact T2
  replace T3 : (fun v _ => v = .pointer (some ⟨b4, 0, none⟩)) (a5.at 3) w3 := by rw [ha, put_other rfl]; exact T3
  have T6 : (fun v _ => v = .bool false) (a5.at 6) w3 := by rw [ha, put_same N (by decide)]; skip
  replace N := (ha ▸ put_size _ _ _ : a5.tmps.size = _).trans N
  replace D := (ha ▸ put_defers' _ _ _ : a5.defers = _).trans D
  clear ha
  refine hK1 _ _ ?_
  refine wp_seq_k (fun K6 hK6 => ?_)
  -- region 1: law.go:217
  show (Code.region 1 (rg Tryd.f8 1) false).wp _ _ _ _
  refine plain_list (n := 3) (N := 152) (deps := [[], [0], []]) (F := [(IsMsg m), (IsOwn (toM m)), (IsBox #[.string ⟨#[]⟩, .string ⟨#[]⟩, .string ⟨#[]⟩, .string ⟨#[]⟩, .int .i64 0, .int .i64 0, .string ⟨#[]⟩, .slice none 0 0, .string ⟨#[]⟩] 29 w3.heap.size)]) (by kernel_rfl) (by kernel_rfl) rfl (by kernel_rfl) ⟨(stab_msg _), (stab_own _), (stab_box _ _ _), trivial⟩ N (by kernel_rfl) ⟨?_, ?_, ?_, trivial⟩ ?_
  · -- 0 law.go:217
    rintro aa ww hE hF ⟨-⟩
    have o3 : aa.eval (.tmp 3) = .pointer (some ⟨b4, 0, none⟩) := hF.carry (fun v _ => v = .pointer (some ⟨b4, 0, none⟩)) rfl (stab_eq _) hE T3
    exact opAt rfl (ok_run rfl (run_here rfl (ex_load rfl o3 (load_row (hE.row R_b4) Tryd.underlying26 rfl (by kernel_rfl))) ( ⟨_, rfl, (sm.below (E.trans hE))⟩)))
  · -- 1 law.go:217
    rintro aa ww hE hF ⟨d0, -⟩
    replace d0 : (IsMsg m) (aa.eval (.tmp 20)) ww := d0
    exact opAt rfl (ok_run rfl (run_callR (ψ := (IsOwn (toM m))) rfl Tryd.call9 (by
      obtain ⟨hv0, e0, s0⟩ := d0
      simp only [List.map_toArray, List.map_cons, List.map_nil, e0]
      exact to_e fm ⟨_, rfl, s0⟩) (fun _ _ h =>  h)))
  · -- 2 law.go:217
    rintro aa ww hE hF ⟨-⟩
    exact opAt rfl (ok_run rfl (run_new (ex_alloc rfl Tryd.zeroValue29) ( (box_new hE.size))))
  intro a7 w8 hE hF hfac hap
  obtain ⟨f0, f1, f2, -⟩ := hfac
  replace N := hF.size.trans N
  replace D := hF.defers.trans D
  obtain ⟨b9, T7, B_b9, R_b9⟩ := f2
  have NE_b4_b9 : b4 ≠ b9 := by have := row_lt R_b4; omega
  replace B_b9 := Nat.le_trans E.size B_b9
  replace R_b4 := hE.row R_b4
  replace T1 : (fun v _ => v = .string s) (a7.at 1) w8 := hF.carry (fun v _ => v = .string s) rfl (stab_eq _) hE T1
  replace T2 : (fun v _ => v = .int .i64 now) (a7.at 2) w8 := hF.carry (fun v _ => v = .int .i64 now) rfl (stab_eq _) hE T2
  replace T3 : (fun v _ => v = .pointer (some ⟨b4, 0, none⟩)) (a7.at 3) w8 := hF.carry (fun v _ => v = .pointer (some ⟨b4, 0, none⟩)) rfl (stab_eq _) hE T3
  replace T6 : (fun v _ => v = .bool false) (a7.at 6) w8 := hF.carry (fun v _ => v = .bool false) rfl (stab_eq _) hE T6
  have T21 : (IsOwn (toM m)) (a7.at 21) w8 := f1
  replace E := E.trans hE
  clear hE hF hap
  obtain ⟨hv10, T21, S11⟩ := T21
  obtain ⟨x12, c13, rfl⟩ := ownStrs_len S11
  replace T21 : (fun v _ => v = .agg (msgC (toM m) (.slice x12 (((toM m).hops).length) c13))) (a7.at 21) w8 := T21
  show wpOps _ (rg Tryd.f8 1) _ [3] _ _
  refine tail_do rfl rfl rfl (ex_store rfl (show a7.eval (.tmp 7) = .pointer (some ⟨b9, 0, none⟩) from T7) (by rw [show a7.eval (.tmp 21) = .agg (msgC (toM m) (.slice x12 (((toM m).hops).length) c13)) from (show a7.eval (.tmp 21) = .agg (msgC (toM m) (.slice x12 (((toM m).hops).length) c13)) from T21)]; exact store_row R_b9 (by kernel_rfl) rfl (ownB_cell S11))) ?_
  obtain ⟨w14, hw⟩ : ∃ x : World, x = w8.setRow b9 (msgC (toM m) (.slice x12 (((toM m).hops).length) c13)) := ⟨_, rfl⟩
  rw [← hw]
  replace R_b4 := hw ▸ row_other R_b4 (by first | exact NE_b4_b9 | exact NE_b9_b4.symm)
  replace E : Ext w w14 := hw ▸ below_row E B_b9
  replace T1 : (fun v _ => v = .string s) (a7.at 1) w14 := T1
  replace T2 : (fun v _ => v = .int .i64 now) (a7.at 2) w14 := T2
  replace T3 : (fun v _ => v = .pointer (some ⟨b4, 0, none⟩)) (a7.at 3) w14 := T3
  replace T6 : (fun v _ => v = .bool false) (a7.at 6) w14 := T6
  replace T21 : (fun v _ => v = .agg (msgC (toM m) (.slice x12 (((toM m).hops).length) c13))) (a7.at 21) w14 := T21
  replace T7 : (fun v _ => v = .pointer (some ⟨b9, 0, none⟩)) (a7.at 7) w14 := T7
  replace S11 : OwnStrs 0 ((toM m).hops) w14 (.slice x12 (((toM m).hops).length) c13) := hw ▸ S11.setRow R_b9 rfl
  replace R_b9 : w14.heap[b9]? = some (.cells (msgC (toM m) (.slice x12 (((toM m).hops).length) c13)) 29 (0, 0)) := by rw [hw]; exact setRow_heap _ _ _ _ _ _ R_b9
  clear hw
  clear T3
  clear T21
  refine hK6 _ _ ?_
  refine wp_seq_k (fun K15 hK15 => ?_)
  -- region 2: law.go:218
  show (Code.region 2 (rg Tryd.f8 2) false).wp _ _ _ _
  refine plain_list (n := 9) (N := 152) (deps := [[], [], [1], [2], [0, 3], [4], [5], [6], [6]]) (F := [(fun v _ => v = .string s), (fun v _ => v = .string s), (fun v _ => v = .int .i64 (s.size : Int)), (fun v _ => v = .int .i64 (min (s.size : Int) 60)), (fun v _ => v = .string (s.extract 0 ((min (s.size : Int) 60)).toNat)), (IsNewQ w.heap.size (s.extract 0 ((min (s.size : Int) 60)).toNat)), (IsNewQ w.heap.size (s.extract 0 ((min (s.size : Int) 60)).toNat)), (IsQP w.heap.size (s.extract 0 ((min (s.size : Int) 60)).toNat)), (fun v _ => v = .int .i64 (siteE (s.extract 0 ((min (s.size : Int) 60)).toNat) : Int))]) (by kernel_rfl) (by kernel_rfl) rfl (by kernel_rfl) ⟨(stab_eq _), (stab_eq _), (stab_eq _), (stab_eq _), (stab_eq _), (stab_newQ _ _), (stab_newQ _ _), (stab_qp _ _), (stab_eq _), trivial⟩ N (by kernel_rfl) ⟨?_, ?_, ?_, ?_, ?_, ?_, ?_, ?_, ?_, trivial⟩ ?_
  · -- 0 law.go:218
    rintro aa ww hE hF ⟨-⟩
    have o1 : aa.eval (.tmp 1) = .string s := hF.carry (fun v _ => v = .string s) rfl (stab_eq _) hE T1
    exact opAt rfl (ok_run rfl (run_here rfl (ex_move (.inl rfl) o1) ( rfl)))
  · -- 1 law.go:218
    rintro aa ww hE hF ⟨-⟩
    have o1 : aa.eval (.tmp 1) = .string s := hF.carry (fun v _ => v = .string s) rfl (stab_eq _) hE T1
    exact opAt rfl (ok_run rfl (run_here rfl (ex_move (.inl rfl) o1) ( rfl)))
  · -- 2 law.go:218
    rintro aa ww hE hF ⟨d1, -⟩
    replace d1 : aa.eval (.tmp 24) = .string s := d1
    exact opAt rfl (ok_run rfl (run_here rfl (ex_builtin rfl (fun cs => by simp only [List.map_toArray, List.map_cons, List.map_nil, show aa.eval (.tmp 24) = .string s from d1]; exact len_str Tryd.underlying9)) ( rfl)))
  · -- 3 law.go:218
    rintro aa ww hE hF ⟨d2, -⟩
    replace d2 : aa.eval (.tmp 25) = .int .i64 (s.size : Int) := d2
    exact opAt rfl (ok_run rfl (run_here rfl (ex_builtin rfl (fun cs => by simp only [List.map_toArray, List.map_cons, List.map_nil, show aa.eval (.tmp 25) = .int .i64 (s.size : Int) from d2, show aa.eval (.const (.int .i64 60)) = .int .i64 60 from (ev_const (v := .int .i64 60))]; exact min_int)) ( rfl)))
  · -- 4 law.go:218
    rintro aa ww hE hF ⟨d0, d3, -⟩
    replace d0 : aa.eval (.tmp 23) = .string s := d0
    replace d3 : aa.eval (.tmp 26) = .int .i64 (min (s.size : Int) 60) := d3
    exact opAt rfl (ok_run rfl (run_here rfl (ex_slice rfl (by simp only [Option.map_some, Option.map_none, show aa.eval (.tmp 23) = .string s from d0, show aa.eval (.tmp 26) = .int .i64 (min (s.size : Int) 60) from d3]; exact slice_hi Tryd.underlying9 (by omega) (by omega))) ( rfl)))
  · -- 5 law.go:218
    rintro aa ww hE hF ⟨d4, -⟩
    replace d4 : aa.eval (.tmp 27) = .string (s.extract 0 ((min (s.size : Int) 60)).toNat) := d4
    exact opAt rfl (ok_run rfl (run_callR (ψ := (IsNewQ w.heap.size (s.extract 0 ((min (s.size : Int) 60)).toNat))) rfl Tryd.call23 (by simp only [List.map_toArray, List.map_cons, List.map_nil, d4]; exact new_e (s.extract 0 ((min (s.size : Int) 60)).toNat) _ (E.trans hE).size (by first | with_reducible assumption | omega)) (fun _ _ h =>  h)))
  · -- 6 law.go:218
    rintro aa ww hE hF ⟨d5, -⟩
    replace d5 : (IsNewQ w.heap.size (s.extract 0 ((min (s.size : Int) 60)).toNat)) (aa.eval (.tmp 28)) ww := d5
    exact opAt rfl (ok_run rfl (run_here rfl (ex_move (.inl rfl) rfl) ( d5)))
  · -- 7 law.go:218
    rintro aa ww hE hF ⟨d6, -⟩
    replace d6 : (IsNewQ w.heap.size (s.extract 0 ((min (s.size : Int) 60)).toNat)) (aa.eval (.tmp 22)) ww := d6
    exact opAt rfl (ok_run rfl (newQ_0 rfl (d6) (fun _ h =>  h)))
  · -- 8 law.go:218
    rintro aa ww hE hF ⟨d6, -⟩
    replace d6 : (IsNewQ w.heap.size (s.extract 0 ((min (s.size : Int) 60)).toNat)) (aa.eval (.tmp 22)) ww := d6
    exact opAt rfl (ok_run rfl (run_here rfl (newQ_1 (d6) rfl) ( rfl)))
  intro a16 w17 hE hF hfac hap
  obtain ⟨f0, f1, f2, f3, f4, f5, f6, f7, f8, -⟩ := hfac
  replace N := hF.size.trans N
  replace D := hF.defers.trans D
  replace R_b4 := hE.row R_b4
  replace R_b9 := hE.row R_b9
  replace S11 : OwnStrs 0 ((toM m).hops) w17 (.slice x12 (((toM m).hops).length) c13) := S11.ext hE
  replace T1 : (fun v _ => v = .string s) (a16.at 1) w17 := hF.carry (fun v _ => v = .string s) rfl (stab_eq _) hE T1
  replace T2 : (fun v _ => v = .int .i64 now) (a16.at 2) w17 := hF.carry (fun v _ => v = .int .i64 now) rfl (stab_eq _) hE T2
  replace T6 : (fun v _ => v = .bool false) (a16.at 6) w17 := hF.carry (fun v _ => v = .bool false) rfl (stab_eq _) hE T6
  replace T7 : (fun v _ => v = .pointer (some ⟨b9, 0, none⟩)) (a16.at 7) w17 := hF.carry (fun v _ => v = .pointer (some ⟨b9, 0, none⟩)) rfl (stab_eq _) hE T7
  have T29 : (IsQP w.heap.size (s.extract 0 ((min (s.size : Int) 60)).toNat)) (a16.at 29) w17 := f7
  have T30 : (fun v _ => v = .int .i64 (siteE (s.extract 0 ((min (s.size : Int) 60)).toNat) : Int)) (a16.at 30) w17 := f8
  replace E := E.trans hE
  clear hE hF hap
  show wpOps _ (rg Tryd.f8 2) _ [9, 10] _ _
  refine tail_val rfl rfl rfl (ex_move (.inr rfl) rfl) ?_
  obtain ⟨a18, ha⟩ : ∃ x : Act, x = a16.put (some 8) (a16.eval (.tmp 29)) := ⟨_, rfl⟩
  rw [← ha]
  have TN : (IsQP w.heap.size (s.extract 0 ((min (s.size : Int) 60)).toNat)) (a18.at 8) w17 := by rw [ha, put_same N (by decide)]; exact (show (IsQP w.heap.size (s.extract 0 ((min (s.size : Int) 60)).toNat)) (a16.eval (.tmp 29)) w17 from T29)
  replace T1 : (fun v _ => v = .string s) (a18.at 1) w17 := by rw [ha, put_other rfl]; exact T1
  replace T2 : (fun v _ => v = .int .i64 now) (a18.at 2) w17 := by rw [ha, put_other rfl]; exact T2
  replace T6 : (fun v _ => v = .bool false) (a18.at 6) w17 := by rw [ha, put_other rfl]; exact T6
  replace T7 : (fun v _ => v = .pointer (some ⟨b9, 0, none⟩)) (a18.at 7) w17 := by rw [ha, put_other rfl]; exact T7
  replace T29 : (IsQP w.heap.size (s.extract 0 ((min (s.size : Int) 60)).toNat)) (a18.at 29) w17 := by rw [ha, put_other rfl]; exact T29
  replace T30 : (fun v _ => v = .int .i64 (siteE (s.extract 0 ((min (s.size : Int) 60)).toNat) : Int)) (a18.at 30) w17 := by rw [ha, put_other rfl]; exact T30
  have T8 := TN
  clear TN
  replace N := (ha ▸ put_size _ _ _ : a18.tmps.size = _).trans N
  replace D := (ha ▸ put_defers' _ _ _ : a18.defers = _).trans D
  clear ha
  refine tail_val rfl rfl rfl (ex_move (.inr rfl) (v := .int .i64 (siteE (s.extract 0 ((min (s.size : Int) 60)).toNat) : Int)) (show a18.eval (.tmp 30) = .int .i64 (siteE (s.extract 0 ((min (s.size : Int) 60)).toNat) : Int) from T30)) ?_
  obtain ⟨a19, ha⟩ : ∃ x : Act, x = a18.put (some 9) (.int .i64 (siteE (s.extract 0 ((min (s.size : Int) 60)).toNat) : Int)) := ⟨_, rfl⟩
  rw [← ha]
  replace T1 : (fun v _ => v = .string s) (a19.at 1) w17 := by rw [ha, put_other rfl]; exact T1
  replace T2 : (fun v _ => v = .int .i64 now) (a19.at 2) w17 := by rw [ha, put_other rfl]; exact T2
  replace T6 : (fun v _ => v = .bool false) (a19.at 6) w17 := by rw [ha, put_other rfl]; exact T6
  replace T7 : (fun v _ => v = .pointer (some ⟨b9, 0, none⟩)) (a19.at 7) w17 := by rw [ha, put_other rfl]; exact T7
  replace T29 : (IsQP w.heap.size (s.extract 0 ((min (s.size : Int) 60)).toNat)) (a19.at 29) w17 := by rw [ha, put_other rfl]; exact T29
  replace T30 : (fun v _ => v = .int .i64 (siteE (s.extract 0 ((min (s.size : Int) 60)).toNat) : Int)) (a19.at 30) w17 := by rw [ha, put_other rfl]; exact T30
  replace T8 : (IsQP w.heap.size (s.extract 0 ((min (s.size : Int) 60)).toNat)) (a19.at 8) w17 := by rw [ha, put_other rfl]; exact T8
  have T9 : (fun v _ => v = .int .i64 (siteE (s.extract 0 ((min (s.size : Int) 60)).toNat) : Int)) (a19.at 9) w17 := by rw [ha, put_same N (by decide)]; skip
  replace N := (ha ▸ put_size _ _ _ : a19.tmps.size = _).trans N
  replace D := (ha ▸ put_defers' _ _ _ : a19.defers = _).trans D
  clear ha
  clear T1
  clear T29
  clear T30
  refine hK15 _ _ ?_
  refine wp_seq_k (fun K20 hK20 => ?_)
  refine wp_seq_k (fun K21 hK21 => ?_)
  -- region 3: law.go:219
  show (Code.region 3 (rg Tryd.f8 3) false).wp _ _ _ _
  refine plain_list (n := 14) (N := 152) (deps := [[], [0], [1], [2], [2, 3], [2, 4], [5], [6], [6, 7], [6, 8], [9], [10], [10, 11], [10, 12]]) (F := [(fun v _ => v = .bool true), (fun v _ => v = .bool false), (fun v _ => v = .bool false), (fun v _ => v = .int .i64 (siteE (s.extract 0 ((min (s.size : Int) 60)).toNat) : Int)), (fun v _ => v = .bool ((siteE (s.extract 0 ((min (s.size : Int) 60)).toNat) : Int) != (0 : Int))), (fun v _ => v = .bool ((siteE (s.extract 0 ((min (s.size : Int) 60)).toNat) : Int) != (0 : Int))), (fun v _ => v = .bool ((siteE (s.extract 0 ((min (s.size : Int) 60)).toNat) : Int) != (0 : Int))), (fun v_ w_ => ((siteE (s.extract 0 ((min (s.size : Int) 60)).toNat) : Int) != (0 : Int)) = false → (fun v _ => v = .int .i64 now) v_ w_), (fun v_ w_ => ((siteE (s.extract 0 ((min (s.size : Int) 60)).toNat) : Int) != (0 : Int)) = false → (fun v _ => v = .bool (decide (now < (0 : Int)))) v_ w_), (fun v _ => v = .bool (((siteE (s.extract 0 ((min (s.size : Int) 60)).toNat) : Int) != (0 : Int)) || (decide (now < (0 : Int))))), (fun v _ => v = .bool (((siteE (s.extract 0 ((min (s.size : Int) 60)).toNat) : Int) != (0 : Int)) || (decide (now < (0 : Int))))), (fun v_ w_ => (((siteE (s.extract 0 ((min (s.size : Int) 60)).toNat) : Int) != (0 : Int)) || (decide (now < (0 : Int)))) = false → (fun v _ => v = .int .i64 now) v_ w_), (fun v_ w_ => (((siteE (s.extract 0 ((min (s.size : Int) 60)).toNat) : Int) != (0 : Int)) || (decide (now < (0 : Int)))) = false → (fun v _ => v = .bool (decide ((100000000 : Int) < now))) v_ w_), (fun v _ => v = .bool ((((siteE (s.extract 0 ((min (s.size : Int) 60)).toNat) : Int) != (0 : Int)) || (decide (now < (0 : Int)))) || (decide ((100000000 : Int) < now))))]) (by kernel_rfl) (by kernel_rfl) rfl (by kernel_rfl) ⟨(stab_eq _), (stab_eq _), (stab_eq _), (stab_eq _), (stab_eq _), (stab_eq _), (stab_eq _), (stab_imp (stab_eq _)), (stab_imp (stab_eq _)), (stab_eq _), (stab_eq _), (stab_imp (stab_eq _)), (stab_imp (stab_eq _)), (stab_eq _), trivial⟩ N (by kernel_rfl) ⟨?_, ?_, ?_, ?_, ?_, ?_, ?_, ?_, ?_, ?_, ?_, ?_, ?_, ?_, trivial⟩ ?_
  · -- 0 law.go:219
    rintro aa ww hE hF ⟨-⟩
    exact opAt rfl (ok_run rfl (run_callR (ψ := (fun v _ => v = .bool true)) rfl Tryd.call14 (by
      simp only [List.map_toArray, List.map_nil]
      exact ret_below (known_c _ (POW.below (E.trans hE)))) (fun _ _ h =>  h)))
  · -- 1 law.go:219
    rintro aa ww hE hF ⟨d0, -⟩
    replace d0 : aa.eval (.tmp 31) = .bool true := d0
    exact opAt rfl (ok_run rfl (run_here rfl (ex_unOp rfl (by rw [show aa.eval (.tmp 31) = .bool true from d0]; exact un_not)) ( rfl)))
  · -- 2 law.go:219
    rintro aa ww hE hF ⟨d1, -⟩
    replace d1 : aa.eval (.tmp 32) = .bool false := d1
    exact opAt rfl (ok_run rfl (run_here rfl (ex_move (.inl rfl) d1) ( rfl)))
  · -- 3 law.go:219
    rintro aa ww hE hF ⟨d2, -⟩
    replace d2 : aa.eval (.tmp 33) = .bool false := d2
    have o9 : aa.eval (.tmp 9) = .int .i64 (siteE (s.extract 0 ((min (s.size : Int) 60)).toNat) : Int) := hF.carry (fun v _ => v = .int .i64 (siteE (s.extract 0 ((min (s.size : Int) 60)).toNat) : Int)) rfl (stab_eq _) hE T9
    exact opAt rfl (ok_guard rfl d2 (fun _ => run_here rfl (ex_move (.inl rfl) o9) ( rfl)) (fun hn => absurd rfl hn))
  · -- 4 law.go:219
    rintro aa ww hE hF ⟨d2, d3, -⟩
    replace d2 : aa.eval (.tmp 33) = .bool false := d2
    replace d3 : aa.eval (.tmp 34) = .int .i64 (siteE (s.extract 0 ((min (s.size : Int) 60)).toNat) : Int) := d3
    exact opAt rfl (ok_guard rfl d2 (fun _ => run_here rfl (ex_binOp rfl (by rw [show aa.eval (.tmp 34) = .int .i64 (siteE (s.extract 0 ((min (s.size : Int) 60)).toNat) : Int) from d3, show aa.eval (.const (.int .i64 0)) = .int .i64 0 from (ev_const (v := .int .i64 0))]; exact eqg_int) (by rw [show aa.eval (.tmp 34) = .int .i64 (siteE (s.extract 0 ((min (s.size : Int) 60)).toNat) : Int) from d3, show aa.eval (.const (.int .i64 0)) = .int .i64 0 from (ev_const (v := .int .i64 0))]; exact bin_neq)) ( rfl)) (fun hn => absurd rfl hn))
  · -- 5 law.go:219
    rintro aa ww hE hF ⟨d2, d4, -⟩
    replace d2 : aa.eval (.tmp 33) = .bool false := d2
    replace d4 : aa.eval (.tmp 35) = .bool ((siteE (s.extract 0 ((min (s.size : Int) 60)).toNat) : Int) != (0 : Int)) := d4
    exact opAt rfl (ok_run rfl (run_here rfl (ex_pick_or rfl d2 (fun hp => d4)) ( rfl)))
  · -- 6 law.go:219
    rintro aa ww hE hF ⟨d5, -⟩
    replace d5 : aa.eval (.tmp 36) = .bool ((siteE (s.extract 0 ((min (s.size : Int) 60)).toNat) : Int) != (0 : Int)) := d5
    exact opAt rfl (ok_run rfl (run_here rfl (ex_move (.inl rfl) d5) ( rfl)))
  · -- 7 law.go:219
    rintro aa ww hE hF ⟨d6, -⟩
    replace d6 : aa.eval (.tmp 37) = .bool ((siteE (s.extract 0 ((min (s.size : Int) 60)).toNat) : Int) != (0 : Int)) := d6
    have o2 : aa.eval (.tmp 2) = .int .i64 now := hF.carry (fun v _ => v = .int .i64 now) rfl (stab_eq _) hE T2
    exact opAt rfl (ok_guard rfl d6 (fun hc => run_here rfl (ex_move (.inl rfl) o2) (fun _ =>  rfl)) (fun hn hc => absurd hc hn))
  · -- 8 law.go:219
    rintro aa ww hE hF ⟨d6, d7, -⟩
    replace d6 : aa.eval (.tmp 37) = .bool ((siteE (s.extract 0 ((min (s.size : Int) 60)).toNat) : Int) != (0 : Int)) := d6
    replace d7 : ((siteE (s.extract 0 ((min (s.size : Int) 60)).toNat) : Int) != (0 : Int)) = false → aa.eval (.tmp 38) = .int .i64 now := d7
    exact opAt rfl (ok_guard rfl d6 (fun hc => run_here rfl (ex_binOp rfl (by rw [show aa.eval (.tmp 38) = .int .i64 now from (d7 hc), show aa.eval (.const (.int .i64 0)) = .int .i64 0 from (ev_const (v := .int .i64 0))]; exact eqg_int) (by rw [show aa.eval (.tmp 38) = .int .i64 now from (d7 hc), show aa.eval (.const (.int .i64 0)) = .int .i64 0 from (ev_const (v := .int .i64 0))]; exact bin_lss)) (fun _ =>  rfl)) (fun hn hc => absurd hc hn))
  · -- 9 law.go:219
    rintro aa ww hE hF ⟨d6, d8, -⟩
    replace d6 : aa.eval (.tmp 37) = .bool ((siteE (s.extract 0 ((min (s.size : Int) 60)).toNat) : Int) != (0 : Int)) := d6
    replace d8 : ((siteE (s.extract 0 ((min (s.size : Int) 60)).toNat) : Int) != (0 : Int)) = false → aa.eval (.tmp 39) = .bool (decide (now < (0 : Int))) := d8
    exact opAt rfl (ok_run rfl (run_here rfl (ex_pick_or rfl d6 (fun hp => (d8 hp))) ( rfl)))
  · -- 10 law.go:219
    rintro aa ww hE hF ⟨d9, -⟩
    replace d9 : aa.eval (.tmp 40) = .bool (((siteE (s.extract 0 ((min (s.size : Int) 60)).toNat) : Int) != (0 : Int)) || (decide (now < (0 : Int)))) := d9
    exact opAt rfl (ok_run rfl (run_here rfl (ex_move (.inl rfl) d9) ( rfl)))
  · -- 11 law.go:219
    rintro aa ww hE hF ⟨d10, -⟩
    replace d10 : aa.eval (.tmp 41) = .bool (((siteE (s.extract 0 ((min (s.size : Int) 60)).toNat) : Int) != (0 : Int)) || (decide (now < (0 : Int)))) := d10
    have o2 : aa.eval (.tmp 2) = .int .i64 now := hF.carry (fun v _ => v = .int .i64 now) rfl (stab_eq _) hE T2
    exact opAt rfl (ok_guard rfl d10 (fun hc => run_here rfl (ex_move (.inl rfl) o2) (fun _ =>  rfl)) (fun hn hc => absurd hc hn))
  · -- 12 law.go:219
    rintro aa ww hE hF ⟨d10, d11, -⟩
    replace d10 : aa.eval (.tmp 41) = .bool (((siteE (s.extract 0 ((min (s.size : Int) 60)).toNat) : Int) != (0 : Int)) || (decide (now < (0 : Int)))) := d10
    replace d11 : (((siteE (s.extract 0 ((min (s.size : Int) 60)).toNat) : Int) != (0 : Int)) || (decide (now < (0 : Int)))) = false → aa.eval (.tmp 42) = .int .i64 now := d11
    exact opAt rfl (ok_guard rfl d10 (fun hc => run_here rfl (ex_binOp rfl (by rw [show aa.eval (.tmp 42) = .int .i64 now from (d11 hc), show aa.eval (.const (.int .i64 100000000)) = .int .i64 100000000 from (ev_const (v := .int .i64 100000000))]; exact eqg_int) (by rw [show aa.eval (.tmp 42) = .int .i64 now from (d11 hc), show aa.eval (.const (.int .i64 100000000)) = .int .i64 100000000 from (ev_const (v := .int .i64 100000000))]; exact bin_gtr)) (fun _ =>  rfl)) (fun hn hc => absurd hc hn))
  · -- 13 law.go:219
    rintro aa ww hE hF ⟨d10, d12, -⟩
    replace d10 : aa.eval (.tmp 41) = .bool (((siteE (s.extract 0 ((min (s.size : Int) 60)).toNat) : Int) != (0 : Int)) || (decide (now < (0 : Int)))) := d10
    replace d12 : (((siteE (s.extract 0 ((min (s.size : Int) 60)).toNat) : Int) != (0 : Int)) || (decide (now < (0 : Int)))) = false → aa.eval (.tmp 43) = .bool (decide ((100000000 : Int) < now)) := d12
    exact opAt rfl (ok_run rfl (run_here rfl (ex_pick_or rfl d10 (fun hp => (d12 hp))) ( rfl)))
  intro a22 w23 hE hF hfac hap
  obtain ⟨f0, f1, f2, f3, f4, f5, f6, f7, f8, f9, f10, f11, f12, f13, -⟩ := hfac
  replace N := hF.size.trans N
  replace D := hF.defers.trans D
  replace R_b4 := hE.row R_b4
  replace R_b9 := hE.row R_b9
  replace S11 : OwnStrs 0 ((toM m).hops) w23 (.slice x12 (((toM m).hops).length) c13) := S11.ext hE
  replace T2 : (fun v _ => v = .int .i64 now) (a22.at 2) w23 := hF.carry (fun v _ => v = .int .i64 now) rfl (stab_eq _) hE T2
  replace T6 : (fun v _ => v = .bool false) (a22.at 6) w23 := hF.carry (fun v _ => v = .bool false) rfl (stab_eq _) hE T6
  replace T7 : (fun v _ => v = .pointer (some ⟨b9, 0, none⟩)) (a22.at 7) w23 := hF.carry (fun v _ => v = .pointer (some ⟨b9, 0, none⟩)) rfl (stab_eq _) hE T7
  replace T8 : (IsQP w.heap.size (s.extract 0 ((min (s.size : Int) 60)).toNat)) (a22.at 8) w23 := hF.carry (IsQP w.heap.size (s.extract 0 ((min (s.size : Int) 60)).toNat)) rfl (stab_qp _ _) hE T8
  clear T9
  have T44 : (fun v _ => v = .bool ((((siteE (s.extract 0 ((min (s.size : Int) 60)).toNat) : Int) != (0 : Int)) || (decide (now < (0 : Int)))) || (decide ((100000000 : Int) < now)))) (a22.at 44) w23 := f13
  replace E := E.trans hE
  clear hE hF hap
  show wpOps _ (rg Tryd.f8 3) _ [] _ _
  refine hK21 _ _ ?_
  refine wp_cond_split (t := ((((siteE (s.extract 0 ((min (s.size : Int) 60)).toNat) : Int) != (0 : Int)) || (decide (now < (0 : Int)))) || (decide ((100000000 : Int) < now)))) T44 (fun C24 => ?_) (fun C24 => ?_)
  · clear T44
    refine wp_seq_k (fun K25 hK25 => ?_)
    -- region 4: law.go:220
    show (Code.region 4 (rg Tryd.f8 4) false).wp _ _ _ _
    refine plain_list (n := 1) (N := 152) (deps := [[]]) (F := [(fun v _ => v = .bool true)]) (by kernel_rfl) (by kernel_rfl) rfl (by kernel_rfl) ⟨(stab_eq _), trivial⟩ N (by kernel_rfl) ⟨?_, trivial⟩ ?_
    · -- 0 law.go:220
      rintro aa ww hE hF ⟨-⟩
      exact opAt rfl (ok_run rfl (run_callR (ψ := (fun v _ => v = .bool true)) rfl Tryd.call14 (by
      simp only [List.map_toArray, List.map_nil]
      exact ret_below (known_c _ (POW.below (E.trans hE)))) (fun _ _ h =>  h)))
    intro a26 w27 hE hF hfac hap
    obtain ⟨f0, -⟩ := hfac
    replace N := hF.size.trans N
    replace D := hF.defers.trans D
    replace R_b4 := hE.row R_b4
    replace R_b9 := hE.row R_b9
    replace S11 : OwnStrs 0 ((toM m).hops) w27 (.slice x12 (((toM m).hops).length) c13) := S11.ext hE
    replace T2 : (fun v _ => v = .int .i64 now) (a26.at 2) w27 := hF.carry (fun v _ => v = .int .i64 now) rfl (stab_eq _) hE T2
    replace T6 : (fun v _ => v = .bool false) (a26.at 6) w27 := hF.carry (fun v _ => v = .bool false) rfl (stab_eq _) hE T6
    replace T7 : (fun v _ => v = .pointer (some ⟨b9, 0, none⟩)) (a26.at 7) w27 := hF.carry (fun v _ => v = .pointer (some ⟨b9, 0, none⟩)) rfl (stab_eq _) hE T7
    replace T8 : (IsQP w.heap.size (s.extract 0 ((min (s.size : Int) 60)).toNat)) (a26.at 8) w27 := hF.carry (IsQP w.heap.size (s.extract 0 ((min (s.size : Int) 60)).toNat)) rfl (stab_qp _ _) hE T8
    have T45 : (fun v _ => v = .bool true) (a26.at 45) w27 := f0
    replace E := E.trans hE
    clear hE hF hap
    show wpOps _ (rg Tryd.f8 4) _ [1] _ _
    refine tail_val rfl rfl rfl (ex_move (.inr rfl) (v := .bool true) (show a26.eval (.tmp 45) = .bool true from T45)) ?_
    obtain ⟨a28, ha⟩ : ∃ x : Act, x = a26.put (some 6) (.bool true) := ⟨_, rfl⟩
    rw [← ha]
    replace T2 : (fun v _ => v = .int .i64 now) (a28.at 2) w27 := by rw [ha, put_other rfl]; exact T2
    replace T7 : (fun v _ => v = .pointer (some ⟨b9, 0, none⟩)) (a28.at 7) w27 := by rw [ha, put_other rfl]; exact T7
    replace T8 : (IsQP w.heap.size (s.extract 0 ((min (s.size : Int) 60)).toNat)) (a28.at 8) w27 := by rw [ha, put_other rfl]; exact T8
    replace T45 : (fun v _ => v = .bool true) (a28.at 45) w27 := by rw [ha, put_other rfl]; exact T45
    replace T6 : (fun v _ => v = .bool true) (a28.at 6) w27 := by rw [ha, put_same N (by decide)]; skip
    replace N := (ha ▸ put_size _ _ _ : a28.tmps.size = _).trans N
    replace D := (ha ▸ put_defers' _ _ _ : a28.defers = _).trans D
    clear ha
    clear T45
    refine hK25 _ _ ?_
    refine wp_ret ?_
    -- the end
    refine ret_1 Tryd.results8 D T6 ?_
    exact ⟨_, rfl, E, rfl⟩
  · clear T44
    have hS : siteE (s.extract 0 ((min (s.size : Int) 60)).toNat) = 0 := bne_f (or_l (or_l C24))
    have h0 : 0 ≤ now := by have := of_decide_eq_false (or_r (or_l C24)); omega
    have h1 : now ≤ 100000000 := by have := of_decide_eq_false (or_r C24); omega
    rcases T8 with ⟨hbad, _⟩ | ⟨_, q, mb, T8, B_q, B_mb, QU⟩
    · exact absurd hS hbad
    replace T8 : (fun v _ => v = .pointer (some ⟨q, 0, none⟩)) (a22.at 8) w23 := T8
    refine wp_skip ?_
    refine hK20 _ _ ?_
    refine wp_seq_k (fun K29 hK29 => ?_)
    -- region 5: law.go:222
    show (Code.region 5 (rg Tryd.f8 5) false).wp _ _ _ _
    refine plain_list (n := 3) (N := 152) (deps := [[], [], []]) (F := [(fun v _ => v = .pointer (some ⟨q, 0, none⟩)), (IsOwnB 0 (toM m)), (fun v _ => v = .int .i64 now)]) (by kernel_rfl) (by kernel_rfl) rfl (by kernel_rfl) ⟨(stab_eq _), (stab_ownB _ _), (stab_eq _), trivial⟩ N (by kernel_rfl) ⟨?_, ?_, ?_, trivial⟩ ?_
    · -- 0 law.go:222
      rintro aa ww hE hF ⟨-⟩
      have o8 : aa.eval (.tmp 8) = .pointer (some ⟨q, 0, none⟩) := hF.carry (fun v _ => v = .pointer (some ⟨q, 0, none⟩)) rfl (stab_eq _) hE T8
      exact opAt rfl (ok_run rfl (run_here rfl (ex_move (.inl rfl) o8) ( rfl)))
    · -- 1 law.go:222
      rintro aa ww hE hF ⟨-⟩
      have o7 : aa.eval (.tmp 7) = .pointer (some ⟨b9, 0, none⟩) := hF.carry (fun v _ => v = .pointer (some ⟨b9, 0, none⟩)) rfl (stab_eq _) hE T7
      exact opAt rfl (ok_run rfl (run_here rfl (ex_load rfl o7 (load_row (hE.row R_b9) Tryd.underlying29 rfl (by kernel_rfl))) ( ⟨_, rfl, S11.ext hE⟩)))
    · -- 2 law.go:222
      rintro aa ww hE hF ⟨-⟩
      have o2 : aa.eval (.tmp 2) = .int .i64 now := hF.carry (fun v _ => v = .int .i64 now) rfl (stab_eq _) hE T2
      exact opAt rfl (ok_run rfl (run_here rfl (ex_move (.inl rfl) o2) ( rfl)))
    intro a30 w31 hE hF hfac hap
    obtain ⟨f0, f1, f2, -⟩ := hfac
    replace N := hF.size.trans N
    replace D := hF.defers.trans D
    replace R_b4 := hE.row R_b4
    replace R_b9 := hE.row R_b9
    replace S11 : OwnStrs 0 ((toM m).hops) w31 (.slice x12 (((toM m).hops).length) c13) := S11.ext hE
    replace QU : QueueAt q mb (s.extract 0 ((min (s.size : Int) 60)).toNat) 0 [] w31 := QU.ext hE
    replace T2 : (fun v _ => v = .int .i64 now) (a30.at 2) w31 := hF.carry (fun v _ => v = .int .i64 now) rfl (stab_eq _) hE T2
    replace T6 : (fun v _ => v = .bool false) (a30.at 6) w31 := hF.carry (fun v _ => v = .bool false) rfl (stab_eq _) hE T6
    replace T7 : (fun v _ => v = .pointer (some ⟨b9, 0, none⟩)) (a30.at 7) w31 := hF.carry (fun v _ => v = .pointer (some ⟨b9, 0, none⟩)) rfl (stab_eq _) hE T7
    replace T8 : (fun v _ => v = .pointer (some ⟨q, 0, none⟩)) (a30.at 8) w31 := hF.carry (fun v _ => v = .pointer (some ⟨q, 0, none⟩)) rfl (stab_eq _) hE T8
    have T47 : (fun v _ => v = .pointer (some ⟨q, 0, none⟩)) (a30.at 47) w31 := f0
    have T48 : (IsOwnB 0 (toM m)) (a30.at 48) w31 := f1
    have T49 : (fun v _ => v = .int .i64 now) (a30.at 49) w31 := f2
    replace E := E.trans hE
    clear hE hF hap
    obtain ⟨hv32, T48, S33⟩ := T48
    obtain ⟨x34, c35, rfl⟩ := ownStrs_len S33
    replace T48 : (fun v _ => v = .agg (msgC (toM m) (.slice x34 (((toM m).hops).length) c35))) (a30.at 48) w31 := T48
    show wpOps _ (rg Tryd.f8 5) _ [3, 4, 5, 6, 7, 8] _ _
    refine tail_call rfl rfl rfl Tryd.call24 ?_
    simp only [List.map_toArray, List.map_cons, List.map_nil, show a30.eval (.tmp 47) = .pointer (some ⟨q, 0, none⟩) from (show a30.eval (.tmp 47) = .pointer (some ⟨q, 0, none⟩) from T47), show a30.eval (.tmp 48) = .agg (msgC (toM m) (.slice x34 (((toM m).hops).length) c35)) from (show a30.eval (.tmp 48) = .agg (msgC (toM m) (.slice x34 (((toM m).hops).length) c35)) from T48), show a30.eval (.tmp 49) = .int .i64 now from (show a30.eval (.tmp 49) = .int .i64 now from T49)]
    refine (add_r now QU (toM_fits fm) S33 (toM_len m)).mono ?_
    rintro e w36 ⟨n1, last1, l1, he, hq2, hfr, hadd0, hadd1⟩
    refine ⟨_, he, ?_⟩
    show wpOps _ _ _ _ (a30.put (some 50) (.tuple #[.int .i64 n1, .int .i64 (addE [] (toM m) now : Int)])) w36
    replace R_b4 := row_frame QU hfr R_b4 rfl
    replace R_b9 := row_frame QU hfr R_b9 rfl
    replace S11 : OwnStrs 0 ((toM m).hops) w36 (.slice x12 (((toM m).hops).length) c13) := own_frame QU hfr S11
    replace S33 : OwnStrs 0 ((toM m).hops) w36 (.slice x34 (((toM m).hops).length) c35) := own_frame QU hfr S33
    replace E := frame_ext hfr E B_q B_mb
    replace T2 : (fun v _ => v = .int .i64 now) (a30.at 2) w36 := T2
    replace T6 : (fun v _ => v = .bool false) (a30.at 6) w36 := T6
    replace T7 : (fun v _ => v = .pointer (some ⟨b9, 0, none⟩)) (a30.at 7) w36 := T7
    replace T8 : (fun v _ => v = .pointer (some ⟨q, 0, none⟩)) (a30.at 8) w36 := T8
    replace T47 : (fun v _ => v = .pointer (some ⟨q, 0, none⟩)) (a30.at 47) w36 := T47
    replace T48 : (fun v _ => v = .agg (msgC (toM m) (.slice x34 (((toM m).hops).length) c35))) (a30.at 48) w36 := T48
    replace T49 : (fun v _ => v = .int .i64 now) (a30.at 49) w36 := T49
    clear QU hfr
    have QU : QueueAt q mb (s.extract 0 ((min (s.size : Int) 60)).toNat) last1 l1 w36 := hq2
    clear hq2 he
    obtain ⟨a37, ha⟩ : ∃ x : Act, x = a30.put (some 50) (.tuple #[.int .i64 n1, .int .i64 (addE [] (toM m) now : Int)]) := ⟨_, rfl⟩
    rw [← ha]
    replace T2 : (fun v _ => v = .int .i64 now) (a37.at 2) w36 := by rw [ha, put_other rfl]; exact T2
    replace T6 : (fun v _ => v = .bool false) (a37.at 6) w36 := by rw [ha, put_other rfl]; exact T6
    replace T7 : (fun v _ => v = .pointer (some ⟨b9, 0, none⟩)) (a37.at 7) w36 := by rw [ha, put_other rfl]; exact T7
    replace T8 : (fun v _ => v = .pointer (some ⟨q, 0, none⟩)) (a37.at 8) w36 := by rw [ha, put_other rfl]; exact T8
    replace T47 : (fun v _ => v = .pointer (some ⟨q, 0, none⟩)) (a37.at 47) w36 := by rw [ha, put_other rfl]; exact T47
    replace T48 : (fun v _ => v = .agg (msgC (toM m) (.slice x34 (((toM m).hops).length) c35))) (a37.at 48) w36 := by rw [ha, put_other rfl]; exact T48
    replace T49 : (fun v _ => v = .int .i64 now) (a37.at 49) w36 := by rw [ha, put_other rfl]; exact T49
    have T50 : (fun v _ => v = .tuple #[.int .i64 n1, .int .i64 (addE [] (toM m) now : Int)]) (a37.at 50) w36 := by rw [ha, put_same N (by decide)]; skip
    replace N := (ha ▸ put_size _ _ _ : a37.tmps.size = _).trans N
    replace D := (ha ▸ put_defers' _ _ _ : a37.defers = _).trans D
    clear ha
    refine tail_val rfl rfl rfl (ex_move (.inl rfl) (v := .tuple #[.int .i64 n1, .int .i64 (addE [] (toM m) now : Int)]) (show a37.eval (.tmp 50) = .tuple #[.int .i64 n1, .int .i64 (addE [] (toM m) now : Int)] from T50)) ?_
    obtain ⟨a38, ha⟩ : ∃ x : Act, x = a37.put (some 46) (.tuple #[.int .i64 n1, .int .i64 (addE [] (toM m) now : Int)]) := ⟨_, rfl⟩
    rw [← ha]
    replace T2 : (fun v _ => v = .int .i64 now) (a38.at 2) w36 := by rw [ha, put_other rfl]; exact T2
    replace T6 : (fun v _ => v = .bool false) (a38.at 6) w36 := by rw [ha, put_other rfl]; exact T6
    replace T7 : (fun v _ => v = .pointer (some ⟨b9, 0, none⟩)) (a38.at 7) w36 := by rw [ha, put_other rfl]; exact T7
    replace T8 : (fun v _ => v = .pointer (some ⟨q, 0, none⟩)) (a38.at 8) w36 := by rw [ha, put_other rfl]; exact T8
    replace T47 : (fun v _ => v = .pointer (some ⟨q, 0, none⟩)) (a38.at 47) w36 := by rw [ha, put_other rfl]; exact T47
    replace T48 : (fun v _ => v = .agg (msgC (toM m) (.slice x34 (((toM m).hops).length) c35))) (a38.at 48) w36 := by rw [ha, put_other rfl]; exact T48
    replace T49 : (fun v _ => v = .int .i64 now) (a38.at 49) w36 := by rw [ha, put_other rfl]; exact T49
    replace T50 : (fun v _ => v = .tuple #[.int .i64 n1, .int .i64 (addE [] (toM m) now : Int)]) (a38.at 50) w36 := by rw [ha, put_other rfl]; exact T50
    have T46 : (fun v _ => v = .tuple #[.int .i64 n1, .int .i64 (addE [] (toM m) now : Int)]) (a38.at 46) w36 := by rw [ha, put_same N (by decide)]; skip
    replace N := (ha ▸ put_size _ _ _ : a38.tmps.size = _).trans N
    replace D := (ha ▸ put_defers' _ _ _ : a38.defers = _).trans D
    clear ha
    refine tail_val rfl rfl rfl (v := .int .i64 n1) (ex_extract rfl (show a38.eval (.tmp 46) = .tuple #[.int .i64 n1, .int .i64 (addE [] (toM m) now : Int)] from T46) rfl) ?_
    obtain ⟨a39, ha⟩ : ∃ x : Act, x = a38.put (some 51) (.int .i64 n1) := ⟨_, rfl⟩
    rw [← ha]
    replace T2 : (fun v _ => v = .int .i64 now) (a39.at 2) w36 := by rw [ha, put_other rfl]; exact T2
    replace T6 : (fun v _ => v = .bool false) (a39.at 6) w36 := by rw [ha, put_other rfl]; exact T6
    replace T7 : (fun v _ => v = .pointer (some ⟨b9, 0, none⟩)) (a39.at 7) w36 := by rw [ha, put_other rfl]; exact T7
    replace T8 : (fun v _ => v = .pointer (some ⟨q, 0, none⟩)) (a39.at 8) w36 := by rw [ha, put_other rfl]; exact T8
    replace T47 : (fun v _ => v = .pointer (some ⟨q, 0, none⟩)) (a39.at 47) w36 := by rw [ha, put_other rfl]; exact T47
    replace T48 : (fun v _ => v = .agg (msgC (toM m) (.slice x34 (((toM m).hops).length) c35))) (a39.at 48) w36 := by rw [ha, put_other rfl]; exact T48
    replace T49 : (fun v _ => v = .int .i64 now) (a39.at 49) w36 := by rw [ha, put_other rfl]; exact T49
    replace T50 : (fun v _ => v = .tuple #[.int .i64 n1, .int .i64 (addE [] (toM m) now : Int)]) (a39.at 50) w36 := by rw [ha, put_other rfl]; exact T50
    replace T46 : (fun v _ => v = .tuple #[.int .i64 n1, .int .i64 (addE [] (toM m) now : Int)]) (a39.at 46) w36 := by rw [ha, put_other rfl]; exact T46
    have T51 : (fun v _ => v = .int .i64 n1) (a39.at 51) w36 := by rw [ha, put_same N (by decide)]; skip
    replace N := (ha ▸ put_size _ _ _ : a39.tmps.size = _).trans N
    replace D := (ha ▸ put_defers' _ _ _ : a39.defers = _).trans D
    clear ha
    refine tail_val rfl rfl rfl (v := .int .i64 (addE [] (toM m) now : Int)) (ex_extract rfl (show a39.eval (.tmp 46) = .tuple #[.int .i64 n1, .int .i64 (addE [] (toM m) now : Int)] from T46) rfl) ?_
    obtain ⟨a40, ha⟩ : ∃ x : Act, x = a39.put (some 52) (.int .i64 (addE [] (toM m) now : Int)) := ⟨_, rfl⟩
    rw [← ha]
    replace T2 : (fun v _ => v = .int .i64 now) (a40.at 2) w36 := by rw [ha, put_other rfl]; exact T2
    replace T6 : (fun v _ => v = .bool false) (a40.at 6) w36 := by rw [ha, put_other rfl]; exact T6
    replace T7 : (fun v _ => v = .pointer (some ⟨b9, 0, none⟩)) (a40.at 7) w36 := by rw [ha, put_other rfl]; exact T7
    replace T8 : (fun v _ => v = .pointer (some ⟨q, 0, none⟩)) (a40.at 8) w36 := by rw [ha, put_other rfl]; exact T8
    replace T47 : (fun v _ => v = .pointer (some ⟨q, 0, none⟩)) (a40.at 47) w36 := by rw [ha, put_other rfl]; exact T47
    replace T48 : (fun v _ => v = .agg (msgC (toM m) (.slice x34 (((toM m).hops).length) c35))) (a40.at 48) w36 := by rw [ha, put_other rfl]; exact T48
    replace T49 : (fun v _ => v = .int .i64 now) (a40.at 49) w36 := by rw [ha, put_other rfl]; exact T49
    replace T50 : (fun v _ => v = .tuple #[.int .i64 n1, .int .i64 (addE [] (toM m) now : Int)]) (a40.at 50) w36 := by rw [ha, put_other rfl]; exact T50
    replace T46 : (fun v _ => v = .tuple #[.int .i64 n1, .int .i64 (addE [] (toM m) now : Int)]) (a40.at 46) w36 := by rw [ha, put_other rfl]; exact T46
    replace T51 : (fun v _ => v = .int .i64 n1) (a40.at 51) w36 := by rw [ha, put_other rfl]; exact T51
    have T52 : (fun v _ => v = .int .i64 (addE [] (toM m) now : Int)) (a40.at 52) w36 := by rw [ha, put_same N (by decide)]; skip
    replace N := (ha ▸ put_size _ _ _ : a40.tmps.size = _).trans N
    replace D := (ha ▸ put_defers' _ _ _ : a40.defers = _).trans D
    clear ha
    refine tail_val rfl rfl rfl (ex_move (.inr rfl) (v := .int .i64 n1) (show a40.eval (.tmp 51) = .int .i64 n1 from T51)) ?_
    obtain ⟨a41, ha⟩ : ∃ x : Act, x = a40.put (some 10) (.int .i64 n1) := ⟨_, rfl⟩
    rw [← ha]
    replace T2 : (fun v _ => v = .int .i64 now) (a41.at 2) w36 := by rw [ha, put_other rfl]; exact T2
    replace T6 : (fun v _ => v = .bool false) (a41.at 6) w36 := by rw [ha, put_other rfl]; exact T6
    replace T7 : (fun v _ => v = .pointer (some ⟨b9, 0, none⟩)) (a41.at 7) w36 := by rw [ha, put_other rfl]; exact T7
    replace T8 : (fun v _ => v = .pointer (some ⟨q, 0, none⟩)) (a41.at 8) w36 := by rw [ha, put_other rfl]; exact T8
    replace T47 : (fun v _ => v = .pointer (some ⟨q, 0, none⟩)) (a41.at 47) w36 := by rw [ha, put_other rfl]; exact T47
    replace T48 : (fun v _ => v = .agg (msgC (toM m) (.slice x34 (((toM m).hops).length) c35))) (a41.at 48) w36 := by rw [ha, put_other rfl]; exact T48
    replace T49 : (fun v _ => v = .int .i64 now) (a41.at 49) w36 := by rw [ha, put_other rfl]; exact T49
    replace T50 : (fun v _ => v = .tuple #[.int .i64 n1, .int .i64 (addE [] (toM m) now : Int)]) (a41.at 50) w36 := by rw [ha, put_other rfl]; exact T50
    replace T46 : (fun v _ => v = .tuple #[.int .i64 n1, .int .i64 (addE [] (toM m) now : Int)]) (a41.at 46) w36 := by rw [ha, put_other rfl]; exact T46
    replace T51 : (fun v _ => v = .int .i64 n1) (a41.at 51) w36 := by rw [ha, put_other rfl]; exact T51
    replace T52 : (fun v _ => v = .int .i64 (addE [] (toM m) now : Int)) (a41.at 52) w36 := by rw [ha, put_other rfl]; exact T52
    have T10 : (fun v _ => v = .int .i64 n1) (a41.at 10) w36 := by rw [ha, put_same N (by decide)]; skip
    replace N := (ha ▸ put_size _ _ _ : a41.tmps.size = _).trans N
    replace D := (ha ▸ put_defers' _ _ _ : a41.defers = _).trans D
    clear ha
    refine tail_val rfl rfl rfl (ex_move (.inr rfl) (v := .int .i64 (addE [] (toM m) now : Int)) (show a41.eval (.tmp 52) = .int .i64 (addE [] (toM m) now : Int) from T52)) ?_
    obtain ⟨a42, ha⟩ : ∃ x : Act, x = a41.put (some 11) (.int .i64 (addE [] (toM m) now : Int)) := ⟨_, rfl⟩
    rw [← ha]
    replace T2 : (fun v _ => v = .int .i64 now) (a42.at 2) w36 := by rw [ha, put_other rfl]; exact T2
    replace T6 : (fun v _ => v = .bool false) (a42.at 6) w36 := by rw [ha, put_other rfl]; exact T6
    replace T7 : (fun v _ => v = .pointer (some ⟨b9, 0, none⟩)) (a42.at 7) w36 := by rw [ha, put_other rfl]; exact T7
    replace T8 : (fun v _ => v = .pointer (some ⟨q, 0, none⟩)) (a42.at 8) w36 := by rw [ha, put_other rfl]; exact T8
    replace T47 : (fun v _ => v = .pointer (some ⟨q, 0, none⟩)) (a42.at 47) w36 := by rw [ha, put_other rfl]; exact T47
    replace T48 : (fun v _ => v = .agg (msgC (toM m) (.slice x34 (((toM m).hops).length) c35))) (a42.at 48) w36 := by rw [ha, put_other rfl]; exact T48
    replace T49 : (fun v _ => v = .int .i64 now) (a42.at 49) w36 := by rw [ha, put_other rfl]; exact T49
    replace T50 : (fun v _ => v = .tuple #[.int .i64 n1, .int .i64 (addE [] (toM m) now : Int)]) (a42.at 50) w36 := by rw [ha, put_other rfl]; exact T50
    replace T46 : (fun v _ => v = .tuple #[.int .i64 n1, .int .i64 (addE [] (toM m) now : Int)]) (a42.at 46) w36 := by rw [ha, put_other rfl]; exact T46
    replace T51 : (fun v _ => v = .int .i64 n1) (a42.at 51) w36 := by rw [ha, put_other rfl]; exact T51
    replace T52 : (fun v _ => v = .int .i64 (addE [] (toM m) now : Int)) (a42.at 52) w36 := by rw [ha, put_other rfl]; exact T52
    replace T10 : (fun v _ => v = .int .i64 n1) (a42.at 10) w36 := by rw [ha, put_other rfl]; exact T10
    have T11 : (fun v _ => v = .int .i64 (addE [] (toM m) now : Int)) (a42.at 11) w36 := by rw [ha, put_same N (by decide)]; skip
    replace N := (ha ▸ put_size _ _ _ : a42.tmps.size = _).trans N
    replace D := (ha ▸ put_defers' _ _ _ : a42.defers = _).trans D
    clear ha
    clear T47
    clear T48
    clear T49
    clear T50
    clear T46
    clear T51
    clear T52
    refine hK29 _ _ ?_
    refine wp_seq_k (fun K43 hK43 => ?_)
    refine wp_seq_k (fun K44 hK44 => ?_)
    -- region 6: law.go:223
    show (Code.region 6 (rg Tryd.f8 6) false).wp _ _ _ _
    refine plain_list (n := 2) (N := 152) (deps := [[], [0]]) (F := [(fun v _ => v = .int .i64 (addE [] (toM m) now : Int)), (fun v _ => v = .bool ((addE [] (toM m) now : Int) != (0 : Int)))]) (by kernel_rfl) (by kernel_rfl) rfl (by kernel_rfl) ⟨(stab_eq _), (stab_eq _), trivial⟩ N (by kernel_rfl) ⟨?_, ?_, trivial⟩ ?_
    · -- 0 law.go:223
      rintro aa ww hE hF ⟨-⟩
      have o11 : aa.eval (.tmp 11) = .int .i64 (addE [] (toM m) now : Int) := hF.carry (fun v _ => v = .int .i64 (addE [] (toM m) now : Int)) rfl (stab_eq _) hE T11
      exact opAt rfl (ok_run rfl (run_here rfl (ex_move (.inl rfl) o11) ( rfl)))
    · -- 1 law.go:223
      rintro aa ww hE hF ⟨d0, -⟩
      replace d0 : aa.eval (.tmp 53) = .int .i64 (addE [] (toM m) now : Int) := d0
      exact opAt rfl (ok_run rfl (run_here rfl (ex_binOp rfl (by rw [show aa.eval (.tmp 53) = .int .i64 (addE [] (toM m) now : Int) from d0, show aa.eval (.const (.int .i64 0)) = .int .i64 0 from (ev_const (v := .int .i64 0))]; exact eqg_int) (by rw [show aa.eval (.tmp 53) = .int .i64 (addE [] (toM m) now : Int) from d0, show aa.eval (.const (.int .i64 0)) = .int .i64 0 from (ev_const (v := .int .i64 0))]; exact bin_neq)) ( rfl)))
    intro a45 w46 hE hF hfac hap
    obtain ⟨f0, f1, -⟩ := hfac
    replace N := hF.size.trans N
    replace D := hF.defers.trans D
    replace R_b4 := hE.row R_b4
    replace R_b9 := hE.row R_b9
    replace S11 : OwnStrs 0 ((toM m).hops) w46 (.slice x12 (((toM m).hops).length) c13) := S11.ext hE
    replace QU : QueueAt q mb (s.extract 0 ((min (s.size : Int) 60)).toNat) last1 l1 w46 := QU.ext hE
    replace S33 : OwnStrs 0 ((toM m).hops) w46 (.slice x34 (((toM m).hops).length) c35) := S33.ext hE
    replace T2 : (fun v _ => v = .int .i64 now) (a45.at 2) w46 := hF.carry (fun v _ => v = .int .i64 now) rfl (stab_eq _) hE T2
    replace T6 : (fun v _ => v = .bool false) (a45.at 6) w46 := hF.carry (fun v _ => v = .bool false) rfl (stab_eq _) hE T6
    replace T7 : (fun v _ => v = .pointer (some ⟨b9, 0, none⟩)) (a45.at 7) w46 := hF.carry (fun v _ => v = .pointer (some ⟨b9, 0, none⟩)) rfl (stab_eq _) hE T7
    replace T8 : (fun v _ => v = .pointer (some ⟨q, 0, none⟩)) (a45.at 8) w46 := hF.carry (fun v _ => v = .pointer (some ⟨q, 0, none⟩)) rfl (stab_eq _) hE T8
    replace T10 : (fun v _ => v = .int .i64 n1) (a45.at 10) w46 := hF.carry (fun v _ => v = .int .i64 n1) rfl (stab_eq _) hE T10
    clear T11
    have T54 : (fun v _ => v = .bool ((addE [] (toM m) now : Int) != (0 : Int))) (a45.at 54) w46 := f1
    replace E := E.trans hE
    clear hE hF hap
    show wpOps _ (rg Tryd.f8 6) _ [] _ _
    refine hK44 _ _ ?_
    refine wp_cond_split (t := (addE [] (toM m) now : Int) != (0 : Int)) T54 (fun C47 => ?_) (fun C47 => ?_)
    · clear T54
      obtain ⟨hn1, hl1⟩ := hadd1 (bne_t C47)
      refine wp_seq_k (fun K48 hK48 => ?_)
      -- region 7: law.go:224
      show (Code.region 7 (rg Tryd.f8 7) false).wp _ _ _ _
      refine plain_list (n := 7) (N := 152) (deps := [[], [0], [1], [2], [2, 3], [2, 4], [2, 5]]) (F := [(fun v _ => v = .int .i64 n1), (fun v _ => v = .bool (n1 == (0 : Int))), (fun v _ => v = .bool (n1 == (0 : Int))), (fun v_ w_ => (n1 == (0 : Int)) = true → (fun v _ => v = .pointer (some ⟨q, 0, none⟩)) v_ w_), (fun v_ w_ => (n1 == (0 : Int)) = true → (fun v _ => v = .int .i64 (l1.length : Int)) v_ w_), (fun v_ w_ => (n1 == (0 : Int)) = true → (fun v _ => v = .bool ((l1.length : Int) == (0 : Int))) v_ w_), (fun v _ => v = .bool ((n1 == (0 : Int)) && ((l1.length : Int) == (0 : Int))))]) (by kernel_rfl) (by kernel_rfl) rfl (by kernel_rfl) ⟨(stab_eq _), (stab_eq _), (stab_eq _), (stab_imp (stab_eq _)), (stab_imp (stab_eq _)), (stab_imp (stab_eq _)), (stab_eq _), trivial⟩ N (by kernel_rfl) ⟨?_, ?_, ?_, ?_, ?_, ?_, ?_, trivial⟩ ?_
      · -- 0 law.go:224
        rintro aa ww hE hF ⟨-⟩
        have o10 : aa.eval (.tmp 10) = .int .i64 n1 := hF.carry (fun v _ => v = .int .i64 n1) rfl (stab_eq _) hE T10
        exact opAt rfl (ok_run rfl (run_here rfl (ex_move (.inl rfl) o10) ( rfl)))
      · -- 1 law.go:224
        rintro aa ww hE hF ⟨d0, -⟩
        replace d0 : aa.eval (.tmp 55) = .int .i64 n1 := d0
        exact opAt rfl (ok_run rfl (run_here rfl (ex_binOp rfl (by rw [show aa.eval (.tmp 55) = .int .i64 n1 from d0, show aa.eval (.const (.int .i64 0)) = .int .i64 0 from (ev_const (v := .int .i64 0))]; exact eqg_int) (by rw [show aa.eval (.tmp 55) = .int .i64 n1 from d0, show aa.eval (.const (.int .i64 0)) = .int .i64 0 from (ev_const (v := .int .i64 0))]; exact bin_eql)) ( rfl)))
      · -- 2 law.go:224
        rintro aa ww hE hF ⟨d1, -⟩
        replace d1 : aa.eval (.tmp 56) = .bool (n1 == (0 : Int)) := d1
        exact opAt rfl (ok_run rfl (run_here rfl (ex_move (.inl rfl) d1) ( rfl)))
      · -- 3 law.go:224
        rintro aa ww hE hF ⟨d2, -⟩
        replace d2 : aa.eval (.tmp 57) = .bool (n1 == (0 : Int)) := d2
        have o8 : aa.eval (.tmp 8) = .pointer (some ⟨q, 0, none⟩) := hF.carry (fun v _ => v = .pointer (some ⟨q, 0, none⟩)) rfl (stab_eq _) hE T8
        exact opAt rfl (ok_guard rfl d2 (fun hc => run_here rfl (ex_move (.inl rfl) o8) (fun _ =>  rfl)) (fun hn hc => absurd hc hn))
      · -- 4 law.go:224
        rintro aa ww hE hF ⟨d2, d3, -⟩
        replace d2 : aa.eval (.tmp 57) = .bool (n1 == (0 : Int)) := d2
        replace d3 : (n1 == (0 : Int)) = true → aa.eval (.tmp 58) = .pointer (some ⟨q, 0, none⟩) := d3
        exact opAt rfl (ok_guard rfl d2 (fun hc => run_callR (ψ := (fun v _ => v = .int .i64 (l1.length : Int))) rfl Tryd.call25 (by simp only [List.map_toArray, List.map_cons, List.map_nil, (d3 hc)]; exact ret_same (len_c _ _ _ _ _ _ (QU.ext hE))) (fun _ _ h => fun _ =>  h)) (fun hn hc => absurd hc hn))
      · -- 5 law.go:224
        rintro aa ww hE hF ⟨d2, d4, -⟩
        replace d2 : aa.eval (.tmp 57) = .bool (n1 == (0 : Int)) := d2
        replace d4 : (n1 == (0 : Int)) = true → aa.eval (.tmp 59) = .int .i64 (l1.length : Int) := d4
        exact opAt rfl (ok_guard rfl d2 (fun hc => run_here rfl (ex_binOp rfl (by rw [show aa.eval (.tmp 59) = .int .i64 (l1.length : Int) from (d4 hc), show aa.eval (.const (.int .i64 0)) = .int .i64 0 from (ev_const (v := .int .i64 0))]; exact eqg_int) (by rw [show aa.eval (.tmp 59) = .int .i64 (l1.length : Int) from (d4 hc), show aa.eval (.const (.int .i64 0)) = .int .i64 0 from (ev_const (v := .int .i64 0))]; exact bin_eql)) (fun _ =>  rfl)) (fun hn hc => absurd hc hn))
      · -- 6 law.go:224
        rintro aa ww hE hF ⟨d2, d5, -⟩
        replace d2 : aa.eval (.tmp 57) = .bool (n1 == (0 : Int)) := d2
        replace d5 : (n1 == (0 : Int)) = true → aa.eval (.tmp 60) = .bool ((l1.length : Int) == (0 : Int)) := d5
        exact opAt rfl (ok_run rfl (run_here rfl (ex_pick_and rfl d2 (fun hp => (d5 hp))) ( rfl)))
      intro a49 w50 hE hF hfac hap
      obtain ⟨f0, f1, f2, f3, f4, f5, f6, -⟩ := hfac
      replace N := hF.size.trans N
      replace D := hF.defers.trans D
      replace R_b4 := hE.row R_b4
      replace R_b9 := hE.row R_b9
      replace S11 : OwnStrs 0 ((toM m).hops) w50 (.slice x12 (((toM m).hops).length) c13) := S11.ext hE
      replace QU : QueueAt q mb (s.extract 0 ((min (s.size : Int) 60)).toNat) last1 l1 w50 := QU.ext hE
      replace S33 : OwnStrs 0 ((toM m).hops) w50 (.slice x34 (((toM m).hops).length) c35) := S33.ext hE
      replace T2 : (fun v _ => v = .int .i64 now) (a49.at 2) w50 := hF.carry (fun v _ => v = .int .i64 now) rfl (stab_eq _) hE T2
      replace T6 : (fun v _ => v = .bool false) (a49.at 6) w50 := hF.carry (fun v _ => v = .bool false) rfl (stab_eq _) hE T6
      replace T7 : (fun v _ => v = .pointer (some ⟨b9, 0, none⟩)) (a49.at 7) w50 := hF.carry (fun v _ => v = .pointer (some ⟨b9, 0, none⟩)) rfl (stab_eq _) hE T7
      replace T8 : (fun v _ => v = .pointer (some ⟨q, 0, none⟩)) (a49.at 8) w50 := hF.carry (fun v _ => v = .pointer (some ⟨q, 0, none⟩)) rfl (stab_eq _) hE T8
      replace T10 : (fun v _ => v = .int .i64 n1) (a49.at 10) w50 := hF.carry (fun v _ => v = .int .i64 n1) rfl (stab_eq _) hE T10
      have T61 : (fun v _ => v = .bool ((n1 == (0 : Int)) && ((l1.length : Int) == (0 : Int)))) (a49.at 61) w50 := f6
      replace E := E.trans hE
      clear hE hF hap
      show wpOps _ (rg Tryd.f8 7) _ [7] _ _
      refine tail_val rfl rfl rfl (ex_move (.inr rfl) (v := .bool ((n1 == (0 : Int)) && ((l1.length : Int) == (0 : Int)))) (show a49.eval (.tmp 61) = .bool ((n1 == (0 : Int)) && ((l1.length : Int) == (0 : Int))) from T61)) ?_
      obtain ⟨a51, ha⟩ : ∃ x : Act, x = a49.put (some 6) (.bool ((n1 == (0 : Int)) && ((l1.length : Int) == (0 : Int)))) := ⟨_, rfl⟩
      rw [← ha]
      replace T2 : (fun v _ => v = .int .i64 now) (a51.at 2) w50 := by rw [ha, put_other rfl]; exact T2
      replace T7 : (fun v _ => v = .pointer (some ⟨b9, 0, none⟩)) (a51.at 7) w50 := by rw [ha, put_other rfl]; exact T7
      replace T8 : (fun v _ => v = .pointer (some ⟨q, 0, none⟩)) (a51.at 8) w50 := by rw [ha, put_other rfl]; exact T8
      replace T10 : (fun v _ => v = .int .i64 n1) (a51.at 10) w50 := by rw [ha, put_other rfl]; exact T10
      replace T61 : (fun v _ => v = .bool ((n1 == (0 : Int)) && ((l1.length : Int) == (0 : Int)))) (a51.at 61) w50 := by rw [ha, put_other rfl]; exact T61
      replace T6 : (fun v _ => v = .bool ((n1 == (0 : Int)) && ((l1.length : Int) == (0 : Int)))) (a51.at 6) w50 := by rw [ha, put_same N (by decide)]; skip
      replace N := (ha ▸ put_size _ _ _ : a51.tmps.size = _).trans N
      replace D := (ha ▸ put_defers' _ _ _ : a51.defers = _).trans D
      clear ha
      clear T61
      refine hK48 _ _ ?_
      refine wp_ret ?_
      -- the end
      refine ret_1 Tryd.results8 D T6 ?_
      exact ⟨_, rfl, E, by rw [hn1, hl1]; rfl⟩
    · clear T54
      obtain ⟨hn1, hlast, hvq, hl1⟩ := hadd0 (bne_f C47)
      have hX : checkE (toM m) = 0 := by have h := bne_f C47; unfold addE at h; split at h; assumption; exact h
      replace T10 : (fun v _ => v = .int .i64 1) (a45.at 10) w46 := by rw [hn1] at T10; exact T10
      rw [hl1, hlast] at QU
      clear hadd0 hadd1
      refine wp_skip ?_
      refine hK43 _ _ ?_
      refine wp_seq_k (fun K52 hK52 => ?_)
      -- region 8: law.go:226
      show (Code.region 8 (rg Tryd.f8 8) false).wp _ _ _ _
      refine wp_region ?_
      show wpOps _ (rg Tryd.f8 8) _ [0] _ _
      refine tail_val rfl rfl rfl (ex_move (.inr rfl) (v := .int .i64 5) (ev_const (v := .int .i64 5))) ?_
      obtain ⟨a53, ha⟩ : ∃ x : Act, x = a45.put (some 12) (.int .i64 5) := ⟨_, rfl⟩
      rw [← ha]
      replace T2 : (fun v _ => v = .int .i64 now) (a53.at 2) w46 := by rw [ha, put_other rfl]; exact T2
      replace T6 : (fun v _ => v = .bool false) (a53.at 6) w46 := by rw [ha, put_other rfl]; exact T6
      replace T7 : (fun v _ => v = .pointer (some ⟨b9, 0, none⟩)) (a53.at 7) w46 := by rw [ha, put_other rfl]; exact T7
      replace T8 : (fun v _ => v = .pointer (some ⟨q, 0, none⟩)) (a53.at 8) w46 := by rw [ha, put_other rfl]; exact T8
      replace T10 : (fun v _ => v = .int .i64 1) (a53.at 10) w46 := by rw [ha, put_other rfl]; exact T10
      have T12 : (fun v _ => v = .int .i64 5) (a53.at 12) w46 := by rw [ha, put_same N (by decide)]; skip
      replace N := (ha ▸ put_size _ _ _ : a53.tmps.size = _).trans N
      replace D := (ha ▸ put_defers' _ _ _ : a53.defers = _).trans D
      clear ha
      refine hK52 _ _ ?_
      refine wp_seq_k (fun K54 hK54 => ?_)
      refine wp_seq_k (fun K55 hK55 => ?_)
      -- region 9: law.go:227
      show (Code.region 9 (rg Tryd.f8 9) false).wp _ _ _ _
      refine wp_region ?_
      show wpOps _ (rg Tryd.f8 9) _ [0] _ _
      refine tail_val rfl rfl rfl (ex_move (.inr rfl) (v := .int .i64 1) (ev_const (v := .int .i64 1))) ?_
      obtain ⟨a56, ha⟩ : ∃ x : Act, x = a53.put (some 13) (.int .i64 1) := ⟨_, rfl⟩
      rw [← ha]
      replace T2 : (fun v _ => v = .int .i64 now) (a56.at 2) w46 := by rw [ha, put_other rfl]; exact T2
      replace T6 : (fun v _ => v = .bool false) (a56.at 6) w46 := by rw [ha, put_other rfl]; exact T6
      replace T7 : (fun v _ => v = .pointer (some ⟨b9, 0, none⟩)) (a56.at 7) w46 := by rw [ha, put_other rfl]; exact T7
      replace T8 : (fun v _ => v = .pointer (some ⟨q, 0, none⟩)) (a56.at 8) w46 := by rw [ha, put_other rfl]; exact T8
      replace T10 : (fun v _ => v = .int .i64 1) (a56.at 10) w46 := by rw [ha, put_other rfl]; exact T10
      replace T12 : (fun v _ => v = .int .i64 5) (a56.at 12) w46 := by rw [ha, put_other rfl]; exact T12
      have T13 : (fun v _ => v = .int .i64 1) (a56.at 13) w46 := by rw [ha, put_same N (by decide)]; skip
      replace N := (ha ▸ put_size _ _ _ : a56.tmps.size = _).trans N
      replace D := (ha ▸ put_defers' _ _ _ : a56.defers = _).trans D
      clear ha
      refine hK55 _ _ ?_
      refine wp_block ?_
      -- the loop (it writes)
      obtain ⟨I57, hI57⟩ : ∃ I : Nat → Act → World → Prop, I = fun μ aa ww => ∃ (nw : Int) (dl : Int) (i : Nat) (dq : Int), (aa.tmps.size = 152) ∧ (aa.defers = []) ∧ (Ext w ww) ∧ ((fun v _ => v = .bool false) (aa.at 6) ww) ∧ ((fun v _ => v = .pointer (some ⟨b9, 0, none⟩)) (aa.at 7) ww) ∧ ((fun v _ => v = .pointer (some ⟨q, 0, none⟩)) (aa.at 8) ww) ∧ ((fun v _ => v = .int .i64 1) (aa.at 10) ww) ∧ ((fun v _ => v = .int .i64 nw) (aa.at 2) ww) ∧ ((fun v _ => v = .int .i64 dl) (aa.at 12) ww) ∧ ((fun v _ => v = .int .i64 (i : Int)) (aa.at 13) ww) ∧ (ww.heap[b4]? = some (.cells (msgC m mv) 26 (0, 0))) ∧ (ww.heap[b9]? = some (.cells (msgC (toM m) (.slice x12 (((toM m).hops).length) c13)) 29 (0, 0))) ∧ (OwnStrs 0 ((toM m).hops) ww (.slice x12 (((toM m).hops).length) c13)) ∧ (QueueAt q mb (s.extract 0 ((min (s.size : Int) 60)).toNat) 1 [((1 : Int), (⟨toM m, hvq, 1, dq, (i : Int) - 1⟩ : QEnt))] ww) ∧ (OwnStrs 0 ((toM m).hops) ww (.slice x34 (((toM m).hops).length) c35)) ∧ (μ = 9 - i) ∧ (RetRel now i nw dl) := ⟨_, rfl⟩
      refine loop_rule I57 _ (by rw [hI57]; exact ⟨now, 5, 1, now, N, D, E, T6, T7, T8, T10, T2, T12, T13, R_b4, R_b9, S11, QU, S33, rfl, RetRel.start now⟩) ?_
      clear N D E T2 T6 T7 T8 T10 T12 T13 R_b4 R_b9 S11 QU S33
      intro μ a58 w59 hI
      rw [hI57] at hI
      obtain ⟨nw, dl, i, dq, N, D, E, T6, T7, T8, T10, T2, T12, T13, R_b4, R_b9, S11, QU, S33, hμ, hrel⟩ := hI
      have HM := Lib.hid hμ; clear hμ
      obtain ⟨hb1, hb2, hb3, hb4⟩ := hrel.bounds
      have hi8 := hrel.i8
      refine wp_seq_k (fun K60 hK60 => ?_)
      refine wp_seq_k (fun K61 hK61 => ?_)
      -- region 10: law.go:227
      show (Code.region 10 (rg Tryd.f8 10) false).wp _ _ _ _
      refine plain_list (n := 2) (N := 152) (deps := [[], [0]]) (F := [(fun v _ => v = .int .i64 (i : Int)), (fun v _ => v = .bool (decide ((i : Int) ≤ (8 : Int))))]) (by kernel_rfl) (by kernel_rfl) rfl (by kernel_rfl) ⟨(stab_eq _), (stab_eq _), trivial⟩ N (by kernel_rfl) ⟨?_, ?_, trivial⟩ ?_
      · -- 0 law.go:227
        rintro aa ww hE hF ⟨-⟩
        have o13 : aa.eval (.tmp 13) = .int .i64 (i : Int) := hF.carry (fun v _ => v = .int .i64 (i : Int)) rfl (stab_eq _) hE T13
        exact opAt rfl (ok_run rfl (run_here rfl (ex_move (.inl rfl) o13) ( rfl)))
      · -- 1 law.go:227
        rintro aa ww hE hF ⟨d0, -⟩
        replace d0 : aa.eval (.tmp 62) = .int .i64 (i : Int) := d0
        exact opAt rfl (ok_run rfl (run_here rfl (ex_binOp rfl (by rw [show aa.eval (.tmp 62) = .int .i64 (i : Int) from d0, show aa.eval (.const (.int .i64 8)) = .int .i64 8 from (ev_const (v := .int .i64 8))]; exact eqg_int) (by rw [show aa.eval (.tmp 62) = .int .i64 (i : Int) from d0, show aa.eval (.const (.int .i64 8)) = .int .i64 8 from (ev_const (v := .int .i64 8))]; exact bin_leq)) ( rfl)))
      intro a62 w63 hE hF hfac hap
      obtain ⟨f0, f1, -⟩ := hfac
      replace N := hF.size.trans N
      replace D := hF.defers.trans D
      replace R_b4 := hE.row R_b4
      replace R_b9 := hE.row R_b9
      replace S11 : OwnStrs 0 ((toM m).hops) w63 (.slice x12 (((toM m).hops).length) c13) := S11.ext hE
      replace QU : QueueAt q mb (s.extract 0 ((min (s.size : Int) 60)).toNat) 1 [((1 : Int), (⟨toM m, hvq, 1, dq, (i : Int) - 1⟩ : QEnt))] w63 := QU.ext hE
      replace S33 : OwnStrs 0 ((toM m).hops) w63 (.slice x34 (((toM m).hops).length) c35) := S33.ext hE
      replace T6 : (fun v _ => v = .bool false) (a62.at 6) w63 := hF.carry (fun v _ => v = .bool false) rfl (stab_eq _) hE T6
      replace T7 : (fun v _ => v = .pointer (some ⟨b9, 0, none⟩)) (a62.at 7) w63 := hF.carry (fun v _ => v = .pointer (some ⟨b9, 0, none⟩)) rfl (stab_eq _) hE T7
      replace T8 : (fun v _ => v = .pointer (some ⟨q, 0, none⟩)) (a62.at 8) w63 := hF.carry (fun v _ => v = .pointer (some ⟨q, 0, none⟩)) rfl (stab_eq _) hE T8
      replace T10 : (fun v _ => v = .int .i64 1) (a62.at 10) w63 := hF.carry (fun v _ => v = .int .i64 1) rfl (stab_eq _) hE T10
      replace T2 : (fun v _ => v = .int .i64 nw) (a62.at 2) w63 := hF.carry (fun v _ => v = .int .i64 nw) rfl (stab_eq _) hE T2
      replace T12 : (fun v _ => v = .int .i64 dl) (a62.at 12) w63 := hF.carry (fun v _ => v = .int .i64 dl) rfl (stab_eq _) hE T12
      replace T13 : (fun v _ => v = .int .i64 (i : Int)) (a62.at 13) w63 := hF.carry (fun v _ => v = .int .i64 (i : Int)) rfl (stab_eq _) hE T13
      have T63 : (fun v _ => v = .bool (decide ((i : Int) ≤ (8 : Int)))) (a62.at 63) w63 := f1
      replace E := E.trans hE
      clear hE hF hap
      show wpOps _ (rg Tryd.f8 10) _ [] _ _
      refine hK61 _ _ ?_
      refine wp_cond_split (t := decide ((i : Int) ≤ (8 : Int))) T63 (fun C64 => ?_) (fun C64 => ?_)
      · clear T63
        refine wp_skip ?_
        refine hK60 _ _ ?_
        refine wp_seq_k (fun K65 hK65 => ?_)
        refine wp_block ?_
        refine wp_seq_k (fun K66 hK66 => ?_)
        -- region 12: law.go:228
        show (Code.region 12 (rg Tryd.f8 12) false).wp _ _ _ _
        refine plain_list (n := 3) (N := 152) (deps := [[], [], []]) (F := [(fun v _ => v = .pointer (some ⟨q, 0, none⟩)), (fun v _ => v = .int .i64 1), (fun v _ => v = .int .i64 nw)]) (by kernel_rfl) (by kernel_rfl) rfl (by kernel_rfl) ⟨(stab_eq _), (stab_eq _), (stab_eq _), trivial⟩ N (by kernel_rfl) ⟨?_, ?_, ?_, trivial⟩ ?_
        · -- 0 law.go:228
          rintro aa ww hE hF ⟨-⟩
          have o8 : aa.eval (.tmp 8) = .pointer (some ⟨q, 0, none⟩) := hF.carry (fun v _ => v = .pointer (some ⟨q, 0, none⟩)) rfl (stab_eq _) hE T8
          exact opAt rfl (ok_run rfl (run_here rfl (ex_move (.inl rfl) o8) ( rfl)))
        · -- 1 law.go:228
          rintro aa ww hE hF ⟨-⟩
          have o10 : aa.eval (.tmp 10) = .int .i64 1 := hF.carry (fun v _ => v = .int .i64 1) rfl (stab_eq _) hE T10
          exact opAt rfl (ok_run rfl (run_here rfl (ex_move (.inl rfl) o10) ( rfl)))
        · -- 2 law.go:228
          rintro aa ww hE hF ⟨-⟩
          have o2 : aa.eval (.tmp 2) = .int .i64 nw := hF.carry (fun v _ => v = .int .i64 nw) rfl (stab_eq _) hE T2
          exact opAt rfl (ok_run rfl (run_here rfl (ex_move (.inl rfl) o2) ( rfl)))
        intro a67 w68 hE hF hfac hap
        obtain ⟨f0, f1, f2, -⟩ := hfac
        replace N := hF.size.trans N
        replace D := hF.defers.trans D
        replace R_b4 := hE.row R_b4
        replace R_b9 := hE.row R_b9
        replace S11 : OwnStrs 0 ((toM m).hops) w68 (.slice x12 (((toM m).hops).length) c13) := S11.ext hE
        replace QU : QueueAt q mb (s.extract 0 ((min (s.size : Int) 60)).toNat) 1 [((1 : Int), (⟨toM m, hvq, 1, dq, (i : Int) - 1⟩ : QEnt))] w68 := QU.ext hE
        replace S33 : OwnStrs 0 ((toM m).hops) w68 (.slice x34 (((toM m).hops).length) c35) := S33.ext hE
        replace T6 : (fun v _ => v = .bool false) (a67.at 6) w68 := hF.carry (fun v _ => v = .bool false) rfl (stab_eq _) hE T6
        replace T7 : (fun v _ => v = .pointer (some ⟨b9, 0, none⟩)) (a67.at 7) w68 := hF.carry (fun v _ => v = .pointer (some ⟨b9, 0, none⟩)) rfl (stab_eq _) hE T7
        replace T8 : (fun v _ => v = .pointer (some ⟨q, 0, none⟩)) (a67.at 8) w68 := hF.carry (fun v _ => v = .pointer (some ⟨q, 0, none⟩)) rfl (stab_eq _) hE T8
        replace T10 : (fun v _ => v = .int .i64 1) (a67.at 10) w68 := hF.carry (fun v _ => v = .int .i64 1) rfl (stab_eq _) hE T10
        replace T2 : (fun v _ => v = .int .i64 nw) (a67.at 2) w68 := hF.carry (fun v _ => v = .int .i64 nw) rfl (stab_eq _) hE T2
        replace T12 : (fun v _ => v = .int .i64 dl) (a67.at 12) w68 := hF.carry (fun v _ => v = .int .i64 dl) rfl (stab_eq _) hE T12
        replace T13 : (fun v _ => v = .int .i64 (i : Int)) (a67.at 13) w68 := hF.carry (fun v _ => v = .int .i64 (i : Int)) rfl (stab_eq _) hE T13
        have T67 : (fun v _ => v = .pointer (some ⟨q, 0, none⟩)) (a67.at 67) w68 := f0
        have T68 : (fun v _ => v = .int .i64 1) (a67.at 68) w68 := f1
        have T69 : (fun v _ => v = .int .i64 nw) (a67.at 69) w68 := f2
        replace E := E.trans hE
        clear hE hF hap
        show wpOps _ (rg Tryd.f8 12) _ [3, 4, 5, 6, 7, 8, 9, 10] _ _
        refine tail_call rfl rfl rfl Tryd.call26 ?_
        simp only [List.map_toArray, List.map_cons, List.map_nil, show a67.eval (.tmp 67) = .pointer (some ⟨q, 0, none⟩) from (show a67.eval (.tmp 67) = .pointer (some ⟨q, 0, none⟩) from T67), show a67.eval (.tmp 68) = .int .i64 1 from (show a67.eval (.tmp 68) = .int .i64 1 from T68), show a67.eval (.tmp 69) = .int .i64 nw from (show a67.eval (.tmp 69) = .int .i64 nw from T69)]
        refine (fail_r hrel h0 h1 hX (toM_fits fm) hS hSz QU POW E B_q B_mb).mono ?_
        rintro e w69 ⟨k1, last1, is1, l1, he, hq2, hfr, hgl, hlo, hhi⟩
        refine ⟨_, he, ?_⟩
        show wpOps _ _ _ _ (a67.put (some 70) (.tuple #[.int .i64 k1, .bool is1, .int .i64 0])) w69
        replace R_b4 := row_frame QU hfr R_b4 rfl
        replace R_b9 := row_frame QU hfr R_b9 rfl
        replace S11 : OwnStrs 0 ((toM m).hops) w69 (.slice x12 (((toM m).hops).length) c13) := own_frame QU hfr S11
        replace S33 : OwnStrs 0 ((toM m).hops) w69 (.slice x34 (((toM m).hops).length) c35) := own_frame QU hfr S33
        replace E := frame_ext hfr E B_q B_mb
        replace T6 : (fun v _ => v = .bool false) (a67.at 6) w69 := T6
        replace T7 : (fun v _ => v = .pointer (some ⟨b9, 0, none⟩)) (a67.at 7) w69 := T7
        replace T8 : (fun v _ => v = .pointer (some ⟨q, 0, none⟩)) (a67.at 8) w69 := T8
        replace T10 : (fun v _ => v = .int .i64 1) (a67.at 10) w69 := T10
        replace T2 : (fun v _ => v = .int .i64 nw) (a67.at 2) w69 := T2
        replace T12 : (fun v _ => v = .int .i64 dl) (a67.at 12) w69 := T12
        replace T13 : (fun v _ => v = .int .i64 (i : Int)) (a67.at 13) w69 := T13
        replace T67 : (fun v _ => v = .pointer (some ⟨q, 0, none⟩)) (a67.at 67) w69 := T67
        replace T68 : (fun v _ => v = .int .i64 1) (a67.at 68) w69 := T68
        replace T69 : (fun v _ => v = .int .i64 nw) (a67.at 69) w69 := T69
        clear QU hfr
        have QU : QueueAt q mb (s.extract 0 ((min (s.size : Int) 60)).toNat) last1 l1 w69 := hq2
        clear hq2 he
        obtain ⟨a70, ha⟩ : ∃ x : Act, x = a67.put (some 70) (.tuple #[.int .i64 k1, .bool is1, .int .i64 0]) := ⟨_, rfl⟩
        rw [← ha]
        replace T6 : (fun v _ => v = .bool false) (a70.at 6) w69 := by rw [ha, put_other rfl]; exact T6
        replace T7 : (fun v _ => v = .pointer (some ⟨b9, 0, none⟩)) (a70.at 7) w69 := by rw [ha, put_other rfl]; exact T7
        replace T8 : (fun v _ => v = .pointer (some ⟨q, 0, none⟩)) (a70.at 8) w69 := by rw [ha, put_other rfl]; exact T8
        replace T10 : (fun v _ => v = .int .i64 1) (a70.at 10) w69 := by rw [ha, put_other rfl]; exact T10
        replace T2 : (fun v _ => v = .int .i64 nw) (a70.at 2) w69 := by rw [ha, put_other rfl]; exact T2
        replace T12 : (fun v _ => v = .int .i64 dl) (a70.at 12) w69 := by rw [ha, put_other rfl]; exact T12
        replace T13 : (fun v _ => v = .int .i64 (i : Int)) (a70.at 13) w69 := by rw [ha, put_other rfl]; exact T13
        replace T67 : (fun v _ => v = .pointer (some ⟨q, 0, none⟩)) (a70.at 67) w69 := by rw [ha, put_other rfl]; exact T67
        replace T68 : (fun v _ => v = .int .i64 1) (a70.at 68) w69 := by rw [ha, put_other rfl]; exact T68
        replace T69 : (fun v _ => v = .int .i64 nw) (a70.at 69) w69 := by rw [ha, put_other rfl]; exact T69
        have T70 : (fun v _ => v = .tuple #[.int .i64 k1, .bool is1, .int .i64 0]) (a70.at 70) w69 := by rw [ha, put_same N (by decide)]; skip
        replace N := (ha ▸ put_size _ _ _ : a70.tmps.size = _).trans N
        replace D := (ha ▸ put_defers' _ _ _ : a70.defers = _).trans D
        clear ha
        refine tail_val rfl rfl rfl (ex_move (.inl rfl) (v := .tuple #[.int .i64 k1, .bool is1, .int .i64 0]) (show a70.eval (.tmp 70) = .tuple #[.int .i64 k1, .bool is1, .int .i64 0] from T70)) ?_
        obtain ⟨a71, ha⟩ : ∃ x : Act, x = a70.put (some 66) (.tuple #[.int .i64 k1, .bool is1, .int .i64 0]) := ⟨_, rfl⟩
        rw [← ha]
        replace T6 : (fun v _ => v = .bool false) (a71.at 6) w69 := by rw [ha, put_other rfl]; exact T6
        replace T7 : (fun v _ => v = .pointer (some ⟨b9, 0, none⟩)) (a71.at 7) w69 := by rw [ha, put_other rfl]; exact T7
        replace T8 : (fun v _ => v = .pointer (some ⟨q, 0, none⟩)) (a71.at 8) w69 := by rw [ha, put_other rfl]; exact T8
        replace T10 : (fun v _ => v = .int .i64 1) (a71.at 10) w69 := by rw [ha, put_other rfl]; exact T10
        replace T2 : (fun v _ => v = .int .i64 nw) (a71.at 2) w69 := by rw [ha, put_other rfl]; exact T2
        replace T12 : (fun v _ => v = .int .i64 dl) (a71.at 12) w69 := by rw [ha, put_other rfl]; exact T12
        replace T13 : (fun v _ => v = .int .i64 (i : Int)) (a71.at 13) w69 := by rw [ha, put_other rfl]; exact T13
        replace T67 : (fun v _ => v = .pointer (some ⟨q, 0, none⟩)) (a71.at 67) w69 := by rw [ha, put_other rfl]; exact T67
        replace T68 : (fun v _ => v = .int .i64 1) (a71.at 68) w69 := by rw [ha, put_other rfl]; exact T68
        replace T69 : (fun v _ => v = .int .i64 nw) (a71.at 69) w69 := by rw [ha, put_other rfl]; exact T69
        replace T70 : (fun v _ => v = .tuple #[.int .i64 k1, .bool is1, .int .i64 0]) (a71.at 70) w69 := by rw [ha, put_other rfl]; exact T70
        have T66 : (fun v _ => v = .tuple #[.int .i64 k1, .bool is1, .int .i64 0]) (a71.at 66) w69 := by rw [ha, put_same N (by decide)]; skip
        replace N := (ha ▸ put_size _ _ _ : a71.tmps.size = _).trans N
        replace D := (ha ▸ put_defers' _ _ _ : a71.defers = _).trans D
        clear ha
        refine tail_val rfl rfl rfl (v := .int .i64 k1) (ex_extract rfl (show a71.eval (.tmp 66) = .tuple #[.int .i64 k1, .bool is1, .int .i64 0] from T66) rfl) ?_
        obtain ⟨a72, ha⟩ : ∃ x : Act, x = a71.put (some 71) (.int .i64 k1) := ⟨_, rfl⟩
        rw [← ha]
        replace T6 : (fun v _ => v = .bool false) (a72.at 6) w69 := by rw [ha, put_other rfl]; exact T6
        replace T7 : (fun v _ => v = .pointer (some ⟨b9, 0, none⟩)) (a72.at 7) w69 := by rw [ha, put_other rfl]; exact T7
        replace T8 : (fun v _ => v = .pointer (some ⟨q, 0, none⟩)) (a72.at 8) w69 := by rw [ha, put_other rfl]; exact T8
        replace T10 : (fun v _ => v = .int .i64 1) (a72.at 10) w69 := by rw [ha, put_other rfl]; exact T10
        replace T2 : (fun v _ => v = .int .i64 nw) (a72.at 2) w69 := by rw [ha, put_other rfl]; exact T2
        replace T12 : (fun v _ => v = .int .i64 dl) (a72.at 12) w69 := by rw [ha, put_other rfl]; exact T12
        replace T13 : (fun v _ => v = .int .i64 (i : Int)) (a72.at 13) w69 := by rw [ha, put_other rfl]; exact T13
        replace T67 : (fun v _ => v = .pointer (some ⟨q, 0, none⟩)) (a72.at 67) w69 := by rw [ha, put_other rfl]; exact T67
        replace T68 : (fun v _ => v = .int .i64 1) (a72.at 68) w69 := by rw [ha, put_other rfl]; exact T68
        replace T69 : (fun v _ => v = .int .i64 nw) (a72.at 69) w69 := by rw [ha, put_other rfl]; exact T69
        replace T70 : (fun v _ => v = .tuple #[.int .i64 k1, .bool is1, .int .i64 0]) (a72.at 70) w69 := by rw [ha, put_other rfl]; exact T70
        replace T66 : (fun v _ => v = .tuple #[.int .i64 k1, .bool is1, .int .i64 0]) (a72.at 66) w69 := by rw [ha, put_other rfl]; exact T66
        have T71 : (fun v _ => v = .int .i64 k1) (a72.at 71) w69 := by rw [ha, put_same N (by decide)]; skip
        replace N := (ha ▸ put_size _ _ _ : a72.tmps.size = _).trans N
        replace D := (ha ▸ put_defers' _ _ _ : a72.defers = _).trans D
        clear ha
        refine tail_val rfl rfl rfl (v := .bool is1) (ex_extract rfl (show a72.eval (.tmp 66) = .tuple #[.int .i64 k1, .bool is1, .int .i64 0] from T66) rfl) ?_
        obtain ⟨a73, ha⟩ : ∃ x : Act, x = a72.put (some 72) (.bool is1) := ⟨_, rfl⟩
        rw [← ha]
        replace T6 : (fun v _ => v = .bool false) (a73.at 6) w69 := by rw [ha, put_other rfl]; exact T6
        replace T7 : (fun v _ => v = .pointer (some ⟨b9, 0, none⟩)) (a73.at 7) w69 := by rw [ha, put_other rfl]; exact T7
        replace T8 : (fun v _ => v = .pointer (some ⟨q, 0, none⟩)) (a73.at 8) w69 := by rw [ha, put_other rfl]; exact T8
        replace T10 : (fun v _ => v = .int .i64 1) (a73.at 10) w69 := by rw [ha, put_other rfl]; exact T10
        replace T2 : (fun v _ => v = .int .i64 nw) (a73.at 2) w69 := by rw [ha, put_other rfl]; exact T2
        replace T12 : (fun v _ => v = .int .i64 dl) (a73.at 12) w69 := by rw [ha, put_other rfl]; exact T12
        replace T13 : (fun v _ => v = .int .i64 (i : Int)) (a73.at 13) w69 := by rw [ha, put_other rfl]; exact T13
        replace T67 : (fun v _ => v = .pointer (some ⟨q, 0, none⟩)) (a73.at 67) w69 := by rw [ha, put_other rfl]; exact T67
        replace T68 : (fun v _ => v = .int .i64 1) (a73.at 68) w69 := by rw [ha, put_other rfl]; exact T68
        replace T69 : (fun v _ => v = .int .i64 nw) (a73.at 69) w69 := by rw [ha, put_other rfl]; exact T69
        replace T70 : (fun v _ => v = .tuple #[.int .i64 k1, .bool is1, .int .i64 0]) (a73.at 70) w69 := by rw [ha, put_other rfl]; exact T70
        replace T66 : (fun v _ => v = .tuple #[.int .i64 k1, .bool is1, .int .i64 0]) (a73.at 66) w69 := by rw [ha, put_other rfl]; exact T66
        replace T71 : (fun v _ => v = .int .i64 k1) (a73.at 71) w69 := by rw [ha, put_other rfl]; exact T71
        have T72 : (fun v _ => v = .bool is1) (a73.at 72) w69 := by rw [ha, put_same N (by decide)]; skip
        replace N := (ha ▸ put_size _ _ _ : a73.tmps.size = _).trans N
        replace D := (ha ▸ put_defers' _ _ _ : a73.defers = _).trans D
        clear ha
        refine tail_val rfl rfl rfl (v := .int .i64 0) (ex_extract rfl (show a73.eval (.tmp 66) = .tuple #[.int .i64 k1, .bool is1, .int .i64 0] from T66) rfl) ?_
        obtain ⟨a74, ha⟩ : ∃ x : Act, x = a73.put (some 73) (.int .i64 0) := ⟨_, rfl⟩
        rw [← ha]
        replace T6 : (fun v _ => v = .bool false) (a74.at 6) w69 := by rw [ha, put_other rfl]; exact T6
        replace T7 : (fun v _ => v = .pointer (some ⟨b9, 0, none⟩)) (a74.at 7) w69 := by rw [ha, put_other rfl]; exact T7
        replace T8 : (fun v _ => v = .pointer (some ⟨q, 0, none⟩)) (a74.at 8) w69 := by rw [ha, put_other rfl]; exact T8
        replace T10 : (fun v _ => v = .int .i64 1) (a74.at 10) w69 := by rw [ha, put_other rfl]; exact T10
        replace T2 : (fun v _ => v = .int .i64 nw) (a74.at 2) w69 := by rw [ha, put_other rfl]; exact T2
        replace T12 : (fun v _ => v = .int .i64 dl) (a74.at 12) w69 := by rw [ha, put_other rfl]; exact T12
        replace T13 : (fun v _ => v = .int .i64 (i : Int)) (a74.at 13) w69 := by rw [ha, put_other rfl]; exact T13
        replace T67 : (fun v _ => v = .pointer (some ⟨q, 0, none⟩)) (a74.at 67) w69 := by rw [ha, put_other rfl]; exact T67
        replace T68 : (fun v _ => v = .int .i64 1) (a74.at 68) w69 := by rw [ha, put_other rfl]; exact T68
        replace T69 : (fun v _ => v = .int .i64 nw) (a74.at 69) w69 := by rw [ha, put_other rfl]; exact T69
        replace T70 : (fun v _ => v = .tuple #[.int .i64 k1, .bool is1, .int .i64 0]) (a74.at 70) w69 := by rw [ha, put_other rfl]; exact T70
        replace T66 : (fun v _ => v = .tuple #[.int .i64 k1, .bool is1, .int .i64 0]) (a74.at 66) w69 := by rw [ha, put_other rfl]; exact T66
        replace T71 : (fun v _ => v = .int .i64 k1) (a74.at 71) w69 := by rw [ha, put_other rfl]; exact T71
        replace T72 : (fun v _ => v = .bool is1) (a74.at 72) w69 := by rw [ha, put_other rfl]; exact T72
        have T73 : (fun v _ => v = .int .i64 0) (a74.at 73) w69 := by rw [ha, put_same N (by decide)]; skip
        replace N := (ha ▸ put_size _ _ _ : a74.tmps.size = _).trans N
        replace D := (ha ▸ put_defers' _ _ _ : a74.defers = _).trans D
        clear ha
        refine tail_val rfl rfl rfl (ex_move (.inr rfl) (v := .int .i64 k1) (show a74.eval (.tmp 71) = .int .i64 k1 from T71)) ?_
        obtain ⟨a75, ha⟩ : ∃ x : Act, x = a74.put (some 14) (.int .i64 k1) := ⟨_, rfl⟩
        rw [← ha]
        replace T6 : (fun v _ => v = .bool false) (a75.at 6) w69 := by rw [ha, put_other rfl]; exact T6
        replace T7 : (fun v _ => v = .pointer (some ⟨b9, 0, none⟩)) (a75.at 7) w69 := by rw [ha, put_other rfl]; exact T7
        replace T8 : (fun v _ => v = .pointer (some ⟨q, 0, none⟩)) (a75.at 8) w69 := by rw [ha, put_other rfl]; exact T8
        replace T10 : (fun v _ => v = .int .i64 1) (a75.at 10) w69 := by rw [ha, put_other rfl]; exact T10
        replace T2 : (fun v _ => v = .int .i64 nw) (a75.at 2) w69 := by rw [ha, put_other rfl]; exact T2
        replace T12 : (fun v _ => v = .int .i64 dl) (a75.at 12) w69 := by rw [ha, put_other rfl]; exact T12
        replace T13 : (fun v _ => v = .int .i64 (i : Int)) (a75.at 13) w69 := by rw [ha, put_other rfl]; exact T13
        replace T67 : (fun v _ => v = .pointer (some ⟨q, 0, none⟩)) (a75.at 67) w69 := by rw [ha, put_other rfl]; exact T67
        replace T68 : (fun v _ => v = .int .i64 1) (a75.at 68) w69 := by rw [ha, put_other rfl]; exact T68
        replace T69 : (fun v _ => v = .int .i64 nw) (a75.at 69) w69 := by rw [ha, put_other rfl]; exact T69
        replace T70 : (fun v _ => v = .tuple #[.int .i64 k1, .bool is1, .int .i64 0]) (a75.at 70) w69 := by rw [ha, put_other rfl]; exact T70
        replace T66 : (fun v _ => v = .tuple #[.int .i64 k1, .bool is1, .int .i64 0]) (a75.at 66) w69 := by rw [ha, put_other rfl]; exact T66
        replace T71 : (fun v _ => v = .int .i64 k1) (a75.at 71) w69 := by rw [ha, put_other rfl]; exact T71
        replace T72 : (fun v _ => v = .bool is1) (a75.at 72) w69 := by rw [ha, put_other rfl]; exact T72
        replace T73 : (fun v _ => v = .int .i64 0) (a75.at 73) w69 := by rw [ha, put_other rfl]; exact T73
        have T14 : (fun v _ => v = .int .i64 k1) (a75.at 14) w69 := by rw [ha, put_same N (by decide)]; skip
        replace N := (ha ▸ put_size _ _ _ : a75.tmps.size = _).trans N
        replace D := (ha ▸ put_defers' _ _ _ : a75.defers = _).trans D
        clear ha
        refine tail_val rfl rfl rfl (ex_move (.inr rfl) (v := .bool is1) (show a75.eval (.tmp 72) = .bool is1 from T72)) ?_
        obtain ⟨a76, ha⟩ : ∃ x : Act, x = a75.put (some 15) (.bool is1) := ⟨_, rfl⟩
        rw [← ha]
        replace T6 : (fun v _ => v = .bool false) (a76.at 6) w69 := by rw [ha, put_other rfl]; exact T6
        replace T7 : (fun v _ => v = .pointer (some ⟨b9, 0, none⟩)) (a76.at 7) w69 := by rw [ha, put_other rfl]; exact T7
        replace T8 : (fun v _ => v = .pointer (some ⟨q, 0, none⟩)) (a76.at 8) w69 := by rw [ha, put_other rfl]; exact T8
        replace T10 : (fun v _ => v = .int .i64 1) (a76.at 10) w69 := by rw [ha, put_other rfl]; exact T10
        replace T2 : (fun v _ => v = .int .i64 nw) (a76.at 2) w69 := by rw [ha, put_other rfl]; exact T2
        replace T12 : (fun v _ => v = .int .i64 dl) (a76.at 12) w69 := by rw [ha, put_other rfl]; exact T12
        replace T13 : (fun v _ => v = .int .i64 (i : Int)) (a76.at 13) w69 := by rw [ha, put_other rfl]; exact T13
        replace T67 : (fun v _ => v = .pointer (some ⟨q, 0, none⟩)) (a76.at 67) w69 := by rw [ha, put_other rfl]; exact T67
        replace T68 : (fun v _ => v = .int .i64 1) (a76.at 68) w69 := by rw [ha, put_other rfl]; exact T68
        replace T69 : (fun v _ => v = .int .i64 nw) (a76.at 69) w69 := by rw [ha, put_other rfl]; exact T69
        replace T70 : (fun v _ => v = .tuple #[.int .i64 k1, .bool is1, .int .i64 0]) (a76.at 70) w69 := by rw [ha, put_other rfl]; exact T70
        replace T66 : (fun v _ => v = .tuple #[.int .i64 k1, .bool is1, .int .i64 0]) (a76.at 66) w69 := by rw [ha, put_other rfl]; exact T66
        replace T71 : (fun v _ => v = .int .i64 k1) (a76.at 71) w69 := by rw [ha, put_other rfl]; exact T71
        replace T72 : (fun v _ => v = .bool is1) (a76.at 72) w69 := by rw [ha, put_other rfl]; exact T72
        replace T73 : (fun v _ => v = .int .i64 0) (a76.at 73) w69 := by rw [ha, put_other rfl]; exact T73
        replace T14 : (fun v _ => v = .int .i64 k1) (a76.at 14) w69 := by rw [ha, put_other rfl]; exact T14
        have T15 : (fun v _ => v = .bool is1) (a76.at 15) w69 := by rw [ha, put_same N (by decide)]; skip
        replace N := (ha ▸ put_size _ _ _ : a76.tmps.size = _).trans N
        replace D := (ha ▸ put_defers' _ _ _ : a76.defers = _).trans D
        clear ha
        refine tail_val rfl rfl rfl (ex_move (.inr rfl) (v := .int .i64 0) (show a76.eval (.tmp 73) = .int .i64 0 from T73)) ?_
        obtain ⟨a77, ha⟩ : ∃ x : Act, x = a76.put (some 16) (.int .i64 0) := ⟨_, rfl⟩
        rw [← ha]
        replace T6 : (fun v _ => v = .bool false) (a77.at 6) w69 := by rw [ha, put_other rfl]; exact T6
        replace T7 : (fun v _ => v = .pointer (some ⟨b9, 0, none⟩)) (a77.at 7) w69 := by rw [ha, put_other rfl]; exact T7
        replace T8 : (fun v _ => v = .pointer (some ⟨q, 0, none⟩)) (a77.at 8) w69 := by rw [ha, put_other rfl]; exact T8
        replace T10 : (fun v _ => v = .int .i64 1) (a77.at 10) w69 := by rw [ha, put_other rfl]; exact T10
        replace T2 : (fun v _ => v = .int .i64 nw) (a77.at 2) w69 := by rw [ha, put_other rfl]; exact T2
        replace T12 : (fun v _ => v = .int .i64 dl) (a77.at 12) w69 := by rw [ha, put_other rfl]; exact T12
        replace T13 : (fun v _ => v = .int .i64 (i : Int)) (a77.at 13) w69 := by rw [ha, put_other rfl]; exact T13
        replace T67 : (fun v _ => v = .pointer (some ⟨q, 0, none⟩)) (a77.at 67) w69 := by rw [ha, put_other rfl]; exact T67
        replace T68 : (fun v _ => v = .int .i64 1) (a77.at 68) w69 := by rw [ha, put_other rfl]; exact T68
        replace T69 : (fun v _ => v = .int .i64 nw) (a77.at 69) w69 := by rw [ha, put_other rfl]; exact T69
        replace T70 : (fun v _ => v = .tuple #[.int .i64 k1, .bool is1, .int .i64 0]) (a77.at 70) w69 := by rw [ha, put_other rfl]; exact T70
        replace T66 : (fun v _ => v = .tuple #[.int .i64 k1, .bool is1, .int .i64 0]) (a77.at 66) w69 := by rw [ha, put_other rfl]; exact T66
        replace T71 : (fun v _ => v = .int .i64 k1) (a77.at 71) w69 := by rw [ha, put_other rfl]; exact T71
        replace T72 : (fun v _ => v = .bool is1) (a77.at 72) w69 := by rw [ha, put_other rfl]; exact T72
        replace T73 : (fun v _ => v = .int .i64 0) (a77.at 73) w69 := by rw [ha, put_other rfl]; exact T73
        replace T14 : (fun v _ => v = .int .i64 k1) (a77.at 14) w69 := by rw [ha, put_other rfl]; exact T14
        replace T15 : (fun v _ => v = .bool is1) (a77.at 15) w69 := by rw [ha, put_other rfl]; exact T15
        have T16 : (fun v _ => v = .int .i64 0) (a77.at 16) w69 := by rw [ha, put_same N (by decide)]; skip
        replace N := (ha ▸ put_size _ _ _ : a77.tmps.size = _).trans N
        replace D := (ha ▸ put_defers' _ _ _ : a77.defers = _).trans D
        clear ha
        clear T67
        clear T68
        clear T69
        clear T70
        clear T66
        clear T71
        clear T72
        clear T73
        refine hK66 _ _ ?_
        refine wp_seq_k (fun K78 hK78 => ?_)
        refine wp_seq_k (fun K79 hK79 => ?_)
        -- region 13: law.go:229
        show (Code.region 13 (rg Tryd.f8 13) false).wp _ _ _ _
        refine plain_list (n := 2) (N := 152) (deps := [[], [0]]) (F := [(fun v _ => v = .int .i64 0), (fun v _ => v = .bool false)]) (by kernel_rfl) (by kernel_rfl) rfl (by kernel_rfl) ⟨(stab_eq _), (stab_eq _), trivial⟩ N (by kernel_rfl) ⟨?_, ?_, trivial⟩ ?_
        · -- 0 law.go:229
          rintro aa ww hE hF ⟨-⟩
          have o16 : aa.eval (.tmp 16) = .int .i64 0 := hF.carry (fun v _ => v = .int .i64 0) rfl (stab_eq _) hE T16
          exact opAt rfl (ok_run rfl (run_here rfl (ex_move (.inl rfl) o16) ( rfl)))
        · -- 1 law.go:229
          rintro aa ww hE hF ⟨d0, -⟩
          replace d0 : aa.eval (.tmp 74) = .int .i64 0 := d0
          exact opAt rfl (ok_run rfl (run_here rfl (ex_binOp rfl (by rw [show aa.eval (.tmp 74) = .int .i64 0 from d0, show aa.eval (.const (.int .i64 0)) = .int .i64 0 from (ev_const (v := .int .i64 0))]; exact eqg_int) (by rw [show aa.eval (.tmp 74) = .int .i64 0 from d0, show aa.eval (.const (.int .i64 0)) = .int .i64 0 from (ev_const (v := .int .i64 0))]; exact bin_neq)) ( (by rw [bne_self_eq_false]))))
        intro a80 w81 hE hF hfac hap
        obtain ⟨f0, f1, -⟩ := hfac
        replace N := hF.size.trans N
        replace D := hF.defers.trans D
        replace R_b4 := hE.row R_b4
        replace R_b9 := hE.row R_b9
        replace S11 : OwnStrs 0 ((toM m).hops) w81 (.slice x12 (((toM m).hops).length) c13) := S11.ext hE
        replace QU : QueueAt q mb (s.extract 0 ((min (s.size : Int) 60)).toNat) last1 l1 w81 := QU.ext hE
        replace S33 : OwnStrs 0 ((toM m).hops) w81 (.slice x34 (((toM m).hops).length) c35) := S33.ext hE
        replace T6 : (fun v _ => v = .bool false) (a80.at 6) w81 := hF.carry (fun v _ => v = .bool false) rfl (stab_eq _) hE T6
        replace T7 : (fun v _ => v = .pointer (some ⟨b9, 0, none⟩)) (a80.at 7) w81 := hF.carry (fun v _ => v = .pointer (some ⟨b9, 0, none⟩)) rfl (stab_eq _) hE T7
        replace T8 : (fun v _ => v = .pointer (some ⟨q, 0, none⟩)) (a80.at 8) w81 := hF.carry (fun v _ => v = .pointer (some ⟨q, 0, none⟩)) rfl (stab_eq _) hE T8
        replace T10 : (fun v _ => v = .int .i64 1) (a80.at 10) w81 := hF.carry (fun v _ => v = .int .i64 1) rfl (stab_eq _) hE T10
        replace T2 : (fun v _ => v = .int .i64 nw) (a80.at 2) w81 := hF.carry (fun v _ => v = .int .i64 nw) rfl (stab_eq _) hE T2
        replace T12 : (fun v _ => v = .int .i64 dl) (a80.at 12) w81 := hF.carry (fun v _ => v = .int .i64 dl) rfl (stab_eq _) hE T12
        replace T13 : (fun v _ => v = .int .i64 (i : Int)) (a80.at 13) w81 := hF.carry (fun v _ => v = .int .i64 (i : Int)) rfl (stab_eq _) hE T13
        replace T14 : (fun v _ => v = .int .i64 k1) (a80.at 14) w81 := hF.carry (fun v _ => v = .int .i64 k1) rfl (stab_eq _) hE T14
        replace T15 : (fun v _ => v = .bool is1) (a80.at 15) w81 := hF.carry (fun v _ => v = .bool is1) rfl (stab_eq _) hE T15
        replace T16 : (fun v _ => v = .int .i64 0) (a80.at 16) w81 := hF.carry (fun v _ => v = .int .i64 0) rfl (stab_eq _) hE T16
        have T75 : (fun v _ => v = .bool false) (a80.at 75) w81 := f1
        replace E := E.trans hE
        clear hE hF hap
        show wpOps _ (rg Tryd.f8 13) _ [] _ _
        refine hK79 _ _ ?_
        refine wp_cond_false T75 ?_
        refine wp_skip ?_
        refine hK78 _ _ ?_
        refine wp_seq_k (fun K82 hK82 => ?_)
        -- region 15: law.go:232
        show (Code.region 15 (rg Tryd.f8 15) false).wp _ _ _ _
        refine plain_list (n := 8) (N := 152) (deps := [[], [], [0, 1], [2], [3], [3], [3], []]) (F := [(fun v _ => v = .pointer (some ⟨q, 0, none⟩)), (fun v _ => v = .int .i64 1), (IsGet w.heap.size l1 1), (IsGet w.heap.size l1 1), (IsOwnB w.heap.size ((valOf l1 1 zeroQ).m)), (fun v _ => v = .int .i64 ((valOf l1 1 zeroQ).due)), (fun v _ => v = .bool (hasK l1 1)), (IsBox #[.string ⟨#[]⟩, .string ⟨#[]⟩, .string ⟨#[]⟩, .string ⟨#[]⟩, .int .i64 0, .int .i64 0, .string ⟨#[]⟩, .slice none 0 0, .string ⟨#[]⟩] 29 w81.heap.size)]) (by kernel_rfl) (by kernel_rfl) rfl (by kernel_rfl) ⟨(stab_eq _), (stab_eq _), (stab_get _ _ _), (stab_get _ _ _), (stab_ownB _ _), (stab_eq _), (stab_eq _), (stab_box _ _ _), trivial⟩ N (by kernel_rfl) ⟨?_, ?_, ?_, ?_, ?_, ?_, ?_, ?_, trivial⟩ ?_
        · -- 0 law.go:232
          rintro aa ww hE hF ⟨-⟩
          have o8 : aa.eval (.tmp 8) = .pointer (some ⟨q, 0, none⟩) := hF.carry (fun v _ => v = .pointer (some ⟨q, 0, none⟩)) rfl (stab_eq _) hE T8
          exact opAt rfl (ok_run rfl (run_here rfl (ex_move (.inl rfl) o8) ( rfl)))
        · -- 1 law.go:232
          rintro aa ww hE hF ⟨-⟩
          have o10 : aa.eval (.tmp 10) = .int .i64 1 := hF.carry (fun v _ => v = .int .i64 1) rfl (stab_eq _) hE T10
          exact opAt rfl (ok_run rfl (run_here rfl (ex_move (.inl rfl) o10) ( rfl)))
        · -- 2 law.go:232
          rintro aa ww hE hF ⟨d0, d1, -⟩
          replace d0 : aa.eval (.tmp 77) = .pointer (some ⟨q, 0, none⟩) := d0
          replace d1 : aa.eval (.tmp 78) = .int .i64 1 := d1
          exact opAt rfl (ok_run rfl (run_callR (ψ := (IsGet w.heap.size l1 1)) rfl Tryd.call27 (by simp only [List.map_toArray, List.map_cons, List.map_nil, d0, d1]; exact get_e (E.trans hE).size (QU.ext hE) hgl) (fun _ _ h =>  h)))
        · -- 3 law.go:232
          rintro aa ww hE hF ⟨d2, -⟩
          replace d2 : (IsGet w.heap.size l1 1) (aa.eval (.tmp 79)) ww := d2
          exact opAt rfl (ok_run rfl (run_here rfl (ex_move (.inl rfl) rfl) ( d2)))
        · -- 4 law.go:232
          rintro aa ww hE hF ⟨d3, -⟩
          replace d3 : (IsGet w.heap.size l1 1) (aa.eval (.tmp 76)) ww := d3
          exact opAt rfl (ok_run rfl (get_0 rfl (d3) (fun _ h =>  h)))
        · -- 5 law.go:232
          rintro aa ww hE hF ⟨d3, -⟩
          replace d3 : (IsGet w.heap.size l1 1) (aa.eval (.tmp 76)) ww := d3
          exact opAt rfl (ok_run rfl (run_here rfl (get_1 (d3) rfl) ( rfl)))
        · -- 6 law.go:232
          rintro aa ww hE hF ⟨d3, -⟩
          replace d3 : (IsGet w.heap.size l1 1) (aa.eval (.tmp 76)) ww := d3
          exact opAt rfl (ok_run rfl (run_here rfl (get_2 (d3) rfl) ( rfl)))
        · -- 7 law.go:232
          rintro aa ww hE hF ⟨-⟩
          exact opAt rfl (ok_run rfl (run_new (ex_alloc rfl Tryd.zeroValue29) ( (box_new hE.size))))
        intro a83 w84 hE hF hfac hap
        obtain ⟨f0, f1, f2, f3, f4, f5, f6, f7, -⟩ := hfac
        replace N := hF.size.trans N
        replace D := hF.defers.trans D
        obtain ⟨b85, T17, B_b85, R_b85⟩ := f7
        have NE_b4_b85 : b4 ≠ b85 := by have := row_lt R_b4; omega
        have NE_b9_b85 : b9 ≠ b85 := by have := row_lt R_b9; omega
        replace B_b85 := Nat.le_trans E.size B_b85
        replace R_b4 := hE.row R_b4
        replace R_b9 := hE.row R_b9
        replace S11 : OwnStrs 0 ((toM m).hops) w84 (.slice x12 (((toM m).hops).length) c13) := S11.ext hE
        replace QU : QueueAt q mb (s.extract 0 ((min (s.size : Int) 60)).toNat) last1 l1 w84 := QU.ext hE
        replace S33 : OwnStrs 0 ((toM m).hops) w84 (.slice x34 (((toM m).hops).length) c35) := S33.ext hE
        replace T6 : (fun v _ => v = .bool false) (a83.at 6) w84 := hF.carry (fun v _ => v = .bool false) rfl (stab_eq _) hE T6
        replace T7 : (fun v _ => v = .pointer (some ⟨b9, 0, none⟩)) (a83.at 7) w84 := hF.carry (fun v _ => v = .pointer (some ⟨b9, 0, none⟩)) rfl (stab_eq _) hE T7
        replace T8 : (fun v _ => v = .pointer (some ⟨q, 0, none⟩)) (a83.at 8) w84 := hF.carry (fun v _ => v = .pointer (some ⟨q, 0, none⟩)) rfl (stab_eq _) hE T8
        replace T10 : (fun v _ => v = .int .i64 1) (a83.at 10) w84 := hF.carry (fun v _ => v = .int .i64 1) rfl (stab_eq _) hE T10
        replace T2 : (fun v _ => v = .int .i64 nw) (a83.at 2) w84 := hF.carry (fun v _ => v = .int .i64 nw) rfl (stab_eq _) hE T2
        replace T12 : (fun v _ => v = .int .i64 dl) (a83.at 12) w84 := hF.carry (fun v _ => v = .int .i64 dl) rfl (stab_eq _) hE T12
        replace T13 : (fun v _ => v = .int .i64 (i : Int)) (a83.at 13) w84 := hF.carry (fun v _ => v = .int .i64 (i : Int)) rfl (stab_eq _) hE T13
        replace T14 : (fun v _ => v = .int .i64 k1) (a83.at 14) w84 := hF.carry (fun v _ => v = .int .i64 k1) rfl (stab_eq _) hE T14
        replace T15 : (fun v _ => v = .bool is1) (a83.at 15) w84 := hF.carry (fun v _ => v = .bool is1) rfl (stab_eq _) hE T15
        replace T16 : (fun v _ => v = .int .i64 0) (a83.at 16) w84 := hF.carry (fun v _ => v = .int .i64 0) rfl (stab_eq _) hE T16
        replace T75 : (fun v _ => v = .bool false) (a83.at 75) w84 := hF.carry (fun v _ => v = .bool false) rfl (stab_eq _) hE T75
        have T80 : (IsOwnB w.heap.size ((valOf l1 1 zeroQ).m)) (a83.at 80) w84 := f4
        have T81 : (fun v _ => v = .int .i64 ((valOf l1 1 zeroQ).due)) (a83.at 81) w84 := f5
        have T82 : (fun v _ => v = .bool (hasK l1 1)) (a83.at 82) w84 := f6
        replace E := E.trans hE
        clear hE hF hap
        obtain ⟨hv86, T80, S87⟩ := T80
        obtain ⟨x88, c89, rfl⟩ := ownStrs_len S87
        replace T80 : (fun v _ => v = .agg (msgC ((valOf l1 1 zeroQ).m) (.slice x88 ((((valOf l1 1 zeroQ).m).hops).length) c89))) (a83.at 80) w84 := T80
        show wpOps _ (rg Tryd.f8 15) _ [8, 9, 10] _ _
        refine tail_do rfl rfl rfl (ex_store rfl (show a83.eval (.tmp 17) = .pointer (some ⟨b85, 0, none⟩) from T17) (by rw [show a83.eval (.tmp 80) = .agg (msgC ((valOf l1 1 zeroQ).m) (.slice x88 ((((valOf l1 1 zeroQ).m).hops).length) c89)) from (show a83.eval (.tmp 80) = .agg (msgC ((valOf l1 1 zeroQ).m) (.slice x88 ((((valOf l1 1 zeroQ).m).hops).length) c89)) from T80)]; exact store_row R_b85 (by kernel_rfl) rfl (ownB_cell S87))) ?_
        obtain ⟨w90, hw⟩ : ∃ x : World, x = w84.setRow b85 (msgC ((valOf l1 1 zeroQ).m) (.slice x88 ((((valOf l1 1 zeroQ).m).hops).length) c89)) := ⟨_, rfl⟩
        rw [← hw]
        replace R_b4 := hw ▸ row_other R_b4 (by first | exact NE_b4_b85 | exact NE_b85_b4.symm)
        replace R_b9 := hw ▸ row_other R_b9 (by first | exact NE_b9_b85 | exact NE_b85_b9.symm)
        replace E : Ext w w90 := hw ▸ below_row E B_b85
        replace T6 : (fun v _ => v = .bool false) (a83.at 6) w90 := T6
        replace T7 : (fun v _ => v = .pointer (some ⟨b9, 0, none⟩)) (a83.at 7) w90 := T7
        replace T8 : (fun v _ => v = .pointer (some ⟨q, 0, none⟩)) (a83.at 8) w90 := T8
        replace T10 : (fun v _ => v = .int .i64 1) (a83.at 10) w90 := T10
        replace T2 : (fun v _ => v = .int .i64 nw) (a83.at 2) w90 := T2
        replace T12 : (fun v _ => v = .int .i64 dl) (a83.at 12) w90 := T12
        replace T13 : (fun v _ => v = .int .i64 (i : Int)) (a83.at 13) w90 := T13
        replace T14 : (fun v _ => v = .int .i64 k1) (a83.at 14) w90 := T14
        replace T15 : (fun v _ => v = .bool is1) (a83.at 15) w90 := T15
        replace T16 : (fun v _ => v = .int .i64 0) (a83.at 16) w90 := T16
        replace T75 : (fun v _ => v = .bool false) (a83.at 75) w90 := T75
        replace T80 : (fun v _ => v = .agg (msgC ((valOf l1 1 zeroQ).m) (.slice x88 ((((valOf l1 1 zeroQ).m).hops).length) c89))) (a83.at 80) w90 := T80
        replace T81 : (fun v _ => v = .int .i64 ((valOf l1 1 zeroQ).due)) (a83.at 81) w90 := T81
        replace T82 : (fun v _ => v = .bool (hasK l1 1)) (a83.at 82) w90 := T82
        replace T17 : (fun v _ => v = .pointer (some ⟨b85, 0, none⟩)) (a83.at 17) w90 := T17
        replace S11 : OwnStrs 0 ((toM m).hops) w90 (.slice x12 (((toM m).hops).length) c13) := hw ▸ S11.setRow R_b85 rfl
        replace QU : QueueAt q mb (s.extract 0 ((min (s.size : Int) 60)).toNat) last1 l1 w90 := hw ▸ QU.setRow R_b85 rfl
        replace S33 : OwnStrs 0 ((toM m).hops) w90 (.slice x34 (((toM m).hops).length) c35) := hw ▸ S33.setRow R_b85 rfl
        replace S87 : OwnStrs w.heap.size (((valOf l1 1 zeroQ).m).hops) w90 (.slice x88 ((((valOf l1 1 zeroQ).m).hops).length) c89) := hw ▸ S87.setRow R_b85 rfl
        replace R_b85 : w90.heap[b85]? = some (.cells (msgC ((valOf l1 1 zeroQ).m) (.slice x88 ((((valOf l1 1 zeroQ).m).hops).length) c89)) 29 (0, 0)) := by rw [hw]; exact setRow_heap _ _ _ _ _ _ R_b85
        clear hw
        refine tail_val rfl rfl rfl (ex_move (.inr rfl) (v := .int .i64 ((valOf l1 1 zeroQ).due)) (show a83.eval (.tmp 81) = .int .i64 ((valOf l1 1 zeroQ).due) from T81)) ?_
        obtain ⟨a91, ha⟩ : ∃ x : Act, x = a83.put (some 18) (.int .i64 ((valOf l1 1 zeroQ).due)) := ⟨_, rfl⟩
        rw [← ha]
        replace T6 : (fun v _ => v = .bool false) (a91.at 6) w90 := by rw [ha, put_other rfl]; exact T6
        replace T7 : (fun v _ => v = .pointer (some ⟨b9, 0, none⟩)) (a91.at 7) w90 := by rw [ha, put_other rfl]; exact T7
        replace T8 : (fun v _ => v = .pointer (some ⟨q, 0, none⟩)) (a91.at 8) w90 := by rw [ha, put_other rfl]; exact T8
        replace T10 : (fun v _ => v = .int .i64 1) (a91.at 10) w90 := by rw [ha, put_other rfl]; exact T10
        replace T2 : (fun v _ => v = .int .i64 nw) (a91.at 2) w90 := by rw [ha, put_other rfl]; exact T2
        replace T12 : (fun v _ => v = .int .i64 dl) (a91.at 12) w90 := by rw [ha, put_other rfl]; exact T12
        replace T13 : (fun v _ => v = .int .i64 (i : Int)) (a91.at 13) w90 := by rw [ha, put_other rfl]; exact T13
        replace T14 : (fun v _ => v = .int .i64 k1) (a91.at 14) w90 := by rw [ha, put_other rfl]; exact T14
        replace T15 : (fun v _ => v = .bool is1) (a91.at 15) w90 := by rw [ha, put_other rfl]; exact T15
        replace T16 : (fun v _ => v = .int .i64 0) (a91.at 16) w90 := by rw [ha, put_other rfl]; exact T16
        replace T75 : (fun v _ => v = .bool false) (a91.at 75) w90 := by rw [ha, put_other rfl]; exact T75
        replace T80 : (fun v _ => v = .agg (msgC ((valOf l1 1 zeroQ).m) (.slice x88 ((((valOf l1 1 zeroQ).m).hops).length) c89))) (a91.at 80) w90 := by rw [ha, put_other rfl]; exact T80
        replace T81 : (fun v _ => v = .int .i64 ((valOf l1 1 zeroQ).due)) (a91.at 81) w90 := by rw [ha, put_other rfl]; exact T81
        replace T82 : (fun v _ => v = .bool (hasK l1 1)) (a91.at 82) w90 := by rw [ha, put_other rfl]; exact T82
        replace T17 : (fun v _ => v = .pointer (some ⟨b85, 0, none⟩)) (a91.at 17) w90 := by rw [ha, put_other rfl]; exact T17
        have T18 : (fun v _ => v = .int .i64 ((valOf l1 1 zeroQ).due)) (a91.at 18) w90 := by rw [ha, put_same N (by decide)]; skip
        replace N := (ha ▸ put_size _ _ _ : a91.tmps.size = _).trans N
        replace D := (ha ▸ put_defers' _ _ _ : a91.defers = _).trans D
        clear ha
        refine tail_val rfl rfl rfl (ex_move (.inr rfl) (v := .bool (hasK l1 1)) (show a91.eval (.tmp 82) = .bool (hasK l1 1) from T82)) ?_
        obtain ⟨a92, ha⟩ : ∃ x : Act, x = a91.put (some 19) (.bool (hasK l1 1)) := ⟨_, rfl⟩
        rw [← ha]
        replace T6 : (fun v _ => v = .bool false) (a92.at 6) w90 := by rw [ha, put_other rfl]; exact T6
        replace T7 : (fun v _ => v = .pointer (some ⟨b9, 0, none⟩)) (a92.at 7) w90 := by rw [ha, put_other rfl]; exact T7
        replace T8 : (fun v _ => v = .pointer (some ⟨q, 0, none⟩)) (a92.at 8) w90 := by rw [ha, put_other rfl]; exact T8
        replace T10 : (fun v _ => v = .int .i64 1) (a92.at 10) w90 := by rw [ha, put_other rfl]; exact T10
        replace T2 : (fun v _ => v = .int .i64 nw) (a92.at 2) w90 := by rw [ha, put_other rfl]; exact T2
        replace T12 : (fun v _ => v = .int .i64 dl) (a92.at 12) w90 := by rw [ha, put_other rfl]; exact T12
        replace T13 : (fun v _ => v = .int .i64 (i : Int)) (a92.at 13) w90 := by rw [ha, put_other rfl]; exact T13
        replace T14 : (fun v _ => v = .int .i64 k1) (a92.at 14) w90 := by rw [ha, put_other rfl]; exact T14
        replace T15 : (fun v _ => v = .bool is1) (a92.at 15) w90 := by rw [ha, put_other rfl]; exact T15
        replace T16 : (fun v _ => v = .int .i64 0) (a92.at 16) w90 := by rw [ha, put_other rfl]; exact T16
        replace T75 : (fun v _ => v = .bool false) (a92.at 75) w90 := by rw [ha, put_other rfl]; exact T75
        replace T80 : (fun v _ => v = .agg (msgC ((valOf l1 1 zeroQ).m) (.slice x88 ((((valOf l1 1 zeroQ).m).hops).length) c89))) (a92.at 80) w90 := by rw [ha, put_other rfl]; exact T80
        replace T81 : (fun v _ => v = .int .i64 ((valOf l1 1 zeroQ).due)) (a92.at 81) w90 := by rw [ha, put_other rfl]; exact T81
        replace T82 : (fun v _ => v = .bool (hasK l1 1)) (a92.at 82) w90 := by rw [ha, put_other rfl]; exact T82
        replace T17 : (fun v _ => v = .pointer (some ⟨b85, 0, none⟩)) (a92.at 17) w90 := by rw [ha, put_other rfl]; exact T17
        replace T18 : (fun v _ => v = .int .i64 ((valOf l1 1 zeroQ).due)) (a92.at 18) w90 := by rw [ha, put_other rfl]; exact T18
        have T19 : (fun v _ => v = .bool (hasK l1 1)) (a92.at 19) w90 := by rw [ha, put_same N (by decide)]; skip
        replace N := (ha ▸ put_size _ _ _ : a92.tmps.size = _).trans N
        replace D := (ha ▸ put_defers' _ _ _ : a92.defers = _).trans D
        clear ha
        clear T80
        clear T81
        clear T82
        clear T17
        refine hK82 _ _ ?_
        refine wp_seq_k (fun K93 hK93 => ?_)
        refine wp_seq_k (fun K94 hK94 => ?_)
        -- region 16: law.go:233
        show (Code.region 16 (rg Tryd.f8 16) false).wp _ _ _ _
        refine plain_list (n := 2) (N := 152) (deps := [[], [0]]) (F := [(fun v _ => v = .int .i64 (i : Int)), (fun v _ => v = .bool ((i : Int) == (8 : Int)))]) (by kernel_rfl) (by kernel_rfl) rfl (by kernel_rfl) ⟨(stab_eq _), (stab_eq _), trivial⟩ N (by kernel_rfl) ⟨?_, ?_, trivial⟩ ?_
        · -- 0 law.go:233
          rintro aa ww hE hF ⟨-⟩
          have o13 : aa.eval (.tmp 13) = .int .i64 (i : Int) := hF.carry (fun v _ => v = .int .i64 (i : Int)) rfl (stab_eq _) hE T13
          exact opAt rfl (ok_run rfl (run_here rfl (ex_move (.inl rfl) o13) ( rfl)))
        · -- 1 law.go:233
          rintro aa ww hE hF ⟨d0, -⟩
          replace d0 : aa.eval (.tmp 83) = .int .i64 (i : Int) := d0
          exact opAt rfl (ok_run rfl (run_here rfl (ex_binOp rfl (by rw [show aa.eval (.tmp 83) = .int .i64 (i : Int) from d0, show aa.eval (.const (.int .i64 8)) = .int .i64 8 from (ev_const (v := .int .i64 8))]; exact eqg_int) (by rw [show aa.eval (.tmp 83) = .int .i64 (i : Int) from d0, show aa.eval (.const (.int .i64 8)) = .int .i64 8 from (ev_const (v := .int .i64 8))]; exact bin_eql)) ( rfl)))
        intro a95 w96 hE hF hfac hap
        obtain ⟨f0, f1, -⟩ := hfac
        replace N := hF.size.trans N
        replace D := hF.defers.trans D
        replace R_b4 := hE.row R_b4
        replace R_b9 := hE.row R_b9
        replace R_b85 := hE.row R_b85
        replace S11 : OwnStrs 0 ((toM m).hops) w96 (.slice x12 (((toM m).hops).length) c13) := S11.ext hE
        replace QU : QueueAt q mb (s.extract 0 ((min (s.size : Int) 60)).toNat) last1 l1 w96 := QU.ext hE
        replace S33 : OwnStrs 0 ((toM m).hops) w96 (.slice x34 (((toM m).hops).length) c35) := S33.ext hE
        replace S87 : OwnStrs w.heap.size (((valOf l1 1 zeroQ).m).hops) w96 (.slice x88 ((((valOf l1 1 zeroQ).m).hops).length) c89) := S87.ext hE
        replace T6 : (fun v _ => v = .bool false) (a95.at 6) w96 := hF.carry (fun v _ => v = .bool false) rfl (stab_eq _) hE T6
        replace T7 : (fun v _ => v = .pointer (some ⟨b9, 0, none⟩)) (a95.at 7) w96 := hF.carry (fun v _ => v = .pointer (some ⟨b9, 0, none⟩)) rfl (stab_eq _) hE T7
        replace T8 : (fun v _ => v = .pointer (some ⟨q, 0, none⟩)) (a95.at 8) w96 := hF.carry (fun v _ => v = .pointer (some ⟨q, 0, none⟩)) rfl (stab_eq _) hE T8
        replace T10 : (fun v _ => v = .int .i64 1) (a95.at 10) w96 := hF.carry (fun v _ => v = .int .i64 1) rfl (stab_eq _) hE T10
        replace T2 : (fun v _ => v = .int .i64 nw) (a95.at 2) w96 := hF.carry (fun v _ => v = .int .i64 nw) rfl (stab_eq _) hE T2
        replace T12 : (fun v _ => v = .int .i64 dl) (a95.at 12) w96 := hF.carry (fun v _ => v = .int .i64 dl) rfl (stab_eq _) hE T12
        replace T13 : (fun v _ => v = .int .i64 (i : Int)) (a95.at 13) w96 := hF.carry (fun v _ => v = .int .i64 (i : Int)) rfl (stab_eq _) hE T13
        replace T14 : (fun v _ => v = .int .i64 k1) (a95.at 14) w96 := hF.carry (fun v _ => v = .int .i64 k1) rfl (stab_eq _) hE T14
        replace T15 : (fun v _ => v = .bool is1) (a95.at 15) w96 := hF.carry (fun v _ => v = .bool is1) rfl (stab_eq _) hE T15
        replace T16 : (fun v _ => v = .int .i64 0) (a95.at 16) w96 := hF.carry (fun v _ => v = .int .i64 0) rfl (stab_eq _) hE T16
        replace T75 : (fun v _ => v = .bool false) (a95.at 75) w96 := hF.carry (fun v _ => v = .bool false) rfl (stab_eq _) hE T75
        replace T18 : (fun v _ => v = .int .i64 ((valOf l1 1 zeroQ).due)) (a95.at 18) w96 := hF.carry (fun v _ => v = .int .i64 ((valOf l1 1 zeroQ).due)) rfl (stab_eq _) hE T18
        replace T19 : (fun v _ => v = .bool (hasK l1 1)) (a95.at 19) w96 := hF.carry (fun v _ => v = .bool (hasK l1 1)) rfl (stab_eq _) hE T19
        have T84 : (fun v _ => v = .bool ((i : Int) == (8 : Int))) (a95.at 84) w96 := f1
        replace E := E.trans hE
        clear hE hF hap
        show wpOps _ (rg Tryd.f8 16) _ [] _ _
        refine hK94 _ _ ?_
        refine wp_cond_split (t := (i : Int) == (8 : Int)) T84 (fun C97 => ?_) (fun C97 => ?_)
        · clear T84
          obtain ⟨hhas, his, hy, hn⟩ := hhi C97
          refine wp_seq_k (fun K98 hK98 => ?_)
          -- region 17: law.go:234
          show (Code.region 17 (rg Tryd.f8 17) false).wp _ _ _ _
          refine plain_list (n := 37) (N := 152) (deps := [[], [0], [1], [2], [2], [2, 4], [2, 5], [2, 6], [2, 3, 7], [2, 8], [9], [10], [10, 11], [12], [12], [12, 14], [12, 13, 15], [10, 12, 16], [10, 17], [18], [18, 19], [18, 20], [10, 18, 21], [10, 22], [23], [23, 24], [23, 25], [26], [26, 27], [23, 26, 28], [23, 29], [30], [30, 31], [30, 32], [23, 30, 33], [10, 23, 34], [10, 35]]) (F := [(fun v _ => v = .bool (hasK l1 1)), (fun v _ => v = .bool (!(hasK l1 1))), (fun v _ => v = .bool (!(hasK l1 1))), (fun v_ w_ => (!(hasK l1 1)) = true → (fun v _ => v = .bool is1) v_ w_), (fun v_ w_ => (!(hasK l1 1)) = true → (fun v _ => v = .pointer (some ⟨b9, 0, none⟩)) v_ w_), (fun v_ w_ => (!(hasK l1 1)) = true → (fun v _ => v = .pointer (some ⟨b9, 0, none⟩)) v_ w_), (fun v_ w_ => (!(hasK l1 1)) = true → (fun v _ => v = .string ((toM m).fu)) v_ w_), (fun v_ w_ => (!(hasK l1 1)) = true → (fun v _ => v = .bool (!(decide (((toM m).fu) = ⟨#[]⟩)))) v_ w_), (fun v_ w_ => (!(hasK l1 1)) = true → (fun v _ => v = .bool (is1 == (!(decide (((toM m).fu) = ⟨#[]⟩))))) v_ w_), (fun v _ => v = .bool ((!(hasK l1 1)) && (is1 == (!(decide (((toM m).fu) = ⟨#[]⟩)))))), (fun v _ => v = .bool ((!(hasK l1 1)) && (is1 == (!(decide (((toM m).fu) = ⟨#[]⟩)))))), (fun v_ w_ => ((!(hasK l1 1)) && (is1 == (!(decide (((toM m).fu) = ⟨#[]⟩))))) = true → (fun v _ => v = .bool is1) v_ w_), (fun v_ w_ => (((!(hasK l1 1)) && (is1 == (!(decide (((toM m).fu) = ⟨#[]⟩))))) = true → (fun v _ => v = .bool is1) v_ w_) ∧ (((!(hasK l1 1)) && (is1 == (!(decide (((toM m).fu) = ⟨#[]⟩))))) = (!true) → v_ = undef)), (fun v_ w_ => (((!(hasK l1 1)) && (is1 == (!(decide (((toM m).fu) = ⟨#[]⟩))))) && is1) = true → (fun v _ => v = .int .i64 k1) v_ w_), (fun v_ w_ => (((!(hasK l1 1)) && (is1 == (!(decide (((toM m).fu) = ⟨#[]⟩))))) && is1) = true → (fun v _ => v = .int .i64 1) v_ w_), (fun v_ w_ => (((!(hasK l1 1)) && (is1 == (!(decide (((toM m).fu) = ⟨#[]⟩))))) && is1) = true → (fun v _ => v = .int .i64 ((1 : Int) + 1)) v_ w_), (fun v_ w_ => (((!(hasK l1 1)) && (is1 == (!(decide (((toM m).fu) = ⟨#[]⟩))))) && is1) = true → (fun v _ => v = .bool (k1 == ((1 : Int) + 1))) v_ w_), (fun v_ w_ => ((!(hasK l1 1)) && (is1 == (!(decide (((toM m).fu) = ⟨#[]⟩))))) = true → (fun v _ => v = .bool (is1 && (k1 == ((1 : Int) + 1)))) v_ w_), (fun v_ w_ => (((!(hasK l1 1)) && (is1 == (!(decide (((toM m).fu) = ⟨#[]⟩))))) = true → (fun v _ => v = .bool (is1 && (k1 == ((1 : Int) + 1)))) v_ w_) ∧ (((!(hasK l1 1)) && (is1 == (!(decide (((toM m).fu) = ⟨#[]⟩))))) = (!true) → v_ = undef)), (fun v_ w_ => (((!(hasK l1 1)) && (is1 == (!(decide (((toM m).fu) = ⟨#[]⟩))))) && (is1 && (k1 == ((1 : Int) + 1)))) = true → (fun v _ => v = .pointer (some ⟨q, 0, none⟩)) v_ w_), (fun v_ w_ => (((!(hasK l1 1)) && (is1 == (!(decide (((toM m).fu) = ⟨#[]⟩))))) && (is1 && (k1 == ((1 : Int) + 1)))) = true → (fun v _ => v = .int .i64 (l1.length : Int)) v_ w_), (fun v_ w_ => (((!(hasK l1 1)) && (is1 == (!(decide (((toM m).fu) = ⟨#[]⟩))))) && (is1 && (k1 == ((1 : Int) + 1)))) = true → (fun v _ => v = .bool ((l1.length : Int) == (1 : Int))) v_ w_), (fun v_ w_ => ((!(hasK l1 1)) && (is1 == (!(decide (((toM m).fu) = ⟨#[]⟩))))) = true → (fun v _ => v = .bool ((is1 && (k1 == ((1 : Int) + 1))) && ((l1.length : Int) == (1 : Int)))) v_ w_), (fun v_ w_ => (((!(hasK l1 1)) && (is1 == (!(decide (((toM m).fu) = ⟨#[]⟩))))) = true → (fun v _ => v = .bool ((is1 && (k1 == ((1 : Int) + 1))) && ((l1.length : Int) == (1 : Int)))) v_ w_) ∧ (((!(hasK l1 1)) && (is1 == (!(decide (((toM m).fu) = ⟨#[]⟩))))) = (!true) → v_ = undef)), (fun v_ w_ => (((!(hasK l1 1)) && (is1 == (!(decide (((toM m).fu) = ⟨#[]⟩))))) && (!((is1 && (k1 == ((1 : Int) + 1))) && ((l1.length : Int) == (1 : Int))))) = true → (fun v _ => v = .bool is1) v_ w_), (fun v_ w_ => (((!(hasK l1 1)) && (is1 == (!(decide (((toM m).fu) = ⟨#[]⟩))))) && (!((is1 && (k1 == ((1 : Int) + 1))) && ((l1.length : Int) == (1 : Int))))) = true → (fun v _ => v = .bool (!is1)) v_ w_), (fun v_ w_ => ((((!(hasK l1 1)) && (is1 == (!(decide (((toM m).fu) = ⟨#[]⟩))))) && (!((is1 && (k1 == ((1 : Int) + 1))) && ((l1.length : Int) == (1 : Int))))) = true → (fun v _ => v = .bool (!is1)) v_ w_) ∧ ((((!(hasK l1 1)) && (is1 == (!(decide (((toM m).fu) = ⟨#[]⟩))))) && (!((is1 && (k1 == ((1 : Int) + 1))) && ((l1.length : Int) == (1 : Int))))) = (!true) → v_ = undef)), (fun v_ w_ => ((((!(hasK l1 1)) && (is1 == (!(decide (((toM m).fu) = ⟨#[]⟩))))) && (!((is1 && (k1 == ((1 : Int) + 1))) && ((l1.length : Int) == (1 : Int))))) && (!is1)) = true → (fun v _ => v = .int .i64 k1) v_ w_), (fun v_ w_ => ((((!(hasK l1 1)) && (is1 == (!(decide (((toM m).fu) = ⟨#[]⟩))))) && (!((is1 && (k1 == ((1 : Int) + 1))) && ((l1.length : Int) == (1 : Int))))) && (!is1)) = true → (fun v _ => v = .bool (k1 == (0 : Int))) v_ w_), (fun v_ w_ => (((!(hasK l1 1)) && (is1 == (!(decide (((toM m).fu) = ⟨#[]⟩))))) && (!((is1 && (k1 == ((1 : Int) + 1))) && ((l1.length : Int) == (1 : Int))))) = true → (fun v _ => v = .bool ((!is1) && (k1 == (0 : Int)))) v_ w_), (fun v_ w_ => ((((!(hasK l1 1)) && (is1 == (!(decide (((toM m).fu) = ⟨#[]⟩))))) && (!((is1 && (k1 == ((1 : Int) + 1))) && ((l1.length : Int) == (1 : Int))))) = true → (fun v _ => v = .bool ((!is1) && (k1 == (0 : Int)))) v_ w_) ∧ ((((!(hasK l1 1)) && (is1 == (!(decide (((toM m).fu) = ⟨#[]⟩))))) && (!((is1 && (k1 == ((1 : Int) + 1))) && ((l1.length : Int) == (1 : Int))))) = (!true) → v_ = undef)), (fun v_ w_ => ((((!(hasK l1 1)) && (is1 == (!(decide (((toM m).fu) = ⟨#[]⟩))))) && (!((is1 && (k1 == ((1 : Int) + 1))) && ((l1.length : Int) == (1 : Int))))) && ((!is1) && (k1 == (0 : Int)))) = true → (fun v _ => v = .pointer (some ⟨q, 0, none⟩)) v_ w_), (fun v_ w_ => ((((!(hasK l1 1)) && (is1 == (!(decide (((toM m).fu) = ⟨#[]⟩))))) && (!((is1 && (k1 == ((1 : Int) + 1))) && ((l1.length : Int) == (1 : Int))))) && ((!is1) && (k1 == (0 : Int)))) = true → (fun v _ => v = .int .i64 (l1.length : Int)) v_ w_), (fun v_ w_ => ((((!(hasK l1 1)) && (is1 == (!(decide (((toM m).fu) = ⟨#[]⟩))))) && (!((is1 && (k1 == ((1 : Int) + 1))) && ((l1.length : Int) == (1 : Int))))) && ((!is1) && (k1 == (0 : Int)))) = true → (fun v _ => v = .bool ((l1.length : Int) == (0 : Int))) v_ w_), (fun v_ w_ => (((!(hasK l1 1)) && (is1 == (!(decide (((toM m).fu) = ⟨#[]⟩))))) && (!((is1 && (k1 == ((1 : Int) + 1))) && ((l1.length : Int) == (1 : Int))))) = true → (fun v _ => v = .bool (((!is1) && (k1 == (0 : Int))) && ((l1.length : Int) == (0 : Int)))) v_ w_), (fun v_ w_ => ((!(hasK l1 1)) && (is1 == (!(decide (((toM m).fu) = ⟨#[]⟩))))) = true → (fun v _ => v = .bool (((is1 && (k1 == ((1 : Int) + 1))) && ((l1.length : Int) == (1 : Int))) || (((!is1) && (k1 == (0 : Int))) && ((l1.length : Int) == (0 : Int))))) v_ w_), (fun v _ => v = .bool (((!(hasK l1 1)) && (is1 == (!(decide (((toM m).fu) = ⟨#[]⟩))))) && (((is1 && (k1 == ((1 : Int) + 1))) && ((l1.length : Int) == (1 : Int))) || (((!is1) && (k1 == (0 : Int))) && ((l1.length : Int) == (0 : Int))))))]) (by kernel_rfl) (by kernel_rfl) rfl (by kernel_rfl) ⟨(stab_eq _), (stab_eq _), (stab_eq _), (stab_imp (stab_eq _)), (stab_imp (stab_eq _)), (stab_imp (stab_eq _)), (stab_imp (stab_eq _)), (stab_imp (stab_eq _)), (stab_imp (stab_eq _)), (stab_eq _), (stab_eq _), (stab_imp (stab_eq _)), (stab_both (stab_eq _)), (stab_imp (stab_eq _)), (stab_imp (stab_eq _)), (stab_imp (stab_eq _)), (stab_imp (stab_eq _)), (stab_imp (stab_eq _)), (stab_both (stab_eq _)), (stab_imp (stab_eq _)), (stab_imp (stab_eq _)), (stab_imp (stab_eq _)), (stab_imp (stab_eq _)), (stab_both (stab_eq _)), (stab_imp (stab_eq _)), (stab_imp (stab_eq _)), (stab_both (stab_eq _)), (stab_imp (stab_eq _)), (stab_imp (stab_eq _)), (stab_imp (stab_eq _)), (stab_both (stab_eq _)), (stab_imp (stab_eq _)), (stab_imp (stab_eq _)), (stab_imp (stab_eq _)), (stab_imp (stab_eq _)), (stab_imp (stab_eq _)), (stab_eq _), trivial⟩ N (by kernel_rfl) ⟨?_, ?_, ?_, ?_, ?_, ?_, ?_, ?_, ?_, ?_, ?_, ?_, ?_, ?_, ?_, ?_, ?_, ?_, ?_, ?_, ?_, ?_, ?_, ?_, ?_, ?_, ?_, ?_, ?_, ?_, ?_, ?_, ?_, ?_, ?_, ?_, ?_, trivial⟩ ?_
          · -- 0 law.go:234
            rintro aa ww hE hF ⟨-⟩
            have o19 : aa.eval (.tmp 19) = .bool (hasK l1 1) := hF.carry (fun v _ => v = .bool (hasK l1 1)) rfl (stab_eq _) hE T19
            exact opAt rfl (ok_run rfl (run_here rfl (ex_move (.inl rfl) o19) ( rfl)))
          · -- 1 law.go:234
            rintro aa ww hE hF ⟨d0, -⟩
            replace d0 : aa.eval (.tmp 85) = .bool (hasK l1 1) := d0
            exact opAt rfl (ok_run rfl (run_here rfl (ex_unOp rfl (by rw [show aa.eval (.tmp 85) = .bool (hasK l1 1) from d0]; exact un_not)) ( rfl)))
          · -- 2 law.go:234
            rintro aa ww hE hF ⟨d1, -⟩
            replace d1 : aa.eval (.tmp 86) = .bool (!(hasK l1 1)) := d1
            exact opAt rfl (ok_run rfl (run_here rfl (ex_move (.inl rfl) d1) ( rfl)))
          · -- 3 law.go:234
            rintro aa ww hE hF ⟨d2, -⟩
            replace d2 : aa.eval (.tmp 87) = .bool (!(hasK l1 1)) := d2
            have o15 : aa.eval (.tmp 15) = .bool is1 := hF.carry (fun v _ => v = .bool is1) rfl (stab_eq _) hE T15
            exact opAt rfl (ok_guard rfl d2 (fun hc => run_here rfl (ex_move (.inl rfl) o15) (fun _ =>  rfl)) (fun hn hc => absurd hc hn))
          · -- 4 law.go:234
            rintro aa ww hE hF ⟨d2, -⟩
            replace d2 : aa.eval (.tmp 87) = .bool (!(hasK l1 1)) := d2
            have o7 : aa.eval (.tmp 7) = .pointer (some ⟨b9, 0, none⟩) := hF.carry (fun v _ => v = .pointer (some ⟨b9, 0, none⟩)) rfl (stab_eq _) hE T7
            exact opAt rfl (ok_guard rfl d2 (fun hc => run_here rfl (ex_fieldAddr rfl o7 Tryd.underlying29 rfl (fun w => ⟨_, Tryd.sizeOf27 w⟩) rfl) (fun _ =>  rfl)) (fun hn hc => absurd hc hn))
          · -- 5 law.go:234
            rintro aa ww hE hF ⟨d2, d4, -⟩
            replace d2 : aa.eval (.tmp 87) = .bool (!(hasK l1 1)) := d2
            replace d4 : (!(hasK l1 1)) = true → aa.eval (.tmp 89) = .pointer (some ⟨b9, 0, none⟩) := d4
            exact opAt rfl (ok_guard rfl d2 (fun hc => run_here rfl (ex_fieldAddr rfl (d4 hc) Tryd.underlying27 rfl (fun w => ⟨_, Tryd.sizeOf9 w⟩) rfl) (fun _ =>  rfl)) (fun hn hc => absurd hc hn))
          · -- 6 law.go:234
            rintro aa ww hE hF ⟨d2, d5, -⟩
            replace d2 : aa.eval (.tmp 87) = .bool (!(hasK l1 1)) := d2
            replace d5 : (!(hasK l1 1)) = true → aa.eval (.tmp 90) = .pointer (some ⟨b9, 0, none⟩) := d5
            exact opAt rfl (ok_guard rfl d2 (fun hc => run_here rfl (ex_load rfl (d5 hc) (load_cell Tryd.isAgg9 ((cell_row (hE.row R_b9) 0).trans rfl))) (fun _ =>  rfl)) (fun hn hc => absurd hc hn))
          · -- 7 law.go:234
            rintro aa ww hE hF ⟨d2, d6, -⟩
            replace d2 : aa.eval (.tmp 87) = .bool (!(hasK l1 1)) := d2
            replace d6 : (!(hasK l1 1)) = true → aa.eval (.tmp 91) = .string ((toM m).fu) := d6
            exact opAt rfl (ok_guard rfl d2 (fun hc => run_here rfl (ex_binOp rfl (by rw [show aa.eval (.tmp 91) = .string ((toM m).fu) from (d6 hc), show aa.eval (.const (.string ⟨#[]⟩)) = .string ⟨#[]⟩ from (ev_const (v := .string ⟨#[]⟩))]; exact eqg_str) (by rw [show aa.eval (.tmp 91) = .string ((toM m).fu) from (d6 hc), show aa.eval (.const (.string ⟨#[]⟩)) = .string ⟨#[]⟩ from (ev_const (v := .string ⟨#[]⟩))]; exact bin_sneq)) (fun _ =>  rfl)) (fun hn hc => absurd hc hn))
          · -- 8 law.go:234
            rintro aa ww hE hF ⟨d2, d3, d7, -⟩
            replace d2 : aa.eval (.tmp 87) = .bool (!(hasK l1 1)) := d2
            replace d3 : (!(hasK l1 1)) = true → aa.eval (.tmp 88) = .bool is1 := d3
            replace d7 : (!(hasK l1 1)) = true → aa.eval (.tmp 92) = .bool (!(decide (((toM m).fu) = ⟨#[]⟩))) := d7
            exact opAt rfl (ok_guard rfl d2 (fun hc => run_here rfl (ex_binOp rfl (by rw [show aa.eval (.tmp 88) = .bool is1 from (d3 hc), show aa.eval (.tmp 92) = .bool (!(decide (((toM m).fu) = ⟨#[]⟩))) from (d7 hc)]; exact eqg_bool) (by rw [show aa.eval (.tmp 88) = .bool is1 from (d3 hc), show aa.eval (.tmp 92) = .bool (!(decide (((toM m).fu) = ⟨#[]⟩))) from (d7 hc)]; exact bin_beql Tryd.underlying4)) (fun _ =>  rfl)) (fun hn hc => absurd hc hn))
          · -- 9 law.go:234
            rintro aa ww hE hF ⟨d2, d8, -⟩
            replace d2 : aa.eval (.tmp 87) = .bool (!(hasK l1 1)) := d2
            replace d8 : (!(hasK l1 1)) = true → aa.eval (.tmp 93) = .bool (is1 == (!(decide (((toM m).fu) = ⟨#[]⟩)))) := d8
            exact opAt rfl (ok_run rfl (run_here rfl (ex_pick_and rfl d2 (fun hp => (d8 hp))) ( rfl)))
          · -- 10 law.go:234
            rintro aa ww hE hF ⟨d9, -⟩
            replace d9 : aa.eval (.tmp 94) = .bool ((!(hasK l1 1)) && (is1 == (!(decide (((toM m).fu) = ⟨#[]⟩))))) := d9
            exact opAt rfl (ok_run rfl (run_here rfl (ex_move (.inl rfl) d9) ( rfl)))
          · -- 11 law.go:234
            rintro aa ww hE hF ⟨d10, -⟩
            replace d10 : aa.eval (.tmp 95) = .bool ((!(hasK l1 1)) && (is1 == (!(decide (((toM m).fu) = ⟨#[]⟩))))) := d10
            have o15 : aa.eval (.tmp 15) = .bool is1 := hF.carry (fun v _ => v = .bool is1) rfl (stab_eq _) hE T15
            exact opAt rfl (ok_guard rfl d10 (fun hc => run_here rfl (ex_move (.inl rfl) o15) (fun _ =>  rfl)) (fun hn hc => absurd hc hn))
          · -- 12 law.go:234
            rintro aa ww hE hF ⟨d10, d11, -⟩
            replace d10 : aa.eval (.tmp 95) = .bool ((!(hasK l1 1)) && (is1 == (!(decide (((toM m).fu) = ⟨#[]⟩))))) := d10
            replace d11 : ((!(hasK l1 1)) && (is1 == (!(decide (((toM m).fu) = ⟨#[]⟩))))) = true → aa.eval (.tmp 96) = .bool is1 := d11
            exact opAt rfl (ok_guard rfl d10 (fun hc => run_here rfl (ex_move (.inl rfl) (d11 hc)) (both_t hc <|  rfl)) (fun hn => both_f hn rfl))
          · -- 13 law.go:234
            rintro aa ww hE hF ⟨d12, -⟩
            replace d12 : (((!(hasK l1 1)) && (is1 == (!(decide (((toM m).fu) = ⟨#[]⟩))))) = true → aa.eval (.tmp 97) = .bool is1) ∧ (((!(hasK l1 1)) && (is1 == (!(decide (((toM m).fu) = ⟨#[]⟩))))) = (!true) → aa.eval (.tmp 97) = undef) := d12
            have o14 : aa.eval (.tmp 14) = .int .i64 k1 := hF.carry (fun v _ => v = .int .i64 k1) rfl (stab_eq _) hE T14
            exact opAt rfl (ok_guard2 (n0 := ((!(hasK l1 1)) && (is1 == (!(decide (((toM m).fu) = ⟨#[]⟩)))))) (n1 := is1) rfl d12 (nT _) (nT _) (fun hc => run_here rfl (ex_move (.inl rfl) o14) (fun _ =>  rfl)) (fun hn hc => absurd hc hn))
          · -- 14 law.go:234
            rintro aa ww hE hF ⟨d12, -⟩
            replace d12 : (((!(hasK l1 1)) && (is1 == (!(decide (((toM m).fu) = ⟨#[]⟩))))) = true → aa.eval (.tmp 97) = .bool is1) ∧ (((!(hasK l1 1)) && (is1 == (!(decide (((toM m).fu) = ⟨#[]⟩))))) = (!true) → aa.eval (.tmp 97) = undef) := d12
            have o10 : aa.eval (.tmp 10) = .int .i64 1 := hF.carry (fun v _ => v = .int .i64 1) rfl (stab_eq _) hE T10
            exact opAt rfl (ok_guard2 (n0 := ((!(hasK l1 1)) && (is1 == (!(decide (((toM m).fu) = ⟨#[]⟩)))))) (n1 := is1) rfl d12 (nT _) (nT _) (fun hc => run_here rfl (ex_move (.inl rfl) o10) (fun _ =>  rfl)) (fun hn hc => absurd hc hn))
          · -- 15 law.go:234
            rintro aa ww hE hF ⟨d12, d14, -⟩
            replace d12 : (((!(hasK l1 1)) && (is1 == (!(decide (((toM m).fu) = ⟨#[]⟩))))) = true → aa.eval (.tmp 97) = .bool is1) ∧ (((!(hasK l1 1)) && (is1 == (!(decide (((toM m).fu) = ⟨#[]⟩))))) = (!true) → aa.eval (.tmp 97) = undef) := d12
            replace d14 : (((!(hasK l1 1)) && (is1 == (!(decide (((toM m).fu) = ⟨#[]⟩))))) && is1) = true → aa.eval (.tmp 99) = .int .i64 1 := d14
            exact opAt rfl (ok_guard2 (n0 := ((!(hasK l1 1)) && (is1 == (!(decide (((toM m).fu) = ⟨#[]⟩)))))) (n1 := is1) rfl d12 (nT _) (nT _) (fun hc => run_here rfl (ex_binOp rfl (by rw [show aa.eval (.tmp 99) = .int .i64 1 from (d14 hc), show aa.eval (.const (.int .i64 1)) = .int .i64 1 from (ev_const (v := .int .i64 1))]; exact eqg_int) (by rw [show aa.eval (.tmp 99) = .int .i64 1 from (d14 hc), show aa.eval (.const (.int .i64 1)) = .int .i64 1 from (ev_const (v := .int .i64 1))]; exact bin_addN (by omega) (by omega))) (fun _ =>  rfl)) (fun hn hc => absurd hc hn))
          · -- 16 law.go:234
            rintro aa ww hE hF ⟨d12, d13, d15, -⟩
            replace d12 : (((!(hasK l1 1)) && (is1 == (!(decide (((toM m).fu) = ⟨#[]⟩))))) = true → aa.eval (.tmp 97) = .bool is1) ∧ (((!(hasK l1 1)) && (is1 == (!(decide (((toM m).fu) = ⟨#[]⟩))))) = (!true) → aa.eval (.tmp 97) = undef) := d12
            replace d13 : (((!(hasK l1 1)) && (is1 == (!(decide (((toM m).fu) = ⟨#[]⟩))))) && is1) = true → aa.eval (.tmp 98) = .int .i64 k1 := d13
            replace d15 : (((!(hasK l1 1)) && (is1 == (!(decide (((toM m).fu) = ⟨#[]⟩))))) && is1) = true → aa.eval (.tmp 100) = .int .i64 ((1 : Int) + 1) := d15
            exact opAt rfl (ok_guard2 (n0 := ((!(hasK l1 1)) && (is1 == (!(decide (((toM m).fu) = ⟨#[]⟩)))))) (n1 := is1) rfl d12 (nT _) (nT _) (fun hc => run_here rfl (ex_binOp rfl (by rw [show aa.eval (.tmp 98) = .int .i64 k1 from (d13 hc), show aa.eval (.tmp 100) = .int .i64 ((1 : Int) + 1) from (d15 hc)]; exact eqg_int) (by rw [show aa.eval (.tmp 98) = .int .i64 k1 from (d13 hc), show aa.eval (.tmp 100) = .int .i64 ((1 : Int) + 1) from (d15 hc)]; exact bin_eql)) (fun _ =>  rfl)) (fun hn hc => absurd hc hn))
          · -- 17 law.go:234
            rintro aa ww hE hF ⟨d10, d12, d16, -⟩
            replace d10 : aa.eval (.tmp 95) = .bool ((!(hasK l1 1)) && (is1 == (!(decide (((toM m).fu) = ⟨#[]⟩))))) := d10
            replace d12 : (((!(hasK l1 1)) && (is1 == (!(decide (((toM m).fu) = ⟨#[]⟩))))) = true → aa.eval (.tmp 97) = .bool is1) ∧ (((!(hasK l1 1)) && (is1 == (!(decide (((toM m).fu) = ⟨#[]⟩))))) = (!true) → aa.eval (.tmp 97) = undef) := d12
            replace d16 : (((!(hasK l1 1)) && (is1 == (!(decide (((toM m).fu) = ⟨#[]⟩))))) && is1) = true → aa.eval (.tmp 101) = .bool (k1 == ((1 : Int) + 1)) := d16
            exact opAt rfl (ok_guard rfl d10 (fun hc => run_here rfl (ex_pick_and rfl (d12.1 hc) (fun hp => (d16 (and_i hc hp)))) (fun _ =>  rfl)) (fun hn hc => absurd hc hn))
          · -- 18 law.go:234
            rintro aa ww hE hF ⟨d10, d17, -⟩
            replace d10 : aa.eval (.tmp 95) = .bool ((!(hasK l1 1)) && (is1 == (!(decide (((toM m).fu) = ⟨#[]⟩))))) := d10
            replace d17 : ((!(hasK l1 1)) && (is1 == (!(decide (((toM m).fu) = ⟨#[]⟩))))) = true → aa.eval (.tmp 102) = .bool (is1 && (k1 == ((1 : Int) + 1))) := d17
            exact opAt rfl (ok_guard rfl d10 (fun hc => run_here rfl (ex_move (.inl rfl) (d17 hc)) (both_t hc <|  rfl)) (fun hn => both_f hn rfl))
          · -- 19 law.go:234
            rintro aa ww hE hF ⟨d18, -⟩
            replace d18 : (((!(hasK l1 1)) && (is1 == (!(decide (((toM m).fu) = ⟨#[]⟩))))) = true → aa.eval (.tmp 103) = .bool (is1 && (k1 == ((1 : Int) + 1)))) ∧ (((!(hasK l1 1)) && (is1 == (!(decide (((toM m).fu) = ⟨#[]⟩))))) = (!true) → aa.eval (.tmp 103) = undef) := d18
            have o8 : aa.eval (.tmp 8) = .pointer (some ⟨q, 0, none⟩) := hF.carry (fun v _ => v = .pointer (some ⟨q, 0, none⟩)) rfl (stab_eq _) hE T8
            exact opAt rfl (ok_guard2 (n0 := ((!(hasK l1 1)) && (is1 == (!(decide (((toM m).fu) = ⟨#[]⟩)))))) (n1 := (is1 && (k1 == ((1 : Int) + 1)))) rfl d18 (nT _) (nT _) (fun hc => run_here rfl (ex_move (.inl rfl) o8) (fun _ =>  rfl)) (fun hn hc => absurd hc hn))
          · -- 20 law.go:234
            rintro aa ww hE hF ⟨d18, d19, -⟩
            replace d18 : (((!(hasK l1 1)) && (is1 == (!(decide (((toM m).fu) = ⟨#[]⟩))))) = true → aa.eval (.tmp 103) = .bool (is1 && (k1 == ((1 : Int) + 1)))) ∧ (((!(hasK l1 1)) && (is1 == (!(decide (((toM m).fu) = ⟨#[]⟩))))) = (!true) → aa.eval (.tmp 103) = undef) := d18
            replace d19 : (((!(hasK l1 1)) && (is1 == (!(decide (((toM m).fu) = ⟨#[]⟩))))) && (is1 && (k1 == ((1 : Int) + 1)))) = true → aa.eval (.tmp 104) = .pointer (some ⟨q, 0, none⟩) := d19
            exact opAt rfl (ok_guard2 (n0 := ((!(hasK l1 1)) && (is1 == (!(decide (((toM m).fu) = ⟨#[]⟩)))))) (n1 := (is1 && (k1 == ((1 : Int) + 1)))) rfl d18 (nT _) (nT _) (fun hc => run_callR (ψ := (fun v _ => v = .int .i64 (l1.length : Int))) rfl Tryd.call25 (by simp only [List.map_toArray, List.map_cons, List.map_nil, (d19 hc)]; exact ret_same (len_c _ _ _ _ _ _ (QU.ext hE))) (fun _ _ h => fun _ =>  h)) (fun hn hc => absurd hc hn))
          · -- 21 law.go:234
            rintro aa ww hE hF ⟨d18, d20, -⟩
            replace d18 : (((!(hasK l1 1)) && (is1 == (!(decide (((toM m).fu) = ⟨#[]⟩))))) = true → aa.eval (.tmp 103) = .bool (is1 && (k1 == ((1 : Int) + 1)))) ∧ (((!(hasK l1 1)) && (is1 == (!(decide (((toM m).fu) = ⟨#[]⟩))))) = (!true) → aa.eval (.tmp 103) = undef) := d18
            replace d20 : (((!(hasK l1 1)) && (is1 == (!(decide (((toM m).fu) = ⟨#[]⟩))))) && (is1 && (k1 == ((1 : Int) + 1)))) = true → aa.eval (.tmp 105) = .int .i64 (l1.length : Int) := d20
            exact opAt rfl (ok_guard2 (n0 := ((!(hasK l1 1)) && (is1 == (!(decide (((toM m).fu) = ⟨#[]⟩)))))) (n1 := (is1 && (k1 == ((1 : Int) + 1)))) rfl d18 (nT _) (nT _) (fun hc => run_here rfl (ex_binOp rfl (by rw [show aa.eval (.tmp 105) = .int .i64 (l1.length : Int) from (d20 hc), show aa.eval (.const (.int .i64 1)) = .int .i64 1 from (ev_const (v := .int .i64 1))]; exact eqg_int) (by rw [show aa.eval (.tmp 105) = .int .i64 (l1.length : Int) from (d20 hc), show aa.eval (.const (.int .i64 1)) = .int .i64 1 from (ev_const (v := .int .i64 1))]; exact bin_eql)) (fun _ =>  rfl)) (fun hn hc => absurd hc hn))
          · -- 22 law.go:234
            rintro aa ww hE hF ⟨d10, d18, d21, -⟩
            replace d10 : aa.eval (.tmp 95) = .bool ((!(hasK l1 1)) && (is1 == (!(decide (((toM m).fu) = ⟨#[]⟩))))) := d10
            replace d18 : (((!(hasK l1 1)) && (is1 == (!(decide (((toM m).fu) = ⟨#[]⟩))))) = true → aa.eval (.tmp 103) = .bool (is1 && (k1 == ((1 : Int) + 1)))) ∧ (((!(hasK l1 1)) && (is1 == (!(decide (((toM m).fu) = ⟨#[]⟩))))) = (!true) → aa.eval (.tmp 103) = undef) := d18
            replace d21 : (((!(hasK l1 1)) && (is1 == (!(decide (((toM m).fu) = ⟨#[]⟩))))) && (is1 && (k1 == ((1 : Int) + 1)))) = true → aa.eval (.tmp 106) = .bool ((l1.length : Int) == (1 : Int)) := d21
            exact opAt rfl (ok_guard rfl d10 (fun hc => run_here rfl (ex_pick_and rfl (d18.1 hc) (fun hp => (d21 (and_i hc hp)))) (fun _ =>  rfl)) (fun hn hc => absurd hc hn))
          · -- 23 law.go:234
            rintro aa ww hE hF ⟨d10, d22, -⟩
            replace d10 : aa.eval (.tmp 95) = .bool ((!(hasK l1 1)) && (is1 == (!(decide (((toM m).fu) = ⟨#[]⟩))))) := d10
            replace d22 : ((!(hasK l1 1)) && (is1 == (!(decide (((toM m).fu) = ⟨#[]⟩))))) = true → aa.eval (.tmp 107) = .bool ((is1 && (k1 == ((1 : Int) + 1))) && ((l1.length : Int) == (1 : Int))) := d22
            exact opAt rfl (ok_guard rfl d10 (fun hc => run_here rfl (ex_move (.inl rfl) (d22 hc)) (both_t hc <|  rfl)) (fun hn => both_f hn rfl))
          · -- 24 law.go:234
            rintro aa ww hE hF ⟨d23, -⟩
            replace d23 : (((!(hasK l1 1)) && (is1 == (!(decide (((toM m).fu) = ⟨#[]⟩))))) = true → aa.eval (.tmp 108) = .bool ((is1 && (k1 == ((1 : Int) + 1))) && ((l1.length : Int) == (1 : Int)))) ∧ (((!(hasK l1 1)) && (is1 == (!(decide (((toM m).fu) = ⟨#[]⟩))))) = (!true) → aa.eval (.tmp 108) = undef) := d23
            have o15 : aa.eval (.tmp 15) = .bool is1 := hF.carry (fun v _ => v = .bool is1) rfl (stab_eq _) hE T15
            exact opAt rfl (ok_guard2 (n0 := ((!(hasK l1 1)) && (is1 == (!(decide (((toM m).fu) = ⟨#[]⟩)))))) (n1 := (!((is1 && (k1 == ((1 : Int) + 1))) && ((l1.length : Int) == (1 : Int))))) rfl d23 (nT _) (nF _) (fun hc => run_here rfl (ex_move (.inl rfl) o15) (fun _ =>  rfl)) (fun hn hc => absurd hc hn))
          · -- 25 law.go:234
            rintro aa ww hE hF ⟨d23, d24, -⟩
            replace d23 : (((!(hasK l1 1)) && (is1 == (!(decide (((toM m).fu) = ⟨#[]⟩))))) = true → aa.eval (.tmp 108) = .bool ((is1 && (k1 == ((1 : Int) + 1))) && ((l1.length : Int) == (1 : Int)))) ∧ (((!(hasK l1 1)) && (is1 == (!(decide (((toM m).fu) = ⟨#[]⟩))))) = (!true) → aa.eval (.tmp 108) = undef) := d23
            replace d24 : (((!(hasK l1 1)) && (is1 == (!(decide (((toM m).fu) = ⟨#[]⟩))))) && (!((is1 && (k1 == ((1 : Int) + 1))) && ((l1.length : Int) == (1 : Int))))) = true → aa.eval (.tmp 109) = .bool is1 := d24
            exact opAt rfl (ok_guard2 (n0 := ((!(hasK l1 1)) && (is1 == (!(decide (((toM m).fu) = ⟨#[]⟩)))))) (n1 := (!((is1 && (k1 == ((1 : Int) + 1))) && ((l1.length : Int) == (1 : Int))))) rfl d23 (nT _) (nF _) (fun hc => run_here rfl (ex_unOp rfl (by rw [show aa.eval (.tmp 109) = .bool is1 from (d24 hc)]; exact un_not)) (fun _ =>  rfl)) (fun hn hc => absurd hc hn))
          · -- 26 law.go:234
            rintro aa ww hE hF ⟨d23, d25, -⟩
            replace d23 : (((!(hasK l1 1)) && (is1 == (!(decide (((toM m).fu) = ⟨#[]⟩))))) = true → aa.eval (.tmp 108) = .bool ((is1 && (k1 == ((1 : Int) + 1))) && ((l1.length : Int) == (1 : Int)))) ∧ (((!(hasK l1 1)) && (is1 == (!(decide (((toM m).fu) = ⟨#[]⟩))))) = (!true) → aa.eval (.tmp 108) = undef) := d23
            replace d25 : (((!(hasK l1 1)) && (is1 == (!(decide (((toM m).fu) = ⟨#[]⟩))))) && (!((is1 && (k1 == ((1 : Int) + 1))) && ((l1.length : Int) == (1 : Int))))) = true → aa.eval (.tmp 110) = .bool (!is1) := d25
            exact opAt rfl (ok_guard2 (n0 := ((!(hasK l1 1)) && (is1 == (!(decide (((toM m).fu) = ⟨#[]⟩)))))) (n1 := (!((is1 && (k1 == ((1 : Int) + 1))) && ((l1.length : Int) == (1 : Int))))) rfl d23 (nT _) (nF _) (fun hc => run_here rfl (ex_move (.inl rfl) (d25 hc)) (both_t hc <|  rfl)) (fun hn => both_f hn rfl))
          · -- 27 law.go:234
            rintro aa ww hE hF ⟨d26, -⟩
            replace d26 : ((((!(hasK l1 1)) && (is1 == (!(decide (((toM m).fu) = ⟨#[]⟩))))) && (!((is1 && (k1 == ((1 : Int) + 1))) && ((l1.length : Int) == (1 : Int))))) = true → aa.eval (.tmp 111) = .bool (!is1)) ∧ ((((!(hasK l1 1)) && (is1 == (!(decide (((toM m).fu) = ⟨#[]⟩))))) && (!((is1 && (k1 == ((1 : Int) + 1))) && ((l1.length : Int) == (1 : Int))))) = (!true) → aa.eval (.tmp 111) = undef) := d26
            have o14 : aa.eval (.tmp 14) = .int .i64 k1 := hF.carry (fun v _ => v = .int .i64 k1) rfl (stab_eq _) hE T14
            exact opAt rfl (ok_guard2 (n0 := (((!(hasK l1 1)) && (is1 == (!(decide (((toM m).fu) = ⟨#[]⟩))))) && (!((is1 && (k1 == ((1 : Int) + 1))) && ((l1.length : Int) == (1 : Int)))))) (n1 := (!is1)) rfl d26 (nT _) (nT _) (fun hc => run_here rfl (ex_move (.inl rfl) o14) (fun _ =>  rfl)) (fun hn hc => absurd hc hn))
          · -- 28 law.go:234
            rintro aa ww hE hF ⟨d26, d27, -⟩
            replace d26 : ((((!(hasK l1 1)) && (is1 == (!(decide (((toM m).fu) = ⟨#[]⟩))))) && (!((is1 && (k1 == ((1 : Int) + 1))) && ((l1.length : Int) == (1 : Int))))) = true → aa.eval (.tmp 111) = .bool (!is1)) ∧ ((((!(hasK l1 1)) && (is1 == (!(decide (((toM m).fu) = ⟨#[]⟩))))) && (!((is1 && (k1 == ((1 : Int) + 1))) && ((l1.length : Int) == (1 : Int))))) = (!true) → aa.eval (.tmp 111) = undef) := d26
            replace d27 : ((((!(hasK l1 1)) && (is1 == (!(decide (((toM m).fu) = ⟨#[]⟩))))) && (!((is1 && (k1 == ((1 : Int) + 1))) && ((l1.length : Int) == (1 : Int))))) && (!is1)) = true → aa.eval (.tmp 112) = .int .i64 k1 := d27
            exact opAt rfl (ok_guard2 (n0 := (((!(hasK l1 1)) && (is1 == (!(decide (((toM m).fu) = ⟨#[]⟩))))) && (!((is1 && (k1 == ((1 : Int) + 1))) && ((l1.length : Int) == (1 : Int)))))) (n1 := (!is1)) rfl d26 (nT _) (nT _) (fun hc => run_here rfl (ex_binOp rfl (by rw [show aa.eval (.tmp 112) = .int .i64 k1 from (d27 hc), show aa.eval (.const (.int .i64 0)) = .int .i64 0 from (ev_const (v := .int .i64 0))]; exact eqg_int) (by rw [show aa.eval (.tmp 112) = .int .i64 k1 from (d27 hc), show aa.eval (.const (.int .i64 0)) = .int .i64 0 from (ev_const (v := .int .i64 0))]; exact bin_eql)) (fun _ =>  rfl)) (fun hn hc => absurd hc hn))
          · -- 29 law.go:234
            rintro aa ww hE hF ⟨d23, d26, d28, -⟩
            replace d23 : (((!(hasK l1 1)) && (is1 == (!(decide (((toM m).fu) = ⟨#[]⟩))))) = true → aa.eval (.tmp 108) = .bool ((is1 && (k1 == ((1 : Int) + 1))) && ((l1.length : Int) == (1 : Int)))) ∧ (((!(hasK l1 1)) && (is1 == (!(decide (((toM m).fu) = ⟨#[]⟩))))) = (!true) → aa.eval (.tmp 108) = undef) := d23
            replace d26 : ((((!(hasK l1 1)) && (is1 == (!(decide (((toM m).fu) = ⟨#[]⟩))))) && (!((is1 && (k1 == ((1 : Int) + 1))) && ((l1.length : Int) == (1 : Int))))) = true → aa.eval (.tmp 111) = .bool (!is1)) ∧ ((((!(hasK l1 1)) && (is1 == (!(decide (((toM m).fu) = ⟨#[]⟩))))) && (!((is1 && (k1 == ((1 : Int) + 1))) && ((l1.length : Int) == (1 : Int))))) = (!true) → aa.eval (.tmp 111) = undef) := d26
            replace d28 : ((((!(hasK l1 1)) && (is1 == (!(decide (((toM m).fu) = ⟨#[]⟩))))) && (!((is1 && (k1 == ((1 : Int) + 1))) && ((l1.length : Int) == (1 : Int))))) && (!is1)) = true → aa.eval (.tmp 113) = .bool (k1 == (0 : Int)) := d28
            exact opAt rfl (ok_guard2 (n0 := ((!(hasK l1 1)) && (is1 == (!(decide (((toM m).fu) = ⟨#[]⟩)))))) (n1 := (!((is1 && (k1 == ((1 : Int) + 1))) && ((l1.length : Int) == (1 : Int))))) rfl d23 (nT _) (nF _) (fun hc => run_here rfl (ex_pick_and rfl (d26.1 hc) (fun hp => (d28 (and_i hc hp)))) (fun _ =>  rfl)) (fun hn hc => absurd hc hn))
          · -- 30 law.go:234
            rintro aa ww hE hF ⟨d23, d29, -⟩
            replace d23 : (((!(hasK l1 1)) && (is1 == (!(decide (((toM m).fu) = ⟨#[]⟩))))) = true → aa.eval (.tmp 108) = .bool ((is1 && (k1 == ((1 : Int) + 1))) && ((l1.length : Int) == (1 : Int)))) ∧ (((!(hasK l1 1)) && (is1 == (!(decide (((toM m).fu) = ⟨#[]⟩))))) = (!true) → aa.eval (.tmp 108) = undef) := d23
            replace d29 : (((!(hasK l1 1)) && (is1 == (!(decide (((toM m).fu) = ⟨#[]⟩))))) && (!((is1 && (k1 == ((1 : Int) + 1))) && ((l1.length : Int) == (1 : Int))))) = true → aa.eval (.tmp 114) = .bool ((!is1) && (k1 == (0 : Int))) := d29
            exact opAt rfl (ok_guard2 (n0 := ((!(hasK l1 1)) && (is1 == (!(decide (((toM m).fu) = ⟨#[]⟩)))))) (n1 := (!((is1 && (k1 == ((1 : Int) + 1))) && ((l1.length : Int) == (1 : Int))))) rfl d23 (nT _) (nF _) (fun hc => run_here rfl (ex_move (.inl rfl) (d29 hc)) (both_t hc <|  rfl)) (fun hn => both_f hn rfl))
          · -- 31 law.go:234
            rintro aa ww hE hF ⟨d30, -⟩
            replace d30 : ((((!(hasK l1 1)) && (is1 == (!(decide (((toM m).fu) = ⟨#[]⟩))))) && (!((is1 && (k1 == ((1 : Int) + 1))) && ((l1.length : Int) == (1 : Int))))) = true → aa.eval (.tmp 115) = .bool ((!is1) && (k1 == (0 : Int)))) ∧ ((((!(hasK l1 1)) && (is1 == (!(decide (((toM m).fu) = ⟨#[]⟩))))) && (!((is1 && (k1 == ((1 : Int) + 1))) && ((l1.length : Int) == (1 : Int))))) = (!true) → aa.eval (.tmp 115) = undef) := d30
            have o8 : aa.eval (.tmp 8) = .pointer (some ⟨q, 0, none⟩) := hF.carry (fun v _ => v = .pointer (some ⟨q, 0, none⟩)) rfl (stab_eq _) hE T8
            exact opAt rfl (ok_guard2 (n0 := (((!(hasK l1 1)) && (is1 == (!(decide (((toM m).fu) = ⟨#[]⟩))))) && (!((is1 && (k1 == ((1 : Int) + 1))) && ((l1.length : Int) == (1 : Int)))))) (n1 := ((!is1) && (k1 == (0 : Int)))) rfl d30 (nT _) (nT _) (fun hc => run_here rfl (ex_move (.inl rfl) o8) (fun _ =>  rfl)) (fun hn hc => absurd hc hn))
          · -- 32 law.go:234
            rintro aa ww hE hF ⟨d30, d31, -⟩
            replace d30 : ((((!(hasK l1 1)) && (is1 == (!(decide (((toM m).fu) = ⟨#[]⟩))))) && (!((is1 && (k1 == ((1 : Int) + 1))) && ((l1.length : Int) == (1 : Int))))) = true → aa.eval (.tmp 115) = .bool ((!is1) && (k1 == (0 : Int)))) ∧ ((((!(hasK l1 1)) && (is1 == (!(decide (((toM m).fu) = ⟨#[]⟩))))) && (!((is1 && (k1 == ((1 : Int) + 1))) && ((l1.length : Int) == (1 : Int))))) = (!true) → aa.eval (.tmp 115) = undef) := d30
            replace d31 : ((((!(hasK l1 1)) && (is1 == (!(decide (((toM m).fu) = ⟨#[]⟩))))) && (!((is1 && (k1 == ((1 : Int) + 1))) && ((l1.length : Int) == (1 : Int))))) && ((!is1) && (k1 == (0 : Int)))) = true → aa.eval (.tmp 116) = .pointer (some ⟨q, 0, none⟩) := d31
            exact opAt rfl (ok_guard2 (n0 := (((!(hasK l1 1)) && (is1 == (!(decide (((toM m).fu) = ⟨#[]⟩))))) && (!((is1 && (k1 == ((1 : Int) + 1))) && ((l1.length : Int) == (1 : Int)))))) (n1 := ((!is1) && (k1 == (0 : Int)))) rfl d30 (nT _) (nT _) (fun hc => run_callR (ψ := (fun v _ => v = .int .i64 (l1.length : Int))) rfl Tryd.call25 (by simp only [List.map_toArray, List.map_cons, List.map_nil, (d31 hc)]; exact ret_same (len_c _ _ _ _ _ _ (QU.ext hE))) (fun _ _ h => fun _ =>  h)) (fun hn hc => absurd hc hn))
          · -- 33 law.go:234
            rintro aa ww hE hF ⟨d30, d32, -⟩
            replace d30 : ((((!(hasK l1 1)) && (is1 == (!(decide (((toM m).fu) = ⟨#[]⟩))))) && (!((is1 && (k1 == ((1 : Int) + 1))) && ((l1.length : Int) == (1 : Int))))) = true → aa.eval (.tmp 115) = .bool ((!is1) && (k1 == (0 : Int)))) ∧ ((((!(hasK l1 1)) && (is1 == (!(decide (((toM m).fu) = ⟨#[]⟩))))) && (!((is1 && (k1 == ((1 : Int) + 1))) && ((l1.length : Int) == (1 : Int))))) = (!true) → aa.eval (.tmp 115) = undef) := d30
            replace d32 : ((((!(hasK l1 1)) && (is1 == (!(decide (((toM m).fu) = ⟨#[]⟩))))) && (!((is1 && (k1 == ((1 : Int) + 1))) && ((l1.length : Int) == (1 : Int))))) && ((!is1) && (k1 == (0 : Int)))) = true → aa.eval (.tmp 117) = .int .i64 (l1.length : Int) := d32
            exact opAt rfl (ok_guard2 (n0 := (((!(hasK l1 1)) && (is1 == (!(decide (((toM m).fu) = ⟨#[]⟩))))) && (!((is1 && (k1 == ((1 : Int) + 1))) && ((l1.length : Int) == (1 : Int)))))) (n1 := ((!is1) && (k1 == (0 : Int)))) rfl d30 (nT _) (nT _) (fun hc => run_here rfl (ex_binOp rfl (by rw [show aa.eval (.tmp 117) = .int .i64 (l1.length : Int) from (d32 hc), show aa.eval (.const (.int .i64 0)) = .int .i64 0 from (ev_const (v := .int .i64 0))]; exact eqg_int) (by rw [show aa.eval (.tmp 117) = .int .i64 (l1.length : Int) from (d32 hc), show aa.eval (.const (.int .i64 0)) = .int .i64 0 from (ev_const (v := .int .i64 0))]; exact bin_eql)) (fun _ =>  rfl)) (fun hn hc => absurd hc hn))
          · -- 34 law.go:234
            rintro aa ww hE hF ⟨d23, d30, d33, -⟩
            replace d23 : (((!(hasK l1 1)) && (is1 == (!(decide (((toM m).fu) = ⟨#[]⟩))))) = true → aa.eval (.tmp 108) = .bool ((is1 && (k1 == ((1 : Int) + 1))) && ((l1.length : Int) == (1 : Int)))) ∧ (((!(hasK l1 1)) && (is1 == (!(decide (((toM m).fu) = ⟨#[]⟩))))) = (!true) → aa.eval (.tmp 108) = undef) := d23
            replace d30 : ((((!(hasK l1 1)) && (is1 == (!(decide (((toM m).fu) = ⟨#[]⟩))))) && (!((is1 && (k1 == ((1 : Int) + 1))) && ((l1.length : Int) == (1 : Int))))) = true → aa.eval (.tmp 115) = .bool ((!is1) && (k1 == (0 : Int)))) ∧ ((((!(hasK l1 1)) && (is1 == (!(decide (((toM m).fu) = ⟨#[]⟩))))) && (!((is1 && (k1 == ((1 : Int) + 1))) && ((l1.length : Int) == (1 : Int))))) = (!true) → aa.eval (.tmp 115) = undef) := d30
            replace d33 : ((((!(hasK l1 1)) && (is1 == (!(decide (((toM m).fu) = ⟨#[]⟩))))) && (!((is1 && (k1 == ((1 : Int) + 1))) && ((l1.length : Int) == (1 : Int))))) && ((!is1) && (k1 == (0 : Int)))) = true → aa.eval (.tmp 118) = .bool ((l1.length : Int) == (0 : Int)) := d33
            exact opAt rfl (ok_guard2 (n0 := ((!(hasK l1 1)) && (is1 == (!(decide (((toM m).fu) = ⟨#[]⟩)))))) (n1 := (!((is1 && (k1 == ((1 : Int) + 1))) && ((l1.length : Int) == (1 : Int))))) rfl d23 (nT _) (nF _) (fun hc => run_here rfl (ex_pick_and rfl (d30.1 hc) (fun hp => (d33 (and_i hc hp)))) (fun _ =>  rfl)) (fun hn hc => absurd hc hn))
          · -- 35 law.go:234
            rintro aa ww hE hF ⟨d10, d23, d34, -⟩
            replace d10 : aa.eval (.tmp 95) = .bool ((!(hasK l1 1)) && (is1 == (!(decide (((toM m).fu) = ⟨#[]⟩))))) := d10
            replace d23 : (((!(hasK l1 1)) && (is1 == (!(decide (((toM m).fu) = ⟨#[]⟩))))) = true → aa.eval (.tmp 108) = .bool ((is1 && (k1 == ((1 : Int) + 1))) && ((l1.length : Int) == (1 : Int)))) ∧ (((!(hasK l1 1)) && (is1 == (!(decide (((toM m).fu) = ⟨#[]⟩))))) = (!true) → aa.eval (.tmp 108) = undef) := d23
            replace d34 : (((!(hasK l1 1)) && (is1 == (!(decide (((toM m).fu) = ⟨#[]⟩))))) && (!((is1 && (k1 == ((1 : Int) + 1))) && ((l1.length : Int) == (1 : Int))))) = true → aa.eval (.tmp 119) = .bool (((!is1) && (k1 == (0 : Int))) && ((l1.length : Int) == (0 : Int))) := d34
            exact opAt rfl (ok_guard rfl d10 (fun hc => run_here rfl (ex_pick_or rfl (d23.1 hc) (fun hp => (d34 (and_i hc (not_it hp))))) (fun _ =>  rfl)) (fun hn hc => absurd hc hn))
          · -- 36 law.go:234
            rintro aa ww hE hF ⟨d10, d35, -⟩
            replace d10 : aa.eval (.tmp 95) = .bool ((!(hasK l1 1)) && (is1 == (!(decide (((toM m).fu) = ⟨#[]⟩))))) := d10
            replace d35 : ((!(hasK l1 1)) && (is1 == (!(decide (((toM m).fu) = ⟨#[]⟩))))) = true → aa.eval (.tmp 120) = .bool (((is1 && (k1 == ((1 : Int) + 1))) && ((l1.length : Int) == (1 : Int))) || (((!is1) && (k1 == (0 : Int))) && ((l1.length : Int) == (0 : Int)))) := d35
            exact opAt rfl (ok_run rfl (run_here rfl (ex_pick_and rfl d10 (fun hp => (d35 hp))) ( rfl)))
          intro a99 w100 hE hF hfac hap
          obtain ⟨f0, f1, f2, f3, f4, f5, f6, f7, f8, f9, f10, f11, f12, f13, f14, f15, f16, f17, f18, f19, f20, f21, f22, f23, f24, f25, f26, f27, f28, f29, f30, f31, f32, f33, f34, f35, f36, -⟩ := hfac
          replace N := hF.size.trans N
          replace D := hF.defers.trans D
          replace R_b4 := hE.row R_b4
          replace R_b9 := hE.row R_b9
          replace R_b85 := hE.row R_b85
          replace S11 : OwnStrs 0 ((toM m).hops) w100 (.slice x12 (((toM m).hops).length) c13) := S11.ext hE
          replace QU : QueueAt q mb (s.extract 0 ((min (s.size : Int) 60)).toNat) last1 l1 w100 := QU.ext hE
          replace S33 : OwnStrs 0 ((toM m).hops) w100 (.slice x34 (((toM m).hops).length) c35) := S33.ext hE
          replace S87 : OwnStrs w.heap.size (((valOf l1 1 zeroQ).m).hops) w100 (.slice x88 ((((valOf l1 1 zeroQ).m).hops).length) c89) := S87.ext hE
          replace T6 : (fun v _ => v = .bool false) (a99.at 6) w100 := hF.carry (fun v _ => v = .bool false) rfl (stab_eq _) hE T6
          replace T7 : (fun v _ => v = .pointer (some ⟨b9, 0, none⟩)) (a99.at 7) w100 := hF.carry (fun v _ => v = .pointer (some ⟨b9, 0, none⟩)) rfl (stab_eq _) hE T7
          replace T8 : (fun v _ => v = .pointer (some ⟨q, 0, none⟩)) (a99.at 8) w100 := hF.carry (fun v _ => v = .pointer (some ⟨q, 0, none⟩)) rfl (stab_eq _) hE T8
          replace T10 : (fun v _ => v = .int .i64 1) (a99.at 10) w100 := hF.carry (fun v _ => v = .int .i64 1) rfl (stab_eq _) hE T10
          replace T2 : (fun v _ => v = .int .i64 nw) (a99.at 2) w100 := hF.carry (fun v _ => v = .int .i64 nw) rfl (stab_eq _) hE T2
          replace T12 : (fun v _ => v = .int .i64 dl) (a99.at 12) w100 := hF.carry (fun v _ => v = .int .i64 dl) rfl (stab_eq _) hE T12
          replace T13 : (fun v _ => v = .int .i64 (i : Int)) (a99.at 13) w100 := hF.carry (fun v _ => v = .int .i64 (i : Int)) rfl (stab_eq _) hE T13
          replace T14 : (fun v _ => v = .int .i64 k1) (a99.at 14) w100 := hF.carry (fun v _ => v = .int .i64 k1) rfl (stab_eq _) hE T14
          replace T15 : (fun v _ => v = .bool is1) (a99.at 15) w100 := hF.carry (fun v _ => v = .bool is1) rfl (stab_eq _) hE T15
          replace T16 : (fun v _ => v = .int .i64 0) (a99.at 16) w100 := hF.carry (fun v _ => v = .int .i64 0) rfl (stab_eq _) hE T16
          replace T75 : (fun v _ => v = .bool false) (a99.at 75) w100 := hF.carry (fun v _ => v = .bool false) rfl (stab_eq _) hE T75
          replace T18 : (fun v _ => v = .int .i64 ((valOf l1 1 zeroQ).due)) (a99.at 18) w100 := hF.carry (fun v _ => v = .int .i64 ((valOf l1 1 zeroQ).due)) rfl (stab_eq _) hE T18
          replace T19 : (fun v _ => v = .bool (hasK l1 1)) (a99.at 19) w100 := hF.carry (fun v _ => v = .bool (hasK l1 1)) rfl (stab_eq _) hE T19
          have T121 : (fun v _ => v = .bool (((!(hasK l1 1)) && (is1 == (!(decide (((toM m).fu) = ⟨#[]⟩))))) && (((is1 && (k1 == ((1 : Int) + 1))) && ((l1.length : Int) == (1 : Int))) || (((!is1) && (k1 == (0 : Int))) && ((l1.length : Int) == (0 : Int)))))) (a99.at 121) w100 := f36
          replace E := E.trans hE
          clear hE hF hap
          show wpOps _ (rg Tryd.f8 17) _ [37] _ _
          refine tail_val rfl rfl rfl (ex_move (.inr rfl) (v := .bool (((!(hasK l1 1)) && (is1 == (!(decide (((toM m).fu) = ⟨#[]⟩))))) && (((is1 && (k1 == ((1 : Int) + 1))) && ((l1.length : Int) == (1 : Int))) || (((!is1) && (k1 == (0 : Int))) && ((l1.length : Int) == (0 : Int)))))) (show a99.eval (.tmp 121) = .bool (((!(hasK l1 1)) && (is1 == (!(decide (((toM m).fu) = ⟨#[]⟩))))) && (((is1 && (k1 == ((1 : Int) + 1))) && ((l1.length : Int) == (1 : Int))) || (((!is1) && (k1 == (0 : Int))) && ((l1.length : Int) == (0 : Int))))) from T121)) ?_
          obtain ⟨a101, ha⟩ : ∃ x : Act, x = a99.put (some 6) (.bool (((!(hasK l1 1)) && (is1 == (!(decide (((toM m).fu) = ⟨#[]⟩))))) && (((is1 && (k1 == ((1 : Int) + 1))) && ((l1.length : Int) == (1 : Int))) || (((!is1) && (k1 == (0 : Int))) && ((l1.length : Int) == (0 : Int)))))) := ⟨_, rfl⟩
          rw [← ha]
          replace T7 : (fun v _ => v = .pointer (some ⟨b9, 0, none⟩)) (a101.at 7) w100 := by rw [ha, put_other rfl]; exact T7
          replace T8 : (fun v _ => v = .pointer (some ⟨q, 0, none⟩)) (a101.at 8) w100 := by rw [ha, put_other rfl]; exact T8
          replace T10 : (fun v _ => v = .int .i64 1) (a101.at 10) w100 := by rw [ha, put_other rfl]; exact T10
          replace T2 : (fun v _ => v = .int .i64 nw) (a101.at 2) w100 := by rw [ha, put_other rfl]; exact T2
          replace T12 : (fun v _ => v = .int .i64 dl) (a101.at 12) w100 := by rw [ha, put_other rfl]; exact T12
          replace T13 : (fun v _ => v = .int .i64 (i : Int)) (a101.at 13) w100 := by rw [ha, put_other rfl]; exact T13
          replace T14 : (fun v _ => v = .int .i64 k1) (a101.at 14) w100 := by rw [ha, put_other rfl]; exact T14
          replace T15 : (fun v _ => v = .bool is1) (a101.at 15) w100 := by rw [ha, put_other rfl]; exact T15
          replace T16 : (fun v _ => v = .int .i64 0) (a101.at 16) w100 := by rw [ha, put_other rfl]; exact T16
          replace T75 : (fun v _ => v = .bool false) (a101.at 75) w100 := by rw [ha, put_other rfl]; exact T75
          replace T18 : (fun v _ => v = .int .i64 ((valOf l1 1 zeroQ).due)) (a101.at 18) w100 := by rw [ha, put_other rfl]; exact T18
          replace T19 : (fun v _ => v = .bool (hasK l1 1)) (a101.at 19) w100 := by rw [ha, put_other rfl]; exact T19
          replace T121 : (fun v _ => v = .bool (((!(hasK l1 1)) && (is1 == (!(decide (((toM m).fu) = ⟨#[]⟩))))) && (((is1 && (k1 == ((1 : Int) + 1))) && ((l1.length : Int) == (1 : Int))) || (((!is1) && (k1 == (0 : Int))) && ((l1.length : Int) == (0 : Int)))))) (a101.at 121) w100 := by rw [ha, put_other rfl]; exact T121
          replace T6 : (fun v _ => v = .bool (((!(hasK l1 1)) && (is1 == (!(decide (((toM m).fu) = ⟨#[]⟩))))) && (((is1 && (k1 == ((1 : Int) + 1))) && ((l1.length : Int) == (1 : Int))) || (((!is1) && (k1 == (0 : Int))) && ((l1.length : Int) == (0 : Int)))))) (a101.at 6) w100 := by rw [ha, put_same N (by decide)]; skip
          replace N := (ha ▸ put_size _ _ _ : a101.tmps.size = _).trans N
          replace D := (ha ▸ put_defers' _ _ _ : a101.defers = _).trans D
          clear ha
          clear T121
          refine hK98 _ _ ?_
          refine wp_ret ?_
          -- the end
          refine ret_1 Tryd.results8 D T6 ?_
          exact ⟨_, rfl, E, congrArg Value.bool (ret_last hhas his hy hn)⟩
        · clear T84
          obtain ⟨hk1, his, hlast, hl1⟩ := hlo C97
          replace T14 : (fun v _ => v = .int .i64 0) (a95.at 14) w96 := by rw [hk1] at T14; exact T14
          replace T15 : (fun v _ => v = .bool false) (a95.at 15) w96 := by rw [his] at T15; exact T15
          replace T18 : (fun v _ => v = .int .i64 (nw + dl)) (a95.at 18) w96 := by rw [hl1] at T18; exact T18
          replace T19 : (fun v _ => v = .bool true) (a95.at 19) w96 := by rw [hl1] at T19; exact T19
          rw [hl1, hlast] at QU
          clear hlo hhi
          have hll : List.length [((1 : Int), (⟨toM m, hvq, 1, nw + dl, ((i + 1 : Nat) : Int) - 1⟩ : QEnt))] ≤ 1000000 := by simp
          have hd0 : ((([((1 : Int), (⟨toM m, hvq, 1, nw + dl, ((i + 1 : Nat) : Int) - 1⟩ : QEnt))].map (·.2)).filter (dueB (nw + dl - 1))).length : Int) = 0 := by simp [dueB]; omega
          have hd1 : ((([((1 : Int), (⟨toM m, hvq, 1, nw + dl, ((i + 1 : Nat) : Int) - 1⟩ : QEnt))].map (·.2)).filter (dueB (nw + dl))).length : Int) = 1 := by simp [dueB]
          refine wp_skip ?_
          refine hK93 _ _ ?_
          refine wp_seq_k (fun K102 hK102 => ?_)
          refine wp_seq_k (fun K103 hK103 => ?_)
          -- region 18: law.go:236
          show (Code.region 18 (rg Tryd.f8 18) false).wp _ _ _ _
          refine plain_list (n := 27) (N := 152) (deps := [[], [0], [1], [1, 2], [1, 3], [4], [5], [5], [5], [5, 7, 8], [5, 6, 9], [5, 10], [11], [12], [12], [12, 14], [12, 13, 15], [12, 16], [12, 17], [12, 18], [19], [20], [20], [20, 21, 22], [20, 23], [20, 24], [20, 25]]) (F := [(fun v _ => v = .bool false), (fun v _ => v = .bool false), (fun v _ => v = .bool true), (fun v _ => v = .bool false), (fun v _ => v = .bool false), (fun v _ => v = .bool false), (fun v _ => v = .int .i64 (nw + dl)), (fun v _ => v = .int .i64 nw), (fun v _ => v = .int .i64 dl), (fun v _ => v = .int .i64 (nw + dl)), (fun v _ => v = .bool false), (fun v _ => v = .bool false), (fun v _ => v = .bool false), (fun v _ => v = .pointer (some ⟨q, 0, none⟩)), (fun v _ => v = .int .i64 (nw + dl)), (fun v _ => v = .int .i64 ((nw + dl) - 1)), (IsDue w.heap.size [((1 : Int), (⟨toM m, hvq, 1, nw + dl, ((i + 1 : Nat) : Int) - 1⟩ : QEnt))] ((nw + dl) - 1)), (fun v _ => v = .int .i64 ((([((1 : Int), (⟨toM m, hvq, 1, nw + dl, ((i + 1 : Nat) : Int) - 1⟩ : QEnt))].map (·.2)).filter (dueB ((nw + dl) - 1))).length : Int)), (fun v _ => v = .bool (((([((1 : Int), (⟨toM m, hvq, 1, nw + dl, ((i + 1 : Nat) : Int) - 1⟩ : QEnt))].map (·.2)).filter (dueB ((nw + dl) - 1))).length : Int) != (0 : Int))), (fun v _ => v = .bool (((([((1 : Int), (⟨toM m, hvq, 1, nw + dl, ((i + 1 : Nat) : Int) - 1⟩ : QEnt))].map (·.2)).filter (dueB ((nw + dl) - 1))).length : Int) != (0 : Int))), (fun v _ => v = .bool (((([((1 : Int), (⟨toM m, hvq, 1, nw + dl, ((i + 1 : Nat) : Int) - 1⟩ : QEnt))].map (·.2)).filter (dueB ((nw + dl) - 1))).length : Int) != (0 : Int))), (fun v_ w_ => (((([((1 : Int), (⟨toM m, hvq, 1, nw + dl, ((i + 1 : Nat) : Int) - 1⟩ : QEnt))].map (·.2)).filter (dueB ((nw + dl) - 1))).length : Int) != (0 : Int)) = false → (fun v _ => v = .pointer (some ⟨q, 0, none⟩)) v_ w_), (fun v_ w_ => (((([((1 : Int), (⟨toM m, hvq, 1, nw + dl, ((i + 1 : Nat) : Int) - 1⟩ : QEnt))].map (·.2)).filter (dueB ((nw + dl) - 1))).length : Int) != (0 : Int)) = false → (fun v _ => v = .int .i64 (nw + dl)) v_ w_), (fun v_ w_ => (((([((1 : Int), (⟨toM m, hvq, 1, nw + dl, ((i + 1 : Nat) : Int) - 1⟩ : QEnt))].map (·.2)).filter (dueB ((nw + dl) - 1))).length : Int) != (0 : Int)) = false → (IsDue w.heap.size [((1 : Int), (⟨toM m, hvq, 1, nw + dl, ((i + 1 : Nat) : Int) - 1⟩ : QEnt))] (nw + dl)) v_ w_), (fun v_ w_ => (((([((1 : Int), (⟨toM m, hvq, 1, nw + dl, ((i + 1 : Nat) : Int) - 1⟩ : QEnt))].map (·.2)).filter (dueB ((nw + dl) - 1))).length : Int) != (0 : Int)) = false → (fun v _ => v = .int .i64 ((([((1 : Int), (⟨toM m, hvq, 1, nw + dl, ((i + 1 : Nat) : Int) - 1⟩ : QEnt))].map (·.2)).filter (dueB (nw + dl))).length : Int)) v_ w_), (fun v_ w_ => (((([((1 : Int), (⟨toM m, hvq, 1, nw + dl, ((i + 1 : Nat) : Int) - 1⟩ : QEnt))].map (·.2)).filter (dueB ((nw + dl) - 1))).length : Int) != (0 : Int)) = false → (fun v _ => v = .bool (((([((1 : Int), (⟨toM m, hvq, 1, nw + dl, ((i + 1 : Nat) : Int) - 1⟩ : QEnt))].map (·.2)).filter (dueB (nw + dl))).length : Int) != (1 : Int))) v_ w_), (fun v _ => v = .bool ((((([((1 : Int), (⟨toM m, hvq, 1, nw + dl, ((i + 1 : Nat) : Int) - 1⟩ : QEnt))].map (·.2)).filter (dueB ((nw + dl) - 1))).length : Int) != (0 : Int)) || (((([((1 : Int), (⟨toM m, hvq, 1, nw + dl, ((i + 1 : Nat) : Int) - 1⟩ : QEnt))].map (·.2)).filter (dueB (nw + dl))).length : Int) != (1 : Int))))]) (by kernel_rfl) (by kernel_rfl) rfl (by kernel_rfl) ⟨(stab_eq _), (stab_eq _), (stab_eq _), (stab_eq _), (stab_eq _), (stab_eq _), (stab_eq _), (stab_eq _), (stab_eq _), (stab_eq _), (stab_eq _), (stab_eq _), (stab_eq _), (stab_eq _), (stab_eq _), (stab_eq _), (stab_due _ _ _), (stab_eq _), (stab_eq _), (stab_eq _), (stab_eq _), (stab_imp (stab_eq _)), (stab_imp (stab_eq _)), (stab_imp (stab_due _ _ _)), (stab_imp (stab_eq _)), (stab_imp (stab_eq _)), (stab_eq _), trivial⟩ N (by kernel_rfl) ⟨?_, ?_, ?_, ?_, ?_, ?_, ?_, ?_, ?_, ?_, ?_, ?_, ?_, ?_, ?_, ?_, ?_, ?_, ?_, ?_, ?_, ?_, ?_, ?_, ?_, ?_, ?_, trivial⟩ ?_
          · -- 0 law.go:236
            rintro aa ww hE hF ⟨-⟩
            have o15 : aa.eval (.tmp 15) = .bool false := hF.carry (fun v _ => v = .bool false) rfl (stab_eq _) hE T15
            exact opAt rfl (ok_run rfl (run_here rfl (ex_move (.inl rfl) o15) ( rfl)))
          · -- 1 law.go:236
            rintro aa ww hE hF ⟨d0, -⟩
            replace d0 : aa.eval (.tmp 122) = .bool false := d0
            exact opAt rfl (ok_run rfl (run_here rfl (ex_move (.inl rfl) d0) ( rfl)))
          · -- 2 law.go:236
            rintro aa ww hE hF ⟨d1, -⟩
            replace d1 : aa.eval (.tmp 123) = .bool false := d1
            have o19 : aa.eval (.tmp 19) = .bool true := hF.carry (fun v _ => v = .bool true) rfl (stab_eq _) hE T19
            exact opAt rfl (ok_guard rfl d1 (fun _ => run_here rfl (ex_move (.inl rfl) o19) ( rfl)) (fun hn => absurd rfl hn))
          · -- 3 law.go:236
            rintro aa ww hE hF ⟨d1, d2, -⟩
            replace d1 : aa.eval (.tmp 123) = .bool false := d1
            replace d2 : aa.eval (.tmp 124) = .bool true := d2
            exact opAt rfl (ok_guard rfl d1 (fun _ => run_here rfl (ex_unOp rfl (by rw [show aa.eval (.tmp 124) = .bool true from d2]; exact un_not)) ( rfl)) (fun hn => absurd rfl hn))
          · -- 4 law.go:236
            rintro aa ww hE hF ⟨d1, d3, -⟩
            replace d1 : aa.eval (.tmp 123) = .bool false := d1
            replace d3 : aa.eval (.tmp 125) = .bool false := d3
            exact opAt rfl (ok_run rfl (run_here rfl (ex_pick_or rfl d1 (fun hp => d3)) ( rfl)))
          · -- 5 law.go:236
            rintro aa ww hE hF ⟨d4, -⟩
            replace d4 : aa.eval (.tmp 126) = .bool false := d4
            exact opAt rfl (ok_run rfl (run_here rfl (ex_move (.inl rfl) d4) ( rfl)))
          · -- 6 law.go:236
            rintro aa ww hE hF ⟨d5, -⟩
            replace d5 : aa.eval (.tmp 127) = .bool false := d5
            have o18 : aa.eval (.tmp 18) = .int .i64 (nw + dl) := hF.carry (fun v _ => v = .int .i64 (nw + dl)) rfl (stab_eq _) hE T18
            exact opAt rfl (ok_guard rfl d5 (fun _ => run_here rfl (ex_move (.inl rfl) o18) ( rfl)) (fun hn => absurd rfl hn))
          · -- 7 law.go:236
            rintro aa ww hE hF ⟨d5, -⟩
            replace d5 : aa.eval (.tmp 127) = .bool false := d5
            have o2 : aa.eval (.tmp 2) = .int .i64 nw := hF.carry (fun v _ => v = .int .i64 nw) rfl (stab_eq _) hE T2
            exact opAt rfl (ok_guard rfl d5 (fun _ => run_here rfl (ex_move (.inl rfl) o2) ( rfl)) (fun hn => absurd rfl hn))
          · -- 8 law.go:236
            rintro aa ww hE hF ⟨d5, -⟩
            replace d5 : aa.eval (.tmp 127) = .bool false := d5
            have o12 : aa.eval (.tmp 12) = .int .i64 dl := hF.carry (fun v _ => v = .int .i64 dl) rfl (stab_eq _) hE T12
            exact opAt rfl (ok_guard rfl d5 (fun _ => run_here rfl (ex_move (.inl rfl) o12) ( rfl)) (fun hn => absurd rfl hn))
          · -- 9 law.go:236
            rintro aa ww hE hF ⟨d5, d7, d8, -⟩
            replace d5 : aa.eval (.tmp 127) = .bool false := d5
            replace d7 : aa.eval (.tmp 129) = .int .i64 nw := d7
            replace d8 : aa.eval (.tmp 130) = .int .i64 dl := d8
            exact opAt rfl (ok_guard rfl d5 (fun _ => run_here rfl (ex_binOp rfl (by rw [show aa.eval (.tmp 129) = .int .i64 nw from d7, show aa.eval (.tmp 130) = .int .i64 dl from d8]; exact eqg_int) (by rw [show aa.eval (.tmp 129) = .int .i64 nw from d7, show aa.eval (.tmp 130) = .int .i64 dl from d8]; exact bin_addN (by omega) (by omega))) ( rfl)) (fun hn => absurd rfl hn))
          · -- 10 law.go:236
            rintro aa ww hE hF ⟨d5, d6, d9, -⟩
            replace d5 : aa.eval (.tmp 127) = .bool false := d5
            replace d6 : aa.eval (.tmp 128) = .int .i64 (nw + dl) := d6
            replace d9 : aa.eval (.tmp 131) = .int .i64 (nw + dl) := d9
            exact opAt rfl (ok_guard rfl d5 (fun _ => run_here rfl (ex_binOp rfl (by rw [show aa.eval (.tmp 128) = .int .i64 (nw + dl) from d6, show aa.eval (.tmp 131) = .int .i64 (nw + dl) from d9]; exact eqg_int) (by rw [show aa.eval (.tmp 128) = .int .i64 (nw + dl) from d6, show aa.eval (.tmp 131) = .int .i64 (nw + dl) from d9]; exact bin_neq)) ( (by rw [bne_self_eq_false]))) (fun hn => absurd rfl hn))
          · -- 11 law.go:236
            rintro aa ww hE hF ⟨d5, d10, -⟩
            replace d5 : aa.eval (.tmp 127) = .bool false := d5
            replace d10 : aa.eval (.tmp 132) = .bool false := d10
            exact opAt rfl (ok_run rfl (run_here rfl (ex_pick_or rfl d5 (fun hp => d10)) ( rfl)))
          · -- 12 law.go:236
            rintro aa ww hE hF ⟨d11, -⟩
            replace d11 : aa.eval (.tmp 133) = .bool false := d11
            exact opAt rfl (ok_run rfl (run_here rfl (ex_move (.inl rfl) d11) ( rfl)))
          · -- 13 law.go:236
            rintro aa ww hE hF ⟨d12, -⟩
            replace d12 : aa.eval (.tmp 134) = .bool false := d12
            have o8 : aa.eval (.tmp 8) = .pointer (some ⟨q, 0, none⟩) := hF.carry (fun v _ => v = .pointer (some ⟨q, 0, none⟩)) rfl (stab_eq _) hE T8
            exact opAt rfl (ok_guard rfl d12 (fun _ => run_here rfl (ex_move (.inl rfl) o8) ( rfl)) (fun hn => absurd rfl hn))
          · -- 14 law.go:236
            rintro aa ww hE hF ⟨d12, -⟩
            replace d12 : aa.eval (.tmp 134) = .bool false := d12
            have o18 : aa.eval (.tmp 18) = .int .i64 (nw + dl) := hF.carry (fun v _ => v = .int .i64 (nw + dl)) rfl (stab_eq _) hE T18
            exact opAt rfl (ok_guard rfl d12 (fun _ => run_here rfl (ex_move (.inl rfl) o18) ( rfl)) (fun hn => absurd rfl hn))
          · -- 15 law.go:236
            rintro aa ww hE hF ⟨d12, d14, -⟩
            replace d12 : aa.eval (.tmp 134) = .bool false := d12
            replace d14 : aa.eval (.tmp 136) = .int .i64 (nw + dl) := d14
            exact opAt rfl (ok_guard rfl d12 (fun _ => run_here rfl (ex_binOp rfl (by rw [show aa.eval (.tmp 136) = .int .i64 (nw + dl) from d14, show aa.eval (.const (.int .i64 1)) = .int .i64 1 from (ev_const (v := .int .i64 1))]; exact eqg_int) (by rw [show aa.eval (.tmp 136) = .int .i64 (nw + dl) from d14, show aa.eval (.const (.int .i64 1)) = .int .i64 1 from (ev_const (v := .int .i64 1))]; exact bin_subN (by omega) (by omega))) ( rfl)) (fun hn => absurd rfl hn))
          · -- 16 law.go:236
            rintro aa ww hE hF ⟨d12, d13, d15, -⟩
            replace d12 : aa.eval (.tmp 134) = .bool false := d12
            replace d13 : aa.eval (.tmp 135) = .pointer (some ⟨q, 0, none⟩) := d13
            replace d15 : aa.eval (.tmp 137) = .int .i64 ((nw + dl) - 1) := d15
            exact opAt rfl (ok_guard rfl d12 (fun _ => run_callR (ψ := (IsDue w.heap.size [((1 : Int), (⟨toM m, hvq, 1, nw + dl, ((i + 1 : Nat) : Int) - 1⟩ : QEnt))] ((nw + dl) - 1))) rfl Tryd.call28 (by simp only [List.map_toArray, List.map_cons, List.map_nil, d13, d15]; exact due_r (E.trans hE).size (QU.ext hE) hll) (fun _ _ h =>  h)) (fun hn => absurd rfl hn))
          · -- 17 law.go:236
            rintro aa ww hE hF ⟨d12, d16, -⟩
            replace d12 : aa.eval (.tmp 134) = .bool false := d12
            replace d16 : (IsDue w.heap.size [((1 : Int), (⟨toM m, hvq, 1, nw + dl, ((i + 1 : Nat) : Int) - 1⟩ : QEnt))] ((nw + dl) - 1)) (aa.eval (.tmp 138)) ww := d16
            exact opAt rfl (ok_guard rfl d12 (fun _ => run_here rfl (ex_builtin rfl (fun cs => by obtain ⟨_, _, e⟩ := due_form (d16); simp only [List.map_toArray, List.map_cons, List.map_nil, e]; exact len_slice Tryd.underlying66)) ( rfl)) (fun hn => absurd rfl hn))
          · -- 18 law.go:236
            rintro aa ww hE hF ⟨d12, d17, -⟩
            replace d12 : aa.eval (.tmp 134) = .bool false := d12
            replace d17 : aa.eval (.tmp 139) = .int .i64 ((([((1 : Int), (⟨toM m, hvq, 1, nw + dl, ((i + 1 : Nat) : Int) - 1⟩ : QEnt))].map (·.2)).filter (dueB ((nw + dl) - 1))).length : Int) := d17
            exact opAt rfl (ok_guard rfl d12 (fun _ => run_here rfl (ex_binOp rfl (by rw [show aa.eval (.tmp 139) = .int .i64 ((([((1 : Int), (⟨toM m, hvq, 1, nw + dl, ((i + 1 : Nat) : Int) - 1⟩ : QEnt))].map (·.2)).filter (dueB ((nw + dl) - 1))).length : Int) from d17, show aa.eval (.const (.int .i64 0)) = .int .i64 0 from (ev_const (v := .int .i64 0))]; exact eqg_int) (by rw [show aa.eval (.tmp 139) = .int .i64 ((([((1 : Int), (⟨toM m, hvq, 1, nw + dl, ((i + 1 : Nat) : Int) - 1⟩ : QEnt))].map (·.2)).filter (dueB ((nw + dl) - 1))).length : Int) from d17, show aa.eval (.const (.int .i64 0)) = .int .i64 0 from (ev_const (v := .int .i64 0))]; exact bin_neq)) ( rfl)) (fun hn => absurd rfl hn))
          · -- 19 law.go:236
            rintro aa ww hE hF ⟨d12, d18, -⟩
            replace d12 : aa.eval (.tmp 134) = .bool false := d12
            replace d18 : aa.eval (.tmp 140) = .bool (((([((1 : Int), (⟨toM m, hvq, 1, nw + dl, ((i + 1 : Nat) : Int) - 1⟩ : QEnt))].map (·.2)).filter (dueB ((nw + dl) - 1))).length : Int) != (0 : Int)) := d18
            exact opAt rfl (ok_run rfl (run_here rfl (ex_pick_or rfl d12 (fun hp => d18)) ( rfl)))
          · -- 20 law.go:236
            rintro aa ww hE hF ⟨d19, -⟩
            replace d19 : aa.eval (.tmp 141) = .bool (((([((1 : Int), (⟨toM m, hvq, 1, nw + dl, ((i + 1 : Nat) : Int) - 1⟩ : QEnt))].map (·.2)).filter (dueB ((nw + dl) - 1))).length : Int) != (0 : Int)) := d19
            exact opAt rfl (ok_run rfl (run_here rfl (ex_move (.inl rfl) d19) ( rfl)))
          · -- 21 law.go:236
            rintro aa ww hE hF ⟨d20, -⟩
            replace d20 : aa.eval (.tmp 142) = .bool (((([((1 : Int), (⟨toM m, hvq, 1, nw + dl, ((i + 1 : Nat) : Int) - 1⟩ : QEnt))].map (·.2)).filter (dueB ((nw + dl) - 1))).length : Int) != (0 : Int)) := d20
            have o8 : aa.eval (.tmp 8) = .pointer (some ⟨q, 0, none⟩) := hF.carry (fun v _ => v = .pointer (some ⟨q, 0, none⟩)) rfl (stab_eq _) hE T8
            exact opAt rfl (ok_guard rfl d20 (fun hc => run_here rfl (ex_move (.inl rfl) o8) (fun _ =>  rfl)) (fun hn hc => absurd hc hn))
          · -- 22 law.go:236
            rintro aa ww hE hF ⟨d20, -⟩
            replace d20 : aa.eval (.tmp 142) = .bool (((([((1 : Int), (⟨toM m, hvq, 1, nw + dl, ((i + 1 : Nat) : Int) - 1⟩ : QEnt))].map (·.2)).filter (dueB ((nw + dl) - 1))).length : Int) != (0 : Int)) := d20
            have o18 : aa.eval (.tmp 18) = .int .i64 (nw + dl) := hF.carry (fun v _ => v = .int .i64 (nw + dl)) rfl (stab_eq _) hE T18
            exact opAt rfl (ok_guard rfl d20 (fun hc => run_here rfl (ex_move (.inl rfl) o18) (fun _ =>  rfl)) (fun hn hc => absurd hc hn))
          · -- 23 law.go:236
            rintro aa ww hE hF ⟨d20, d21, d22, -⟩
            replace d20 : aa.eval (.tmp 142) = .bool (((([((1 : Int), (⟨toM m, hvq, 1, nw + dl, ((i + 1 : Nat) : Int) - 1⟩ : QEnt))].map (·.2)).filter (dueB ((nw + dl) - 1))).length : Int) != (0 : Int)) := d20
            replace d21 : (((([((1 : Int), (⟨toM m, hvq, 1, nw + dl, ((i + 1 : Nat) : Int) - 1⟩ : QEnt))].map (·.2)).filter (dueB ((nw + dl) - 1))).length : Int) != (0 : Int)) = false → aa.eval (.tmp 143) = .pointer (some ⟨q, 0, none⟩) := d21
            replace d22 : (((([((1 : Int), (⟨toM m, hvq, 1, nw + dl, ((i + 1 : Nat) : Int) - 1⟩ : QEnt))].map (·.2)).filter (dueB ((nw + dl) - 1))).length : Int) != (0 : Int)) = false → aa.eval (.tmp 144) = .int .i64 (nw + dl) := d22
            exact opAt rfl (ok_guard rfl d20 (fun hc => run_callR (ψ := (IsDue w.heap.size [((1 : Int), (⟨toM m, hvq, 1, nw + dl, ((i + 1 : Nat) : Int) - 1⟩ : QEnt))] (nw + dl))) rfl Tryd.call28 (by simp only [List.map_toArray, List.map_cons, List.map_nil, (d21 hc), (d22 hc)]; exact due_r (E.trans hE).size (QU.ext hE) hll) (fun _ _ h => fun _ =>  h)) (fun hn hc => absurd hc hn))
          · -- 24 law.go:236
            rintro aa ww hE hF ⟨d20, d23, -⟩
            replace d20 : aa.eval (.tmp 142) = .bool (((([((1 : Int), (⟨toM m, hvq, 1, nw + dl, ((i + 1 : Nat) : Int) - 1⟩ : QEnt))].map (·.2)).filter (dueB ((nw + dl) - 1))).length : Int) != (0 : Int)) := d20
            replace d23 : (((([((1 : Int), (⟨toM m, hvq, 1, nw + dl, ((i + 1 : Nat) : Int) - 1⟩ : QEnt))].map (·.2)).filter (dueB ((nw + dl) - 1))).length : Int) != (0 : Int)) = false → (IsDue w.heap.size [((1 : Int), (⟨toM m, hvq, 1, nw + dl, ((i + 1 : Nat) : Int) - 1⟩ : QEnt))] (nw + dl)) (aa.eval (.tmp 145)) ww := d23
            exact opAt rfl (ok_guard rfl d20 (fun hc => run_here rfl (ex_builtin rfl (fun cs => by obtain ⟨_, _, e⟩ := due_form ((d23 hc)); simp only [List.map_toArray, List.map_cons, List.map_nil, e]; exact len_slice Tryd.underlying66)) (fun _ =>  rfl)) (fun hn hc => absurd hc hn))
          · -- 25 law.go:236
            rintro aa ww hE hF ⟨d20, d24, -⟩
            replace d20 : aa.eval (.tmp 142) = .bool (((([((1 : Int), (⟨toM m, hvq, 1, nw + dl, ((i + 1 : Nat) : Int) - 1⟩ : QEnt))].map (·.2)).filter (dueB ((nw + dl) - 1))).length : Int) != (0 : Int)) := d20
            replace d24 : (((([((1 : Int), (⟨toM m, hvq, 1, nw + dl, ((i + 1 : Nat) : Int) - 1⟩ : QEnt))].map (·.2)).filter (dueB ((nw + dl) - 1))).length : Int) != (0 : Int)) = false → aa.eval (.tmp 146) = .int .i64 ((([((1 : Int), (⟨toM m, hvq, 1, nw + dl, ((i + 1 : Nat) : Int) - 1⟩ : QEnt))].map (·.2)).filter (dueB (nw + dl))).length : Int) := d24
            exact opAt rfl (ok_guard rfl d20 (fun hc => run_here rfl (ex_binOp rfl (by rw [show aa.eval (.tmp 146) = .int .i64 ((([((1 : Int), (⟨toM m, hvq, 1, nw + dl, ((i + 1 : Nat) : Int) - 1⟩ : QEnt))].map (·.2)).filter (dueB (nw + dl))).length : Int) from (d24 hc), show aa.eval (.const (.int .i64 1)) = .int .i64 1 from (ev_const (v := .int .i64 1))]; exact eqg_int) (by rw [show aa.eval (.tmp 146) = .int .i64 ((([((1 : Int), (⟨toM m, hvq, 1, nw + dl, ((i + 1 : Nat) : Int) - 1⟩ : QEnt))].map (·.2)).filter (dueB (nw + dl))).length : Int) from (d24 hc), show aa.eval (.const (.int .i64 1)) = .int .i64 1 from (ev_const (v := .int .i64 1))]; exact bin_neq)) (fun _ =>  rfl)) (fun hn hc => absurd hc hn))
          · -- 26 law.go:236
            rintro aa ww hE hF ⟨d20, d25, -⟩
            replace d20 : aa.eval (.tmp 142) = .bool (((([((1 : Int), (⟨toM m, hvq, 1, nw + dl, ((i + 1 : Nat) : Int) - 1⟩ : QEnt))].map (·.2)).filter (dueB ((nw + dl) - 1))).length : Int) != (0 : Int)) := d20
            replace d25 : (((([((1 : Int), (⟨toM m, hvq, 1, nw + dl, ((i + 1 : Nat) : Int) - 1⟩ : QEnt))].map (·.2)).filter (dueB ((nw + dl) - 1))).length : Int) != (0 : Int)) = false → aa.eval (.tmp 147) = .bool (((([((1 : Int), (⟨toM m, hvq, 1, nw + dl, ((i + 1 : Nat) : Int) - 1⟩ : QEnt))].map (·.2)).filter (dueB (nw + dl))).length : Int) != (1 : Int)) := d25
            exact opAt rfl (ok_run rfl (run_here rfl (ex_pick_or rfl d20 (fun hp => (d25 hp))) ( rfl)))
          intro a104 w105 hE hF hfac hap
          obtain ⟨f0, f1, f2, f3, f4, f5, f6, f7, f8, f9, f10, f11, f12, f13, f14, f15, f16, f17, f18, f19, f20, f21, f22, f23, f24, f25, f26, -⟩ := hfac
          replace N := hF.size.trans N
          replace D := hF.defers.trans D
          replace R_b4 := hE.row R_b4
          replace R_b9 := hE.row R_b9
          replace R_b85 := hE.row R_b85
          replace S11 : OwnStrs 0 ((toM m).hops) w105 (.slice x12 (((toM m).hops).length) c13) := S11.ext hE
          replace QU : QueueAt q mb (s.extract 0 ((min (s.size : Int) 60)).toNat) 1 [((1 : Int), (⟨toM m, hvq, 1, nw + dl, ((i + 1 : Nat) : Int) - 1⟩ : QEnt))] w105 := QU.ext hE
          replace S33 : OwnStrs 0 ((toM m).hops) w105 (.slice x34 (((toM m).hops).length) c35) := S33.ext hE
          replace S87 : OwnStrs w.heap.size (((valOf l1 1 zeroQ).m).hops) w105 (.slice x88 ((((valOf l1 1 zeroQ).m).hops).length) c89) := S87.ext hE
          replace T6 : (fun v _ => v = .bool false) (a104.at 6) w105 := hF.carry (fun v _ => v = .bool false) rfl (stab_eq _) hE T6
          replace T7 : (fun v _ => v = .pointer (some ⟨b9, 0, none⟩)) (a104.at 7) w105 := hF.carry (fun v _ => v = .pointer (some ⟨b9, 0, none⟩)) rfl (stab_eq _) hE T7
          replace T8 : (fun v _ => v = .pointer (some ⟨q, 0, none⟩)) (a104.at 8) w105 := hF.carry (fun v _ => v = .pointer (some ⟨q, 0, none⟩)) rfl (stab_eq _) hE T8
          replace T10 : (fun v _ => v = .int .i64 1) (a104.at 10) w105 := hF.carry (fun v _ => v = .int .i64 1) rfl (stab_eq _) hE T10
          replace T2 : (fun v _ => v = .int .i64 nw) (a104.at 2) w105 := hF.carry (fun v _ => v = .int .i64 nw) rfl (stab_eq _) hE T2
          replace T12 : (fun v _ => v = .int .i64 dl) (a104.at 12) w105 := hF.carry (fun v _ => v = .int .i64 dl) rfl (stab_eq _) hE T12
          replace T13 : (fun v _ => v = .int .i64 (i : Int)) (a104.at 13) w105 := hF.carry (fun v _ => v = .int .i64 (i : Int)) rfl (stab_eq _) hE T13
          replace T14 : (fun v _ => v = .int .i64 0) (a104.at 14) w105 := hF.carry (fun v _ => v = .int .i64 0) rfl (stab_eq _) hE T14
          replace T15 : (fun v _ => v = .bool false) (a104.at 15) w105 := hF.carry (fun v _ => v = .bool false) rfl (stab_eq _) hE T15
          replace T16 : (fun v _ => v = .int .i64 0) (a104.at 16) w105 := hF.carry (fun v _ => v = .int .i64 0) rfl (stab_eq _) hE T16
          replace T75 : (fun v _ => v = .bool false) (a104.at 75) w105 := hF.carry (fun v _ => v = .bool false) rfl (stab_eq _) hE T75
          replace T18 : (fun v _ => v = .int .i64 (nw + dl)) (a104.at 18) w105 := hF.carry (fun v _ => v = .int .i64 (nw + dl)) rfl (stab_eq _) hE T18
          replace T19 : (fun v _ => v = .bool true) (a104.at 19) w105 := hF.carry (fun v _ => v = .bool true) rfl (stab_eq _) hE T19
          have T148 : (fun v _ => v = .bool ((((([((1 : Int), (⟨toM m, hvq, 1, nw + dl, ((i + 1 : Nat) : Int) - 1⟩ : QEnt))].map (·.2)).filter (dueB ((nw + dl) - 1))).length : Int) != (0 : Int)) || (((([((1 : Int), (⟨toM m, hvq, 1, nw + dl, ((i + 1 : Nat) : Int) - 1⟩ : QEnt))].map (·.2)).filter (dueB (nw + dl))).length : Int) != (1 : Int)))) (a104.at 148) w105 := f26
          replace E := E.trans hE
          clear hE hF hap
          show wpOps _ (rg Tryd.f8 18) _ [] _ _
          refine hK103 _ _ ?_
          refine wp_cond_split (t := ((((([((1 : Int), (⟨toM m, hvq, 1, nw + dl, ((i + 1 : Nat) : Int) - 1⟩ : QEnt))].map (·.2)).filter (dueB ((nw + dl) - 1))).length : Int) != (0 : Int)) || (((([((1 : Int), (⟨toM m, hvq, 1, nw + dl, ((i + 1 : Nat) : Int) - 1⟩ : QEnt))].map (·.2)).filter (dueB (nw + dl))).length : Int) != (1 : Int)))) T148 (fun C106 => ?_) (fun C106 => ?_)
          · clear T148
            rw [hd0, hd1] at C106
            exact absurd C106 (by decide)
          · clear T148
            refine wp_skip ?_
            refine hK102 _ _ ?_
            -- region 20: law.go:239
            show (Code.region 20 (rg Tryd.f8 20) false).wp _ _ _ _
            refine plain_list (n := 3) (N := 152) (deps := [[], [], [1]]) (F := [(fun v _ => v = .int .i64 (nw + dl)), (fun v _ => v = .int .i64 dl), (fun v _ => v = .int .i64 ((2 : Int) * dl))]) (by kernel_rfl) (by kernel_rfl) rfl (by kernel_rfl) ⟨(stab_eq _), (stab_eq _), (stab_eq _), trivial⟩ N (by kernel_rfl) ⟨?_, ?_, ?_, trivial⟩ ?_
            · -- 0 law.go:239
              rintro aa ww hE hF ⟨-⟩
              have o18 : aa.eval (.tmp 18) = .int .i64 (nw + dl) := hF.carry (fun v _ => v = .int .i64 (nw + dl)) rfl (stab_eq _) hE T18
              exact opAt rfl (ok_run rfl (run_here rfl (ex_move (.inl rfl) o18) ( rfl)))
            · -- 1 law.go:239
              rintro aa ww hE hF ⟨-⟩
              have o12 : aa.eval (.tmp 12) = .int .i64 dl := hF.carry (fun v _ => v = .int .i64 dl) rfl (stab_eq _) hE T12
              exact opAt rfl (ok_run rfl (run_here rfl (ex_move (.inl rfl) o12) ( rfl)))
            · -- 2 law.go:239
              rintro aa ww hE hF ⟨d1, -⟩
              replace d1 : aa.eval (.tmp 150) = .int .i64 dl := d1
              exact opAt rfl (ok_run rfl (run_here rfl (ex_binOp rfl (by rw [show aa.eval (.const (.int .i64 2)) = .int .i64 2 from (ev_const (v := .int .i64 2)), show aa.eval (.tmp 150) = .int .i64 dl from d1]; exact eqg_int) (by rw [show aa.eval (.const (.int .i64 2)) = .int .i64 2 from (ev_const (v := .int .i64 2)), show aa.eval (.tmp 150) = .int .i64 dl from d1]; exact bin_mulN (by omega) (by omega))) ( rfl)))
            intro a107 w108 hE hF hfac hap
            obtain ⟨f0, f1, f2, -⟩ := hfac
            replace N := hF.size.trans N
            replace D := hF.defers.trans D
            replace R_b4 := hE.row R_b4
            replace R_b9 := hE.row R_b9
            replace R_b85 := hE.row R_b85
            replace S11 : OwnStrs 0 ((toM m).hops) w108 (.slice x12 (((toM m).hops).length) c13) := S11.ext hE
            replace QU : QueueAt q mb (s.extract 0 ((min (s.size : Int) 60)).toNat) 1 [((1 : Int), (⟨toM m, hvq, 1, nw + dl, ((i + 1 : Nat) : Int) - 1⟩ : QEnt))] w108 := QU.ext hE
            replace S33 : OwnStrs 0 ((toM m).hops) w108 (.slice x34 (((toM m).hops).length) c35) := S33.ext hE
            replace S87 : OwnStrs w.heap.size (((valOf l1 1 zeroQ).m).hops) w108 (.slice x88 ((((valOf l1 1 zeroQ).m).hops).length) c89) := S87.ext hE
            replace T6 : (fun v _ => v = .bool false) (a107.at 6) w108 := hF.carry (fun v _ => v = .bool false) rfl (stab_eq _) hE T6
            replace T7 : (fun v _ => v = .pointer (some ⟨b9, 0, none⟩)) (a107.at 7) w108 := hF.carry (fun v _ => v = .pointer (some ⟨b9, 0, none⟩)) rfl (stab_eq _) hE T7
            replace T8 : (fun v _ => v = .pointer (some ⟨q, 0, none⟩)) (a107.at 8) w108 := hF.carry (fun v _ => v = .pointer (some ⟨q, 0, none⟩)) rfl (stab_eq _) hE T8
            replace T10 : (fun v _ => v = .int .i64 1) (a107.at 10) w108 := hF.carry (fun v _ => v = .int .i64 1) rfl (stab_eq _) hE T10
            replace T2 : (fun v _ => v = .int .i64 nw) (a107.at 2) w108 := hF.carry (fun v _ => v = .int .i64 nw) rfl (stab_eq _) hE T2
            replace T12 : (fun v _ => v = .int .i64 dl) (a107.at 12) w108 := hF.carry (fun v _ => v = .int .i64 dl) rfl (stab_eq _) hE T12
            replace T13 : (fun v _ => v = .int .i64 (i : Int)) (a107.at 13) w108 := hF.carry (fun v _ => v = .int .i64 (i : Int)) rfl (stab_eq _) hE T13
            replace T14 : (fun v _ => v = .int .i64 0) (a107.at 14) w108 := hF.carry (fun v _ => v = .int .i64 0) rfl (stab_eq _) hE T14
            replace T15 : (fun v _ => v = .bool false) (a107.at 15) w108 := hF.carry (fun v _ => v = .bool false) rfl (stab_eq _) hE T15
            replace T16 : (fun v _ => v = .int .i64 0) (a107.at 16) w108 := hF.carry (fun v _ => v = .int .i64 0) rfl (stab_eq _) hE T16
            replace T75 : (fun v _ => v = .bool false) (a107.at 75) w108 := hF.carry (fun v _ => v = .bool false) rfl (stab_eq _) hE T75
            replace T18 : (fun v _ => v = .int .i64 (nw + dl)) (a107.at 18) w108 := hF.carry (fun v _ => v = .int .i64 (nw + dl)) rfl (stab_eq _) hE T18
            replace T19 : (fun v _ => v = .bool true) (a107.at 19) w108 := hF.carry (fun v _ => v = .bool true) rfl (stab_eq _) hE T19
            have T149 : (fun v _ => v = .int .i64 (nw + dl)) (a107.at 149) w108 := f0
            have T151 : (fun v _ => v = .int .i64 ((2 : Int) * dl)) (a107.at 151) w108 := f2
            replace E := E.trans hE
            clear hE hF hap
            show wpOps _ (rg Tryd.f8 20) _ [3, 4] _ _
            refine tail_val rfl rfl rfl (ex_move (.inr rfl) (v := .int .i64 (nw + dl)) (show a107.eval (.tmp 149) = .int .i64 (nw + dl) from T149)) ?_
            obtain ⟨a109, ha⟩ : ∃ x : Act, x = a107.put (some 2) (.int .i64 (nw + dl)) := ⟨_, rfl⟩
            rw [← ha]
            replace T6 : (fun v _ => v = .bool false) (a109.at 6) w108 := by rw [ha, put_other rfl]; exact T6
            replace T7 : (fun v _ => v = .pointer (some ⟨b9, 0, none⟩)) (a109.at 7) w108 := by rw [ha, put_other rfl]; exact T7
            replace T8 : (fun v _ => v = .pointer (some ⟨q, 0, none⟩)) (a109.at 8) w108 := by rw [ha, put_other rfl]; exact T8
            replace T10 : (fun v _ => v = .int .i64 1) (a109.at 10) w108 := by rw [ha, put_other rfl]; exact T10
            replace T12 : (fun v _ => v = .int .i64 dl) (a109.at 12) w108 := by rw [ha, put_other rfl]; exact T12
            replace T13 : (fun v _ => v = .int .i64 (i : Int)) (a109.at 13) w108 := by rw [ha, put_other rfl]; exact T13
            replace T14 : (fun v _ => v = .int .i64 0) (a109.at 14) w108 := by rw [ha, put_other rfl]; exact T14
            replace T15 : (fun v _ => v = .bool false) (a109.at 15) w108 := by rw [ha, put_other rfl]; exact T15
            replace T16 : (fun v _ => v = .int .i64 0) (a109.at 16) w108 := by rw [ha, put_other rfl]; exact T16
            replace T75 : (fun v _ => v = .bool false) (a109.at 75) w108 := by rw [ha, put_other rfl]; exact T75
            replace T18 : (fun v _ => v = .int .i64 (nw + dl)) (a109.at 18) w108 := by rw [ha, put_other rfl]; exact T18
            replace T19 : (fun v _ => v = .bool true) (a109.at 19) w108 := by rw [ha, put_other rfl]; exact T19
            replace T149 : (fun v _ => v = .int .i64 (nw + dl)) (a109.at 149) w108 := by rw [ha, put_other rfl]; exact T149
            replace T151 : (fun v _ => v = .int .i64 ((2 : Int) * dl)) (a109.at 151) w108 := by rw [ha, put_other rfl]; exact T151
            replace T2 : (fun v _ => v = .int .i64 (nw + dl)) (a109.at 2) w108 := by rw [ha, put_same N (by decide)]; skip
            replace N := (ha ▸ put_size _ _ _ : a109.tmps.size = _).trans N
            replace D := (ha ▸ put_defers' _ _ _ : a109.defers = _).trans D
            clear ha
            refine tail_val rfl rfl rfl (ex_move (.inr rfl) (v := .int .i64 ((2 : Int) * dl)) (show a109.eval (.tmp 151) = .int .i64 ((2 : Int) * dl) from T151)) ?_
            obtain ⟨a110, ha⟩ : ∃ x : Act, x = a109.put (some 12) (.int .i64 ((2 : Int) * dl)) := ⟨_, rfl⟩
            rw [← ha]
            replace T6 : (fun v _ => v = .bool false) (a110.at 6) w108 := by rw [ha, put_other rfl]; exact T6
            replace T7 : (fun v _ => v = .pointer (some ⟨b9, 0, none⟩)) (a110.at 7) w108 := by rw [ha, put_other rfl]; exact T7
            replace T8 : (fun v _ => v = .pointer (some ⟨q, 0, none⟩)) (a110.at 8) w108 := by rw [ha, put_other rfl]; exact T8
            replace T10 : (fun v _ => v = .int .i64 1) (a110.at 10) w108 := by rw [ha, put_other rfl]; exact T10
            replace T2 : (fun v _ => v = .int .i64 (nw + dl)) (a110.at 2) w108 := by rw [ha, put_other rfl]; exact T2
            replace T13 : (fun v _ => v = .int .i64 (i : Int)) (a110.at 13) w108 := by rw [ha, put_other rfl]; exact T13
            replace T14 : (fun v _ => v = .int .i64 0) (a110.at 14) w108 := by rw [ha, put_other rfl]; exact T14
            replace T15 : (fun v _ => v = .bool false) (a110.at 15) w108 := by rw [ha, put_other rfl]; exact T15
            replace T16 : (fun v _ => v = .int .i64 0) (a110.at 16) w108 := by rw [ha, put_other rfl]; exact T16
            replace T75 : (fun v _ => v = .bool false) (a110.at 75) w108 := by rw [ha, put_other rfl]; exact T75
            replace T18 : (fun v _ => v = .int .i64 (nw + dl)) (a110.at 18) w108 := by rw [ha, put_other rfl]; exact T18
            replace T19 : (fun v _ => v = .bool true) (a110.at 19) w108 := by rw [ha, put_other rfl]; exact T19
            replace T149 : (fun v _ => v = .int .i64 (nw + dl)) (a110.at 149) w108 := by rw [ha, put_other rfl]; exact T149
            replace T151 : (fun v _ => v = .int .i64 ((2 : Int) * dl)) (a110.at 151) w108 := by rw [ha, put_other rfl]; exact T151
            replace T12 : (fun v _ => v = .int .i64 ((2 : Int) * dl)) (a110.at 12) w108 := by rw [ha, put_same N (by decide)]; skip
            replace N := (ha ▸ put_size _ _ _ : a110.tmps.size = _).trans N
            replace D := (ha ▸ put_defers' _ _ _ : a110.defers = _).trans D
            clear ha
            clear T149
            clear T151
            refine hK65 _ _ ?_
            -- region 11: law.go:227
            show (Code.region 11 (rg Tryd.f8 11) false).wp _ _ _ _
            refine plain_list (n := 2) (N := 152) (deps := [[], [0]]) (F := [(fun v _ => v = .int .i64 (i : Int)), (fun v _ => v = .int .i64 ((i : Int) + 1))]) (by kernel_rfl) (by kernel_rfl) rfl (by kernel_rfl) ⟨(stab_eq _), (stab_eq _), trivial⟩ N (by kernel_rfl) ⟨?_, ?_, trivial⟩ ?_
            · -- 0 law.go:227
              rintro aa ww hE hF ⟨-⟩
              have o13 : aa.eval (.tmp 13) = .int .i64 (i : Int) := hF.carry (fun v _ => v = .int .i64 (i : Int)) rfl (stab_eq _) hE T13
              exact opAt rfl (ok_run rfl (run_here rfl (ex_move (.inl rfl) o13) ( rfl)))
            · -- 1 law.go:227
              rintro aa ww hE hF ⟨d0, -⟩
              replace d0 : aa.eval (.tmp 64) = .int .i64 (i : Int) := d0
              exact opAt rfl (ok_run rfl (run_here rfl (ex_binOp rfl (by rw [show aa.eval (.tmp 64) = .int .i64 (i : Int) from d0, show aa.eval (.const (.int .i64 1)) = .int .i64 1 from (ev_const (v := .int .i64 1))]; exact eqg_int) (by rw [show aa.eval (.tmp 64) = .int .i64 (i : Int) from d0, show aa.eval (.const (.int .i64 1)) = .int .i64 1 from (ev_const (v := .int .i64 1))]; exact bin_addN (by omega) (by omega))) ( rfl)))
            intro a111 w112 hE hF hfac hap
            obtain ⟨f0, f1, -⟩ := hfac
            replace N := hF.size.trans N
            replace D := hF.defers.trans D
            replace R_b4 := hE.row R_b4
            replace R_b9 := hE.row R_b9
            replace R_b85 := hE.row R_b85
            replace S11 : OwnStrs 0 ((toM m).hops) w112 (.slice x12 (((toM m).hops).length) c13) := S11.ext hE
            replace QU : QueueAt q mb (s.extract 0 ((min (s.size : Int) 60)).toNat) 1 [((1 : Int), (⟨toM m, hvq, 1, nw + dl, ((i + 1 : Nat) : Int) - 1⟩ : QEnt))] w112 := QU.ext hE
            replace S33 : OwnStrs 0 ((toM m).hops) w112 (.slice x34 (((toM m).hops).length) c35) := S33.ext hE
            replace S87 : OwnStrs w.heap.size (((valOf l1 1 zeroQ).m).hops) w112 (.slice x88 ((((valOf l1 1 zeroQ).m).hops).length) c89) := S87.ext hE
            replace T6 : (fun v _ => v = .bool false) (a111.at 6) w112 := hF.carry (fun v _ => v = .bool false) rfl (stab_eq _) hE T6
            replace T7 : (fun v _ => v = .pointer (some ⟨b9, 0, none⟩)) (a111.at 7) w112 := hF.carry (fun v _ => v = .pointer (some ⟨b9, 0, none⟩)) rfl (stab_eq _) hE T7
            replace T8 : (fun v _ => v = .pointer (some ⟨q, 0, none⟩)) (a111.at 8) w112 := hF.carry (fun v _ => v = .pointer (some ⟨q, 0, none⟩)) rfl (stab_eq _) hE T8
            replace T10 : (fun v _ => v = .int .i64 1) (a111.at 10) w112 := hF.carry (fun v _ => v = .int .i64 1) rfl (stab_eq _) hE T10
            replace T2 : (fun v _ => v = .int .i64 (nw + dl)) (a111.at 2) w112 := hF.carry (fun v _ => v = .int .i64 (nw + dl)) rfl (stab_eq _) hE T2
            replace T12 : (fun v _ => v = .int .i64 ((2 : Int) * dl)) (a111.at 12) w112 := hF.carry (fun v _ => v = .int .i64 ((2 : Int) * dl)) rfl (stab_eq _) hE T12
            replace T13 : (fun v _ => v = .int .i64 (i : Int)) (a111.at 13) w112 := hF.carry (fun v _ => v = .int .i64 (i : Int)) rfl (stab_eq _) hE T13
            replace T14 : (fun v _ => v = .int .i64 0) (a111.at 14) w112 := hF.carry (fun v _ => v = .int .i64 0) rfl (stab_eq _) hE T14
            replace T15 : (fun v _ => v = .bool false) (a111.at 15) w112 := hF.carry (fun v _ => v = .bool false) rfl (stab_eq _) hE T15
            replace T16 : (fun v _ => v = .int .i64 0) (a111.at 16) w112 := hF.carry (fun v _ => v = .int .i64 0) rfl (stab_eq _) hE T16
            replace T75 : (fun v _ => v = .bool false) (a111.at 75) w112 := hF.carry (fun v _ => v = .bool false) rfl (stab_eq _) hE T75
            replace T18 : (fun v _ => v = .int .i64 (nw + dl)) (a111.at 18) w112 := hF.carry (fun v _ => v = .int .i64 (nw + dl)) rfl (stab_eq _) hE T18
            replace T19 : (fun v _ => v = .bool true) (a111.at 19) w112 := hF.carry (fun v _ => v = .bool true) rfl (stab_eq _) hE T19
            have T65 : (fun v _ => v = .int .i64 ((i : Int) + 1)) (a111.at 65) w112 := f1
            replace E := E.trans hE
            clear hE hF hap
            show wpOps _ (rg Tryd.f8 11) _ [2] _ _
            refine tail_val rfl rfl rfl (ex_move (.inr rfl) (v := .int .i64 ((i : Int) + 1)) (show a111.eval (.tmp 65) = .int .i64 ((i : Int) + 1) from T65)) ?_
            obtain ⟨a113, ha⟩ : ∃ x : Act, x = a111.put (some 13) (.int .i64 ((i : Int) + 1)) := ⟨_, rfl⟩
            rw [← ha]
            replace T6 : (fun v _ => v = .bool false) (a113.at 6) w112 := by rw [ha, put_other rfl]; exact T6
            replace T7 : (fun v _ => v = .pointer (some ⟨b9, 0, none⟩)) (a113.at 7) w112 := by rw [ha, put_other rfl]; exact T7
            replace T8 : (fun v _ => v = .pointer (some ⟨q, 0, none⟩)) (a113.at 8) w112 := by rw [ha, put_other rfl]; exact T8
            replace T10 : (fun v _ => v = .int .i64 1) (a113.at 10) w112 := by rw [ha, put_other rfl]; exact T10
            replace T2 : (fun v _ => v = .int .i64 (nw + dl)) (a113.at 2) w112 := by rw [ha, put_other rfl]; exact T2
            replace T12 : (fun v _ => v = .int .i64 ((2 : Int) * dl)) (a113.at 12) w112 := by rw [ha, put_other rfl]; exact T12
            replace T14 : (fun v _ => v = .int .i64 0) (a113.at 14) w112 := by rw [ha, put_other rfl]; exact T14
            replace T15 : (fun v _ => v = .bool false) (a113.at 15) w112 := by rw [ha, put_other rfl]; exact T15
            replace T16 : (fun v _ => v = .int .i64 0) (a113.at 16) w112 := by rw [ha, put_other rfl]; exact T16
            replace T75 : (fun v _ => v = .bool false) (a113.at 75) w112 := by rw [ha, put_other rfl]; exact T75
            replace T18 : (fun v _ => v = .int .i64 (nw + dl)) (a113.at 18) w112 := by rw [ha, put_other rfl]; exact T18
            replace T19 : (fun v _ => v = .bool true) (a113.at 19) w112 := by rw [ha, put_other rfl]; exact T19
            replace T65 : (fun v _ => v = .int .i64 ((i : Int) + 1)) (a113.at 65) w112 := by rw [ha, put_other rfl]; exact T65
            replace T13 : (fun v _ => v = .int .i64 ((i : Int) + 1)) (a113.at 13) w112 := by rw [ha, put_same N (by decide)]; skip
            replace N := (ha ▸ put_size _ _ _ : a113.tmps.size = _).trans N
            replace D := (ha ▸ put_defers' _ _ _ : a113.defers = _).trans D
            clear ha
            clear T65
            -- the round's end
            have hμ := HM.out
            refine ⟨_, by rw [hI57]; exact ⟨nw + dl, 2 * dl, i + 1, nw + dl, N, D, E, T6, T7, T8, T10, T2, T12, T13, R_b4, R_b9, S11, QU, S33, rfl, hrel.next C97⟩, ?_⟩
            have := hrel.i8; omega
      · clear T63
        exact absurd (of_decide_eq_false C64) (by omega)

end Go.Proofs.YtfcfddfjifofgaaDoor
