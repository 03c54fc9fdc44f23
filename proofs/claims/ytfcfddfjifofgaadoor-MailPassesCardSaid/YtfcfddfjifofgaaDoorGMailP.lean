/- What the law MailPasses returns: true. -/
import Derived.Test.YtfcfddfjifofgaaDoorEngE
import Derived.Test.YtfcfddfjifofgaaDoorGPass
import Derived.Test.YtfcfddfjifofgaaDoorKnown
import Derived.Test.YtfcfddfjifofgaaDoorRefC
import Derived.Test.YtfcfddfjifofgaaDoorSame
import Derived.Test.YtfcfddfjifofgaaDoorOf
import Derived.Test.YtfcfddfjifofgaaDoorMailB
namespace Go.Proofs.YtfcfddfjifofgaaDoor
open Go.RowKit Go.Shelf
theorem toM_len (m : Msg) : (toM m).hops.length ≤ 1099511627776 := by
  show (m.hops.take 20).length ≤ _
  rw [List.length_take]; omega
theorem toM_len1 (m : Msg) : (toM m).hops.length ≤ 1099511627775 := by
  show (m.hops.take 20).length ≤ _
  rw [List.length_take]; omega
set_option maxRecDepth 100000 in
set_option maxHeartbeats 600000 in
theorem mailPasses_e (m : Msg) (mv : Value) (s : ByteArray) (w : World) (fm : m.Fits) (sm : StrsAt w mv m.hops) (hs : s.size ≤ maxLen) (POW : PowT w) : Calls Tryd.prog 5 #[.agg (msgC m mv), .string s] w (Ret (fun v _ => v = .bool true) w) := by
  have hs' := hs
  unfold maxLen at hs'
  have hx : (s.extract 0 (min (s.size : Int) 60).toNat).size ≤ maxLen := le_max (by simp only [ByteArray.size_extract]; omega)
  have fP : (passR (toM m) (s.extract 0 ((min (s.size : Int) 60)).toNat)).1.Fits := passR_fits (toM_fits fm) hx (le_max (by have := toM_len1 m; omega))
  have lP := passR_len (toM m) (s.extract 0 ((min (s.size : Int) 60)).toNat)
  have lM := toM_len1 m
  refine enter_fn Tryd.func5 rfl Tryd.ntmps5 (Nat.le_of_ble_eq_true rfl) (fun a0 N D hA => ?_)
  have T0 : (fun v _ => v = .agg (msgC m mv)) (a0.at 0) w := by rw [hA 0 (by simp)]; exact rfl
  have T1 : (fun v _ => v = .string s) (a0.at 1) w := by rw [hA 1 (by simp)]; exact rfl
  clear hA
  have E : Ext w w := Ext.refl w
  refine wp_seq_k (fun K1 hK1 => ?_)
  -- region 0: law.go:89
  show (Code.region 0 (rg Tryd.f5 0) false).wp _ _ _ _
  refine plain_list (n := 1) (N := 79) (deps := [[]]) (F := [(IsBox (msgC m mv) 26 w.heap.size)]) (by kernel_rfl) (by kernel_rfl) rfl (by kernel_rfl) ⟨(stab_box _ _ _), trivial⟩ N (by kernel_rfl) ⟨?_, trivial⟩ ?_
  · -- 0 law.go:89
    rintro aa ww hE hF ⟨-⟩
    have o0 : aa.eval (.tmp 0) = .agg (msgC m mv) := hF.carry (fun v _ => v = .agg (msgC m mv)) rfl (stab_eq _) hE T0
    exact opAt rfl (ok_run rfl (run_new (ex_box rfl o0) ( (box_new hE.size))))
  intro a2 w3 hE hF hfac hap
  obtain ⟨f0, -⟩ := hfac
  replace N := hF.size.trans N
  replace D := hF.defers.trans D
  obtain ⟨b4, T2, B_b4, R_b4⟩ := f0
  replace B_b4 := Nat.le_trans E.size B_b4
  clear T0
  replace T1 : (fun v _ => v = .string s) (a2.at 1) w3 := hF.carry (fun v _ => v = .string s) rfl (stab_eq _) hE T1
  replace E := E.trans hE
  clear hE hF hap
  show wpOps _ (rg Tryd.f5 0) _ [1] _ _
  refine tail_val rfl rfl rfl (ex_move (.inr rfl) (v := .bool false) (ev_const (v := .bool false))) ?_
  obtain ⟨a5, ha⟩ : ∃ x : Act, x = a2.put (some 4) (.bool false) := ⟨_, rfl⟩
  rw [← ha]
  replace T1 : (fun v _ => v = .string s) (a5.at 1) w3 := by rw [ha, put_other rfl]; exact T1
  replace T2 : (fun v _ => v = .pointer (some ⟨b4, 0, none⟩)) (a5.at 2) w3 := by rw [ha, put_other rfl]; exact T2
  have T4 : (fun v _ => v = .bool false) (a5.at 4) w3 := by rw [ha, put_same N (by decide)]; skip
  replace N := (ha ▸ put_size _ _ _ : a5.tmps.size = _).trans N
  replace D := (ha ▸ put_defers' _ _ _ : a5.defers = _).trans D
  clear ha
  refine hK1 _ _ ?_
  refine wp_seq_k (fun K6 hK6 => ?_)
  -- region 1: law.go:90
  show (Code.region 1 (rg Tryd.f5 1) false).wp _ _ _ _
  refine plain_list (n := 3) (N := 79) (deps := [[], [0], []]) (F := [(IsMsg m), (IsOwn (toM m)), (IsBox #[.string ⟨#[]⟩, .string ⟨#[]⟩, .string ⟨#[]⟩, .string ⟨#[]⟩, .int .i64 0, .int .i64 0, .string ⟨#[]⟩, .slice none 0 0, .string ⟨#[]⟩] 29 w3.heap.size)]) (by kernel_rfl) (by kernel_rfl) rfl (by kernel_rfl) ⟨(stab_msg _), (stab_own _), (stab_box _ _ _), trivial⟩ N (by kernel_rfl) ⟨?_, ?_, ?_, trivial⟩ ?_
  · -- 0 law.go:90
    rintro aa ww hE hF ⟨-⟩
    have o2 : aa.eval (.tmp 2) = .pointer (some ⟨b4, 0, none⟩) := hF.carry (fun v _ => v = .pointer (some ⟨b4, 0, none⟩)) rfl (stab_eq _) hE T2
    exact opAt rfl (ok_run rfl (run_here rfl (ex_load rfl o2 (load_row (hE.row R_b4) Tryd.underlying26 rfl (by kernel_rfl))) ( ⟨_, rfl, (sm.below (E.trans hE))⟩)))
  · -- 1 law.go:90
    rintro aa ww hE hF ⟨d0, -⟩
    replace d0 : (IsMsg m) (aa.eval (.tmp 11)) ww := d0
    exact opAt rfl (ok_run rfl (run_callR (ψ := (IsOwn (toM m))) rfl Tryd.call9 (by
      obtain ⟨hv0, e0, s0⟩ := d0
      simp only [List.map_toArray, List.map_cons, List.map_nil, e0]
      exact to_e fm ⟨_, rfl, s0⟩) (fun _ _ h =>  h)))
  · -- 2 law.go:90
    rintro aa ww hE hF ⟨-⟩
    exact opAt rfl (ok_run rfl (run_new (ex_alloc rfl Tryd.zeroValue29) ( (box_new hE.size))))
  intro a7 w8 hE hF hfac hap
  obtain ⟨f0, f1, f2, -⟩ := hfac
  replace N := hF.size.trans N
  replace D := hF.defers.trans D
  obtain ⟨b9, T5, B_b9, R_b9⟩ := f2
  have NE_b4_b9 : b4 ≠ b9 := by have := row_lt R_b4; omega
  replace B_b9 := Nat.le_trans E.size B_b9
  replace R_b4 := hE.row R_b4
  replace T1 : (fun v _ => v = .string s) (a7.at 1) w8 := hF.carry (fun v _ => v = .string s) rfl (stab_eq _) hE T1
  replace T2 : (fun v _ => v = .pointer (some ⟨b4, 0, none⟩)) (a7.at 2) w8 := hF.carry (fun v _ => v = .pointer (some ⟨b4, 0, none⟩)) rfl (stab_eq _) hE T2
  replace T4 : (fun v _ => v = .bool false) (a7.at 4) w8 := hF.carry (fun v _ => v = .bool false) rfl (stab_eq _) hE T4
  have T12 : (IsOwn (toM m)) (a7.at 12) w8 := f1
  replace E := E.trans hE
  clear hE hF hap
  obtain ⟨hv10, T12, S11⟩ := T12
  obtain ⟨x12, c13, rfl⟩ := ownStrs_len S11
  replace T12 : (fun v _ => v = .agg (msgC (toM m) (.slice x12 (((toM m).hops).length) c13))) (a7.at 12) w8 := T12
  show wpOps _ (rg Tryd.f5 1) _ [3] _ _
  refine tail_do rfl rfl rfl (ex_store rfl (show a7.eval (.tmp 5) = .pointer (some ⟨b9, 0, none⟩) from T5) (by rw [show a7.eval (.tmp 12) = .agg (msgC (toM m) (.slice x12 (((toM m).hops).length) c13)) from (show a7.eval (.tmp 12) = .agg (msgC (toM m) (.slice x12 (((toM m).hops).length) c13)) from T12)]; exact store_row R_b9 (by kernel_rfl) rfl (ownB_cell S11))) ?_
  obtain ⟨w14, hw⟩ : ∃ x : World, x = w8.setRow b9 (msgC (toM m) (.slice x12 (((toM m).hops).length) c13)) := ⟨_, rfl⟩
  rw [← hw]
  replace R_b4 := hw ▸ row_other R_b4 (by first | exact NE_b4_b9 | exact NE_b9_b4.symm)
  replace E : Ext w w14 := hw ▸ below_row E B_b9
  replace T1 : (fun v _ => v = .string s) (a7.at 1) w14 := T1
  replace T2 : (fun v _ => v = .pointer (some ⟨b4, 0, none⟩)) (a7.at 2) w14 := T2
  replace T4 : (fun v _ => v = .bool false) (a7.at 4) w14 := T4
  replace T12 : (fun v _ => v = .agg (msgC (toM m) (.slice x12 (((toM m).hops).length) c13))) (a7.at 12) w14 := T12
  replace T5 : (fun v _ => v = .pointer (some ⟨b9, 0, none⟩)) (a7.at 5) w14 := T5
  replace S11 : OwnStrs 0 ((toM m).hops) w14 (.slice x12 (((toM m).hops).length) c13) := hw ▸ S11.setRow R_b9 rfl
  replace R_b9 : w14.heap[b9]? = some (.cells (msgC (toM m) (.slice x12 (((toM m).hops).length) c13)) 29 (0, 0)) := by rw [hw]; exact setRow_heap _ _ _ _ _ _ R_b9
  clear hw
  clear T12
  refine hK6 _ _ ?_
  refine wp_seq_k (fun K15 hK15 => ?_)
  -- region 2: law.go:91
  show (Code.region 2 (rg Tryd.f5 2) false).wp _ _ _ _
  refine plain_list (n := 5) (N := 79) (deps := [[], [], [1], [2], [0, 3]]) (F := [(fun v _ => v = .string s), (fun v _ => v = .string s), (fun v _ => v = .int .i64 (s.size : Int)), (fun v _ => v = .int .i64 (min (s.size : Int) 60)), (fun v _ => v = .string (s.extract 0 ((min (s.size : Int) 60)).toNat))]) (by kernel_rfl) (by kernel_rfl) rfl (by kernel_rfl) ⟨(stab_eq _), (stab_eq _), (stab_eq _), (stab_eq _), (stab_eq _), trivial⟩ N (by kernel_rfl) ⟨?_, ?_, ?_, ?_, ?_, trivial⟩ ?_
  · -- 0 law.go:91
    rintro aa ww hE hF ⟨-⟩
    have o1 : aa.eval (.tmp 1) = .string s := hF.carry (fun v _ => v = .string s) rfl (stab_eq _) hE T1
    exact opAt rfl (ok_run rfl (run_here rfl (ex_move (.inl rfl) o1) ( rfl)))
  · -- 1 law.go:91
    rintro aa ww hE hF ⟨-⟩
    have o1 : aa.eval (.tmp 1) = .string s := hF.carry (fun v _ => v = .string s) rfl (stab_eq _) hE T1
    exact opAt rfl (ok_run rfl (run_here rfl (ex_move (.inl rfl) o1) ( rfl)))
  · -- 2 law.go:91
    rintro aa ww hE hF ⟨d1, -⟩
    replace d1 : aa.eval (.tmp 14) = .string s := d1
    exact opAt rfl (ok_run rfl (run_here rfl (ex_builtin rfl (fun cs => by simp only [List.map_toArray, List.map_cons, List.map_nil, show aa.eval (.tmp 14) = .string s from d1]; exact len_str Tryd.underlying9)) ( rfl)))
  · -- 3 law.go:91
    rintro aa ww hE hF ⟨d2, -⟩
    replace d2 : aa.eval (.tmp 15) = .int .i64 (s.size : Int) := d2
    exact opAt rfl (ok_run rfl (run_here rfl (ex_builtin rfl (fun cs => by simp only [List.map_toArray, List.map_cons, List.map_nil, show aa.eval (.tmp 15) = .int .i64 (s.size : Int) from d2, show aa.eval (.const (.int .i64 60)) = .int .i64 60 from (ev_const (v := .int .i64 60))]; exact min_int)) ( rfl)))
  · -- 4 law.go:91
    rintro aa ww hE hF ⟨d0, d3, -⟩
    replace d0 : aa.eval (.tmp 13) = .string s := d0
    replace d3 : aa.eval (.tmp 16) = .int .i64 (min (s.size : Int) 60) := d3
    exact opAt rfl (ok_run rfl (run_here rfl (ex_slice rfl (by simp only [Option.map_some, Option.map_none, show aa.eval (.tmp 13) = .string s from d0, show aa.eval (.tmp 16) = .int .i64 (min (s.size : Int) 60) from d3]; exact slice_hi Tryd.underlying9 (by omega) (by omega))) ( rfl)))
  intro a16 w17 hE hF hfac hap
  obtain ⟨f0, f1, f2, f3, f4, -⟩ := hfac
  replace N := hF.size.trans N
  replace D := hF.defers.trans D
  replace R_b4 := hE.row R_b4
  replace R_b9 := hE.row R_b9
  replace S11 : OwnStrs 0 ((toM m).hops) w17 (.slice x12 (((toM m).hops).length) c13) := S11.ext hE
  replace T1 : (fun v _ => v = .string s) (a16.at 1) w17 := hF.carry (fun v _ => v = .string s) rfl (stab_eq _) hE T1
  replace T2 : (fun v _ => v = .pointer (some ⟨b4, 0, none⟩)) (a16.at 2) w17 := hF.carry (fun v _ => v = .pointer (some ⟨b4, 0, none⟩)) rfl (stab_eq _) hE T2
  replace T4 : (fun v _ => v = .bool false) (a16.at 4) w17 := hF.carry (fun v _ => v = .bool false) rfl (stab_eq _) hE T4
  replace T5 : (fun v _ => v = .pointer (some ⟨b9, 0, none⟩)) (a16.at 5) w17 := hF.carry (fun v _ => v = .pointer (some ⟨b9, 0, none⟩)) rfl (stab_eq _) hE T5
  have T17 : (fun v _ => v = .string (s.extract 0 ((min (s.size : Int) 60)).toNat)) (a16.at 17) w17 := f4
  replace E := E.trans hE
  clear hE hF hap
  show wpOps _ (rg Tryd.f5 2) _ [5] _ _
  refine tail_val rfl rfl rfl (ex_move (.inr rfl) (v := .string (s.extract 0 ((min (s.size : Int) 60)).toNat)) (show a16.eval (.tmp 17) = .string (s.extract 0 ((min (s.size : Int) 60)).toNat) from T17)) ?_
  obtain ⟨a18, ha⟩ : ∃ x : Act, x = a16.put (some 1) (.string (s.extract 0 ((min (s.size : Int) 60)).toNat)) := ⟨_, rfl⟩
  rw [← ha]
  replace T2 : (fun v _ => v = .pointer (some ⟨b4, 0, none⟩)) (a18.at 2) w17 := by rw [ha, put_other rfl]; exact T2
  replace T4 : (fun v _ => v = .bool false) (a18.at 4) w17 := by rw [ha, put_other rfl]; exact T4
  replace T5 : (fun v _ => v = .pointer (some ⟨b9, 0, none⟩)) (a18.at 5) w17 := by rw [ha, put_other rfl]; exact T5
  replace T17 : (fun v _ => v = .string (s.extract 0 ((min (s.size : Int) 60)).toNat)) (a18.at 17) w17 := by rw [ha, put_other rfl]; exact T17
  replace T1 : (fun v _ => v = .string (s.extract 0 ((min (s.size : Int) 60)).toNat)) (a18.at 1) w17 := by rw [ha, put_same N (by decide)]; skip
  replace N := (ha ▸ put_size _ _ _ : a18.tmps.size = _).trans N
  replace D := (ha ▸ put_defers' _ _ _ : a18.defers = _).trans D
  clear ha
  clear T17
  have HX := own_lt S11
  have HS := E.size
  refine hK15 _ _ ?_
  refine wp_seq_k (fun K19 hK19 => ?_)
  -- region 3: law.go:92
  show (Code.region 3 (rg Tryd.f5 3) false).wp _ _ _ _
  refine plain_list (n := 7) (N := 79) (deps := [[], [], [0, 1], [2], [3], [3], []]) (F := [(IsOwnB 0 (toM m)), (fun v _ => v = .string (s.extract 0 ((min (s.size : Int) 60)).toNat)), (IsOwnE w17.heap.size ((passR (toM m) (s.extract 0 ((min (s.size : Int) 60)).toNat)).1) ((passR (toM m) (s.extract 0 ((min (s.size : Int) 60)).toNat)).2)), (IsOwnE w17.heap.size ((passR (toM m) (s.extract 0 ((min (s.size : Int) 60)).toNat)).1) ((passR (toM m) (s.extract 0 ((min (s.size : Int) 60)).toNat)).2)), (IsOwnB w17.heap.size ((passR (toM m) (s.extract 0 ((min (s.size : Int) 60)).toNat)).1)), (fun v _ => v = .int .i64 ((passR (toM m) (s.extract 0 ((min (s.size : Int) 60)).toNat)).2 : Int)), (IsBox #[.string ⟨#[]⟩, .string ⟨#[]⟩, .string ⟨#[]⟩, .string ⟨#[]⟩, .int .i64 0, .int .i64 0, .string ⟨#[]⟩, .slice none 0 0, .string ⟨#[]⟩] 29 w17.heap.size)]) (by kernel_rfl) (by kernel_rfl) rfl (by kernel_rfl) ⟨(stab_ownB _ _), (stab_eq _), (stab_ownE _ _ _), (stab_ownE _ _ _), (stab_ownB _ _), (stab_eq _), (stab_box _ _ _), trivial⟩ N (by kernel_rfl) ⟨?_, ?_, ?_, ?_, ?_, ?_, ?_, trivial⟩ ?_
  · -- 0 law.go:92
    rintro aa ww hE hF ⟨-⟩
    have o5 : aa.eval (.tmp 5) = .pointer (some ⟨b9, 0, none⟩) := hF.carry (fun v _ => v = .pointer (some ⟨b9, 0, none⟩)) rfl (stab_eq _) hE T5
    exact opAt rfl (ok_run rfl (run_here rfl (ex_load rfl o5 (load_row (hE.row R_b9) Tryd.underlying29 rfl (by kernel_rfl))) ( ⟨_, rfl, S11.ext hE⟩)))
  · -- 1 law.go:92
    rintro aa ww hE hF ⟨-⟩
    have o1 : aa.eval (.tmp 1) = .string (s.extract 0 ((min (s.size : Int) 60)).toNat) := hF.carry (fun v _ => v = .string (s.extract 0 ((min (s.size : Int) 60)).toNat)) rfl (stab_eq _) hE T1
    exact opAt rfl (ok_run rfl (run_here rfl (ex_move (.inl rfl) o1) ( rfl)))
  · -- 2 law.go:92
    rintro aa ww hE hF ⟨d0, d1, -⟩
    replace d0 : (IsOwnB 0 (toM m)) (aa.eval (.tmp 19)) ww := d0
    replace d1 : aa.eval (.tmp 20) = .string (s.extract 0 ((min (s.size : Int) 60)).toNat) := d1
    exact opAt rfl (ok_run rfl (run_callR (ψ := (IsOwnE w17.heap.size ((passR (toM m) (s.extract 0 ((min (s.size : Int) 60)).toNat)).1) ((passR (toM m) (s.extract 0 ((min (s.size : Int) 60)).toNat)).2))) rfl Tryd.call18 (by
      obtain ⟨hv0, e0, s0⟩ := IsOwn.msg (d0)
      simp only [List.map_toArray, List.map_cons, List.map_nil, e0, d1]
      exact (pass_e (toM m) _ (s.extract 0 ((min (s.size : Int) 60)).toNat) _ (toM_fits fm) s0 (by first | with_reducible assumption | (simp only [ByteArray.size_extract]; unfold maxLen at *; omega)) (toM_len1 m)).mono (fun _ _ ⟨v, e, y, o⟩ => ⟨v, e, y, o.mono hE.size⟩)) (fun _ _ h =>  h)))
  · -- 3 law.go:92
    rintro aa ww hE hF ⟨d2, -⟩
    replace d2 : (IsOwnE w17.heap.size ((passR (toM m) (s.extract 0 ((min (s.size : Int) 60)).toNat)).1) ((passR (toM m) (s.extract 0 ((min (s.size : Int) 60)).toNat)).2)) (aa.eval (.tmp 21)) ww := d2
    exact opAt rfl (ok_run rfl (run_here rfl (ex_move (.inl rfl) rfl) ( d2)))
  · -- 4 law.go:92
    rintro aa ww hE hF ⟨d3, -⟩
    replace d3 : (IsOwnE w17.heap.size ((passR (toM m) (s.extract 0 ((min (s.size : Int) 60)).toNat)).1) ((passR (toM m) (s.extract 0 ((min (s.size : Int) 60)).toNat)).2)) (aa.eval (.tmp 18)) ww := d3
    exact opAt rfl (ok_run rfl (run_ext0 rfl (d3) (fun _ h =>  h)))
  · -- 5 law.go:92
    rintro aa ww hE hF ⟨d3, -⟩
    replace d3 : (IsOwnE w17.heap.size ((passR (toM m) (s.extract 0 ((min (s.size : Int) 60)).toNat)).1) ((passR (toM m) (s.extract 0 ((min (s.size : Int) 60)).toNat)).2)) (aa.eval (.tmp 18)) ww := d3
    exact opAt rfl (ok_run rfl (run_here rfl (ex_ext1 (d3) rfl) ( rfl)))
  · -- 6 law.go:92
    rintro aa ww hE hF ⟨-⟩
    exact opAt rfl (ok_run rfl (run_new (ex_alloc rfl Tryd.zeroValue29) ( (box_new hE.size))))
  intro a20 w21 hE hF hfac hap
  obtain ⟨f0, f1, f2, f3, f4, f5, f6, -⟩ := hfac
  replace N := hF.size.trans N
  replace D := hF.defers.trans D
  obtain ⟨b22, T6, B_b22, R_b22⟩ := f6
  have NE_b4_b22 : b4 ≠ b22 := by have := row_lt R_b4; omega
  have NE_b9_b22 : b9 ≠ b22 := by have := row_lt R_b9; omega
  replace B_b22 := Nat.le_trans E.size B_b22
  replace R_b4 := hE.row R_b4
  replace R_b9 := hE.row R_b9
  replace S11 : OwnStrs 0 ((toM m).hops) w21 (.slice x12 (((toM m).hops).length) c13) := S11.ext hE
  replace T1 : (fun v _ => v = .string (s.extract 0 ((min (s.size : Int) 60)).toNat)) (a20.at 1) w21 := hF.carry (fun v _ => v = .string (s.extract 0 ((min (s.size : Int) 60)).toNat)) rfl (stab_eq _) hE T1
  replace T2 : (fun v _ => v = .pointer (some ⟨b4, 0, none⟩)) (a20.at 2) w21 := hF.carry (fun v _ => v = .pointer (some ⟨b4, 0, none⟩)) rfl (stab_eq _) hE T2
  replace T4 : (fun v _ => v = .bool false) (a20.at 4) w21 := hF.carry (fun v _ => v = .bool false) rfl (stab_eq _) hE T4
  replace T5 : (fun v _ => v = .pointer (some ⟨b9, 0, none⟩)) (a20.at 5) w21 := hF.carry (fun v _ => v = .pointer (some ⟨b9, 0, none⟩)) rfl (stab_eq _) hE T5
  have T22 : (IsOwnB w17.heap.size ((passR (toM m) (s.extract 0 ((min (s.size : Int) 60)).toNat)).1)) (a20.at 22) w21 := f4
  have T23 : (fun v _ => v = .int .i64 ((passR (toM m) (s.extract 0 ((min (s.size : Int) 60)).toNat)).2 : Int)) (a20.at 23) w21 := f5
  replace E := E.trans hE
  clear hE hF hap
  obtain ⟨hv23, T22, S24⟩ := T22
  obtain ⟨x25, c26, rfl⟩ := ownStrs_len S24
  replace T22 : (fun v _ => v = .agg (msgC ((passR (toM m) (s.extract 0 ((min (s.size : Int) 60)).toNat)).1) (.slice x25 ((((passR (toM m) (s.extract 0 ((min (s.size : Int) 60)).toNat)).1).hops).length) c26))) (a20.at 22) w21 := T22
  show wpOps _ (rg Tryd.f5 3) _ [7, 8] _ _
  refine tail_do rfl rfl rfl (ex_store rfl (show a20.eval (.tmp 6) = .pointer (some ⟨b22, 0, none⟩) from T6) (by rw [show a20.eval (.tmp 22) = .agg (msgC ((passR (toM m) (s.extract 0 ((min (s.size : Int) 60)).toNat)).1) (.slice x25 ((((passR (toM m) (s.extract 0 ((min (s.size : Int) 60)).toNat)).1).hops).length) c26)) from (show a20.eval (.tmp 22) = .agg (msgC ((passR (toM m) (s.extract 0 ((min (s.size : Int) 60)).toNat)).1) (.slice x25 ((((passR (toM m) (s.extract 0 ((min (s.size : Int) 60)).toNat)).1).hops).length) c26)) from T22)]; exact store_row R_b22 (by kernel_rfl) rfl (ownB_cell S24))) ?_
  obtain ⟨w27, hw⟩ : ∃ x : World, x = w21.setRow b22 (msgC ((passR (toM m) (s.extract 0 ((min (s.size : Int) 60)).toNat)).1) (.slice x25 ((((passR (toM m) (s.extract 0 ((min (s.size : Int) 60)).toNat)).1).hops).length) c26)) := ⟨_, rfl⟩
  rw [← hw]
  replace R_b4 := hw ▸ row_other R_b4 (by first | exact NE_b4_b22 | exact NE_b22_b4.symm)
  replace R_b9 := hw ▸ row_other R_b9 (by first | exact NE_b9_b22 | exact NE_b22_b9.symm)
  replace E : Ext w w27 := hw ▸ below_row E B_b22
  replace T1 : (fun v _ => v = .string (s.extract 0 ((min (s.size : Int) 60)).toNat)) (a20.at 1) w27 := T1
  replace T2 : (fun v _ => v = .pointer (some ⟨b4, 0, none⟩)) (a20.at 2) w27 := T2
  replace T4 : (fun v _ => v = .bool false) (a20.at 4) w27 := T4
  replace T5 : (fun v _ => v = .pointer (some ⟨b9, 0, none⟩)) (a20.at 5) w27 := T5
  replace T22 : (fun v _ => v = .agg (msgC ((passR (toM m) (s.extract 0 ((min (s.size : Int) 60)).toNat)).1) (.slice x25 ((((passR (toM m) (s.extract 0 ((min (s.size : Int) 60)).toNat)).1).hops).length) c26))) (a20.at 22) w27 := T22
  replace T23 : (fun v _ => v = .int .i64 ((passR (toM m) (s.extract 0 ((min (s.size : Int) 60)).toNat)).2 : Int)) (a20.at 23) w27 := T23
  replace T6 : (fun v _ => v = .pointer (some ⟨b22, 0, none⟩)) (a20.at 6) w27 := T6
  replace S11 : OwnStrs 0 ((toM m).hops) w27 (.slice x12 (((toM m).hops).length) c13) := hw ▸ S11.setRow R_b22 rfl
  replace S24 : OwnStrs w17.heap.size (((passR (toM m) (s.extract 0 ((min (s.size : Int) 60)).toNat)).1).hops) w27 (.slice x25 ((((passR (toM m) (s.extract 0 ((min (s.size : Int) 60)).toNat)).1).hops).length) c26) := hw ▸ S24.setRow R_b22 rfl
  replace R_b22 : w27.heap[b22]? = some (.cells (msgC ((passR (toM m) (s.extract 0 ((min (s.size : Int) 60)).toNat)).1) (.slice x25 ((((passR (toM m) (s.extract 0 ((min (s.size : Int) 60)).toNat)).1).hops).length) c26)) 29 (0, 0)) := by rw [hw]; exact setRow_heap _ _ _ _ _ _ R_b22
  clear hw
  refine tail_val rfl rfl rfl (ex_move (.inr rfl) (v := .int .i64 ((passR (toM m) (s.extract 0 ((min (s.size : Int) 60)).toNat)).2 : Int)) (show a20.eval (.tmp 23) = .int .i64 ((passR (toM m) (s.extract 0 ((min (s.size : Int) 60)).toNat)).2 : Int) from T23)) ?_
  obtain ⟨a28, ha⟩ : ∃ x : Act, x = a20.put (some 7) (.int .i64 ((passR (toM m) (s.extract 0 ((min (s.size : Int) 60)).toNat)).2 : Int)) := ⟨_, rfl⟩
  rw [← ha]
  replace T1 : (fun v _ => v = .string (s.extract 0 ((min (s.size : Int) 60)).toNat)) (a28.at 1) w27 := by rw [ha, put_other rfl]; exact T1
  replace T2 : (fun v _ => v = .pointer (some ⟨b4, 0, none⟩)) (a28.at 2) w27 := by rw [ha, put_other rfl]; exact T2
  replace T4 : (fun v _ => v = .bool false) (a28.at 4) w27 := by rw [ha, put_other rfl]; exact T4
  replace T5 : (fun v _ => v = .pointer (some ⟨b9, 0, none⟩)) (a28.at 5) w27 := by rw [ha, put_other rfl]; exact T5
  replace T22 : (fun v _ => v = .agg (msgC ((passR (toM m) (s.extract 0 ((min (s.size : Int) 60)).toNat)).1) (.slice x25 ((((passR (toM m) (s.extract 0 ((min (s.size : Int) 60)).toNat)).1).hops).length) c26))) (a28.at 22) w27 := by rw [ha, put_other rfl]; exact T22
  replace T23 : (fun v _ => v = .int .i64 ((passR (toM m) (s.extract 0 ((min (s.size : Int) 60)).toNat)).2 : Int)) (a28.at 23) w27 := by rw [ha, put_other rfl]; exact T23
  replace T6 : (fun v _ => v = .pointer (some ⟨b22, 0, none⟩)) (a28.at 6) w27 := by rw [ha, put_other rfl]; exact T6
  have T7 : (fun v _ => v = .int .i64 ((passR (toM m) (s.extract 0 ((min (s.size : Int) 60)).toNat)).2 : Int)) (a28.at 7) w27 := by rw [ha, put_same N (by decide)]; skip
  replace N := (ha ▸ put_size _ _ _ : a28.tmps.size = _).trans N
  replace D := (ha ▸ put_defers' _ _ _ : a28.defers = _).trans D
  clear ha
  clear T22
  clear T23
  have HG := own_lt S24
  refine hK19 _ _ ?_
  refine wp_seq_k (fun K29 hK29 => ?_)
  -- region 4: law.go:93
  show (Code.region 4 (rg Tryd.f5 4) false).wp _ _ _ _
  refine plain_list (n := 8) (N := 79) (deps := [[], [0], [], [1, 2], [3], [4], [4], []]) (F := [(IsOwnB 0 (toM m)), (IsOwn (toM m)), (fun v _ => v = .string (s.extract 0 ((min (s.size : Int) 60)).toNat)), (IsOwnE w27.heap.size ((passR (toM m) (s.extract 0 ((min (s.size : Int) 60)).toNat)).1) ((passR (toM m) (s.extract 0 ((min (s.size : Int) 60)).toNat)).2)), (IsOwnE w27.heap.size ((passR (toM m) (s.extract 0 ((min (s.size : Int) 60)).toNat)).1) ((passR (toM m) (s.extract 0 ((min (s.size : Int) 60)).toNat)).2)), (IsOwnB w27.heap.size ((passR (toM m) (s.extract 0 ((min (s.size : Int) 60)).toNat)).1)), (fun v _ => v = .int .i64 ((passR (toM m) (s.extract 0 ((min (s.size : Int) 60)).toNat)).2 : Int)), (IsBox #[.string ⟨#[]⟩, .string ⟨#[]⟩, .string ⟨#[]⟩, .string ⟨#[]⟩, .int .i64 0, .int .i64 0, .string ⟨#[]⟩, .slice none 0 0, .string ⟨#[]⟩] 26 w27.heap.size)]) (by kernel_rfl) (by kernel_rfl) rfl (by kernel_rfl) ⟨(stab_ownB _ _), (stab_own _), (stab_eq _), (stab_ownE _ _ _), (stab_ownE _ _ _), (stab_ownB _ _), (stab_eq _), (stab_box _ _ _), trivial⟩ N (by kernel_rfl) ⟨?_, ?_, ?_, ?_, ?_, ?_, ?_, ?_, trivial⟩ ?_
  · -- 0 law.go:93
    rintro aa ww hE hF ⟨-⟩
    have o5 : aa.eval (.tmp 5) = .pointer (some ⟨b9, 0, none⟩) := hF.carry (fun v _ => v = .pointer (some ⟨b9, 0, none⟩)) rfl (stab_eq _) hE T5
    exact opAt rfl (ok_run rfl (run_here rfl (ex_load rfl o5 (load_row (hE.row R_b9) Tryd.underlying29 rfl (by kernel_rfl))) ( ⟨_, rfl, S11.ext hE⟩)))
  · -- 1 law.go:93
    rintro aa ww hE hF ⟨d0, -⟩
    replace d0 : (IsOwnB 0 (toM m)) (aa.eval (.tmp 25)) ww := d0
    exact opAt rfl (ok_run rfl (run_callR (ψ := (IsOwn (toM m))) rfl Tryd.call12 (by
      obtain ⟨hv0, e0, s0⟩ := IsOwnB.msg (d0)
      simp only [List.map_toArray, List.map_cons, List.map_nil, e0]
      exact (of_c _ _ _ (toM_fits fm) s0 (toM_len m)).mono (fun _ _ ⟨_, e, o, b⟩ => ⟨_, e, b, _, rfl, o.lower⟩)) (fun _ _ h =>  h)))
  · -- 2 law.go:93
    rintro aa ww hE hF ⟨-⟩
    have o1 : aa.eval (.tmp 1) = .string (s.extract 0 ((min (s.size : Int) 60)).toNat) := hF.carry (fun v _ => v = .string (s.extract 0 ((min (s.size : Int) 60)).toNat)) rfl (stab_eq _) hE T1
    exact opAt rfl (ok_run rfl (run_here rfl (ex_move (.inl rfl) o1) ( rfl)))
  · -- 3 law.go:93
    rintro aa ww hE hF ⟨d1, d2, -⟩
    replace d1 : (IsOwn (toM m)) (aa.eval (.tmp 26)) ww := d1
    replace d2 : aa.eval (.tmp 27) = .string (s.extract 0 ((min (s.size : Int) 60)).toNat) := d2
    exact opAt rfl (ok_run rfl (run_callR (ψ := (IsOwnE w27.heap.size ((passR (toM m) (s.extract 0 ((min (s.size : Int) 60)).toNat)).1) ((passR (toM m) (s.extract 0 ((min (s.size : Int) 60)).toNat)).2))) rfl Tryd.call19 (by
      obtain ⟨hv0, e0, s0⟩ := IsOwn.msg (d1)
      simp only [List.map_toArray, List.map_cons, List.map_nil, e0, d2]
      exact (rPass_e (toM m) _ (s.extract 0 ((min (s.size : Int) 60)).toNat) _ (toM_fits fm) s0 (by first | with_reducible assumption | (simp only [ByteArray.size_extract]; unfold maxLen at *; omega)) (toM_len1 m)).mono (fun _ _ ⟨v, e, y, o⟩ => ⟨v, e, y, o.mono hE.size⟩)) (fun _ _ h =>  h)))
  · -- 4 law.go:93
    rintro aa ww hE hF ⟨d3, -⟩
    replace d3 : (IsOwnE w27.heap.size ((passR (toM m) (s.extract 0 ((min (s.size : Int) 60)).toNat)).1) ((passR (toM m) (s.extract 0 ((min (s.size : Int) 60)).toNat)).2)) (aa.eval (.tmp 28)) ww := d3
    exact opAt rfl (ok_run rfl (run_here rfl (ex_move (.inl rfl) rfl) ( d3)))
  · -- 5 law.go:93
    rintro aa ww hE hF ⟨d4, -⟩
    replace d4 : (IsOwnE w27.heap.size ((passR (toM m) (s.extract 0 ((min (s.size : Int) 60)).toNat)).1) ((passR (toM m) (s.extract 0 ((min (s.size : Int) 60)).toNat)).2)) (aa.eval (.tmp 24)) ww := d4
    exact opAt rfl (ok_run rfl (run_ext0 rfl (d4) (fun _ h =>  h)))
  · -- 6 law.go:93
    rintro aa ww hE hF ⟨d4, -⟩
    replace d4 : (IsOwnE w27.heap.size ((passR (toM m) (s.extract 0 ((min (s.size : Int) 60)).toNat)).1) ((passR (toM m) (s.extract 0 ((min (s.size : Int) 60)).toNat)).2)) (aa.eval (.tmp 24)) ww := d4
    exact opAt rfl (ok_run rfl (run_here rfl (ex_ext1 (d4) rfl) ( rfl)))
  · -- 7 law.go:93
    rintro aa ww hE hF ⟨-⟩
    exact opAt rfl (ok_run rfl (run_new (ex_alloc rfl Tryd.zeroValue26) ( (box_new hE.size))))
  intro a30 w31 hE hF hfac hap
  obtain ⟨f0, f1, f2, f3, f4, f5, f6, f7, -⟩ := hfac
  replace N := hF.size.trans N
  replace D := hF.defers.trans D
  obtain ⟨b32, T8, B_b32, R_b32⟩ := f7
  have NE_b4_b32 : b4 ≠ b32 := by have := row_lt R_b4; omega
  have NE_b9_b32 : b9 ≠ b32 := by have := row_lt R_b9; omega
  have NE_b22_b32 : b22 ≠ b32 := by have := row_lt R_b22; omega
  replace B_b32 := Nat.le_trans E.size B_b32
  replace R_b4 := hE.row R_b4
  replace R_b9 := hE.row R_b9
  replace R_b22 := hE.row R_b22
  replace S11 : OwnStrs 0 ((toM m).hops) w31 (.slice x12 (((toM m).hops).length) c13) := S11.ext hE
  replace S24 : OwnStrs w17.heap.size (((passR (toM m) (s.extract 0 ((min (s.size : Int) 60)).toNat)).1).hops) w31 (.slice x25 ((((passR (toM m) (s.extract 0 ((min (s.size : Int) 60)).toNat)).1).hops).length) c26) := S24.ext hE
  replace T1 : (fun v _ => v = .string (s.extract 0 ((min (s.size : Int) 60)).toNat)) (a30.at 1) w31 := hF.carry (fun v _ => v = .string (s.extract 0 ((min (s.size : Int) 60)).toNat)) rfl (stab_eq _) hE T1
  replace T2 : (fun v _ => v = .pointer (some ⟨b4, 0, none⟩)) (a30.at 2) w31 := hF.carry (fun v _ => v = .pointer (some ⟨b4, 0, none⟩)) rfl (stab_eq _) hE T2
  replace T4 : (fun v _ => v = .bool false) (a30.at 4) w31 := hF.carry (fun v _ => v = .bool false) rfl (stab_eq _) hE T4
  replace T5 : (fun v _ => v = .pointer (some ⟨b9, 0, none⟩)) (a30.at 5) w31 := hF.carry (fun v _ => v = .pointer (some ⟨b9, 0, none⟩)) rfl (stab_eq _) hE T5
  replace T6 : (fun v _ => v = .pointer (some ⟨b22, 0, none⟩)) (a30.at 6) w31 := hF.carry (fun v _ => v = .pointer (some ⟨b22, 0, none⟩)) rfl (stab_eq _) hE T6
  replace T7 : (fun v _ => v = .int .i64 ((passR (toM m) (s.extract 0 ((min (s.size : Int) 60)).toNat)).2 : Int)) (a30.at 7) w31 := hF.carry (fun v _ => v = .int .i64 ((passR (toM m) (s.extract 0 ((min (s.size : Int) 60)).toNat)).2 : Int)) rfl (stab_eq _) hE T7
  have T29 : (IsOwnB w27.heap.size ((passR (toM m) (s.extract 0 ((min (s.size : Int) 60)).toNat)).1)) (a30.at 29) w31 := f5
  have T30 : (fun v _ => v = .int .i64 ((passR (toM m) (s.extract 0 ((min (s.size : Int) 60)).toNat)).2 : Int)) (a30.at 30) w31 := f6
  replace E := E.trans hE
  clear hE hF hap
  obtain ⟨hv33, T29, S34⟩ := T29
  obtain ⟨x35, c36, rfl⟩ := ownStrs_len S34
  replace T29 : (fun v _ => v = .agg (msgC ((passR (toM m) (s.extract 0 ((min (s.size : Int) 60)).toNat)).1) (.slice x35 ((((passR (toM m) (s.extract 0 ((min (s.size : Int) 60)).toNat)).1).hops).length) c36))) (a30.at 29) w31 := T29
  show wpOps _ (rg Tryd.f5 4) _ [8, 9] _ _
  refine tail_do rfl rfl rfl (ex_store rfl (show a30.eval (.tmp 8) = .pointer (some ⟨b32, 0, none⟩) from T8) (by rw [show a30.eval (.tmp 29) = .agg (msgC ((passR (toM m) (s.extract 0 ((min (s.size : Int) 60)).toNat)).1) (.slice x35 ((((passR (toM m) (s.extract 0 ((min (s.size : Int) 60)).toNat)).1).hops).length) c36)) from (show a30.eval (.tmp 29) = .agg (msgC ((passR (toM m) (s.extract 0 ((min (s.size : Int) 60)).toNat)).1) (.slice x35 ((((passR (toM m) (s.extract 0 ((min (s.size : Int) 60)).toNat)).1).hops).length) c36)) from T29)]; exact store_row R_b32 (by kernel_rfl) rfl (ownB_cell S34))) ?_
  obtain ⟨w37, hw⟩ : ∃ x : World, x = w31.setRow b32 (msgC ((passR (toM m) (s.extract 0 ((min (s.size : Int) 60)).toNat)).1) (.slice x35 ((((passR (toM m) (s.extract 0 ((min (s.size : Int) 60)).toNat)).1).hops).length) c36)) := ⟨_, rfl⟩
  rw [← hw]
  replace R_b4 := hw ▸ row_other R_b4 (by first | exact NE_b4_b32 | exact NE_b32_b4.symm)
  replace R_b9 := hw ▸ row_other R_b9 (by first | exact NE_b9_b32 | exact NE_b32_b9.symm)
  replace R_b22 := hw ▸ row_other R_b22 (by first | exact NE_b22_b32 | exact NE_b32_b22.symm)
  replace E : Ext w w37 := hw ▸ below_row E B_b32
  replace T1 : (fun v _ => v = .string (s.extract 0 ((min (s.size : Int) 60)).toNat)) (a30.at 1) w37 := T1
  replace T2 : (fun v _ => v = .pointer (some ⟨b4, 0, none⟩)) (a30.at 2) w37 := T2
  replace T4 : (fun v _ => v = .bool false) (a30.at 4) w37 := T4
  replace T5 : (fun v _ => v = .pointer (some ⟨b9, 0, none⟩)) (a30.at 5) w37 := T5
  replace T6 : (fun v _ => v = .pointer (some ⟨b22, 0, none⟩)) (a30.at 6) w37 := T6
  replace T7 : (fun v _ => v = .int .i64 ((passR (toM m) (s.extract 0 ((min (s.size : Int) 60)).toNat)).2 : Int)) (a30.at 7) w37 := T7
  replace T29 : (fun v _ => v = .agg (msgC ((passR (toM m) (s.extract 0 ((min (s.size : Int) 60)).toNat)).1) (.slice x35 ((((passR (toM m) (s.extract 0 ((min (s.size : Int) 60)).toNat)).1).hops).length) c36))) (a30.at 29) w37 := T29
  replace T30 : (fun v _ => v = .int .i64 ((passR (toM m) (s.extract 0 ((min (s.size : Int) 60)).toNat)).2 : Int)) (a30.at 30) w37 := T30
  replace T8 : (fun v _ => v = .pointer (some ⟨b32, 0, none⟩)) (a30.at 8) w37 := T8
  replace S11 : OwnStrs 0 ((toM m).hops) w37 (.slice x12 (((toM m).hops).length) c13) := hw ▸ S11.setRow R_b32 rfl
  replace S24 : OwnStrs w17.heap.size (((passR (toM m) (s.extract 0 ((min (s.size : Int) 60)).toNat)).1).hops) w37 (.slice x25 ((((passR (toM m) (s.extract 0 ((min (s.size : Int) 60)).toNat)).1).hops).length) c26) := hw ▸ S24.setRow R_b32 rfl
  replace S34 : OwnStrs w27.heap.size (((passR (toM m) (s.extract 0 ((min (s.size : Int) 60)).toNat)).1).hops) w37 (.slice x35 ((((passR (toM m) (s.extract 0 ((min (s.size : Int) 60)).toNat)).1).hops).length) c36) := hw ▸ S34.setRow R_b32 rfl
  replace R_b32 : w37.heap[b32]? = some (.cells (msgC ((passR (toM m) (s.extract 0 ((min (s.size : Int) 60)).toNat)).1) (.slice x35 ((((passR (toM m) (s.extract 0 ((min (s.size : Int) 60)).toNat)).1).hops).length) c36)) 26 (0, 0)) := by rw [hw]; exact setRow_heap _ _ _ _ _ _ R_b32
  clear hw
  refine tail_val rfl rfl rfl (ex_move (.inr rfl) (v := .int .i64 ((passR (toM m) (s.extract 0 ((min (s.size : Int) 60)).toNat)).2 : Int)) (show a30.eval (.tmp 30) = .int .i64 ((passR (toM m) (s.extract 0 ((min (s.size : Int) 60)).toNat)).2 : Int) from T30)) ?_
  obtain ⟨a38, ha⟩ : ∃ x : Act, x = a30.put (some 9) (.int .i64 ((passR (toM m) (s.extract 0 ((min (s.size : Int) 60)).toNat)).2 : Int)) := ⟨_, rfl⟩
  rw [← ha]
  replace T1 : (fun v _ => v = .string (s.extract 0 ((min (s.size : Int) 60)).toNat)) (a38.at 1) w37 := by rw [ha, put_other rfl]; exact T1
  replace T2 : (fun v _ => v = .pointer (some ⟨b4, 0, none⟩)) (a38.at 2) w37 := by rw [ha, put_other rfl]; exact T2
  replace T4 : (fun v _ => v = .bool false) (a38.at 4) w37 := by rw [ha, put_other rfl]; exact T4
  replace T5 : (fun v _ => v = .pointer (some ⟨b9, 0, none⟩)) (a38.at 5) w37 := by rw [ha, put_other rfl]; exact T5
  replace T6 : (fun v _ => v = .pointer (some ⟨b22, 0, none⟩)) (a38.at 6) w37 := by rw [ha, put_other rfl]; exact T6
  replace T7 : (fun v _ => v = .int .i64 ((passR (toM m) (s.extract 0 ((min (s.size : Int) 60)).toNat)).2 : Int)) (a38.at 7) w37 := by rw [ha, put_other rfl]; exact T7
  replace T29 : (fun v _ => v = .agg (msgC ((passR (toM m) (s.extract 0 ((min (s.size : Int) 60)).toNat)).1) (.slice x35 ((((passR (toM m) (s.extract 0 ((min (s.size : Int) 60)).toNat)).1).hops).length) c36))) (a38.at 29) w37 := by rw [ha, put_other rfl]; exact T29
  replace T30 : (fun v _ => v = .int .i64 ((passR (toM m) (s.extract 0 ((min (s.size : Int) 60)).toNat)).2 : Int)) (a38.at 30) w37 := by rw [ha, put_other rfl]; exact T30
  replace T8 : (fun v _ => v = .pointer (some ⟨b32, 0, none⟩)) (a38.at 8) w37 := by rw [ha, put_other rfl]; exact T8
  have T9 : (fun v _ => v = .int .i64 ((passR (toM m) (s.extract 0 ((min (s.size : Int) 60)).toNat)).2 : Int)) (a38.at 9) w37 := by rw [ha, put_same N (by decide)]; skip
  replace N := (ha ▸ put_size _ _ _ : a38.tmps.size = _).trans N
  replace D := (ha ▸ put_defers' _ _ _ : a38.defers = _).trans D
  clear ha
  clear T1
  clear T29
  clear T30
  refine hK29 _ _ ?_
  refine wp_seq_k (fun K39 hK39 => ?_)
  refine wp_seq_k (fun K40 hK40 => ?_)
  -- region 5: law.go:94
  show (Code.region 5 (rg Tryd.f5 5) false).wp _ _ _ _
  refine wp_region ?_
  show wpOps _ (rg Tryd.f5 5) _ [0] _ _
  refine tail_val rfl rfl rfl (ex_move (.inr rfl) (v := .int .i64 0) (ev_const (v := .int .i64 0))) ?_
  obtain ⟨a41, ha⟩ : ∃ x : Act, x = a38.put (some 10) (.int .i64 0) := ⟨_, rfl⟩
  rw [← ha]
  replace T2 : (fun v _ => v = .pointer (some ⟨b4, 0, none⟩)) (a41.at 2) w37 := by rw [ha, put_other rfl]; exact T2
  replace T4 : (fun v _ => v = .bool false) (a41.at 4) w37 := by rw [ha, put_other rfl]; exact T4
  replace T5 : (fun v _ => v = .pointer (some ⟨b9, 0, none⟩)) (a41.at 5) w37 := by rw [ha, put_other rfl]; exact T5
  replace T6 : (fun v _ => v = .pointer (some ⟨b22, 0, none⟩)) (a41.at 6) w37 := by rw [ha, put_other rfl]; exact T6
  replace T7 : (fun v _ => v = .int .i64 ((passR (toM m) (s.extract 0 ((min (s.size : Int) 60)).toNat)).2 : Int)) (a41.at 7) w37 := by rw [ha, put_other rfl]; exact T7
  replace T8 : (fun v _ => v = .pointer (some ⟨b32, 0, none⟩)) (a41.at 8) w37 := by rw [ha, put_other rfl]; exact T8
  replace T9 : (fun v _ => v = .int .i64 ((passR (toM m) (s.extract 0 ((min (s.size : Int) 60)).toNat)).2 : Int)) (a41.at 9) w37 := by rw [ha, put_other rfl]; exact T9
  have T10 : (fun v _ => v = .int .i64 0) (a41.at 10) w37 := by rw [ha, put_same N (by decide)]; skip
  replace N := (ha ▸ put_size _ _ _ : a41.tmps.size = _).trans N
  replace D := (ha ▸ put_defers' _ _ _ : a41.defers = _).trans D
  clear ha
  refine hK40 _ _ ?_
  refine wp_block ?_
  -- the loop (it writes)
  obtain ⟨I42, hI42⟩ : ∃ I : Nat → Act → World → Prop, I = fun μ aa ww => ∃ (k : Nat), (aa.tmps.size = 79) ∧ (aa.defers = []) ∧ (Ext w ww) ∧ ((fun v _ => v = .pointer (some ⟨b4, 0, none⟩)) (aa.at 2) ww) ∧ ((fun v _ => v = .bool false) (aa.at 4) ww) ∧ ((fun v _ => v = .pointer (some ⟨b9, 0, none⟩)) (aa.at 5) ww) ∧ ((fun v _ => v = .pointer (some ⟨b22, 0, none⟩)) (aa.at 6) ww) ∧ ((fun v _ => v = .int .i64 ((passR (toM m) (s.extract 0 ((min (s.size : Int) 60)).toNat)).2 : Int)) (aa.at 7) ww) ∧ ((fun v _ => v = .pointer (some ⟨b32, 0, none⟩)) (aa.at 8) ww) ∧ ((fun v _ => v = .int .i64 ((passR (toM m) (s.extract 0 ((min (s.size : Int) 60)).toNat)).2 : Int)) (aa.at 9) ww) ∧ ((fun v _ => v = .int .i64 (k : Int)) (aa.at 10) ww) ∧ (ww.heap[b4]? = some (.cells (msgC m mv) 26 (0, 0))) ∧ (ww.heap[b9]? = some (.cells (msgC (toM m) (.slice x12 (((toM m).hops).length) c13)) 29 (0, 0))) ∧ (ww.heap[b22]? = some (.cells (msgC ((passR (toM m) (s.extract 0 ((min (s.size : Int) 60)).toNat)).1) (.slice x25 ((((passR (toM m) (s.extract 0 ((min (s.size : Int) 60)).toNat)).1).hops).length) c26)) 29 (0, 0))) ∧ (ww.heap[b32]? = some (.cells (msgC ((passR (toM m) (s.extract 0 ((min (s.size : Int) 60)).toNat)).1) (.slice x35 ((((passR (toM m) (s.extract 0 ((min (s.size : Int) 60)).toNat)).1).hops).length) c36)) 26 (0, 0))) ∧ (OwnStrs 0 ((toM m).hops) ww (.slice x12 (((toM m).hops).length) c13)) ∧ (OwnStrs w17.heap.size (chg (passR (toM m) (s.extract 0 ((min (s.size : Int) 60)).toNat)).1.hops k) ww (.slice x25 ((((passR (toM m) (s.extract 0 ((min (s.size : Int) 60)).toNat)).1).hops).length) c26)) ∧ (OwnStrs w27.heap.size (((passR (toM m) (s.extract 0 ((min (s.size : Int) 60)).toNat)).1).hops) ww (.slice x35 ((((passR (toM m) (s.extract 0 ((min (s.size : Int) 60)).toNat)).1).hops).length) c36)) ∧ (μ = (passR (toM m) (s.extract 0 ((min (s.size : Int) 60)).toNat)).1.hops.length - k) ∧ (k ≤ (passR (toM m) (s.extract 0 ((min (s.size : Int) 60)).toNat)).1.hops.length) := ⟨_, rfl⟩
  refine loop_rule I42 _ (by rw [hI42]; exact ⟨0, N, D, E, T2, T4, T5, T6, T7, T8, T9, T10, R_b4, R_b9, R_b22, R_b32, S11, S24, S34, rfl, Nat.zero_le _⟩) ?_
  clear N D E T2 T4 T5 T6 T7 T8 T9 T10 R_b4 R_b9 R_b22 R_b32 S11 S24 S34
  intro μ a43 w44 hI
  rw [hI42] at hI
  obtain ⟨k, N, D, E, T2, T4, T5, T6, T7, T8, T9, T10, R_b4, R_b9, R_b22, R_b32, S11, S24, S34, hμ, hk⟩ := hI
  have HM := Lib.hid hμ; clear hμ
  refine wp_seq_k (fun K45 hK45 => ?_)
  refine wp_seq_k (fun K46 hK46 => ?_)
  -- region 6: law.go:94
  show (Code.region 6 (rg Tryd.f5 6) false).wp _ _ _ _
  refine plain_list (n := 9) (N := 79) (deps := [[], [], [1], [2], [0, 3], [4], [5], [5, 6], [5, 7]]) (F := [(fun v _ => v = .int .i64 (k : Int)), (fun v _ => v = .pointer (some ⟨b22, 7, none⟩)), (fun v _ => v = .slice x25 ((((passR (toM m) (s.extract 0 ((min (s.size : Int) 60)).toNat)).1).hops).length) c26), (fun v _ => v = .int .i64 ((((passR (toM m) (s.extract 0 ((min (s.size : Int) 60)).toNat)).1).hops).length : Int)), (fun v _ => v = .bool (decide ((k : Int) < ((((passR (toM m) (s.extract 0 ((min (s.size : Int) 60)).toNat)).1).hops).length : Int)))), (fun v _ => v = .bool (decide ((k : Int) < ((((passR (toM m) (s.extract 0 ((min (s.size : Int) 60)).toNat)).1).hops).length : Int)))), (fun v w => (decide ((k : Int) < ((((passR (toM m) (s.extract 0 ((min (s.size : Int) 60)).toNat)).1).hops).length : Int))) = true → (fun v _ => v = .int .i64 ((passR (toM m) (s.extract 0 ((min (s.size : Int) 60)).toNat)).2 : Int)) v w), (fun v w => (decide ((k : Int) < ((((passR (toM m) (s.extract 0 ((min (s.size : Int) 60)).toNat)).1).hops).length : Int))) = true → (fun v _ => v = .bool (((passR (toM m) (s.extract 0 ((min (s.size : Int) 60)).toNat)).2 : Int) == (0 : Int))) v w), (fun v _ => v = .bool ((decide ((k : Int) < ((((passR (toM m) (s.extract 0 ((min (s.size : Int) 60)).toNat)).1).hops).length : Int))) && (((passR (toM m) (s.extract 0 ((min (s.size : Int) 60)).toNat)).2 : Int) == (0 : Int))))]) (by kernel_rfl) (by kernel_rfl) rfl (by kernel_rfl) ⟨(stab_eq _), (stab_eq _), (stab_eq _), (stab_eq _), (stab_eq _), (stab_eq _), (stab_imp (stab_eq _)), (stab_imp (stab_eq _)), (stab_eq _), trivial⟩ N (by kernel_rfl) ⟨?_, ?_, ?_, ?_, ?_, ?_, ?_, ?_, ?_, trivial⟩ ?_
  · -- 0 law.go:94
    rintro aa ww hE hF ⟨-⟩
    have o10 : aa.eval (.tmp 10) = .int .i64 (k : Int) := hF.carry (fun v _ => v = .int .i64 (k : Int)) rfl (stab_eq _) hE T10
    exact opAt rfl (ok_run rfl (run_here rfl (ex_move (.inl rfl) o10) ( rfl)))
  · -- 1 law.go:94
    rintro aa ww hE hF ⟨-⟩
    have o6 : aa.eval (.tmp 6) = .pointer (some ⟨b22, 0, none⟩) := hF.carry (fun v _ => v = .pointer (some ⟨b22, 0, none⟩)) rfl (stab_eq _) hE T6
    exact opAt rfl (ok_run rfl (run_here rfl (ex_fieldAddr rfl o6 Tryd.underlying29 rfl (fun w => ⟨_, Tryd.sizeOf24 w⟩) rfl) ( rfl)))
  · -- 2 law.go:94
    rintro aa ww hE hF ⟨d1, -⟩
    replace d1 : aa.eval (.tmp 32) = .pointer (some ⟨b22, 7, none⟩) := d1
    exact opAt rfl (ok_run rfl (run_here rfl (ex_load rfl d1 (load_cell Tryd.isAgg24 ((cell_row (hE.row R_b22) 7).trans rfl))) ( rfl)))
  · -- 3 law.go:94
    rintro aa ww hE hF ⟨d2, -⟩
    replace d2 : aa.eval (.tmp 33) = .slice x25 ((((passR (toM m) (s.extract 0 ((min (s.size : Int) 60)).toNat)).1).hops).length) c26 := d2
    exact opAt rfl (ok_run rfl (run_here rfl (ex_builtin rfl (fun cs => by simp only [List.map_toArray, List.map_cons, List.map_nil, show aa.eval (.tmp 33) = .slice x25 ((((passR (toM m) (s.extract 0 ((min (s.size : Int) 60)).toNat)).1).hops).length) c26 from d2]; exact len_slice Tryd.underlying24)) ( rfl)))
  · -- 4 law.go:94
    rintro aa ww hE hF ⟨d0, d3, -⟩
    replace d0 : aa.eval (.tmp 31) = .int .i64 (k : Int) := d0
    replace d3 : aa.eval (.tmp 34) = .int .i64 ((((passR (toM m) (s.extract 0 ((min (s.size : Int) 60)).toNat)).1).hops).length : Int) := d3
    exact opAt rfl (ok_run rfl (run_here rfl (ex_binOp rfl (by rw [show aa.eval (.tmp 31) = .int .i64 (k : Int) from d0, show aa.eval (.tmp 34) = .int .i64 ((((passR (toM m) (s.extract 0 ((min (s.size : Int) 60)).toNat)).1).hops).length : Int) from d3]; exact eqg_int) (by rw [show aa.eval (.tmp 31) = .int .i64 (k : Int) from d0, show aa.eval (.tmp 34) = .int .i64 ((((passR (toM m) (s.extract 0 ((min (s.size : Int) 60)).toNat)).1).hops).length : Int) from d3]; exact bin_lss)) ( rfl)))
  · -- 5 law.go:94
    rintro aa ww hE hF ⟨d4, -⟩
    replace d4 : aa.eval (.tmp 35) = .bool (decide ((k : Int) < ((((passR (toM m) (s.extract 0 ((min (s.size : Int) 60)).toNat)).1).hops).length : Int))) := d4
    exact opAt rfl (ok_run rfl (run_here rfl (ex_move (.inl rfl) d4) ( rfl)))
  · -- 6 law.go:94
    rintro aa ww hE hF ⟨d5, -⟩
    replace d5 : aa.eval (.tmp 36) = .bool (decide ((k : Int) < ((((passR (toM m) (s.extract 0 ((min (s.size : Int) 60)).toNat)).1).hops).length : Int))) := d5
    have o7 : aa.eval (.tmp 7) = .int .i64 ((passR (toM m) (s.extract 0 ((min (s.size : Int) 60)).toNat)).2 : Int) := hF.carry (fun v _ => v = .int .i64 ((passR (toM m) (s.extract 0 ((min (s.size : Int) 60)).toNat)).2 : Int)) rfl (stab_eq _) hE T7
    exact opAt rfl (ok_guard rfl d5 (fun hc => run_here rfl (ex_move (.inl rfl) o7) (fun _ =>  rfl)) (fun hn hc => absurd hc hn))
  · -- 7 law.go:94
    rintro aa ww hE hF ⟨d5, d6, -⟩
    replace d5 : aa.eval (.tmp 36) = .bool (decide ((k : Int) < ((((passR (toM m) (s.extract 0 ((min (s.size : Int) 60)).toNat)).1).hops).length : Int))) := d5
    replace d6 : (decide ((k : Int) < ((((passR (toM m) (s.extract 0 ((min (s.size : Int) 60)).toNat)).1).hops).length : Int))) = true → aa.eval (.tmp 37) = .int .i64 ((passR (toM m) (s.extract 0 ((min (s.size : Int) 60)).toNat)).2 : Int) := d6
    exact opAt rfl (ok_guard rfl d5 (fun hc => run_here rfl (ex_binOp rfl (by rw [show aa.eval (.tmp 37) = .int .i64 ((passR (toM m) (s.extract 0 ((min (s.size : Int) 60)).toNat)).2 : Int) from (d6 hc), show aa.eval (.const (.int .i64 0)) = .int .i64 0 from (ev_const (v := .int .i64 0))]; exact eqg_int) (by rw [show aa.eval (.tmp 37) = .int .i64 ((passR (toM m) (s.extract 0 ((min (s.size : Int) 60)).toNat)).2 : Int) from (d6 hc), show aa.eval (.const (.int .i64 0)) = .int .i64 0 from (ev_const (v := .int .i64 0))]; exact bin_eql)) (fun _ =>  rfl)) (fun hn hc => absurd hc hn))
  · -- 8 law.go:94
    rintro aa ww hE hF ⟨d5, d7, -⟩
    replace d5 : aa.eval (.tmp 36) = .bool (decide ((k : Int) < ((((passR (toM m) (s.extract 0 ((min (s.size : Int) 60)).toNat)).1).hops).length : Int))) := d5
    replace d7 : (decide ((k : Int) < ((((passR (toM m) (s.extract 0 ((min (s.size : Int) 60)).toNat)).1).hops).length : Int))) = true → aa.eval (.tmp 38) = .bool (((passR (toM m) (s.extract 0 ((min (s.size : Int) 60)).toNat)).2 : Int) == (0 : Int)) := d7
    exact opAt rfl (ok_run rfl (run_here rfl (ex_pick_and rfl d5 (fun hp => (d7 hp))) ( rfl)))
  intro a47 w48 hE hF hfac hap
  obtain ⟨f0, f1, f2, f3, f4, f5, f6, f7, f8, -⟩ := hfac
  replace N := hF.size.trans N
  replace D := hF.defers.trans D
  replace R_b4 := hE.row R_b4
  replace R_b9 := hE.row R_b9
  replace R_b22 := hE.row R_b22
  replace R_b32 := hE.row R_b32
  replace S11 : OwnStrs 0 ((toM m).hops) w48 (.slice x12 (((toM m).hops).length) c13) := S11.ext hE
  replace S24 : OwnStrs w17.heap.size (chg (passR (toM m) (s.extract 0 ((min (s.size : Int) 60)).toNat)).1.hops k) w48 (.slice x25 ((((passR (toM m) (s.extract 0 ((min (s.size : Int) 60)).toNat)).1).hops).length) c26) := S24.ext hE
  replace S34 : OwnStrs w27.heap.size (((passR (toM m) (s.extract 0 ((min (s.size : Int) 60)).toNat)).1).hops) w48 (.slice x35 ((((passR (toM m) (s.extract 0 ((min (s.size : Int) 60)).toNat)).1).hops).length) c36) := S34.ext hE
  replace T2 : (fun v _ => v = .pointer (some ⟨b4, 0, none⟩)) (a47.at 2) w48 := hF.carry (fun v _ => v = .pointer (some ⟨b4, 0, none⟩)) rfl (stab_eq _) hE T2
  replace T4 : (fun v _ => v = .bool false) (a47.at 4) w48 := hF.carry (fun v _ => v = .bool false) rfl (stab_eq _) hE T4
  replace T5 : (fun v _ => v = .pointer (some ⟨b9, 0, none⟩)) (a47.at 5) w48 := hF.carry (fun v _ => v = .pointer (some ⟨b9, 0, none⟩)) rfl (stab_eq _) hE T5
  replace T6 : (fun v _ => v = .pointer (some ⟨b22, 0, none⟩)) (a47.at 6) w48 := hF.carry (fun v _ => v = .pointer (some ⟨b22, 0, none⟩)) rfl (stab_eq _) hE T6
  replace T7 : (fun v _ => v = .int .i64 ((passR (toM m) (s.extract 0 ((min (s.size : Int) 60)).toNat)).2 : Int)) (a47.at 7) w48 := hF.carry (fun v _ => v = .int .i64 ((passR (toM m) (s.extract 0 ((min (s.size : Int) 60)).toNat)).2 : Int)) rfl (stab_eq _) hE T7
  replace T8 : (fun v _ => v = .pointer (some ⟨b32, 0, none⟩)) (a47.at 8) w48 := hF.carry (fun v _ => v = .pointer (some ⟨b32, 0, none⟩)) rfl (stab_eq _) hE T8
  replace T9 : (fun v _ => v = .int .i64 ((passR (toM m) (s.extract 0 ((min (s.size : Int) 60)).toNat)).2 : Int)) (a47.at 9) w48 := hF.carry (fun v _ => v = .int .i64 ((passR (toM m) (s.extract 0 ((min (s.size : Int) 60)).toNat)).2 : Int)) rfl (stab_eq _) hE T9
  replace T10 : (fun v _ => v = .int .i64 (k : Int)) (a47.at 10) w48 := hF.carry (fun v _ => v = .int .i64 (k : Int)) rfl (stab_eq _) hE T10
  have T39 : (fun v _ => v = .bool ((decide ((k : Int) < ((((passR (toM m) (s.extract 0 ((min (s.size : Int) 60)).toNat)).1).hops).length : Int))) && (((passR (toM m) (s.extract 0 ((min (s.size : Int) 60)).toNat)).2 : Int) == (0 : Int)))) (a47.at 39) w48 := f8
  replace E := E.trans hE
  clear hE hF hap
  show wpOps _ (rg Tryd.f5 6) _ [] _ _
  refine hK46 _ _ ?_
  refine wp_cond_split (t := ((decide ((k : Int) < ((((passR (toM m) (s.extract 0 ((min (s.size : Int) 60)).toNat)).1).hops).length : Int))) && (((passR (toM m) (s.extract 0 ((min (s.size : Int) 60)).toNat)).2 : Int) == (0 : Int)))) T39 (fun C49 => ?_) (fun C49 => ?_)
  · clear T39
    have hlt : k < (passR (toM m) (s.extract 0 ((min (s.size : Int) 60)).toNat)).1.hops.length := by have := of_decide_eq_true (and_l C49); omega
    obtain ⟨gy, eY⟩ := own_some S24 (by rw [chg_len]; omega)
    obtain ⟨gz, eZ⟩ := own_some S34 (Nat.lt_of_le_of_lt (Nat.zero_le k) hlt)
    refine wp_skip ?_
    refine hK45 _ _ ?_
    refine wp_seq_k (fun K50 hK50 => ?_)
    refine wp_block ?_
    refine wp_seq_k (fun K51 hK51 => ?_)
    refine wp_seq_k (fun K52 hK52 => ?_)
    -- region 8 (drawn): law.go:95
    show (Code.region 8 (rg Tryd.f5 8) true).wp _ _ _ _
    refine draw_list (n := 11) (N := 79) (deps := [[], [0], [], [0, 1, 2], [0, 1, 2, 3], [], [5], [], [5, 6, 7], [5, 6, 7, 8], [0, 1, 2, 3, 4, 5, 6, 7, 8, 9]]) (F := [(fun v _ => v = .pointer (some ⟨b22, 7, none⟩)), (fun v _ => v = .slice x25 ((((passR (toM m) (s.extract 0 ((min (s.size : Int) 60)).toNat)).1).hops).length) c26), (fun v _ => v = .int .i64 (k : Int)), (fun v _ => v = .pointer (some ⟨gy, 0 + k * 1, none⟩)), (fun v _ => v = .string ((passR (toM m) (s.extract 0 ((min (s.size : Int) 60)).toNat)).1.hops[k]'hlt)), (fun v _ => v = .pointer (some ⟨b32, 7, none⟩)), (fun v _ => v = .slice x35 ((((passR (toM m) (s.extract 0 ((min (s.size : Int) 60)).toNat)).1).hops).length) c36), (fun v _ => v = .int .i64 (k : Int)), (fun v _ => v = .pointer (some ⟨gz, 0 + k * 1, none⟩)), (fun v _ => v = .string ((passR (toM m) (s.extract 0 ((min (s.size : Int) 60)).toNat)).1.hops[k]'hlt)), (fun v _ => v = .bool false)]) (E := []) Trydmixed ⟨by kernel_rfl, by kernel_rfl, by kernel_rfl, by kernel_rfl, by kernel_rfl, by kernel_rfl, Nat.le_of_ble_eq_true (by kernel_rfl)⟩ rfl (by kernel_rfl) ⟨(stab_eq _), (stab_eq _), (stab_eq _), (stab_eq _), (stab_eq _), (stab_eq _), (stab_eq _), (stab_eq _), (stab_eq _), (stab_eq _), (stab_eq _), trivial⟩ N ⟨?_, ?_, ?_, ?_, ?_, ?_, ?_, ?_, ?_, ?_, ?_, trivial⟩ trivial ?_
    · -- 0 law.go:95
      rintro aa ww hE hF ⟨-⟩
      have o6 : aa.eval (.tmp 6) = .pointer (some ⟨b22, 0, none⟩) := hF.carry (fun v _ => v = .pointer (some ⟨b22, 0, none⟩)) rfl (stab_eq _) hE T6
      exact opAt rfl (ok_run rfl (run_here rfl (ex_fieldAddr rfl o6 Tryd.underlying29 rfl (fun w => ⟨_, Tryd.sizeOf24 w⟩) rfl) ( rfl)))
    · -- 1 law.go:95
      rintro aa ww hE hF ⟨d0, -⟩
      replace d0 : aa.eval (.tmp 42) = .pointer (some ⟨b22, 7, none⟩) := d0
      exact opAt rfl (ok_run rfl (run_here rfl (ex_load rfl d0 (load_cell Tryd.isAgg24 ((cell_row (hE.row R_b22) 7).trans rfl))) ( rfl)))
    · -- 2 law.go:95
      rintro aa ww hE hF ⟨-⟩
      have o10 : aa.eval (.tmp 10) = .int .i64 (k : Int) := hF.carry (fun v _ => v = .int .i64 (k : Int)) rfl (stab_eq _) hE T10
      exact opAt rfl (ok_run rfl (run_here rfl (ex_move (.inl rfl) o10) ( rfl)))
    · -- 3 law.go:95
      rintro aa ww hE hF ⟨-, d1, d2, -⟩
      replace d1 : aa.eval (.tmp 43) = .slice x25 ((((passR (toM m) (s.extract 0 ((min (s.size : Int) 60)).toNat)).1).hops).length) c26 := d1
      replace d2 : aa.eval (.tmp 44) = .int .i64 (k : Int) := d2
      exact opAt rfl (ok_run rfl (run_here rfl (ex_indexAddr rfl (by rw [show aa.eval (.tmp 43) = .slice x25 ((((passR (toM m) (s.extract 0 ((min (s.size : Int) 60)).toNat)).1).hops).length) c26 from d1, show aa.eval (.tmp 44) = .int .i64 (k : Int) from d2, eY]; exact index_slice Tryd.underlying24 hlt (fun w => Tryd.sizeOf9 w))) ( rfl)))
    · -- 4 law.go:95
      rintro aa ww hE hF ⟨-, -, -, d3, -⟩
      replace d3 : aa.eval (.tmp 45) = .pointer (some ⟨gy, 0 + k * 1, none⟩) := d3
      exact opAt rfl (ok_run rfl (run_here rfl (ex_load rfl d3 (load_cell Tryd.isAgg9 (own_get (S24.ext hE) eY ((chg_at _ k k (Nat.le_refl _)).trans (get_lt hlt))))) ( rfl)))
    · -- 5 law.go:95
      rintro aa ww hE hF ⟨-⟩
      have o8 : aa.eval (.tmp 8) = .pointer (some ⟨b32, 0, none⟩) := hF.carry (fun v _ => v = .pointer (some ⟨b32, 0, none⟩)) rfl (stab_eq _) hE T8
      exact opAt rfl (ok_run rfl (run_here rfl (ex_fieldAddr rfl o8 Tryd.underlying26 rfl (fun w => ⟨_, Tryd.sizeOf24 w⟩) rfl) ( rfl)))
    · -- 6 law.go:95
      rintro aa ww hE hF ⟨d5, -⟩
      replace d5 : aa.eval (.tmp 47) = .pointer (some ⟨b32, 7, none⟩) := d5
      exact opAt rfl (ok_run rfl (run_here rfl (ex_load rfl d5 (load_cell Tryd.isAgg24 ((cell_row (hE.row R_b32) 7).trans rfl))) ( rfl)))
    · -- 7 law.go:95
      rintro aa ww hE hF ⟨-⟩
      have o10 : aa.eval (.tmp 10) = .int .i64 (k : Int) := hF.carry (fun v _ => v = .int .i64 (k : Int)) rfl (stab_eq _) hE T10
      exact opAt rfl (ok_run rfl (run_here rfl (ex_move (.inl rfl) o10) ( rfl)))
    · -- 8 law.go:95
      rintro aa ww hE hF ⟨-, d6, d7, -⟩
      replace d6 : aa.eval (.tmp 48) = .slice x35 ((((passR (toM m) (s.extract 0 ((min (s.size : Int) 60)).toNat)).1).hops).length) c36 := d6
      replace d7 : aa.eval (.tmp 49) = .int .i64 (k : Int) := d7
      exact opAt rfl (ok_run rfl (run_here rfl (ex_indexAddr rfl (by rw [show aa.eval (.tmp 48) = .slice x35 ((((passR (toM m) (s.extract 0 ((min (s.size : Int) 60)).toNat)).1).hops).length) c36 from d6, show aa.eval (.tmp 49) = .int .i64 (k : Int) from d7, eZ]; exact index_slice Tryd.underlying24 hlt (fun w => Tryd.sizeOf9 w))) ( rfl)))
    · -- 9 law.go:95
      rintro aa ww hE hF ⟨-, -, -, d8, -⟩
      replace d8 : aa.eval (.tmp 50) = .pointer (some ⟨gz, 0 + k * 1, none⟩) := d8
      exact opAt rfl (ok_run rfl (run_here rfl (ex_load rfl d8 (load_cell Tryd.isAgg9 (own_get (S34.ext hE) eZ (get_lt hlt)))) ( rfl)))
    · -- 10 law.go:95
      rintro aa ww hE hF ⟨-, -, -, -, d4, -, -, -, -, d9, -⟩
      replace d4 : aa.eval (.tmp 46) = .string ((passR (toM m) (s.extract 0 ((min (s.size : Int) 60)).toNat)).1.hops[k]'hlt) := d4
      replace d9 : aa.eval (.tmp 51) = .string ((passR (toM m) (s.extract 0 ((min (s.size : Int) 60)).toNat)).1.hops[k]'hlt) := d9
      exact opAt rfl (ok_run rfl (run_here rfl (ex_binOp rfl (by rw [show aa.eval (.tmp 46) = .string ((passR (toM m) (s.extract 0 ((min (s.size : Int) 60)).toNat)).1.hops[k]'hlt) from d4, show aa.eval (.tmp 51) = .string ((passR (toM m) (s.extract 0 ((min (s.size : Int) 60)).toNat)).1.hops[k]'hlt) from d9]; exact eqg_str) (by rw [show aa.eval (.tmp 46) = .string ((passR (toM m) (s.extract 0 ((min (s.size : Int) 60)).toNat)).1.hops[k]'hlt) from d4, show aa.eval (.tmp 51) = .string ((passR (toM m) (s.extract 0 ((min (s.size : Int) 60)).toNat)).1.hops[k]'hlt) from d9]; exact bin_sneq)) ( (by simp))))
    intro a53 w54 hE hF hfac hap
    obtain ⟨f0, f1, f2, f3, f4, f5, f6, f7, f8, f9, f10, -⟩ := hfac
    replace N := hF.size.trans N
    replace D := hF.defers.trans D
    replace R_b4 := hE.row R_b4
    replace R_b9 := hE.row R_b9
    replace R_b22 := hE.row R_b22
    replace R_b32 := hE.row R_b32
    replace S11 : OwnStrs 0 ((toM m).hops) w54 (.slice x12 (((toM m).hops).length) c13) := S11.ext hE
    replace S24 : OwnStrs w17.heap.size (chg (passR (toM m) (s.extract 0 ((min (s.size : Int) 60)).toNat)).1.hops k) w54 (.slice x25 ((((passR (toM m) (s.extract 0 ((min (s.size : Int) 60)).toNat)).1).hops).length) c26) := S24.ext hE
    replace S34 : OwnStrs w27.heap.size (((passR (toM m) (s.extract 0 ((min (s.size : Int) 60)).toNat)).1).hops) w54 (.slice x35 ((((passR (toM m) (s.extract 0 ((min (s.size : Int) 60)).toNat)).1).hops).length) c36) := S34.ext hE
    replace T2 : (fun v _ => v = .pointer (some ⟨b4, 0, none⟩)) (a53.at 2) w54 := hF.carry (fun v _ => v = .pointer (some ⟨b4, 0, none⟩)) rfl (stab_eq _) hE T2
    replace T4 : (fun v _ => v = .bool false) (a53.at 4) w54 := hF.carry (fun v _ => v = .bool false) rfl (stab_eq _) hE T4
    replace T5 : (fun v _ => v = .pointer (some ⟨b9, 0, none⟩)) (a53.at 5) w54 := hF.carry (fun v _ => v = .pointer (some ⟨b9, 0, none⟩)) rfl (stab_eq _) hE T5
    replace T6 : (fun v _ => v = .pointer (some ⟨b22, 0, none⟩)) (a53.at 6) w54 := hF.carry (fun v _ => v = .pointer (some ⟨b22, 0, none⟩)) rfl (stab_eq _) hE T6
    replace T7 : (fun v _ => v = .int .i64 ((passR (toM m) (s.extract 0 ((min (s.size : Int) 60)).toNat)).2 : Int)) (a53.at 7) w54 := hF.carry (fun v _ => v = .int .i64 ((passR (toM m) (s.extract 0 ((min (s.size : Int) 60)).toNat)).2 : Int)) rfl (stab_eq _) hE T7
    replace T8 : (fun v _ => v = .pointer (some ⟨b32, 0, none⟩)) (a53.at 8) w54 := hF.carry (fun v _ => v = .pointer (some ⟨b32, 0, none⟩)) rfl (stab_eq _) hE T8
    replace T9 : (fun v _ => v = .int .i64 ((passR (toM m) (s.extract 0 ((min (s.size : Int) 60)).toNat)).2 : Int)) (a53.at 9) w54 := hF.carry (fun v _ => v = .int .i64 ((passR (toM m) (s.extract 0 ((min (s.size : Int) 60)).toNat)).2 : Int)) rfl (stab_eq _) hE T9
    replace T10 : (fun v _ => v = .int .i64 (k : Int)) (a53.at 10) w54 := hF.carry (fun v _ => v = .int .i64 (k : Int)) rfl (stab_eq _) hE T10
    have T52 : (fun v _ => v = .bool false) (a53.at 52) w54 := f10
    replace E := E.trans hE
    clear hE hF hap
    show wpOps _ (rg Tryd.f5 8) _ [] _ _
    refine hK52 _ _ ?_
    refine wp_cond_false T52 ?_
    refine wp_skip ?_
    refine hK51 _ _ ?_
    -- region 10: law.go:98
    show (Code.region 10 (rg Tryd.f5 10) false).wp _ _ _ _
    refine plain_list (n := 4) (N := 79) (deps := [[], [0], [], [1, 2]]) (F := [(fun v _ => v = .pointer (some ⟨b22, 7, none⟩)), (fun v _ => v = .slice x25 ((((passR (toM m) (s.extract 0 ((min (s.size : Int) 60)).toNat)).1).hops).length) c26), (fun v _ => v = .int .i64 (k : Int)), (fun v _ => v = .pointer (some ⟨gy, 0 + k * 1, none⟩))]) (by kernel_rfl) (by kernel_rfl) rfl (by kernel_rfl) ⟨(stab_eq _), (stab_eq _), (stab_eq _), (stab_eq _), trivial⟩ N (by kernel_rfl) ⟨?_, ?_, ?_, ?_, trivial⟩ ?_
    · -- 0 law.go:98
      rintro aa ww hE hF ⟨-⟩
      have o6 : aa.eval (.tmp 6) = .pointer (some ⟨b22, 0, none⟩) := hF.carry (fun v _ => v = .pointer (some ⟨b22, 0, none⟩)) rfl (stab_eq _) hE T6
      exact opAt rfl (ok_run rfl (run_here rfl (ex_fieldAddr rfl o6 Tryd.underlying29 rfl (fun w => ⟨_, Tryd.sizeOf24 w⟩) rfl) ( rfl)))
    · -- 1 law.go:98
      rintro aa ww hE hF ⟨d0, -⟩
      replace d0 : aa.eval (.tmp 53) = .pointer (some ⟨b22, 7, none⟩) := d0
      exact opAt rfl (ok_run rfl (run_here rfl (ex_load rfl d0 (load_cell Tryd.isAgg24 ((cell_row (hE.row R_b22) 7).trans rfl))) ( rfl)))
    · -- 2 law.go:98
      rintro aa ww hE hF ⟨-⟩
      have o10 : aa.eval (.tmp 10) = .int .i64 (k : Int) := hF.carry (fun v _ => v = .int .i64 (k : Int)) rfl (stab_eq _) hE T10
      exact opAt rfl (ok_run rfl (run_here rfl (ex_move (.inl rfl) o10) ( rfl)))
    · -- 3 law.go:98
      rintro aa ww hE hF ⟨d1, d2, -⟩
      replace d1 : aa.eval (.tmp 54) = .slice x25 ((((passR (toM m) (s.extract 0 ((min (s.size : Int) 60)).toNat)).1).hops).length) c26 := d1
      replace d2 : aa.eval (.tmp 55) = .int .i64 (k : Int) := d2
      exact opAt rfl (ok_run rfl (run_here rfl (ex_indexAddr rfl (by rw [show aa.eval (.tmp 54) = .slice x25 ((((passR (toM m) (s.extract 0 ((min (s.size : Int) 60)).toNat)).1).hops).length) c26 from d1, show aa.eval (.tmp 55) = .int .i64 (k : Int) from d2, eY]; exact index_slice Tryd.underlying24 hlt (fun w => Tryd.sizeOf9 w))) ( rfl)))
    intro a55 w56 hE hF hfac hap
    obtain ⟨f0, f1, f2, f3, -⟩ := hfac
    replace N := hF.size.trans N
    replace D := hF.defers.trans D
    replace R_b4 := hE.row R_b4
    replace R_b9 := hE.row R_b9
    replace R_b22 := hE.row R_b22
    replace R_b32 := hE.row R_b32
    replace S11 : OwnStrs 0 ((toM m).hops) w56 (.slice x12 (((toM m).hops).length) c13) := S11.ext hE
    replace S24 : OwnStrs w17.heap.size (chg (passR (toM m) (s.extract 0 ((min (s.size : Int) 60)).toNat)).1.hops k) w56 (.slice x25 ((((passR (toM m) (s.extract 0 ((min (s.size : Int) 60)).toNat)).1).hops).length) c26) := S24.ext hE
    replace S34 : OwnStrs w27.heap.size (((passR (toM m) (s.extract 0 ((min (s.size : Int) 60)).toNat)).1).hops) w56 (.slice x35 ((((passR (toM m) (s.extract 0 ((min (s.size : Int) 60)).toNat)).1).hops).length) c36) := S34.ext hE
    replace T2 : (fun v _ => v = .pointer (some ⟨b4, 0, none⟩)) (a55.at 2) w56 := hF.carry (fun v _ => v = .pointer (some ⟨b4, 0, none⟩)) rfl (stab_eq _) hE T2
    replace T4 : (fun v _ => v = .bool false) (a55.at 4) w56 := hF.carry (fun v _ => v = .bool false) rfl (stab_eq _) hE T4
    replace T5 : (fun v _ => v = .pointer (some ⟨b9, 0, none⟩)) (a55.at 5) w56 := hF.carry (fun v _ => v = .pointer (some ⟨b9, 0, none⟩)) rfl (stab_eq _) hE T5
    replace T6 : (fun v _ => v = .pointer (some ⟨b22, 0, none⟩)) (a55.at 6) w56 := hF.carry (fun v _ => v = .pointer (some ⟨b22, 0, none⟩)) rfl (stab_eq _) hE T6
    replace T7 : (fun v _ => v = .int .i64 ((passR (toM m) (s.extract 0 ((min (s.size : Int) 60)).toNat)).2 : Int)) (a55.at 7) w56 := hF.carry (fun v _ => v = .int .i64 ((passR (toM m) (s.extract 0 ((min (s.size : Int) 60)).toNat)).2 : Int)) rfl (stab_eq _) hE T7
    replace T8 : (fun v _ => v = .pointer (some ⟨b32, 0, none⟩)) (a55.at 8) w56 := hF.carry (fun v _ => v = .pointer (some ⟨b32, 0, none⟩)) rfl (stab_eq _) hE T8
    replace T9 : (fun v _ => v = .int .i64 ((passR (toM m) (s.extract 0 ((min (s.size : Int) 60)).toNat)).2 : Int)) (a55.at 9) w56 := hF.carry (fun v _ => v = .int .i64 ((passR (toM m) (s.extract 0 ((min (s.size : Int) 60)).toNat)).2 : Int)) rfl (stab_eq _) hE T9
    replace T10 : (fun v _ => v = .int .i64 (k : Int)) (a55.at 10) w56 := hF.carry (fun v _ => v = .int .i64 (k : Int)) rfl (stab_eq _) hE T10
    replace T52 : (fun v _ => v = .bool false) (a55.at 52) w56 := hF.carry (fun v _ => v = .bool false) rfl (stab_eq _) hE T52
    have T56 : (fun v _ => v = .pointer (some ⟨gy, 0 + k * 1, none⟩)) (a55.at 56) w56 := f3
    replace E := E.trans hE
    clear hE hF hap
    show wpOps _ (rg Tryd.f5 10) _ [4] _ _
    obtain ⟨w57, hst, hown, hrow, hext, hoth⟩ := own_put (k := k) ⟨#[99, 104, 97, 110, 103, 101, 100]⟩ S24 eY (by rw [chg_len]; exact hlt)
    refine tail_do rfl rfl rfl (ex_store rfl (show a55.eval (.tmp 56) = .pointer (some ⟨gy, 0 + k * 1, none⟩) from T56) (by rw [show a55.eval (.const (.string ⟨#[99, 104, 97, 110, 103, 101, 100]⟩)) = .string ⟨#[99, 104, 97, 110, 103, 101, 100]⟩ from (ev_const (v := .string ⟨#[99, 104, 97, 110, 103, 101, 100]⟩))]; exact hst)) ?_
    replace R_b4 := hrow _ _ _ R_b4 rfl
    replace R_b9 := hrow _ _ _ R_b9 rfl
    replace R_b22 := hrow _ _ _ R_b22 rfl
    replace R_b32 := hrow _ _ _ R_b32 rfl
    have gB := own_ge S24 gy (by rw [eY]; rfl)
    replace S24 : OwnStrs w17.heap.size (chg (passR (toM m) (s.extract 0 ((min (s.size : Int) 60)).toNat)).1.hops (k + 1)) w57 (.slice x25 ((((passR (toM m) (s.extract 0 ((min (s.size : Int) 60)).toNat)).1).hops).length) c26) := hown
    replace S11 := hoth _ _ _ S11 (fun g' e e' => by have h1 := HX g' e; omega)
    replace S34 := hoth _ _ _ S34 (fun g' e e' => by have h1 := own_ge S34 g' e; have h2 := HG gy (by rw [eY]; rfl); omega)
    replace E := hext _ E HS
    replace T2 : (fun v _ => v = .pointer (some ⟨b4, 0, none⟩)) (a55.at 2) w57 := T2
    replace T4 : (fun v _ => v = .bool false) (a55.at 4) w57 := T4
    replace T5 : (fun v _ => v = .pointer (some ⟨b9, 0, none⟩)) (a55.at 5) w57 := T5
    replace T6 : (fun v _ => v = .pointer (some ⟨b22, 0, none⟩)) (a55.at 6) w57 := T6
    replace T7 : (fun v _ => v = .int .i64 ((passR (toM m) (s.extract 0 ((min (s.size : Int) 60)).toNat)).2 : Int)) (a55.at 7) w57 := T7
    replace T8 : (fun v _ => v = .pointer (some ⟨b32, 0, none⟩)) (a55.at 8) w57 := T8
    replace T9 : (fun v _ => v = .int .i64 ((passR (toM m) (s.extract 0 ((min (s.size : Int) 60)).toNat)).2 : Int)) (a55.at 9) w57 := T9
    replace T10 : (fun v _ => v = .int .i64 (k : Int)) (a55.at 10) w57 := T10
    replace T52 : (fun v _ => v = .bool false) (a55.at 52) w57 := T52
    replace T56 : (fun v _ => v = .pointer (some ⟨gy, 0 + k * 1, none⟩)) (a55.at 56) w57 := T56
    clear hst hown hrow hext hoth
    clear T56
    refine hK50 _ _ ?_
    -- region 7: law.go:94
    show (Code.region 7 (rg Tryd.f5 7) false).wp _ _ _ _
    refine plain_list (n := 2) (N := 79) (deps := [[], [0]]) (F := [(fun v _ => v = .int .i64 (k : Int)), (fun v _ => v = .int .i64 ((k : Int) + 1))]) (by kernel_rfl) (by kernel_rfl) rfl (by kernel_rfl) ⟨(stab_eq _), (stab_eq _), trivial⟩ N (by kernel_rfl) ⟨?_, ?_, trivial⟩ ?_
    · -- 0 law.go:94
      rintro aa ww hE hF ⟨-⟩
      have o10 : aa.eval (.tmp 10) = .int .i64 (k : Int) := hF.carry (fun v _ => v = .int .i64 (k : Int)) rfl (stab_eq _) hE T10
      exact opAt rfl (ok_run rfl (run_here rfl (ex_move (.inl rfl) o10) ( rfl)))
    · -- 1 law.go:94
      rintro aa ww hE hF ⟨d0, -⟩
      replace d0 : aa.eval (.tmp 40) = .int .i64 (k : Int) := d0
      exact opAt rfl (ok_run rfl (run_here rfl (ex_binOp rfl (by rw [show aa.eval (.tmp 40) = .int .i64 (k : Int) from d0, show aa.eval (.const (.int .i64 1)) = .int .i64 1 from (ev_const (v := .int .i64 1))]; exact eqg_int) (by rw [show aa.eval (.tmp 40) = .int .i64 (k : Int) from d0, show aa.eval (.const (.int .i64 1)) = .int .i64 1 from (ev_const (v := .int .i64 1))]; exact bin_addN (by omega) (by omega))) ( rfl)))
    intro a58 w59 hE hF hfac hap
    obtain ⟨f0, f1, -⟩ := hfac
    replace N := hF.size.trans N
    replace D := hF.defers.trans D
    replace R_b4 := hE.row R_b4
    replace R_b9 := hE.row R_b9
    replace R_b22 := hE.row R_b22
    replace R_b32 := hE.row R_b32
    replace S11 : OwnStrs 0 ((toM m).hops) w59 (.slice x12 (((toM m).hops).length) c13) := S11.ext hE
    replace S24 : OwnStrs w17.heap.size (chg (passR (toM m) (s.extract 0 ((min (s.size : Int) 60)).toNat)).1.hops (k + 1)) w59 (.slice x25 ((((passR (toM m) (s.extract 0 ((min (s.size : Int) 60)).toNat)).1).hops).length) c26) := S24.ext hE
    replace S34 : OwnStrs w27.heap.size (((passR (toM m) (s.extract 0 ((min (s.size : Int) 60)).toNat)).1).hops) w59 (.slice x35 ((((passR (toM m) (s.extract 0 ((min (s.size : Int) 60)).toNat)).1).hops).length) c36) := S34.ext hE
    replace T2 : (fun v _ => v = .pointer (some ⟨b4, 0, none⟩)) (a58.at 2) w59 := hF.carry (fun v _ => v = .pointer (some ⟨b4, 0, none⟩)) rfl (stab_eq _) hE T2
    replace T4 : (fun v _ => v = .bool false) (a58.at 4) w59 := hF.carry (fun v _ => v = .bool false) rfl (stab_eq _) hE T4
    replace T5 : (fun v _ => v = .pointer (some ⟨b9, 0, none⟩)) (a58.at 5) w59 := hF.carry (fun v _ => v = .pointer (some ⟨b9, 0, none⟩)) rfl (stab_eq _) hE T5
    replace T6 : (fun v _ => v = .pointer (some ⟨b22, 0, none⟩)) (a58.at 6) w59 := hF.carry (fun v _ => v = .pointer (some ⟨b22, 0, none⟩)) rfl (stab_eq _) hE T6
    replace T7 : (fun v _ => v = .int .i64 ((passR (toM m) (s.extract 0 ((min (s.size : Int) 60)).toNat)).2 : Int)) (a58.at 7) w59 := hF.carry (fun v _ => v = .int .i64 ((passR (toM m) (s.extract 0 ((min (s.size : Int) 60)).toNat)).2 : Int)) rfl (stab_eq _) hE T7
    replace T8 : (fun v _ => v = .pointer (some ⟨b32, 0, none⟩)) (a58.at 8) w59 := hF.carry (fun v _ => v = .pointer (some ⟨b32, 0, none⟩)) rfl (stab_eq _) hE T8
    replace T9 : (fun v _ => v = .int .i64 ((passR (toM m) (s.extract 0 ((min (s.size : Int) 60)).toNat)).2 : Int)) (a58.at 9) w59 := hF.carry (fun v _ => v = .int .i64 ((passR (toM m) (s.extract 0 ((min (s.size : Int) 60)).toNat)).2 : Int)) rfl (stab_eq _) hE T9
    replace T10 : (fun v _ => v = .int .i64 (k : Int)) (a58.at 10) w59 := hF.carry (fun v _ => v = .int .i64 (k : Int)) rfl (stab_eq _) hE T10
    replace T52 : (fun v _ => v = .bool false) (a58.at 52) w59 := hF.carry (fun v _ => v = .bool false) rfl (stab_eq _) hE T52
    have T41 : (fun v _ => v = .int .i64 ((k : Int) + 1)) (a58.at 41) w59 := f1
    replace E := E.trans hE
    clear hE hF hap
    show wpOps _ (rg Tryd.f5 7) _ [2] _ _
    refine tail_val rfl rfl rfl (ex_move (.inr rfl) (v := .int .i64 ((k : Int) + 1)) (show a58.eval (.tmp 41) = .int .i64 ((k : Int) + 1) from T41)) ?_
    obtain ⟨a60, ha⟩ : ∃ x : Act, x = a58.put (some 10) (.int .i64 ((k : Int) + 1)) := ⟨_, rfl⟩
    rw [← ha]
    replace T2 : (fun v _ => v = .pointer (some ⟨b4, 0, none⟩)) (a60.at 2) w59 := by rw [ha, put_other rfl]; exact T2
    replace T4 : (fun v _ => v = .bool false) (a60.at 4) w59 := by rw [ha, put_other rfl]; exact T4
    replace T5 : (fun v _ => v = .pointer (some ⟨b9, 0, none⟩)) (a60.at 5) w59 := by rw [ha, put_other rfl]; exact T5
    replace T6 : (fun v _ => v = .pointer (some ⟨b22, 0, none⟩)) (a60.at 6) w59 := by rw [ha, put_other rfl]; exact T6
    replace T7 : (fun v _ => v = .int .i64 ((passR (toM m) (s.extract 0 ((min (s.size : Int) 60)).toNat)).2 : Int)) (a60.at 7) w59 := by rw [ha, put_other rfl]; exact T7
    replace T8 : (fun v _ => v = .pointer (some ⟨b32, 0, none⟩)) (a60.at 8) w59 := by rw [ha, put_other rfl]; exact T8
    replace T9 : (fun v _ => v = .int .i64 ((passR (toM m) (s.extract 0 ((min (s.size : Int) 60)).toNat)).2 : Int)) (a60.at 9) w59 := by rw [ha, put_other rfl]; exact T9
    replace T52 : (fun v _ => v = .bool false) (a60.at 52) w59 := by rw [ha, put_other rfl]; exact T52
    replace T41 : (fun v _ => v = .int .i64 ((k : Int) + 1)) (a60.at 41) w59 := by rw [ha, put_other rfl]; exact T41
    replace T10 : (fun v _ => v = .int .i64 ((k : Int) + 1)) (a60.at 10) w59 := by rw [ha, put_same N (by decide)]; skip
    replace N := (ha ▸ put_size _ _ _ : a60.tmps.size = _).trans N
    replace D := (ha ▸ put_defers' _ _ _ : a60.defers = _).trans D
    clear ha
    clear T41
    -- the round's end
    have hμ := HM.out
    refine ⟨_, by rw [hI42]; exact ⟨k + 1, N, D, E, T2, T4, T5, T6, T7, T8, T9, T10, R_b4, R_b9, R_b22, R_b32, S11, S24, S34, rfl, hlt⟩, ?_⟩
    omega
  · clear T39
    refine wp_exit ?_
    refine hK39 _ _ ?_
    refine wp_seq_k (fun K61 hK61 => ?_)
    -- region 11: law.go:100
    show (Code.region 11 (rg Tryd.f5 11) false).wp _ _ _ _
    refine plain_list (n := 1) (N := 79) (deps := [[]]) (F := [(fun v _ => v = .pointer (some ⟨b22, 7, none⟩))]) (by kernel_rfl) (by kernel_rfl) rfl (by kernel_rfl) ⟨(stab_eq _), trivial⟩ N (by kernel_rfl) ⟨?_, trivial⟩ ?_
    · -- 0 law.go:100
      rintro aa ww hE hF ⟨-⟩
      have o6 : aa.eval (.tmp 6) = .pointer (some ⟨b22, 0, none⟩) := hF.carry (fun v _ => v = .pointer (some ⟨b22, 0, none⟩)) rfl (stab_eq _) hE T6
      exact opAt rfl (ok_run rfl (run_here rfl (ex_fieldAddr rfl o6 Tryd.underlying29 rfl (fun w => ⟨_, Tryd.sizeOf24 w⟩) rfl) ( rfl)))
    intro a62 w63 hE hF hfac hap
    obtain ⟨f0, -⟩ := hfac
    replace N := hF.size.trans N
    replace D := hF.defers.trans D
    replace R_b4 := hE.row R_b4
    replace R_b9 := hE.row R_b9
    replace R_b22 := hE.row R_b22
    replace R_b32 := hE.row R_b32
    replace S11 : OwnStrs 0 ((toM m).hops) w63 (.slice x12 (((toM m).hops).length) c13) := S11.ext hE
    replace S24 : OwnStrs w17.heap.size (chg (passR (toM m) (s.extract 0 ((min (s.size : Int) 60)).toNat)).1.hops k) w63 (.slice x25 ((((passR (toM m) (s.extract 0 ((min (s.size : Int) 60)).toNat)).1).hops).length) c26) := S24.ext hE
    replace S34 : OwnStrs w27.heap.size (((passR (toM m) (s.extract 0 ((min (s.size : Int) 60)).toNat)).1).hops) w63 (.slice x35 ((((passR (toM m) (s.extract 0 ((min (s.size : Int) 60)).toNat)).1).hops).length) c36) := S34.ext hE
    replace T2 : (fun v _ => v = .pointer (some ⟨b4, 0, none⟩)) (a62.at 2) w63 := hF.carry (fun v _ => v = .pointer (some ⟨b4, 0, none⟩)) rfl (stab_eq _) hE T2
    replace T4 : (fun v _ => v = .bool false) (a62.at 4) w63 := hF.carry (fun v _ => v = .bool false) rfl (stab_eq _) hE T4
    replace T5 : (fun v _ => v = .pointer (some ⟨b9, 0, none⟩)) (a62.at 5) w63 := hF.carry (fun v _ => v = .pointer (some ⟨b9, 0, none⟩)) rfl (stab_eq _) hE T5
    replace T6 : (fun v _ => v = .pointer (some ⟨b22, 0, none⟩)) (a62.at 6) w63 := hF.carry (fun v _ => v = .pointer (some ⟨b22, 0, none⟩)) rfl (stab_eq _) hE T6
    replace T7 : (fun v _ => v = .int .i64 ((passR (toM m) (s.extract 0 ((min (s.size : Int) 60)).toNat)).2 : Int)) (a62.at 7) w63 := hF.carry (fun v _ => v = .int .i64 ((passR (toM m) (s.extract 0 ((min (s.size : Int) 60)).toNat)).2 : Int)) rfl (stab_eq _) hE T7
    replace T8 : (fun v _ => v = .pointer (some ⟨b32, 0, none⟩)) (a62.at 8) w63 := hF.carry (fun v _ => v = .pointer (some ⟨b32, 0, none⟩)) rfl (stab_eq _) hE T8
    replace T9 : (fun v _ => v = .int .i64 ((passR (toM m) (s.extract 0 ((min (s.size : Int) 60)).toNat)).2 : Int)) (a62.at 9) w63 := hF.carry (fun v _ => v = .int .i64 ((passR (toM m) (s.extract 0 ((min (s.size : Int) 60)).toNat)).2 : Int)) rfl (stab_eq _) hE T9
    clear T10
    have T57 : (fun v _ => v = .pointer (some ⟨b22, 7, none⟩)) (a62.at 57) w63 := f0
    replace E := E.trans hE
    clear hE hF hap
    show wpOps _ (rg Tryd.f5 11) _ [1, 2, 3] _ _
    refine tail_do rfl rfl rfl (ex_store rfl (show a62.eval (.tmp 57) = .pointer (some ⟨b22, 7, none⟩) from T57) (by rw [show a62.eval (.const (.slice none 0 0)) = .slice none 0 0 from (ev_const (v := .slice none 0 0))]; exact store_cell R_b22 (Nat.le_of_ble_eq_true rfl) Tryd.sizeOf24 rfl rfl)) ?_
    obtain ⟨w64, hw⟩ : ∃ x : World, x = w63.setRow b22 (Array.setIfInBounds (msgC ((passR (toM m) (s.extract 0 ((min (s.size : Int) 60)).toNat)).1) (.slice x25 ((((passR (toM m) (s.extract 0 ((min (s.size : Int) 60)).toNat)).1).hops).length) c26)) 7 (.slice none 0 0)) := ⟨_, rfl⟩
    rw [← hw]
    replace R_b4 := hw ▸ row_other R_b4 (by first | exact NE_b4_b22 | exact NE_b22_b4.symm)
    replace R_b9 := hw ▸ row_other R_b9 (by first | exact NE_b9_b22 | exact NE_b22_b9.symm)
    replace R_b32 := hw ▸ row_other R_b32 (by first | exact NE_b32_b22 | exact NE_b22_b32.symm)
    replace E : Ext w w64 := hw ▸ below_row E B_b22
    replace T2 : (fun v _ => v = .pointer (some ⟨b4, 0, none⟩)) (a62.at 2) w64 := T2
    replace T4 : (fun v _ => v = .bool false) (a62.at 4) w64 := T4
    replace T5 : (fun v _ => v = .pointer (some ⟨b9, 0, none⟩)) (a62.at 5) w64 := T5
    replace T6 : (fun v _ => v = .pointer (some ⟨b22, 0, none⟩)) (a62.at 6) w64 := T6
    replace T7 : (fun v _ => v = .int .i64 ((passR (toM m) (s.extract 0 ((min (s.size : Int) 60)).toNat)).2 : Int)) (a62.at 7) w64 := T7
    replace T8 : (fun v _ => v = .pointer (some ⟨b32, 0, none⟩)) (a62.at 8) w64 := T8
    replace T9 : (fun v _ => v = .int .i64 ((passR (toM m) (s.extract 0 ((min (s.size : Int) 60)).toNat)).2 : Int)) (a62.at 9) w64 := T9
    replace T57 : (fun v _ => v = .pointer (some ⟨b22, 7, none⟩)) (a62.at 57) w64 := T57
    replace S11 : OwnStrs 0 ((toM m).hops) w64 (.slice x12 (((toM m).hops).length) c13) := hw ▸ S11.setRow R_b22 rfl
    replace S24 : OwnStrs w17.heap.size (chg (passR (toM m) (s.extract 0 ((min (s.size : Int) 60)).toNat)).1.hops k) w64 (.slice x25 ((((passR (toM m) (s.extract 0 ((min (s.size : Int) 60)).toNat)).1).hops).length) c26) := hw ▸ S24.setRow R_b22 rfl
    replace S34 : OwnStrs w27.heap.size (((passR (toM m) (s.extract 0 ((min (s.size : Int) 60)).toNat)).1).hops) w64 (.slice x35 ((((passR (toM m) (s.extract 0 ((min (s.size : Int) 60)).toNat)).1).hops).length) c36) := hw ▸ S34.setRow R_b22 rfl
    replace R_b22 : w64.heap[b22]? = some (.cells (msgC ({ (passR (toM m) (s.extract 0 ((min (s.size : Int) 60)).toNat)).1 with hops := [] }) (.slice none 0 0)) 29 (0, 0)) := by rw [hw]; exact setRow_heap _ _ _ _ _ _ R_b22
    clear hw
    refine tail_val rfl rfl rfl (v := .pointer (some ⟨b32, 7, none⟩)) (ex_fieldAddr rfl (show a62.eval (.tmp 8) = .pointer (some ⟨b32, 0, none⟩) from T8) Tryd.underlying26 rfl (fun w => ⟨_, Tryd.sizeOf24 w⟩) rfl) ?_
    obtain ⟨a65, ha⟩ : ∃ x : Act, x = a62.put (some 58) (.pointer (some ⟨b32, 7, none⟩)) := ⟨_, rfl⟩
    rw [← ha]
    replace T2 : (fun v _ => v = .pointer (some ⟨b4, 0, none⟩)) (a65.at 2) w64 := by rw [ha, put_other rfl]; exact T2
    replace T4 : (fun v _ => v = .bool false) (a65.at 4) w64 := by rw [ha, put_other rfl]; exact T4
    replace T5 : (fun v _ => v = .pointer (some ⟨b9, 0, none⟩)) (a65.at 5) w64 := by rw [ha, put_other rfl]; exact T5
    replace T6 : (fun v _ => v = .pointer (some ⟨b22, 0, none⟩)) (a65.at 6) w64 := by rw [ha, put_other rfl]; exact T6
    replace T7 : (fun v _ => v = .int .i64 ((passR (toM m) (s.extract 0 ((min (s.size : Int) 60)).toNat)).2 : Int)) (a65.at 7) w64 := by rw [ha, put_other rfl]; exact T7
    replace T8 : (fun v _ => v = .pointer (some ⟨b32, 0, none⟩)) (a65.at 8) w64 := by rw [ha, put_other rfl]; exact T8
    replace T9 : (fun v _ => v = .int .i64 ((passR (toM m) (s.extract 0 ((min (s.size : Int) 60)).toNat)).2 : Int)) (a65.at 9) w64 := by rw [ha, put_other rfl]; exact T9
    replace T57 : (fun v _ => v = .pointer (some ⟨b22, 7, none⟩)) (a65.at 57) w64 := by rw [ha, put_other rfl]; exact T57
    have T58 : (fun v _ => v = .pointer (some ⟨b32, 7, none⟩)) (a65.at 58) w64 := by rw [ha, put_same N (by decide)]; skip
    replace N := (ha ▸ put_size _ _ _ : a65.tmps.size = _).trans N
    replace D := (ha ▸ put_defers' _ _ _ : a65.defers = _).trans D
    clear ha
    refine tail_do rfl rfl rfl (ex_store rfl (show a65.eval (.tmp 58) = .pointer (some ⟨b32, 7, none⟩) from T58) (by rw [show a65.eval (.const (.slice none 0 0)) = .slice none 0 0 from (ev_const (v := .slice none 0 0))]; exact store_cell R_b32 (Nat.le_of_ble_eq_true rfl) Tryd.sizeOf24 rfl rfl)) ?_
    obtain ⟨w66, hw⟩ : ∃ x : World, x = w64.setRow b32 (Array.setIfInBounds (msgC ((passR (toM m) (s.extract 0 ((min (s.size : Int) 60)).toNat)).1) (.slice x35 ((((passR (toM m) (s.extract 0 ((min (s.size : Int) 60)).toNat)).1).hops).length) c36)) 7 (.slice none 0 0)) := ⟨_, rfl⟩
    rw [← hw]
    replace R_b4 := hw ▸ row_other R_b4 (by first | exact NE_b4_b32 | exact NE_b32_b4.symm)
    replace R_b9 := hw ▸ row_other R_b9 (by first | exact NE_b9_b32 | exact NE_b32_b9.symm)
    replace R_b22 := hw ▸ row_other R_b22 (by first | exact NE_b22_b32 | exact NE_b32_b22.symm)
    replace E : Ext w w66 := hw ▸ below_row E B_b32
    replace T2 : (fun v _ => v = .pointer (some ⟨b4, 0, none⟩)) (a65.at 2) w66 := T2
    replace T4 : (fun v _ => v = .bool false) (a65.at 4) w66 := T4
    replace T5 : (fun v _ => v = .pointer (some ⟨b9, 0, none⟩)) (a65.at 5) w66 := T5
    replace T6 : (fun v _ => v = .pointer (some ⟨b22, 0, none⟩)) (a65.at 6) w66 := T6
    replace T7 : (fun v _ => v = .int .i64 ((passR (toM m) (s.extract 0 ((min (s.size : Int) 60)).toNat)).2 : Int)) (a65.at 7) w66 := T7
    replace T8 : (fun v _ => v = .pointer (some ⟨b32, 0, none⟩)) (a65.at 8) w66 := T8
    replace T9 : (fun v _ => v = .int .i64 ((passR (toM m) (s.extract 0 ((min (s.size : Int) 60)).toNat)).2 : Int)) (a65.at 9) w66 := T9
    replace T57 : (fun v _ => v = .pointer (some ⟨b22, 7, none⟩)) (a65.at 57) w66 := T57
    replace T58 : (fun v _ => v = .pointer (some ⟨b32, 7, none⟩)) (a65.at 58) w66 := T58
    replace S11 : OwnStrs 0 ((toM m).hops) w66 (.slice x12 (((toM m).hops).length) c13) := hw ▸ S11.setRow R_b32 rfl
    replace S24 : OwnStrs w17.heap.size (chg (passR (toM m) (s.extract 0 ((min (s.size : Int) 60)).toNat)).1.hops k) w66 (.slice x25 ((((passR (toM m) (s.extract 0 ((min (s.size : Int) 60)).toNat)).1).hops).length) c26) := hw ▸ S24.setRow R_b32 rfl
    replace S34 : OwnStrs w27.heap.size (((passR (toM m) (s.extract 0 ((min (s.size : Int) 60)).toNat)).1).hops) w66 (.slice x35 ((((passR (toM m) (s.extract 0 ((min (s.size : Int) 60)).toNat)).1).hops).length) c36) := hw ▸ S34.setRow R_b32 rfl
    replace R_b32 : w66.heap[b32]? = some (.cells (msgC ({ (passR (toM m) (s.extract 0 ((min (s.size : Int) 60)).toNat)).1 with hops := [] }) (.slice none 0 0)) 26 (0, 0)) := by rw [hw]; exact setRow_heap _ _ _ _ _ _ R_b32
    clear hw
    clear T57
    clear T58
    refine hK61 _ _ ?_
    refine wp_seq_k (fun K67 hK67 => ?_)
    -- region 12 (drawn): law.go:101
    show (Code.region 12 (rg Tryd.f5 12) true).wp _ _ _ _
    refine draw_list (n := 20) (N := 79) (deps := [[], [0], [0, 1], [0, 1], [0, 1, 2, 3], [0, 1, 2, 3, 4], [0, 1, 2, 3, 4, 5], [0, 1, 2, 3, 4, 5, 6], [0, 1, 2, 3, 4, 5, 6, 7], [0, 1, 2, 3, 4, 5, 6], [0, 1, 2, 3, 4, 5, 6, 7, 8, 9], [0, 1, 2, 3, 4, 5, 6, 7, 8, 9, 10], [0, 1, 2, 3, 4, 5, 6, 7, 8, 9, 10, 11], [0, 1, 2, 3, 4, 5, 6, 7, 8, 9, 10, 11, 12], [0, 1, 2, 3, 4, 5, 6, 7, 8, 9, 10, 11, 12, 13], [0, 1, 2, 3, 4, 5, 6, 7, 8, 9, 10, 11, 12], [0, 1, 2, 3, 4, 5, 6, 7, 8, 9, 10, 11, 12, 13, 14, 15], [0, 1, 2, 3, 4, 5, 6, 7, 8, 9, 10, 11, 12, 13, 14, 15, 16], [0, 1, 2, 3, 4, 5, 6, 7, 8, 9, 10, 11, 12, 13, 14, 15, 16, 17], [0, 1, 2, 3, 4, 5, 6, 7, 8, 9, 10, 11, 12, 13, 14, 15, 16, 17, 18], [0, 1, 2, 3, 4, 5, 6, 7, 8, 9, 10, 11, 12, 13, 14, 15, 16, 17, 18, 19]]) (F := [(fun v _ => v = .bool true), (fun v _ => v = .bool true), (fun v _ => v = .int .i64 ((passR (toM m) (s.extract 0 ((min (s.size : Int) 60)).toNat)).2 : Int)), (fun v _ => v = .int .i64 ((passR (toM m) (s.extract 0 ((min (s.size : Int) 60)).toNat)).2 : Int)), (fun v _ => v = .bool true), (fun v _ => v = .bool true), (fun v _ => v = .bool true), (IsMsg ({ (passR (toM m) (s.extract 0 ((min (s.size : Int) 60)).toNat)).1 with hops := [] })), (IsOwn ({ (passR (toM m) (s.extract 0 ((min (s.size : Int) 60)).toNat)).1 with hops := [] })), (IsMsg ({ (passR (toM m) (s.extract 0 ((min (s.size : Int) 60)).toNat)).1 with hops := [] })), (fun v _ => v = .bool (sameM ({ (passR (toM m) (s.extract 0 ((min (s.size : Int) 60)).toNat)).1 with hops := [] }) ({ (passR (toM m) (s.extract 0 ((min (s.size : Int) 60)).toNat)).1 with hops := [] }))), (fun v _ => v = .bool (sameM ({ (passR (toM m) (s.extract 0 ((min (s.size : Int) 60)).toNat)).1 with hops := [] }) ({ (passR (toM m) (s.extract 0 ((min (s.size : Int) 60)).toNat)).1 with hops := [] }))), (fun v _ => v = .bool (sameM ({ (passR (toM m) (s.extract 0 ((min (s.size : Int) 60)).toNat)).1 with hops := [] }) ({ (passR (toM m) (s.extract 0 ((min (s.size : Int) 60)).toNat)).1 with hops := [] }))), (fun v w => (sameM ({ (passR (toM m) (s.extract 0 ((min (s.size : Int) 60)).toNat)).1 with hops := [] }) ({ (passR (toM m) (s.extract 0 ((min (s.size : Int) 60)).toNat)).1 with hops := [] })) = true → (IsOwnB 0 (toM m)) v w), (fun v w => (sameM ({ (passR (toM m) (s.extract 0 ((min (s.size : Int) 60)).toNat)).1 with hops := [] }) ({ (passR (toM m) (s.extract 0 ((min (s.size : Int) 60)).toNat)).1 with hops := [] })) = true → (IsOwn (toM m)) v w), (fun v w => (sameM ({ (passR (toM m) (s.extract 0 ((min (s.size : Int) 60)).toNat)).1 with hops := [] }) ({ (passR (toM m) (s.extract 0 ((min (s.size : Int) 60)).toNat)).1 with hops := [] })) = true → (IsMsg m) v w), (fun v w => (sameM ({ (passR (toM m) (s.extract 0 ((min (s.size : Int) 60)).toNat)).1 with hops := [] }) ({ (passR (toM m) (s.extract 0 ((min (s.size : Int) 60)).toNat)).1 with hops := [] })) = true → (IsOwn (toM m)) v w), (fun v w => (sameM ({ (passR (toM m) (s.extract 0 ((min (s.size : Int) 60)).toNat)).1 with hops := [] }) ({ (passR (toM m) (s.extract 0 ((min (s.size : Int) 60)).toNat)).1 with hops := [] })) = true → (IsOwn (toM m)) v w), (fun v w => (sameM ({ (passR (toM m) (s.extract 0 ((min (s.size : Int) 60)).toNat)).1 with hops := [] }) ({ (passR (toM m) (s.extract 0 ((min (s.size : Int) 60)).toNat)).1 with hops := [] })) = true → (fun v _ => v = .bool (sameM (toM m) (toM m))) v w), (fun v _ => v = .bool ((sameM ({ (passR (toM m) (s.extract 0 ((min (s.size : Int) 60)).toNat)).1 with hops := [] }) ({ (passR (toM m) (s.extract 0 ((min (s.size : Int) 60)).toNat)).1 with hops := [] })) && (sameM (toM m) (toM m))))]) (E := []) Trydmixed ⟨by kernel_rfl, by kernel_rfl, by kernel_rfl, by kernel_rfl, by kernel_rfl, by kernel_rfl, Nat.le_of_ble_eq_true (by kernel_rfl)⟩ rfl (by kernel_rfl) ⟨(stab_eq _), (stab_eq _), (stab_eq _), (stab_eq _), (stab_eq _), (stab_eq _), (stab_eq _), (stab_msg _), (stab_own _), (stab_msg _), (stab_eq _), (stab_eq _), (stab_eq _), (stab_imp (stab_ownB _ _)), (stab_imp (stab_own _)), (stab_imp (stab_msg _)), (stab_imp (stab_own _)), (stab_imp (stab_own _)), (stab_imp (stab_eq _)), (stab_eq _), trivial⟩ N ⟨?_, ?_, ?_, ?_, ?_, ?_, ?_, ?_, ?_, ?_, ?_, ?_, ?_, ?_, ?_, ?_, ?_, ?_, ?_, ?_, trivial⟩ trivial ?_
    · -- 0 law.go:101
      rintro aa ww hE hF ⟨-⟩
      exact opAt rfl (ok_run rfl (run_callR (ψ := (fun v _ => v = .bool true)) rfl Tryd.call14 (by
      simp only [List.map_toArray, List.map_nil]
      exact ret_below (known_c _ (POW.below (E.trans hE)))) (fun _ _ h =>  h)))
    · -- 1 law.go:101
      rintro aa ww hE hF ⟨d0, -⟩
      replace d0 : aa.eval (.tmp 59) = .bool true := d0
      exact opAt rfl (ok_run rfl (run_here rfl (ex_move (.inl rfl) d0) ( rfl)))
    · -- 2 law.go:101
      rintro aa ww hE hF ⟨-, d1, -⟩
      replace d1 : aa.eval (.tmp 60) = .bool true := d1
      have o7 : aa.eval (.tmp 7) = .int .i64 ((passR (toM m) (s.extract 0 ((min (s.size : Int) 60)).toNat)).2 : Int) := hF.carry (fun v _ => v = .int .i64 ((passR (toM m) (s.extract 0 ((min (s.size : Int) 60)).toNat)).2 : Int)) rfl (stab_eq _) hE T7
      exact opAt rfl (ok_guard rfl d1 (fun _ => run_here rfl (ex_move (.inl rfl) o7) ( rfl)) (fun hn => absurd rfl hn))
    · -- 3 law.go:101
      rintro aa ww hE hF ⟨-, d1, -⟩
      replace d1 : aa.eval (.tmp 60) = .bool true := d1
      have o9 : aa.eval (.tmp 9) = .int .i64 ((passR (toM m) (s.extract 0 ((min (s.size : Int) 60)).toNat)).2 : Int) := hF.carry (fun v _ => v = .int .i64 ((passR (toM m) (s.extract 0 ((min (s.size : Int) 60)).toNat)).2 : Int)) rfl (stab_eq _) hE T9
      exact opAt rfl (ok_guard rfl d1 (fun _ => run_here rfl (ex_move (.inl rfl) o9) ( rfl)) (fun hn => absurd rfl hn))
    · -- 4 law.go:101
      rintro aa ww hE hF ⟨-, d1, d2, d3, -⟩
      replace d1 : aa.eval (.tmp 60) = .bool true := d1
      replace d2 : aa.eval (.tmp 61) = .int .i64 ((passR (toM m) (s.extract 0 ((min (s.size : Int) 60)).toNat)).2 : Int) := d2
      replace d3 : aa.eval (.tmp 62) = .int .i64 ((passR (toM m) (s.extract 0 ((min (s.size : Int) 60)).toNat)).2 : Int) := d3
      exact opAt rfl (ok_guard rfl d1 (fun _ => run_here rfl (ex_binOp rfl (by rw [show aa.eval (.tmp 61) = .int .i64 ((passR (toM m) (s.extract 0 ((min (s.size : Int) 60)).toNat)).2 : Int) from d2, show aa.eval (.tmp 62) = .int .i64 ((passR (toM m) (s.extract 0 ((min (s.size : Int) 60)).toNat)).2 : Int) from d3]; exact eqg_int) (by rw [show aa.eval (.tmp 61) = .int .i64 ((passR (toM m) (s.extract 0 ((min (s.size : Int) 60)).toNat)).2 : Int) from d2, show aa.eval (.tmp 62) = .int .i64 ((passR (toM m) (s.extract 0 ((min (s.size : Int) 60)).toNat)).2 : Int) from d3]; exact bin_eql)) ( (by rw [beq_self_eq_true]))) (fun hn => absurd rfl hn))
    · -- 5 law.go:101
      rintro aa ww hE hF ⟨-, d1, -, -, d4, -⟩
      replace d1 : aa.eval (.tmp 60) = .bool true := d1
      replace d4 : aa.eval (.tmp 63) = .bool true := d4
      exact opAt rfl (ok_run rfl (run_here rfl (ex_pick_and rfl d1 (fun hp => d4)) ( rfl)))
    · -- 6 law.go:101
      rintro aa ww hE hF ⟨-, -, -, -, -, d5, -⟩
      replace d5 : aa.eval (.tmp 64) = .bool true := d5
      exact opAt rfl (ok_run rfl (run_here rfl (ex_move (.inl rfl) d5) ( rfl)))
    · -- 7 law.go:101
      rintro aa ww hE hF ⟨-, -, -, -, -, -, d6, -⟩
      replace d6 : aa.eval (.tmp 65) = .bool true := d6
      have o6 : aa.eval (.tmp 6) = .pointer (some ⟨b22, 0, none⟩) := hF.carry (fun v _ => v = .pointer (some ⟨b22, 0, none⟩)) rfl (stab_eq _) hE T6
      exact opAt rfl (ok_guard rfl d6 (fun _ => run_here rfl (ex_load rfl o6 (load_row (hE.row R_b22) Tryd.underlying29 rfl (by kernel_rfl))) ( ⟨_, rfl, (strs_nil _ _ _)⟩)) (fun hn => absurd rfl hn))
    · -- 8 law.go:101
      rintro aa ww hE hF ⟨-, -, -, -, -, -, d6, d7, -⟩
      replace d6 : aa.eval (.tmp 65) = .bool true := d6
      replace d7 : (IsMsg ({ (passR (toM m) (s.extract 0 ((min (s.size : Int) 60)).toNat)).1 with hops := [] })) (aa.eval (.tmp 66)) ww := d7
      exact opAt rfl (ok_guard rfl d6 (fun _ => run_callR (ψ := (IsOwn ({ (passR (toM m) (s.extract 0 ((min (s.size : Int) 60)).toNat)).1 with hops := [] }))) rfl Tryd.call12 (by
      obtain ⟨hv0, e0, s0⟩ := d7
      simp only [List.map_toArray, List.map_cons, List.map_nil, e0]
      exact (of_c _ _ _ (fits_nil fP) s0 (Nat.zero_le _)).mono (fun _ _ ⟨_, e, o, b⟩ => ⟨_, e, b, _, rfl, o.lower⟩)) (fun _ _ h =>  h)) (fun hn => absurd rfl hn))
    · -- 9 law.go:101
      rintro aa ww hE hF ⟨-, -, -, -, -, -, d6, -⟩
      replace d6 : aa.eval (.tmp 65) = .bool true := d6
      have o8 : aa.eval (.tmp 8) = .pointer (some ⟨b32, 0, none⟩) := hF.carry (fun v _ => v = .pointer (some ⟨b32, 0, none⟩)) rfl (stab_eq _) hE T8
      exact opAt rfl (ok_guard rfl d6 (fun _ => run_here rfl (ex_load rfl o8 (load_row (hE.row R_b32) Tryd.underlying26 rfl (by kernel_rfl))) ( ⟨_, rfl, (strs_nil _ _ _)⟩)) (fun hn => absurd rfl hn))
    · -- 10 law.go:101
      rintro aa ww hE hF ⟨-, -, -, -, -, -, d6, -, d8, d9, -⟩
      replace d6 : aa.eval (.tmp 65) = .bool true := d6
      replace d8 : (IsOwn ({ (passR (toM m) (s.extract 0 ((min (s.size : Int) 60)).toNat)).1 with hops := [] })) (aa.eval (.tmp 67)) ww := d8
      replace d9 : (IsMsg ({ (passR (toM m) (s.extract 0 ((min (s.size : Int) 60)).toNat)).1 with hops := [] })) (aa.eval (.tmp 68)) ww := d9
      exact opAt rfl (ok_guard rfl d6 (fun _ => run_callR (ψ := (fun v _ => v = .bool (sameM ({ (passR (toM m) (s.extract 0 ((min (s.size : Int) 60)).toNat)).1 with hops := [] }) ({ (passR (toM m) (s.extract 0 ((min (s.size : Int) 60)).toNat)).1 with hops := [] })))) rfl Tryd.call13 (by
      obtain ⟨hv0, e0, s0⟩ := IsOwn.msg (d8)
      obtain ⟨hv1, e1, s1⟩ := d9
      simp only [List.map_toArray, List.map_cons, List.map_nil, e0, e1]
      exact ret_below (rSame_c _ _ _ _ _ (fits_nil fP) (fits_nil fP) s0 s1)) (fun _ _ h =>  h)) (fun hn => absurd rfl hn))
    · -- 11 law.go:101
      rintro aa ww hE hF ⟨-, -, -, -, -, -, d6, -, -, -, d10, -⟩
      replace d6 : aa.eval (.tmp 65) = .bool true := d6
      replace d10 : aa.eval (.tmp 69) = .bool (sameM ({ (passR (toM m) (s.extract 0 ((min (s.size : Int) 60)).toNat)).1 with hops := [] }) ({ (passR (toM m) (s.extract 0 ((min (s.size : Int) 60)).toNat)).1 with hops := [] })) := d10
      exact opAt rfl (ok_run rfl (run_here rfl (ex_pick_and rfl d6 (fun hp => d10)) ( rfl)))
    · -- 12 law.go:101
      rintro aa ww hE hF ⟨-, -, -, -, -, -, -, -, -, -, -, d11, -⟩
      replace d11 : aa.eval (.tmp 70) = .bool (sameM ({ (passR (toM m) (s.extract 0 ((min (s.size : Int) 60)).toNat)).1 with hops := [] }) ({ (passR (toM m) (s.extract 0 ((min (s.size : Int) 60)).toNat)).1 with hops := [] })) := d11
      exact opAt rfl (ok_run rfl (run_here rfl (ex_move (.inl rfl) d11) ( rfl)))
    · -- 13 law.go:101
      rintro aa ww hE hF ⟨-, -, -, -, -, -, -, -, -, -, -, -, d12, -⟩
      replace d12 : aa.eval (.tmp 71) = .bool (sameM ({ (passR (toM m) (s.extract 0 ((min (s.size : Int) 60)).toNat)).1 with hops := [] }) ({ (passR (toM m) (s.extract 0 ((min (s.size : Int) 60)).toNat)).1 with hops := [] })) := d12
      have o5 : aa.eval (.tmp 5) = .pointer (some ⟨b9, 0, none⟩) := hF.carry (fun v _ => v = .pointer (some ⟨b9, 0, none⟩)) rfl (stab_eq _) hE T5
      exact opAt rfl (ok_guard rfl d12 (fun hc => run_here rfl (ex_load rfl o5 (load_row (hE.row R_b9) Tryd.underlying29 rfl (by kernel_rfl))) (fun _ =>  ⟨_, rfl, S11.ext hE⟩)) (fun hn hc => absurd hc hn))
    · -- 14 law.go:101
      rintro aa ww hE hF ⟨-, -, -, -, -, -, -, -, -, -, -, -, d12, d13, -⟩
      replace d12 : aa.eval (.tmp 71) = .bool (sameM ({ (passR (toM m) (s.extract 0 ((min (s.size : Int) 60)).toNat)).1 with hops := [] }) ({ (passR (toM m) (s.extract 0 ((min (s.size : Int) 60)).toNat)).1 with hops := [] })) := d12
      replace d13 : (sameM ({ (passR (toM m) (s.extract 0 ((min (s.size : Int) 60)).toNat)).1 with hops := [] }) ({ (passR (toM m) (s.extract 0 ((min (s.size : Int) 60)).toNat)).1 with hops := [] })) = true → (IsOwnB 0 (toM m)) (aa.eval (.tmp 72)) ww := d13
      exact opAt rfl (ok_guard rfl d12 (fun hc => run_callR (ψ := (IsOwn (toM m))) rfl Tryd.call12 (by
      obtain ⟨hv0, e0, s0⟩ := IsOwnB.msg ((d13 hc))
      simp only [List.map_toArray, List.map_cons, List.map_nil, e0]
      exact (of_c _ _ _ (toM_fits fm) s0 (toM_len m)).mono (fun _ _ ⟨_, e, o, b⟩ => ⟨_, e, b, _, rfl, o.lower⟩)) (fun _ _ h => fun _ =>  h)) (fun hn hc => absurd hc hn))
    · -- 15 law.go:101
      rintro aa ww hE hF ⟨-, -, -, -, -, -, -, -, -, -, -, -, d12, -⟩
      replace d12 : aa.eval (.tmp 71) = .bool (sameM ({ (passR (toM m) (s.extract 0 ((min (s.size : Int) 60)).toNat)).1 with hops := [] }) ({ (passR (toM m) (s.extract 0 ((min (s.size : Int) 60)).toNat)).1 with hops := [] })) := d12
      have o2 : aa.eval (.tmp 2) = .pointer (some ⟨b4, 0, none⟩) := hF.carry (fun v _ => v = .pointer (some ⟨b4, 0, none⟩)) rfl (stab_eq _) hE T2
      exact opAt rfl (ok_guard rfl d12 (fun hc => run_here rfl (ex_load rfl o2 (load_row (hE.row R_b4) Tryd.underlying26 rfl (by kernel_rfl))) (fun _ =>  ⟨_, rfl, (sm.below (E.trans hE))⟩)) (fun hn hc => absurd hc hn))
    · -- 16 law.go:101
      rintro aa ww hE hF ⟨-, -, -, -, -, -, -, -, -, -, -, -, d12, -, -, d15, -⟩
      replace d12 : aa.eval (.tmp 71) = .bool (sameM ({ (passR (toM m) (s.extract 0 ((min (s.size : Int) 60)).toNat)).1 with hops := [] }) ({ (passR (toM m) (s.extract 0 ((min (s.size : Int) 60)).toNat)).1 with hops := [] })) := d12
      replace d15 : (sameM ({ (passR (toM m) (s.extract 0 ((min (s.size : Int) 60)).toNat)).1 with hops := [] }) ({ (passR (toM m) (s.extract 0 ((min (s.size : Int) 60)).toNat)).1 with hops := [] })) = true → (IsMsg m) (aa.eval (.tmp 74)) ww := d15
      exact opAt rfl (ok_guard rfl d12 (fun hc => run_callR (ψ := (IsOwn (toM m))) rfl Tryd.call9 (by
      obtain ⟨hv0, e0, s0⟩ := (d15 hc)
      simp only [List.map_toArray, List.map_cons, List.map_nil, e0]
      exact to_e fm ⟨_, rfl, s0⟩) (fun _ _ h => fun _ =>  h)) (fun hn hc => absurd hc hn))
    · -- 17 law.go:101
      rintro aa ww hE hF ⟨-, -, -, -, -, -, -, -, -, -, -, -, d12, -, -, -, d16, -⟩
      replace d12 : aa.eval (.tmp 71) = .bool (sameM ({ (passR (toM m) (s.extract 0 ((min (s.size : Int) 60)).toNat)).1 with hops := [] }) ({ (passR (toM m) (s.extract 0 ((min (s.size : Int) 60)).toNat)).1 with hops := [] })) := d12
      replace d16 : (sameM ({ (passR (toM m) (s.extract 0 ((min (s.size : Int) 60)).toNat)).1 with hops := [] }) ({ (passR (toM m) (s.extract 0 ((min (s.size : Int) 60)).toNat)).1 with hops := [] })) = true → (IsOwn (toM m)) (aa.eval (.tmp 75)) ww := d16
      exact opAt rfl (ok_guard rfl d12 (fun hc => run_callR (ψ := (IsOwn (toM m))) rfl Tryd.call12 (by
      obtain ⟨hv0, e0, s0⟩ := IsOwn.msg ((d16 hc))
      simp only [List.map_toArray, List.map_cons, List.map_nil, e0]
      exact (of_c _ _ _ (toM_fits fm) s0 (toM_len m)).mono (fun _ _ ⟨_, e, o, b⟩ => ⟨_, e, b, _, rfl, o.lower⟩)) (fun _ _ h => fun _ =>  h)) (fun hn hc => absurd hc hn))
    · -- 18 law.go:101
      rintro aa ww hE hF ⟨-, -, -, -, -, -, -, -, -, -, -, -, d12, -, d14, -, -, d17, -⟩
      replace d12 : aa.eval (.tmp 71) = .bool (sameM ({ (passR (toM m) (s.extract 0 ((min (s.size : Int) 60)).toNat)).1 with hops := [] }) ({ (passR (toM m) (s.extract 0 ((min (s.size : Int) 60)).toNat)).1 with hops := [] })) := d12
      replace d14 : (sameM ({ (passR (toM m) (s.extract 0 ((min (s.size : Int) 60)).toNat)).1 with hops := [] }) ({ (passR (toM m) (s.extract 0 ((min (s.size : Int) 60)).toNat)).1 with hops := [] })) = true → (IsOwn (toM m)) (aa.eval (.tmp 73)) ww := d14
      replace d17 : (sameM ({ (passR (toM m) (s.extract 0 ((min (s.size : Int) 60)).toNat)).1 with hops := [] }) ({ (passR (toM m) (s.extract 0 ((min (s.size : Int) 60)).toNat)).1 with hops := [] })) = true → (IsOwn (toM m)) (aa.eval (.tmp 76)) ww := d17
      exact opAt rfl (ok_guard rfl d12 (fun hc => run_callR (ψ := (fun v _ => v = .bool (sameM (toM m) (toM m)))) rfl Tryd.call13 (by
      obtain ⟨hv0, e0, s0⟩ := IsOwn.msg ((d14 hc))
      obtain ⟨hv1, e1, s1⟩ := IsOwn.msg ((d17 hc))
      simp only [List.map_toArray, List.map_cons, List.map_nil, e0, e1]
      exact ret_below (rSame_c _ _ _ _ _ (toM_fits fm) (toM_fits fm) s0 s1)) (fun _ _ h => fun _ =>  h)) (fun hn hc => absurd hc hn))
    · -- 19 law.go:101
      rintro aa ww hE hF ⟨-, -, -, -, -, -, -, -, -, -, -, -, d12, -, -, -, -, -, d18, -⟩
      replace d12 : aa.eval (.tmp 71) = .bool (sameM ({ (passR (toM m) (s.extract 0 ((min (s.size : Int) 60)).toNat)).1 with hops := [] }) ({ (passR (toM m) (s.extract 0 ((min (s.size : Int) 60)).toNat)).1 with hops := [] })) := d12
      replace d18 : (sameM ({ (passR (toM m) (s.extract 0 ((min (s.size : Int) 60)).toNat)).1 with hops := [] }) ({ (passR (toM m) (s.extract 0 ((min (s.size : Int) 60)).toNat)).1 with hops := [] })) = true → aa.eval (.tmp 77) = .bool (sameM (toM m) (toM m)) := d18
      exact opAt rfl (ok_run rfl (run_here rfl (ex_pick_and rfl d12 (fun hp => (d18 hp))) ( rfl)))
    intro a68 w69 hE hF hfac hap
    obtain ⟨f0, f1, f2, f3, f4, f5, f6, f7, f8, f9, f10, f11, f12, f13, f14, f15, f16, f17, f18, f19, -⟩ := hfac
    replace N := hF.size.trans N
    replace D := hF.defers.trans D
    replace R_b4 := hE.row R_b4
    replace R_b9 := hE.row R_b9
    replace R_b22 := hE.row R_b22
    replace R_b32 := hE.row R_b32
    replace S11 : OwnStrs 0 ((toM m).hops) w69 (.slice x12 (((toM m).hops).length) c13) := S11.ext hE
    replace S24 : OwnStrs w17.heap.size (chg (passR (toM m) (s.extract 0 ((min (s.size : Int) 60)).toNat)).1.hops k) w69 (.slice x25 ((((passR (toM m) (s.extract 0 ((min (s.size : Int) 60)).toNat)).1).hops).length) c26) := S24.ext hE
    replace S34 : OwnStrs w27.heap.size (((passR (toM m) (s.extract 0 ((min (s.size : Int) 60)).toNat)).1).hops) w69 (.slice x35 ((((passR (toM m) (s.extract 0 ((min (s.size : Int) 60)).toNat)).1).hops).length) c36) := S34.ext hE
    replace T2 : (fun v _ => v = .pointer (some ⟨b4, 0, none⟩)) (a68.at 2) w69 := hF.carry (fun v _ => v = .pointer (some ⟨b4, 0, none⟩)) rfl (stab_eq _) hE T2
    replace T4 : (fun v _ => v = .bool false) (a68.at 4) w69 := hF.carry (fun v _ => v = .bool false) rfl (stab_eq _) hE T4
    replace T5 : (fun v _ => v = .pointer (some ⟨b9, 0, none⟩)) (a68.at 5) w69 := hF.carry (fun v _ => v = .pointer (some ⟨b9, 0, none⟩)) rfl (stab_eq _) hE T5
    replace T6 : (fun v _ => v = .pointer (some ⟨b22, 0, none⟩)) (a68.at 6) w69 := hF.carry (fun v _ => v = .pointer (some ⟨b22, 0, none⟩)) rfl (stab_eq _) hE T6
    replace T7 : (fun v _ => v = .int .i64 ((passR (toM m) (s.extract 0 ((min (s.size : Int) 60)).toNat)).2 : Int)) (a68.at 7) w69 := hF.carry (fun v _ => v = .int .i64 ((passR (toM m) (s.extract 0 ((min (s.size : Int) 60)).toNat)).2 : Int)) rfl (stab_eq _) hE T7
    replace T8 : (fun v _ => v = .pointer (some ⟨b32, 0, none⟩)) (a68.at 8) w69 := hF.carry (fun v _ => v = .pointer (some ⟨b32, 0, none⟩)) rfl (stab_eq _) hE T8
    replace T9 : (fun v _ => v = .int .i64 ((passR (toM m) (s.extract 0 ((min (s.size : Int) 60)).toNat)).2 : Int)) (a68.at 9) w69 := hF.carry (fun v _ => v = .int .i64 ((passR (toM m) (s.extract 0 ((min (s.size : Int) 60)).toNat)).2 : Int)) rfl (stab_eq _) hE T9
    have T78 : (fun v _ => v = .bool ((sameM ({ (passR (toM m) (s.extract 0 ((min (s.size : Int) 60)).toNat)).1 with hops := [] }) ({ (passR (toM m) (s.extract 0 ((min (s.size : Int) 60)).toNat)).1 with hops := [] })) && (sameM (toM m) (toM m)))) (a68.at 78) w69 := f19
    replace E := E.trans hE
    clear hE hF hap
    show wpOps _ (rg Tryd.f5 12) _ [20] _ _
    refine tail_val rfl rfl rfl (ex_move (.inr rfl) (v := .bool ((sameM ({ (passR (toM m) (s.extract 0 ((min (s.size : Int) 60)).toNat)).1 with hops := [] }) ({ (passR (toM m) (s.extract 0 ((min (s.size : Int) 60)).toNat)).1 with hops := [] })) && (sameM (toM m) (toM m)))) (show a68.eval (.tmp 78) = .bool ((sameM ({ (passR (toM m) (s.extract 0 ((min (s.size : Int) 60)).toNat)).1 with hops := [] }) ({ (passR (toM m) (s.extract 0 ((min (s.size : Int) 60)).toNat)).1 with hops := [] })) && (sameM (toM m) (toM m))) from T78)) ?_
    obtain ⟨a70, ha⟩ : ∃ x : Act, x = a68.put (some 4) (.bool ((sameM ({ (passR (toM m) (s.extract 0 ((min (s.size : Int) 60)).toNat)).1 with hops := [] }) ({ (passR (toM m) (s.extract 0 ((min (s.size : Int) 60)).toNat)).1 with hops := [] })) && (sameM (toM m) (toM m)))) := ⟨_, rfl⟩
    rw [← ha]
    replace T2 : (fun v _ => v = .pointer (some ⟨b4, 0, none⟩)) (a70.at 2) w69 := by rw [ha, put_other rfl]; exact T2
    replace T5 : (fun v _ => v = .pointer (some ⟨b9, 0, none⟩)) (a70.at 5) w69 := by rw [ha, put_other rfl]; exact T5
    replace T6 : (fun v _ => v = .pointer (some ⟨b22, 0, none⟩)) (a70.at 6) w69 := by rw [ha, put_other rfl]; exact T6
    replace T7 : (fun v _ => v = .int .i64 ((passR (toM m) (s.extract 0 ((min (s.size : Int) 60)).toNat)).2 : Int)) (a70.at 7) w69 := by rw [ha, put_other rfl]; exact T7
    replace T8 : (fun v _ => v = .pointer (some ⟨b32, 0, none⟩)) (a70.at 8) w69 := by rw [ha, put_other rfl]; exact T8
    replace T9 : (fun v _ => v = .int .i64 ((passR (toM m) (s.extract 0 ((min (s.size : Int) 60)).toNat)).2 : Int)) (a70.at 9) w69 := by rw [ha, put_other rfl]; exact T9
    replace T78 : (fun v _ => v = .bool ((sameM ({ (passR (toM m) (s.extract 0 ((min (s.size : Int) 60)).toNat)).1 with hops := [] }) ({ (passR (toM m) (s.extract 0 ((min (s.size : Int) 60)).toNat)).1 with hops := [] })) && (sameM (toM m) (toM m)))) (a70.at 78) w69 := by rw [ha, put_other rfl]; exact T78
    replace T4 : (fun v _ => v = .bool ((sameM ({ (passR (toM m) (s.extract 0 ((min (s.size : Int) 60)).toNat)).1 with hops := [] }) ({ (passR (toM m) (s.extract 0 ((min (s.size : Int) 60)).toNat)).1 with hops := [] })) && (sameM (toM m) (toM m)))) (a70.at 4) w69 := by rw [ha, put_same N (by decide)]; skip
    replace N := (ha ▸ put_size _ _ _ : a70.tmps.size = _).trans N
    replace D := (ha ▸ put_defers' _ _ _ : a70.defers = _).trans D
    clear ha
    clear T2
    clear T5
    clear T6
    clear T7
    clear T8
    clear T9
    clear T78
    refine hK67 _ _ ?_
    refine wp_ret ?_
    -- the end
    refine ret_1 Tryd.results5 D T4 ?_
    exact ⟨_, rfl, E, by rw [sameM_refl, sameM_refl]; rfl⟩

end Go.Proofs.YtfcfddfjifofgaaDoor
