/- What ParseAddress and the reference's Address return. -/
import Derived.Test.YtfcfddfjifofgaaDoorGCut
namespace Go.Proofs.YtfcfddfjifofgaaDoor
open Go.RowKit Go.Shelf
set_option maxRecDepth 100000 in
set_option maxHeartbeats 600000 in
theorem parseAddress_e (s : ByteArray) (w : World) (hs : s.size ≤ maxLen) : Calls Tryd.prog 20 #[.string s] w (Ret (fun v _ => v = .tuple #[.agg #[.string (addrR s).1.1, .string (addrR s).1.2], .int .i64 ((addrR s).2 : Int)]) w) := by
  have hz1 : (cut1 s 64).1.size ≤ maxLen := Nat.le_trans (cut1_size s 64).1 hs
  have hz2 : (cut1 s 64).2.1.size ≤ maxLen := Nat.le_trans (cut1_size s 64).2 hs
  refine enter_fn Tryd.func20 rfl Tryd.ntmps20 (Nat.le_of_ble_eq_true rfl) (fun a0 N D hA => ?_)
  have T0 : (fun v _ => v = .string s) (a0.at 0) w := by rw [hA 0 (by simp)]; exact rfl
  clear hA
  have E : Ext w w := Ext.refl w
  refine wp_seq_k (fun K1 hK1 => ?_)
  -- region 0: mail.go:50
  show (Code.region 0 (rg Tryd.f20 0) false).wp _ _ _ _
  refine plain_list (n := 1) (N := 34) (deps := [[]]) (F := [(IsBox #[.string ⟨#[]⟩, .string ⟨#[]⟩] 27 w.heap.size)]) (by kernel_rfl) (by kernel_rfl) rfl (by kernel_rfl) ⟨(stab_box _ _ _), trivial⟩ N (by kernel_rfl) ⟨?_, trivial⟩ ?_
  · -- 0 mail.go:50
    rintro aa ww hE hF ⟨-⟩
    exact opAt rfl (ok_run rfl (run_new (ex_alloc rfl Tryd.zeroValue27) ( box_new hE.size)))
  intro a2 w3 hE hF hfac hap
  obtain ⟨f0, -⟩ := hfac
  replace N := hF.size.trans N
  replace D := hF.defers.trans D
  obtain ⟨b4, T2, B_b4, R_b4⟩ := f0
  replace B_b4 := Nat.le_trans E.size B_b4
  replace T0 : (fun v _ => v = .string s) (a2.at 0) w3 := hF.carry (fun v _ => v = .string s) rfl (stab_eq _) hE T0
  replace E := E.trans hE
  clear hE hF hap
  show wpOps _ (rg Tryd.f20 0) _ [1] _ _
  refine tail_val rfl rfl rfl (ex_move (.inr rfl) (v := .int .i64 0) (ev_const (v := .int .i64 0))) ?_
  obtain ⟨a5, ha⟩ : ∃ x : Act, x = a2.put (some 3) (.int .i64 0) := ⟨_, rfl⟩
  rw [← ha]
  replace T0 : (fun v _ => v = .string s) (a5.at 0) w3 := by rw [ha, put_other rfl]; exact T0
  replace T2 : (fun v _ => v = .pointer (some ⟨b4, 0, none⟩)) (a5.at 2) w3 := by rw [ha, put_other rfl]; exact T2
  have T3 : (fun v _ => v = .int .i64 0) (a5.at 3) w3 := by rw [ha, put_same N (by decide)]; skip
  replace N := (ha ▸ put_size _ _ _ : a5.tmps.size = _).trans N
  replace D := (ha ▸ put_defers' _ _ _ : a5.defers = _).trans D
  clear ha
  refine hK1 _ _ ?_
  refine wp_seq_k (fun K6 hK6 => ?_)
  -- region 1: mail.go:51
  show (Code.region 1 (rg Tryd.f20 1) false).wp _ _ _ _
  refine plain_list (n := 6) (N := 34) (deps := [[], [0], [1], [2], [2], [2]]) (F := [(fun v _ => v = .string s), (fun v _ => v = .tuple #[.string ((cut1 s 64).1), .string ((cut1 s 64).2.1), .bool ((cut1 s 64).2.2)]), (fun v _ => v = .tuple #[.string ((cut1 s 64).1), .string ((cut1 s 64).2.1), .bool ((cut1 s 64).2.2)]), (fun v _ => v = .string ((cut1 s 64).1)), (fun v _ => v = .string ((cut1 s 64).2.1)), (fun v _ => v = .bool ((cut1 s 64).2.2))]) (by kernel_rfl) (by kernel_rfl) rfl (by kernel_rfl) ⟨(stab_eq _), (stab_eq _), (stab_eq _), (stab_eq _), (stab_eq _), (stab_eq _), trivial⟩ N (by kernel_rfl) ⟨?_, ?_, ?_, ?_, ?_, ?_, trivial⟩ ?_
  · -- 0 mail.go:51
    rintro aa ww hE hF ⟨-⟩
    have o0 : aa.eval (.tmp 0) = .string s := hF.carry (fun v _ => v = .string s) rfl (stab_eq _) hE T0
    exact opAt rfl (ok_run rfl (run_here rfl (ex_move (.inl rfl) o0) ( rfl)))
  · -- 1 mail.go:51
    rintro aa ww hE hF ⟨d0, -⟩
    replace d0 : aa.eval (.tmp 9) = .string s := d0
    exact opAt rfl (ok_run rfl (run_callR (ψ := (fun v _ => v = .tuple #[.string ((cut1 s 64).1), .string ((cut1 s 64).2.1), .bool ((cut1 s 64).2.2)])) rfl Tryd.call46 (by
      simp only [List.map_toArray, List.map_cons, List.map_nil, d0, (ev_const (v := .string ⟨#[64]⟩))]
      exact id (cut_e s 64 _ hs)) (fun _ _ h =>  h)))
  · -- 2 mail.go:51
    rintro aa ww hE hF ⟨d1, -⟩
    replace d1 : aa.eval (.tmp 10) = .tuple #[.string ((cut1 s 64).1), .string ((cut1 s 64).2.1), .bool ((cut1 s 64).2.2)] := d1
    exact opAt rfl (ok_run rfl (run_here rfl (ex_move (.inl rfl) d1) ( rfl)))
  · -- 3 mail.go:51
    rintro aa ww hE hF ⟨d2, -⟩
    replace d2 : aa.eval (.tmp 8) = .tuple #[.string ((cut1 s 64).1), .string ((cut1 s 64).2.1), .bool ((cut1 s 64).2.2)] := d2
    exact opAt rfl (ok_run rfl (run_here rfl (ex_extract rfl d2 rfl) ( rfl)))
  · -- 4 mail.go:51
    rintro aa ww hE hF ⟨d2, -⟩
    replace d2 : aa.eval (.tmp 8) = .tuple #[.string ((cut1 s 64).1), .string ((cut1 s 64).2.1), .bool ((cut1 s 64).2.2)] := d2
    exact opAt rfl (ok_run rfl (run_here rfl (ex_extract rfl d2 rfl) ( rfl)))
  · -- 5 mail.go:51
    rintro aa ww hE hF ⟨d2, -⟩
    replace d2 : aa.eval (.tmp 8) = .tuple #[.string ((cut1 s 64).1), .string ((cut1 s 64).2.1), .bool ((cut1 s 64).2.2)] := d2
    exact opAt rfl (ok_run rfl (run_here rfl (ex_extract rfl d2 rfl) ( rfl)))
  intro a7 w8 hE hF hfac hap
  obtain ⟨f0, f1, f2, f3, f4, f5, -⟩ := hfac
  replace N := hF.size.trans N
  replace D := hF.defers.trans D
  replace R_b4 := hE.row R_b4
  replace T0 : (fun v _ => v = .string s) (a7.at 0) w8 := hF.carry (fun v _ => v = .string s) rfl (stab_eq _) hE T0
  replace T2 : (fun v _ => v = .pointer (some ⟨b4, 0, none⟩)) (a7.at 2) w8 := hF.carry (fun v _ => v = .pointer (some ⟨b4, 0, none⟩)) rfl (stab_eq _) hE T2
  replace T3 : (fun v _ => v = .int .i64 0) (a7.at 3) w8 := hF.carry (fun v _ => v = .int .i64 0) rfl (stab_eq _) hE T3
  have T11 : (fun v _ => v = .string ((cut1 s 64).1)) (a7.at 11) w8 := f3
  have T12 : (fun v _ => v = .string ((cut1 s 64).2.1)) (a7.at 12) w8 := f4
  have T13 : (fun v _ => v = .bool ((cut1 s 64).2.2)) (a7.at 13) w8 := f5
  replace E := E.trans hE
  clear hE hF hap
  show wpOps _ (rg Tryd.f20 1) _ [6, 7, 8] _ _
  refine tail_val rfl rfl rfl (ex_move (.inr rfl) (v := .string ((cut1 s 64).1)) (show a7.eval (.tmp 11) = .string ((cut1 s 64).1) from T11)) ?_
  obtain ⟨a9, ha⟩ : ∃ x : Act, x = a7.put (some 4) (.string ((cut1 s 64).1)) := ⟨_, rfl⟩
  rw [← ha]
  replace T0 : (fun v _ => v = .string s) (a9.at 0) w8 := by rw [ha, put_other rfl]; exact T0
  replace T2 : (fun v _ => v = .pointer (some ⟨b4, 0, none⟩)) (a9.at 2) w8 := by rw [ha, put_other rfl]; exact T2
  replace T3 : (fun v _ => v = .int .i64 0) (a9.at 3) w8 := by rw [ha, put_other rfl]; exact T3
  replace T11 : (fun v _ => v = .string ((cut1 s 64).1)) (a9.at 11) w8 := by rw [ha, put_other rfl]; exact T11
  replace T12 : (fun v _ => v = .string ((cut1 s 64).2.1)) (a9.at 12) w8 := by rw [ha, put_other rfl]; exact T12
  replace T13 : (fun v _ => v = .bool ((cut1 s 64).2.2)) (a9.at 13) w8 := by rw [ha, put_other rfl]; exact T13
  have T4 : (fun v _ => v = .string ((cut1 s 64).1)) (a9.at 4) w8 := by rw [ha, put_same N (by decide)]; skip
  replace N := (ha ▸ put_size _ _ _ : a9.tmps.size = _).trans N
  replace D := (ha ▸ put_defers' _ _ _ : a9.defers = _).trans D
  clear ha
  refine tail_val rfl rfl rfl (ex_move (.inr rfl) (v := .string ((cut1 s 64).2.1)) (show a9.eval (.tmp 12) = .string ((cut1 s 64).2.1) from T12)) ?_
  obtain ⟨a10, ha⟩ : ∃ x : Act, x = a9.put (some 5) (.string ((cut1 s 64).2.1)) := ⟨_, rfl⟩
  rw [← ha]
  replace T0 : (fun v _ => v = .string s) (a10.at 0) w8 := by rw [ha, put_other rfl]; exact T0
  replace T2 : (fun v _ => v = .pointer (some ⟨b4, 0, none⟩)) (a10.at 2) w8 := by rw [ha, put_other rfl]; exact T2
  replace T3 : (fun v _ => v = .int .i64 0) (a10.at 3) w8 := by rw [ha, put_other rfl]; exact T3
  replace T11 : (fun v _ => v = .string ((cut1 s 64).1)) (a10.at 11) w8 := by rw [ha, put_other rfl]; exact T11
  replace T12 : (fun v _ => v = .string ((cut1 s 64).2.1)) (a10.at 12) w8 := by rw [ha, put_other rfl]; exact T12
  replace T13 : (fun v _ => v = .bool ((cut1 s 64).2.2)) (a10.at 13) w8 := by rw [ha, put_other rfl]; exact T13
  replace T4 : (fun v _ => v = .string ((cut1 s 64).1)) (a10.at 4) w8 := by rw [ha, put_other rfl]; exact T4
  have T5 : (fun v _ => v = .string ((cut1 s 64).2.1)) (a10.at 5) w8 := by rw [ha, put_same N (by decide)]; skip
  replace N := (ha ▸ put_size _ _ _ : a10.tmps.size = _).trans N
  replace D := (ha ▸ put_defers' _ _ _ : a10.defers = _).trans D
  clear ha
  refine tail_val rfl rfl rfl (ex_move (.inr rfl) (v := .bool ((cut1 s 64).2.2)) (show a10.eval (.tmp 13) = .bool ((cut1 s 64).2.2) from T13)) ?_
  obtain ⟨a11, ha⟩ : ∃ x : Act, x = a10.put (some 6) (.bool ((cut1 s 64).2.2)) := ⟨_, rfl⟩
  rw [← ha]
  replace T0 : (fun v _ => v = .string s) (a11.at 0) w8 := by rw [ha, put_other rfl]; exact T0
  replace T2 : (fun v _ => v = .pointer (some ⟨b4, 0, none⟩)) (a11.at 2) w8 := by rw [ha, put_other rfl]; exact T2
  replace T3 : (fun v _ => v = .int .i64 0) (a11.at 3) w8 := by rw [ha, put_other rfl]; exact T3
  replace T11 : (fun v _ => v = .string ((cut1 s 64).1)) (a11.at 11) w8 := by rw [ha, put_other rfl]; exact T11
  replace T12 : (fun v _ => v = .string ((cut1 s 64).2.1)) (a11.at 12) w8 := by rw [ha, put_other rfl]; exact T12
  replace T13 : (fun v _ => v = .bool ((cut1 s 64).2.2)) (a11.at 13) w8 := by rw [ha, put_other rfl]; exact T13
  replace T4 : (fun v _ => v = .string ((cut1 s 64).1)) (a11.at 4) w8 := by rw [ha, put_other rfl]; exact T4
  replace T5 : (fun v _ => v = .string ((cut1 s 64).2.1)) (a11.at 5) w8 := by rw [ha, put_other rfl]; exact T5
  have T6 : (fun v _ => v = .bool ((cut1 s 64).2.2)) (a11.at 6) w8 := by rw [ha, put_same N (by decide)]; skip
  replace N := (ha ▸ put_size _ _ _ : a11.tmps.size = _).trans N
  replace D := (ha ▸ put_defers' _ _ _ : a11.defers = _).trans D
  clear ha
  clear T0
  clear T11
  clear T12
  clear T13
  refine hK6 _ _ ?_
  refine wp_seq_k (fun K12 hK12 => ?_)
  refine wp_seq_k (fun K13 hK13 => ?_)
  -- region 2: mail.go:52
  show (Code.region 2 (rg Tryd.f20 2) false).wp _ _ _ _
  refine plain_list (n := 6) (N := 34) (deps := [[], [0], [1], [2], [2, 3], [2, 4]]) (F := [(fun v _ => v = .bool ((cut1 s 64).2.2)), (fun v _ => v = .bool (!((cut1 s 64).2.2))), (fun v _ => v = .bool (!((cut1 s 64).2.2))), (fun v w => (!((cut1 s 64).2.2)) = false → (fun v _ => v = .string ((cut1 s 64).2.1)) v w), (fun v w => (!((cut1 s 64).2.2)) = false → (fun v _ => v = .bool (decide (0 ≤ Lib.indexByte ((cut1 s 64).2.1).data.toList 64))) v w), (fun v _ => v = .bool ((!((cut1 s 64).2.2)) || (decide (0 ≤ Lib.indexByte ((cut1 s 64).2.1).data.toList 64))))]) (by kernel_rfl) (by kernel_rfl) rfl (by kernel_rfl) ⟨(stab_eq _), (stab_eq _), (stab_eq _), (stab_imp (stab_eq _)), (stab_imp (stab_eq _)), (stab_eq _), trivial⟩ N (by kernel_rfl) ⟨?_, ?_, ?_, ?_, ?_, ?_, trivial⟩ ?_
  · -- 0 mail.go:52
    rintro aa ww hE hF ⟨-⟩
    have o6 : aa.eval (.tmp 6) = .bool ((cut1 s 64).2.2) := hF.carry (fun v _ => v = .bool ((cut1 s 64).2.2)) rfl (stab_eq _) hE T6
    exact opAt rfl (ok_run rfl (run_here rfl (ex_move (.inl rfl) o6) ( rfl)))
  · -- 1 mail.go:52
    rintro aa ww hE hF ⟨d0, -⟩
    replace d0 : aa.eval (.tmp 14) = .bool ((cut1 s 64).2.2) := d0
    exact opAt rfl (ok_run rfl (run_here rfl (ex_unOp rfl (by rw [show aa.eval (.tmp 14) = .bool ((cut1 s 64).2.2) from d0]; exact un_not)) ( rfl)))
  · -- 2 mail.go:52
    rintro aa ww hE hF ⟨d1, -⟩
    replace d1 : aa.eval (.tmp 15) = .bool (!((cut1 s 64).2.2)) := d1
    exact opAt rfl (ok_run rfl (run_here rfl (ex_move (.inl rfl) d1) ( rfl)))
  · -- 3 mail.go:52
    rintro aa ww hE hF ⟨d2, -⟩
    replace d2 : aa.eval (.tmp 16) = .bool (!((cut1 s 64).2.2)) := d2
    have o5 : aa.eval (.tmp 5) = .string ((cut1 s 64).2.1) := hF.carry (fun v _ => v = .string ((cut1 s 64).2.1)) rfl (stab_eq _) hE T5
    exact opAt rfl (ok_guard rfl d2 (fun hc => run_here rfl (ex_move (.inl rfl) o5) (fun _ =>  rfl)) (fun hn hc => absurd hc hn))
  · -- 4 mail.go:52
    rintro aa ww hE hF ⟨d2, d3, -⟩
    replace d2 : aa.eval (.tmp 16) = .bool (!((cut1 s 64).2.2)) := d2
    replace d3 : (!((cut1 s 64).2.2)) = false → aa.eval (.tmp 17) = .string ((cut1 s 64).2.1) := d3
    exact opAt rfl (ok_guard rfl d2 (fun hc => run_callR (ψ := (fun v _ => v = .bool (decide (0 ≤ Lib.indexByte ((cut1 s 64).2.1).data.toList 64)))) rfl Tryd.call47 (by
      simp only [List.map_toArray, List.map_cons, List.map_nil, (d3 hc), (ev_const (v := .string ⟨#[64]⟩))]
      exact ret_same' (Tryd.strings_Contains_one ((cut1 s 64).2.1) 64 _)) (fun _ _ h => fun _ =>  h)) (fun hn hc => absurd hc hn))
  · -- 5 mail.go:52
    rintro aa ww hE hF ⟨d2, d4, -⟩
    replace d2 : aa.eval (.tmp 16) = .bool (!((cut1 s 64).2.2)) := d2
    replace d4 : (!((cut1 s 64).2.2)) = false → aa.eval (.tmp 18) = .bool (decide (0 ≤ Lib.indexByte ((cut1 s 64).2.1).data.toList 64)) := d4
    exact opAt rfl (ok_run rfl (run_here rfl (ex_pick_or rfl d2 (fun hc => (d4 hc))) ( rfl)))
  intro a14 w15 hE hF hfac hap
  obtain ⟨f0, f1, f2, f3, f4, f5, -⟩ := hfac
  replace N := hF.size.trans N
  replace D := hF.defers.trans D
  replace R_b4 := hE.row R_b4
  replace T2 : (fun v _ => v = .pointer (some ⟨b4, 0, none⟩)) (a14.at 2) w15 := hF.carry (fun v _ => v = .pointer (some ⟨b4, 0, none⟩)) rfl (stab_eq _) hE T2
  replace T3 : (fun v _ => v = .int .i64 0) (a14.at 3) w15 := hF.carry (fun v _ => v = .int .i64 0) rfl (stab_eq _) hE T3
  replace T4 : (fun v _ => v = .string ((cut1 s 64).1)) (a14.at 4) w15 := hF.carry (fun v _ => v = .string ((cut1 s 64).1)) rfl (stab_eq _) hE T4
  replace T5 : (fun v _ => v = .string ((cut1 s 64).2.1)) (a14.at 5) w15 := hF.carry (fun v _ => v = .string ((cut1 s 64).2.1)) rfl (stab_eq _) hE T5
  clear T6
  have T19 : (fun v _ => v = .bool ((!((cut1 s 64).2.2)) || (decide (0 ≤ Lib.indexByte ((cut1 s 64).2.1).data.toList 64)))) (a14.at 19) w15 := f5
  replace E := E.trans hE
  clear hE hF hap
  show wpOps _ (rg Tryd.f20 2) _ [] _ _
  refine hK13 _ _ ?_
  refine wp_cond_split (t := ((!((cut1 s 64).2.2)) || (decide (0 ≤ Lib.indexByte ((cut1 s 64).2.1).data.toList 64)))) T19 (fun C16 => ?_) (fun C16 => ?_)
  · clear T19
    refine wp_seq_k (fun K17 hK17 => ?_)
    -- region 3: mail.go:53
    show (Code.region 3 (rg Tryd.f20 3) false).wp _ _ _ _
    refine plain_list (n := 1) (N := 34) (deps := [[]]) (F := [(fun v _ => v = .agg #[.string ⟨#[]⟩, .string ⟨#[]⟩])]) (by kernel_rfl) (by kernel_rfl) rfl (by kernel_rfl) ⟨(stab_eq _), trivial⟩ N (by kernel_rfl) ⟨?_, trivial⟩ ?_
    · -- 0 mail.go:53
      rintro aa ww hE hF ⟨-⟩
      exact opAt rfl (ok_run rfl (run_here rfl (ex_build rfl (by simp [Instr.build, Tryd.zeroValue27, Tryd.runUnderlying27, Instr.fill, Value.cells, Tryd.sizeOf9])) ( rfl)))
    intro a18 w19 hE hF hfac hap
    obtain ⟨f0, -⟩ := hfac
    replace N := hF.size.trans N
    replace D := hF.defers.trans D
    replace R_b4 := hE.row R_b4
    replace T2 : (fun v _ => v = .pointer (some ⟨b4, 0, none⟩)) (a18.at 2) w19 := hF.carry (fun v _ => v = .pointer (some ⟨b4, 0, none⟩)) rfl (stab_eq _) hE T2
    replace T3 : (fun v _ => v = .int .i64 0) (a18.at 3) w19 := hF.carry (fun v _ => v = .int .i64 0) rfl (stab_eq _) hE T3
    replace T4 : (fun v _ => v = .string ((cut1 s 64).1)) (a18.at 4) w19 := hF.carry (fun v _ => v = .string ((cut1 s 64).1)) rfl (stab_eq _) hE T4
    replace T5 : (fun v _ => v = .string ((cut1 s 64).2.1)) (a18.at 5) w19 := hF.carry (fun v _ => v = .string ((cut1 s 64).2.1)) rfl (stab_eq _) hE T5
    have T20 : (fun v _ => v = .agg #[.string ⟨#[]⟩, .string ⟨#[]⟩]) (a18.at 20) w19 := f0
    replace E := E.trans hE
    clear hE hF hap
    show wpOps _ (rg Tryd.f20 3) _ [1, 2] _ _
    refine tail_do rfl rfl rfl (ex_store rfl (show a18.eval (.tmp 2) = .pointer (some ⟨b4, 0, none⟩) from T2) (by rw [show a18.eval (.tmp 20) = .agg #[.string ⟨#[]⟩, .string ⟨#[]⟩] from (show a18.eval (.tmp 20) = .agg #[.string ⟨#[]⟩, .string ⟨#[]⟩] from T20)]; exact store_row R_b4 (by kernel_rfl) rfl (by simp [Value.oneCell']))) ?_
    obtain ⟨w20, hw⟩ : ∃ x : World, x = w19.setRow b4 #[.string ⟨#[]⟩, .string ⟨#[]⟩] := ⟨_, rfl⟩
    rw [← hw]
    replace R_b4 : w20.heap[b4]? = some (.cells #[.string ⟨#[]⟩, .string ⟨#[]⟩] 27 (0, 0)) := hw ▸ setRow_heap _ _ _ _ _ _ R_b4
    replace E : Ext w w20 := hw ▸ below_row E B_b4
    clear hw
    refine tail_val rfl rfl rfl (ex_move (.inr rfl) (v := .int .i64 3) (ev_const (v := .int .i64 3))) ?_
    obtain ⟨a21, ha⟩ : ∃ x : Act, x = a18.put (some 3) (.int .i64 3) := ⟨_, rfl⟩
    rw [← ha]
    replace T2 : (fun v _ => v = .pointer (some ⟨b4, 0, none⟩)) (a21.at 2) w20 := by rw [ha, put_other rfl]; exact T2
    replace T4 : (fun v _ => v = .string ((cut1 s 64).1)) (a21.at 4) w20 := by rw [ha, put_other rfl]; exact T4
    replace T5 : (fun v _ => v = .string ((cut1 s 64).2.1)) (a21.at 5) w20 := by rw [ha, put_other rfl]; exact T5
    replace T20 : (fun v _ => v = .agg #[.string ⟨#[]⟩, .string ⟨#[]⟩]) (a21.at 20) w20 := by rw [ha, put_other rfl]; exact T20
    replace T3 : (fun v _ => v = .int .i64 3) (a21.at 3) w20 := by rw [ha, put_same N (by decide)]; skip
    replace N := (ha ▸ put_size _ _ _ : a21.tmps.size = _).trans N
    replace D := (ha ▸ put_defers' _ _ _ : a21.defers = _).trans D
    clear ha
    clear T20
    refine hK17 _ _ ?_
    refine wp_ret ?_
    -- the end
    refine ret_c1 Tryd.results20 D T2 (load_row R_b4 Tryd.underlying27 rfl (by kernel_rfl)) T3 ?_
    exact ⟨_, rfl, E, by rw [addr1 C16] <;> rfl⟩
  · clear T19
    refine wp_skip ?_
    refine hK12 _ _ ?_
    refine wp_seq_k (fun K22 hK22 => ?_)
    refine wp_seq_k (fun K23 hK23 => ?_)
    -- region 4: mail.go:55
    show (Code.region 4 (rg Tryd.f20 4) false).wp _ _ _ _
    refine plain_list (n := 3) (N := 34) (deps := [[], [0], [1]]) (F := [(fun v _ => v = .string ((cut1 s 64).1)), (fun v _ => v = .bool (userB ((cut1 s 64).1))), (fun v _ => v = .bool (!(userB ((cut1 s 64).1))))]) (by kernel_rfl) (by kernel_rfl) rfl (by kernel_rfl) ⟨(stab_eq _), (stab_eq _), (stab_eq _), trivial⟩ N (by kernel_rfl) ⟨?_, ?_, ?_, trivial⟩ ?_
    · -- 0 mail.go:55
      rintro aa ww hE hF ⟨-⟩
      have o4 : aa.eval (.tmp 4) = .string ((cut1 s 64).1) := hF.carry (fun v _ => v = .string ((cut1 s 64).1)) rfl (stab_eq _) hE T4
      exact opAt rfl (ok_run rfl (run_here rfl (ex_move (.inl rfl) o4) ( rfl)))
    · -- 1 mail.go:55
      rintro aa ww hE hF ⟨d0, -⟩
      replace d0 : aa.eval (.tmp 21) = .string ((cut1 s 64).1) := d0
      exact opAt rfl (ok_run rfl (run_callR (ψ := (fun v _ => v = .bool (userB ((cut1 s 64).1)))) rfl Tryd.call38 (by
      simp only [List.map_toArray, List.map_cons, List.map_nil, d0]
      exact ret_same (user_c ((cut1 s 64).1) _ (by first | with_reducible assumption | exact le_max (by omega) | (simp only [ByteArray.size_extract]; unfold maxLen at *; omega)))) (fun _ _ h =>  h)))
    · -- 2 mail.go:55
      rintro aa ww hE hF ⟨d1, -⟩
      replace d1 : aa.eval (.tmp 22) = .bool (userB ((cut1 s 64).1)) := d1
      exact opAt rfl (ok_run rfl (run_here rfl (ex_unOp rfl (by rw [show aa.eval (.tmp 22) = .bool (userB ((cut1 s 64).1)) from d1]; exact un_not)) ( rfl)))
    intro a24 w25 hE hF hfac hap
    obtain ⟨f0, f1, f2, -⟩ := hfac
    replace N := hF.size.trans N
    replace D := hF.defers.trans D
    replace R_b4 := hE.row R_b4
    replace T2 : (fun v _ => v = .pointer (some ⟨b4, 0, none⟩)) (a24.at 2) w25 := hF.carry (fun v _ => v = .pointer (some ⟨b4, 0, none⟩)) rfl (stab_eq _) hE T2
    replace T3 : (fun v _ => v = .int .i64 0) (a24.at 3) w25 := hF.carry (fun v _ => v = .int .i64 0) rfl (stab_eq _) hE T3
    replace T4 : (fun v _ => v = .string ((cut1 s 64).1)) (a24.at 4) w25 := hF.carry (fun v _ => v = .string ((cut1 s 64).1)) rfl (stab_eq _) hE T4
    replace T5 : (fun v _ => v = .string ((cut1 s 64).2.1)) (a24.at 5) w25 := hF.carry (fun v _ => v = .string ((cut1 s 64).2.1)) rfl (stab_eq _) hE T5
    have T23 : (fun v _ => v = .bool (!(userB ((cut1 s 64).1)))) (a24.at 23) w25 := f2
    replace E := E.trans hE
    clear hE hF hap
    show wpOps _ (rg Tryd.f20 4) _ [] _ _
    refine hK23 _ _ ?_
    refine wp_cond_split (t := (!(userB ((cut1 s 64).1)))) T23 (fun C26 => ?_) (fun C26 => ?_)
    · clear T23
      refine wp_seq_k (fun K27 hK27 => ?_)
      -- region 5: mail.go:56
      show (Code.region 5 (rg Tryd.f20 5) false).wp _ _ _ _
      refine plain_list (n := 1) (N := 34) (deps := [[]]) (F := [(fun v _ => v = .agg #[.string ⟨#[]⟩, .string ⟨#[]⟩])]) (by kernel_rfl) (by kernel_rfl) rfl (by kernel_rfl) ⟨(stab_eq _), trivial⟩ N (by kernel_rfl) ⟨?_, trivial⟩ ?_
      · -- 0 mail.go:56
        rintro aa ww hE hF ⟨-⟩
        exact opAt rfl (ok_run rfl (run_here rfl (ex_build rfl (by simp [Instr.build, Tryd.zeroValue27, Tryd.runUnderlying27, Instr.fill, Value.cells, Tryd.sizeOf9])) ( rfl)))
      intro a28 w29 hE hF hfac hap
      obtain ⟨f0, -⟩ := hfac
      replace N := hF.size.trans N
      replace D := hF.defers.trans D
      replace R_b4 := hE.row R_b4
      replace T2 : (fun v _ => v = .pointer (some ⟨b4, 0, none⟩)) (a28.at 2) w29 := hF.carry (fun v _ => v = .pointer (some ⟨b4, 0, none⟩)) rfl (stab_eq _) hE T2
      replace T3 : (fun v _ => v = .int .i64 0) (a28.at 3) w29 := hF.carry (fun v _ => v = .int .i64 0) rfl (stab_eq _) hE T3
      replace T4 : (fun v _ => v = .string ((cut1 s 64).1)) (a28.at 4) w29 := hF.carry (fun v _ => v = .string ((cut1 s 64).1)) rfl (stab_eq _) hE T4
      replace T5 : (fun v _ => v = .string ((cut1 s 64).2.1)) (a28.at 5) w29 := hF.carry (fun v _ => v = .string ((cut1 s 64).2.1)) rfl (stab_eq _) hE T5
      have T24 : (fun v _ => v = .agg #[.string ⟨#[]⟩, .string ⟨#[]⟩]) (a28.at 24) w29 := f0
      replace E := E.trans hE
      clear hE hF hap
      show wpOps _ (rg Tryd.f20 5) _ [1, 2] _ _
      refine tail_do rfl rfl rfl (ex_store rfl (show a28.eval (.tmp 2) = .pointer (some ⟨b4, 0, none⟩) from T2) (by rw [show a28.eval (.tmp 24) = .agg #[.string ⟨#[]⟩, .string ⟨#[]⟩] from (show a28.eval (.tmp 24) = .agg #[.string ⟨#[]⟩, .string ⟨#[]⟩] from T24)]; exact store_row R_b4 (by kernel_rfl) rfl (by simp [Value.oneCell']))) ?_
      obtain ⟨w30, hw⟩ : ∃ x : World, x = w29.setRow b4 #[.string ⟨#[]⟩, .string ⟨#[]⟩] := ⟨_, rfl⟩
      rw [← hw]
      replace R_b4 : w30.heap[b4]? = some (.cells #[.string ⟨#[]⟩, .string ⟨#[]⟩] 27 (0, 0)) := hw ▸ setRow_heap _ _ _ _ _ _ R_b4
      replace E : Ext w w30 := hw ▸ below_row E B_b4
      clear hw
      refine tail_val rfl rfl rfl (ex_move (.inr rfl) (v := .int .i64 12) (ev_const (v := .int .i64 12))) ?_
      obtain ⟨a31, ha⟩ : ∃ x : Act, x = a28.put (some 3) (.int .i64 12) := ⟨_, rfl⟩
      rw [← ha]
      replace T2 : (fun v _ => v = .pointer (some ⟨b4, 0, none⟩)) (a31.at 2) w30 := by rw [ha, put_other rfl]; exact T2
      replace T4 : (fun v _ => v = .string ((cut1 s 64).1)) (a31.at 4) w30 := by rw [ha, put_other rfl]; exact T4
      replace T5 : (fun v _ => v = .string ((cut1 s 64).2.1)) (a31.at 5) w30 := by rw [ha, put_other rfl]; exact T5
      replace T24 : (fun v _ => v = .agg #[.string ⟨#[]⟩, .string ⟨#[]⟩]) (a31.at 24) w30 := by rw [ha, put_other rfl]; exact T24
      replace T3 : (fun v _ => v = .int .i64 12) (a31.at 3) w30 := by rw [ha, put_same N (by decide)]; skip
      replace N := (ha ▸ put_size _ _ _ : a31.tmps.size = _).trans N
      replace D := (ha ▸ put_defers' _ _ _ : a31.defers = _).trans D
      clear ha
      clear T24
      refine hK27 _ _ ?_
      refine wp_ret ?_
      -- the end
      refine ret_c1 Tryd.results20 D T2 (load_row R_b4 Tryd.underlying27 rfl (by kernel_rfl)) T3 ?_
      exact ⟨_, rfl, E, by rw [addr2 C16 C26] <;> rfl⟩
    · clear T23
      refine wp_skip ?_
      refine hK22 _ _ ?_
      refine wp_seq_k (fun K32 hK32 => ?_)
      refine wp_seq_k (fun K33 hK33 => ?_)
      -- region 6: mail.go:58
      show (Code.region 6 (rg Tryd.f20 6) false).wp _ _ _ _
      refine plain_list (n := 2) (N := 34) (deps := [[], [0]]) (F := [(fun v _ => v = .string ((cut1 s 64).2.1)), (fun v _ => v = .int .i64 (siteE ((cut1 s 64).2.1) : Int))]) (by kernel_rfl) (by kernel_rfl) rfl (by kernel_rfl) ⟨(stab_eq _), (stab_eq _), trivial⟩ N (by kernel_rfl) ⟨?_, ?_, trivial⟩ ?_
      · -- 0 mail.go:58
        rintro aa ww hE hF ⟨-⟩
        have o5 : aa.eval (.tmp 5) = .string ((cut1 s 64).2.1) := hF.carry (fun v _ => v = .string ((cut1 s 64).2.1)) rfl (stab_eq _) hE T5
        exact opAt rfl (ok_run rfl (run_here rfl (ex_move (.inl rfl) o5) ( rfl)))
      · -- 1 mail.go:58
        rintro aa ww hE hF ⟨d0, -⟩
        replace d0 : aa.eval (.tmp 25) = .string ((cut1 s 64).2.1) := d0
        exact opAt rfl (ok_run rfl (run_callR (ψ := (fun v _ => v = .int .i64 (siteE ((cut1 s 64).2.1) : Int))) rfl Tryd.call29 (by
      simp only [List.map_toArray, List.map_cons, List.map_nil, d0]
      exact ret_same (mSite_c ((cut1 s 64).2.1) _ (by first | with_reducible assumption | exact le_max (by omega) | (simp only [ByteArray.size_extract]; unfold maxLen at *; omega)))) (fun _ _ h =>  h)))
      intro a34 w35 hE hF hfac hap
      obtain ⟨f0, f1, -⟩ := hfac
      replace N := hF.size.trans N
      replace D := hF.defers.trans D
      replace R_b4 := hE.row R_b4
      replace T2 : (fun v _ => v = .pointer (some ⟨b4, 0, none⟩)) (a34.at 2) w35 := hF.carry (fun v _ => v = .pointer (some ⟨b4, 0, none⟩)) rfl (stab_eq _) hE T2
      replace T3 : (fun v _ => v = .int .i64 0) (a34.at 3) w35 := hF.carry (fun v _ => v = .int .i64 0) rfl (stab_eq _) hE T3
      replace T4 : (fun v _ => v = .string ((cut1 s 64).1)) (a34.at 4) w35 := hF.carry (fun v _ => v = .string ((cut1 s 64).1)) rfl (stab_eq _) hE T4
      replace T5 : (fun v _ => v = .string ((cut1 s 64).2.1)) (a34.at 5) w35 := hF.carry (fun v _ => v = .string ((cut1 s 64).2.1)) rfl (stab_eq _) hE T5
      have T26 : (fun v _ => v = .int .i64 (siteE ((cut1 s 64).2.1) : Int)) (a34.at 26) w35 := f1
      replace E := E.trans hE
      clear hE hF hap
      show wpOps _ (rg Tryd.f20 6) _ [2] _ _
      refine tail_val rfl rfl rfl (ex_move (.inr rfl) (v := .int .i64 (siteE ((cut1 s 64).2.1) : Int)) (show a34.eval (.tmp 26) = .int .i64 (siteE ((cut1 s 64).2.1) : Int) from T26)) ?_
      obtain ⟨a36, ha⟩ : ∃ x : Act, x = a34.put (some 7) (.int .i64 (siteE ((cut1 s 64).2.1) : Int)) := ⟨_, rfl⟩
      rw [← ha]
      replace T2 : (fun v _ => v = .pointer (some ⟨b4, 0, none⟩)) (a36.at 2) w35 := by rw [ha, put_other rfl]; exact T2
      replace T3 : (fun v _ => v = .int .i64 0) (a36.at 3) w35 := by rw [ha, put_other rfl]; exact T3
      replace T4 : (fun v _ => v = .string ((cut1 s 64).1)) (a36.at 4) w35 := by rw [ha, put_other rfl]; exact T4
      replace T5 : (fun v _ => v = .string ((cut1 s 64).2.1)) (a36.at 5) w35 := by rw [ha, put_other rfl]; exact T5
      replace T26 : (fun v _ => v = .int .i64 (siteE ((cut1 s 64).2.1) : Int)) (a36.at 26) w35 := by rw [ha, put_other rfl]; exact T26
      have T7 : (fun v _ => v = .int .i64 (siteE ((cut1 s 64).2.1) : Int)) (a36.at 7) w35 := by rw [ha, put_same N (by decide)]; skip
      replace N := (ha ▸ put_size _ _ _ : a36.tmps.size = _).trans N
      replace D := (ha ▸ put_defers' _ _ _ : a36.defers = _).trans D
      clear ha
      clear T26
      refine hK33 _ _ ?_
      refine wp_seq_k (fun K37 hK37 => ?_)
      -- region 7: mail.go:58
      show (Code.region 7 (rg Tryd.f20 7) false).wp _ _ _ _
      refine plain_list (n := 2) (N := 34) (deps := [[], [0]]) (F := [(fun v _ => v = .int .i64 (siteE ((cut1 s 64).2.1) : Int)), (fun v _ => v = .bool ((siteE ((cut1 s 64).2.1) : Int) != (0 : Int)))]) (by kernel_rfl) (by kernel_rfl) rfl (by kernel_rfl) ⟨(stab_eq _), (stab_eq _), trivial⟩ N (by kernel_rfl) ⟨?_, ?_, trivial⟩ ?_
      · -- 0 mail.go:58
        rintro aa ww hE hF ⟨-⟩
        have o7 : aa.eval (.tmp 7) = .int .i64 (siteE ((cut1 s 64).2.1) : Int) := hF.carry (fun v _ => v = .int .i64 (siteE ((cut1 s 64).2.1) : Int)) rfl (stab_eq _) hE T7
        exact opAt rfl (ok_run rfl (run_here rfl (ex_move (.inl rfl) o7) ( rfl)))
      · -- 1 mail.go:58
        rintro aa ww hE hF ⟨d0, -⟩
        replace d0 : aa.eval (.tmp 27) = .int .i64 (siteE ((cut1 s 64).2.1) : Int) := d0
        exact opAt rfl (ok_run rfl (run_here rfl (ex_binOp rfl (by rw [show aa.eval (.tmp 27) = .int .i64 (siteE ((cut1 s 64).2.1) : Int) from d0, show aa.eval (.const (.int .i64 0)) = .int .i64 0 from (ev_const (v := .int .i64 0))]; exact eqg_int) (by rw [show aa.eval (.tmp 27) = .int .i64 (siteE ((cut1 s 64).2.1) : Int) from d0, show aa.eval (.const (.int .i64 0)) = .int .i64 0 from (ev_const (v := .int .i64 0))]; exact bin_neq)) ( rfl)))
      intro a38 w39 hE hF hfac hap
      obtain ⟨f0, f1, -⟩ := hfac
      replace N := hF.size.trans N
      replace D := hF.defers.trans D
      replace R_b4 := hE.row R_b4
      replace T2 : (fun v _ => v = .pointer (some ⟨b4, 0, none⟩)) (a38.at 2) w39 := hF.carry (fun v _ => v = .pointer (some ⟨b4, 0, none⟩)) rfl (stab_eq _) hE T2
      replace T3 : (fun v _ => v = .int .i64 0) (a38.at 3) w39 := hF.carry (fun v _ => v = .int .i64 0) rfl (stab_eq _) hE T3
      replace T4 : (fun v _ => v = .string ((cut1 s 64).1)) (a38.at 4) w39 := hF.carry (fun v _ => v = .string ((cut1 s 64).1)) rfl (stab_eq _) hE T4
      replace T5 : (fun v _ => v = .string ((cut1 s 64).2.1)) (a38.at 5) w39 := hF.carry (fun v _ => v = .string ((cut1 s 64).2.1)) rfl (stab_eq _) hE T5
      replace T7 : (fun v _ => v = .int .i64 (siteE ((cut1 s 64).2.1) : Int)) (a38.at 7) w39 := hF.carry (fun v _ => v = .int .i64 (siteE ((cut1 s 64).2.1) : Int)) rfl (stab_eq _) hE T7
      have T28 : (fun v _ => v = .bool ((siteE ((cut1 s 64).2.1) : Int) != (0 : Int))) (a38.at 28) w39 := f1
      replace E := E.trans hE
      clear hE hF hap
      show wpOps _ (rg Tryd.f20 7) _ [] _ _
      refine hK37 _ _ ?_
      refine wp_cond_split (t := (siteE ((cut1 s 64).2.1) : Int) != (0 : Int)) T28 (fun C40 => ?_) (fun C40 => ?_)
      · clear T28
        refine wp_seq_k (fun K41 hK41 => ?_)
        -- region 8: mail.go:59
        show (Code.region 8 (rg Tryd.f20 8) false).wp _ _ _ _
        refine plain_list (n := 2) (N := 34) (deps := [[], []]) (F := [(fun v _ => v = .agg #[.string ⟨#[]⟩, .string ⟨#[]⟩]), (fun v _ => v = .int .i64 (siteE ((cut1 s 64).2.1) : Int))]) (by kernel_rfl) (by kernel_rfl) rfl (by kernel_rfl) ⟨(stab_eq _), (stab_eq _), trivial⟩ N (by kernel_rfl) ⟨?_, ?_, trivial⟩ ?_
        · -- 0 mail.go:59
          rintro aa ww hE hF ⟨-⟩
          exact opAt rfl (ok_run rfl (run_here rfl (ex_build rfl (by simp [Instr.build, Tryd.zeroValue27, Tryd.runUnderlying27, Instr.fill, Value.cells, Tryd.sizeOf9])) ( rfl)))
        · -- 1 mail.go:59
          rintro aa ww hE hF ⟨-⟩
          have o7 : aa.eval (.tmp 7) = .int .i64 (siteE ((cut1 s 64).2.1) : Int) := hF.carry (fun v _ => v = .int .i64 (siteE ((cut1 s 64).2.1) : Int)) rfl (stab_eq _) hE T7
          exact opAt rfl (ok_run rfl (run_here rfl (ex_move (.inl rfl) o7) ( rfl)))
        intro a42 w43 hE hF hfac hap
        obtain ⟨f0, f1, -⟩ := hfac
        replace N := hF.size.trans N
        replace D := hF.defers.trans D
        replace R_b4 := hE.row R_b4
        replace T2 : (fun v _ => v = .pointer (some ⟨b4, 0, none⟩)) (a42.at 2) w43 := hF.carry (fun v _ => v = .pointer (some ⟨b4, 0, none⟩)) rfl (stab_eq _) hE T2
        replace T3 : (fun v _ => v = .int .i64 0) (a42.at 3) w43 := hF.carry (fun v _ => v = .int .i64 0) rfl (stab_eq _) hE T3
        replace T4 : (fun v _ => v = .string ((cut1 s 64).1)) (a42.at 4) w43 := hF.carry (fun v _ => v = .string ((cut1 s 64).1)) rfl (stab_eq _) hE T4
        replace T5 : (fun v _ => v = .string ((cut1 s 64).2.1)) (a42.at 5) w43 := hF.carry (fun v _ => v = .string ((cut1 s 64).2.1)) rfl (stab_eq _) hE T5
        replace T7 : (fun v _ => v = .int .i64 (siteE ((cut1 s 64).2.1) : Int)) (a42.at 7) w43 := hF.carry (fun v _ => v = .int .i64 (siteE ((cut1 s 64).2.1) : Int)) rfl (stab_eq _) hE T7
        have T29 : (fun v _ => v = .agg #[.string ⟨#[]⟩, .string ⟨#[]⟩]) (a42.at 29) w43 := f0
        have T30 : (fun v _ => v = .int .i64 (siteE ((cut1 s 64).2.1) : Int)) (a42.at 30) w43 := f1
        replace E := E.trans hE
        clear hE hF hap
        show wpOps _ (rg Tryd.f20 8) _ [2, 3] _ _
        refine tail_do rfl rfl rfl (ex_store rfl (show a42.eval (.tmp 2) = .pointer (some ⟨b4, 0, none⟩) from T2) (by rw [show a42.eval (.tmp 29) = .agg #[.string ⟨#[]⟩, .string ⟨#[]⟩] from (show a42.eval (.tmp 29) = .agg #[.string ⟨#[]⟩, .string ⟨#[]⟩] from T29)]; exact store_row R_b4 (by kernel_rfl) rfl (by simp [Value.oneCell']))) ?_
        obtain ⟨w44, hw⟩ : ∃ x : World, x = w43.setRow b4 #[.string ⟨#[]⟩, .string ⟨#[]⟩] := ⟨_, rfl⟩
        rw [← hw]
        replace R_b4 : w44.heap[b4]? = some (.cells #[.string ⟨#[]⟩, .string ⟨#[]⟩] 27 (0, 0)) := hw ▸ setRow_heap _ _ _ _ _ _ R_b4
        replace E : Ext w w44 := hw ▸ below_row E B_b4
        clear hw
        refine tail_val rfl rfl rfl (ex_move (.inr rfl) (v := .int .i64 (siteE ((cut1 s 64).2.1) : Int)) (show a42.eval (.tmp 30) = .int .i64 (siteE ((cut1 s 64).2.1) : Int) from T30)) ?_
        obtain ⟨a45, ha⟩ : ∃ x : Act, x = a42.put (some 3) (.int .i64 (siteE ((cut1 s 64).2.1) : Int)) := ⟨_, rfl⟩
        rw [← ha]
        replace T2 : (fun v _ => v = .pointer (some ⟨b4, 0, none⟩)) (a45.at 2) w44 := by rw [ha, put_other rfl]; exact T2
        replace T4 : (fun v _ => v = .string ((cut1 s 64).1)) (a45.at 4) w44 := by rw [ha, put_other rfl]; exact T4
        replace T5 : (fun v _ => v = .string ((cut1 s 64).2.1)) (a45.at 5) w44 := by rw [ha, put_other rfl]; exact T5
        replace T7 : (fun v _ => v = .int .i64 (siteE ((cut1 s 64).2.1) : Int)) (a45.at 7) w44 := by rw [ha, put_other rfl]; exact T7
        replace T29 : (fun v _ => v = .agg #[.string ⟨#[]⟩, .string ⟨#[]⟩]) (a45.at 29) w44 := by rw [ha, put_other rfl]; exact T29
        replace T30 : (fun v _ => v = .int .i64 (siteE ((cut1 s 64).2.1) : Int)) (a45.at 30) w44 := by rw [ha, put_other rfl]; exact T30
        replace T3 : (fun v _ => v = .int .i64 (siteE ((cut1 s 64).2.1) : Int)) (a45.at 3) w44 := by rw [ha, put_same N (by decide)]; skip
        replace N := (ha ▸ put_size _ _ _ : a45.tmps.size = _).trans N
        replace D := (ha ▸ put_defers' _ _ _ : a45.defers = _).trans D
        clear ha
        clear T7
        clear T29
        clear T30
        refine hK41 _ _ ?_
        refine wp_ret ?_
        -- the end
        refine ret_c1 Tryd.results20 D T2 (load_row R_b4 Tryd.underlying27 rfl (by kernel_rfl)) T3 ?_
        exact ⟨_, rfl, E, by rw [addr3 C16 C26 C40] <;> rfl⟩
      · clear T28
        refine wp_skip ?_
        refine hK32 _ _ ?_
        refine wp_seq_k (fun K46 hK46 => ?_)
        -- region 9: mail.go:61
        show (Code.region 9 (rg Tryd.f20 9) false).wp _ _ _ _
        refine plain_list (n := 3) (N := 34) (deps := [[], [], [0, 1]]) (F := [(fun v _ => v = .string ((cut1 s 64).1)), (fun v _ => v = .string ((cut1 s 64).2.1)), (fun v _ => v = .agg #[.string ((cut1 s 64).1), .string ((cut1 s 64).2.1)])]) (by kernel_rfl) (by kernel_rfl) rfl (by kernel_rfl) ⟨(stab_eq _), (stab_eq _), (stab_eq _), trivial⟩ N (by kernel_rfl) ⟨?_, ?_, ?_, trivial⟩ ?_
        · -- 0 mail.go:61
          rintro aa ww hE hF ⟨-⟩
          have o4 : aa.eval (.tmp 4) = .string ((cut1 s 64).1) := hF.carry (fun v _ => v = .string ((cut1 s 64).1)) rfl (stab_eq _) hE T4
          exact opAt rfl (ok_run rfl (run_here rfl (ex_move (.inl rfl) o4) ( rfl)))
        · -- 1 mail.go:61
          rintro aa ww hE hF ⟨-⟩
          have o5 : aa.eval (.tmp 5) = .string ((cut1 s 64).2.1) := hF.carry (fun v _ => v = .string ((cut1 s 64).2.1)) rfl (stab_eq _) hE T5
          exact opAt rfl (ok_run rfl (run_here rfl (ex_move (.inl rfl) o5) ( rfl)))
        · -- 2 mail.go:61
          rintro aa ww hE hF ⟨d0, d1, -⟩
          replace d0 : aa.eval (.tmp 31) = .string ((cut1 s 64).1) := d0
          replace d1 : aa.eval (.tmp 32) = .string ((cut1 s 64).2.1) := d1
          exact opAt rfl (ok_run rfl (run_here rfl (ex_build rfl (by simp only [List.map_toArray, List.map_cons, List.map_nil, show aa.eval (.tmp 31) = .string ((cut1 s 64).1) from d0, show aa.eval (.tmp 32) = .string ((cut1 s 64).2.1) from d1]; simp [Instr.build, Tryd.zeroValue27, Tryd.runUnderlying27, Instr.fill, Value.cells, Tryd.sizeOf9])) ( rfl)))
        intro a47 w48 hE hF hfac hap
        obtain ⟨f0, f1, f2, -⟩ := hfac
        replace N := hF.size.trans N
        replace D := hF.defers.trans D
        replace R_b4 := hE.row R_b4
        replace T2 : (fun v _ => v = .pointer (some ⟨b4, 0, none⟩)) (a47.at 2) w48 := hF.carry (fun v _ => v = .pointer (some ⟨b4, 0, none⟩)) rfl (stab_eq _) hE T2
        replace T3 : (fun v _ => v = .int .i64 0) (a47.at 3) w48 := hF.carry (fun v _ => v = .int .i64 0) rfl (stab_eq _) hE T3
        replace T4 : (fun v _ => v = .string ((cut1 s 64).1)) (a47.at 4) w48 := hF.carry (fun v _ => v = .string ((cut1 s 64).1)) rfl (stab_eq _) hE T4
        replace T5 : (fun v _ => v = .string ((cut1 s 64).2.1)) (a47.at 5) w48 := hF.carry (fun v _ => v = .string ((cut1 s 64).2.1)) rfl (stab_eq _) hE T5
        clear T7
        have T33 : (fun v _ => v = .agg #[.string ((cut1 s 64).1), .string ((cut1 s 64).2.1)]) (a47.at 33) w48 := f2
        replace E := E.trans hE
        clear hE hF hap
        show wpOps _ (rg Tryd.f20 9) _ [3, 4] _ _
        refine tail_do rfl rfl rfl (ex_store rfl (show a47.eval (.tmp 2) = .pointer (some ⟨b4, 0, none⟩) from T2) (by rw [show a47.eval (.tmp 33) = .agg #[.string ((cut1 s 64).1), .string ((cut1 s 64).2.1)] from (show a47.eval (.tmp 33) = .agg #[.string ((cut1 s 64).1), .string ((cut1 s 64).2.1)] from T33)]; exact store_row R_b4 (by kernel_rfl) rfl (by simp [Value.oneCell']))) ?_
        obtain ⟨w49, hw⟩ : ∃ x : World, x = w48.setRow b4 #[.string ((cut1 s 64).1), .string ((cut1 s 64).2.1)] := ⟨_, rfl⟩
        rw [← hw]
        replace R_b4 : w49.heap[b4]? = some (.cells #[.string ((cut1 s 64).1), .string ((cut1 s 64).2.1)] 27 (0, 0)) := hw ▸ setRow_heap _ _ _ _ _ _ R_b4
        replace E : Ext w w49 := hw ▸ below_row E B_b4
        clear hw
        refine tail_val rfl rfl rfl (ex_move (.inr rfl) (v := .int .i64 0) (ev_const (v := .int .i64 0))) ?_
        obtain ⟨a50, ha⟩ : ∃ x : Act, x = a47.put (some 3) (.int .i64 0) := ⟨_, rfl⟩
        rw [← ha]
        replace T2 : (fun v _ => v = .pointer (some ⟨b4, 0, none⟩)) (a50.at 2) w49 := by rw [ha, put_other rfl]; exact T2
        replace T4 : (fun v _ => v = .string ((cut1 s 64).1)) (a50.at 4) w49 := by rw [ha, put_other rfl]; exact T4
        replace T5 : (fun v _ => v = .string ((cut1 s 64).2.1)) (a50.at 5) w49 := by rw [ha, put_other rfl]; exact T5
        replace T33 : (fun v _ => v = .agg #[.string ((cut1 s 64).1), .string ((cut1 s 64).2.1)]) (a50.at 33) w49 := by rw [ha, put_other rfl]; exact T33
        replace T3 : (fun v _ => v = .int .i64 0) (a50.at 3) w49 := by rw [ha, put_same N (by decide)]; skip
        replace N := (ha ▸ put_size _ _ _ : a50.tmps.size = _).trans N
        replace D := (ha ▸ put_defers' _ _ _ : a50.defers = _).trans D
        clear ha
        clear T4
        clear T5
        clear T33
        refine hK46 _ _ ?_
        refine wp_ret ?_
        -- the end
        refine ret_c1 Tryd.results20 D T2 (load_row R_b4 Tryd.underlying27 rfl (by kernel_rfl)) T3 ?_
        exact ⟨_, rfl, E, by rw [addr4 C16 C26 C40] <;> rfl⟩

set_option maxRecDepth 100000 in
set_option maxHeartbeats 600000 in
theorem rAddress_e (s : ByteArray) (w : World) (hs : s.size ≤ maxLen) : Calls Tryd.prog 21 #[.string s] w (Ret (fun v _ => v = .tuple #[.agg #[.string (addrR s).1.1, .string (addrR s).1.2], .int .i64 ((addrR s).2 : Int)]) w) := by
  have hs' := hs
  unfold maxLen at hs
  refine enter_fn Tryd.func21 rfl Tryd.ntmps21 (Nat.le_of_ble_eq_true rfl) (fun a0 N D hA => ?_)
  have T0 : (fun v _ => v = .string s) (a0.at 0) w := by rw [hA 0 (by simp)]; exact rfl
  clear hA
  have E : Ext w w := Ext.refl w
  refine wp_seq_k (fun K1 hK1 => ?_)
  -- region 0: ref.go:66
  show (Code.region 0 (rg Tryd.f21 0) false).wp _ _ _ _
  refine plain_list (n := 1) (N := 52) (deps := [[]]) (F := [(IsBox #[.string ⟨#[]⟩, .string ⟨#[]⟩] 23 w.heap.size)]) (by kernel_rfl) (by kernel_rfl) rfl (by kernel_rfl) ⟨(stab_box _ _ _), trivial⟩ N (by kernel_rfl) ⟨?_, trivial⟩ ?_
  · -- 0 ref.go:66
    rintro aa ww hE hF ⟨-⟩
    exact opAt rfl (ok_run rfl (run_new (ex_alloc rfl Tryd.zeroValue23) ( box_new hE.size)))
  intro a2 w3 hE hF hfac hap
  obtain ⟨f0, -⟩ := hfac
  replace N := hF.size.trans N
  replace D := hF.defers.trans D
  obtain ⟨b4, T2, B_b4, R_b4⟩ := f0
  replace B_b4 := Nat.le_trans E.size B_b4
  replace T0 : (fun v _ => v = .string s) (a2.at 0) w3 := hF.carry (fun v _ => v = .string s) rfl (stab_eq _) hE T0
  replace E := E.trans hE
  clear hE hF hap
  show wpOps _ (rg Tryd.f21 0) _ [1] _ _
  refine tail_val rfl rfl rfl (ex_move (.inr rfl) (v := .int .i64 0) (ev_const (v := .int .i64 0))) ?_
  obtain ⟨a5, ha⟩ : ∃ x : Act, x = a2.put (some 3) (.int .i64 0) := ⟨_, rfl⟩
  rw [← ha]
  replace T0 : (fun v _ => v = .string s) (a5.at 0) w3 := by rw [ha, put_other rfl]; exact T0
  replace T2 : (fun v _ => v = .pointer (some ⟨b4, 0, none⟩)) (a5.at 2) w3 := by rw [ha, put_other rfl]; exact T2
  have T3 : (fun v _ => v = .int .i64 0) (a5.at 3) w3 := by rw [ha, put_same N (by decide)]; skip
  replace N := (ha ▸ put_size _ _ _ : a5.tmps.size = _).trans N
  replace D := (ha ▸ put_defers' _ _ _ : a5.defers = _).trans D
  clear ha
  refine hK1 _ _ ?_
  refine wp_seq_k (fun K6 hK6 => ?_)
  -- region 1: ref.go:67
  show (Code.region 1 (rg Tryd.f21 1) false).wp _ _ _ _
  refine wp_region ?_
  show wpOps _ (rg Tryd.f21 1) _ [0, 1] _ _
  refine tail_val rfl rfl rfl (ex_move (.inr rfl) (v := .int .i64 0) (ev_const (v := .int .i64 0))) ?_
  obtain ⟨a7, ha⟩ : ∃ x : Act, x = a5.put (some 4) (.int .i64 0) := ⟨_, rfl⟩
  rw [← ha]
  replace T0 : (fun v _ => v = .string s) (a7.at 0) w3 := by rw [ha, put_other rfl]; exact T0
  replace T2 : (fun v _ => v = .pointer (some ⟨b4, 0, none⟩)) (a7.at 2) w3 := by rw [ha, put_other rfl]; exact T2
  replace T3 : (fun v _ => v = .int .i64 0) (a7.at 3) w3 := by rw [ha, put_other rfl]; exact T3
  have T4 : (fun v _ => v = .int .i64 0) (a7.at 4) w3 := by rw [ha, put_same N (by decide)]; skip
  replace N := (ha ▸ put_size _ _ _ : a7.tmps.size = _).trans N
  replace D := (ha ▸ put_defers' _ _ _ : a7.defers = _).trans D
  clear ha
  refine tail_val rfl rfl rfl (ex_move (.inr rfl) (v := .int .i64 0) (ev_const (v := .int .i64 0))) ?_
  obtain ⟨a8, ha⟩ : ∃ x : Act, x = a7.put (some 5) (.int .i64 0) := ⟨_, rfl⟩
  rw [← ha]
  replace T0 : (fun v _ => v = .string s) (a8.at 0) w3 := by rw [ha, put_other rfl]; exact T0
  replace T2 : (fun v _ => v = .pointer (some ⟨b4, 0, none⟩)) (a8.at 2) w3 := by rw [ha, put_other rfl]; exact T2
  replace T3 : (fun v _ => v = .int .i64 0) (a8.at 3) w3 := by rw [ha, put_other rfl]; exact T3
  replace T4 : (fun v _ => v = .int .i64 0) (a8.at 4) w3 := by rw [ha, put_other rfl]; exact T4
  have T5 : (fun v _ => v = .int .i64 0) (a8.at 5) w3 := by rw [ha, put_same N (by decide)]; skip
  replace N := (ha ▸ put_size _ _ _ : a8.tmps.size = _).trans N
  replace D := (ha ▸ put_defers' _ _ _ : a8.defers = _).trans D
  clear ha
  refine hK6 _ _ ?_
  refine wp_seq_k (fun K9 hK9 => ?_)
  refine wp_seq_k (fun K10 hK10 => ?_)
  -- region 2: ref.go:68
  show (Code.region 2 (rg Tryd.f21 2) false).wp _ _ _ _
  refine wp_region ?_
  show wpOps _ (rg Tryd.f21 2) _ [0] _ _
  refine tail_val rfl rfl rfl (ex_move (.inr rfl) (v := .int .i64 0) (ev_const (v := .int .i64 0))) ?_
  obtain ⟨a11, ha⟩ : ∃ x : Act, x = a8.put (some 6) (.int .i64 0) := ⟨_, rfl⟩
  rw [← ha]
  replace T0 : (fun v _ => v = .string s) (a11.at 0) w3 := by rw [ha, put_other rfl]; exact T0
  replace T2 : (fun v _ => v = .pointer (some ⟨b4, 0, none⟩)) (a11.at 2) w3 := by rw [ha, put_other rfl]; exact T2
  replace T3 : (fun v _ => v = .int .i64 0) (a11.at 3) w3 := by rw [ha, put_other rfl]; exact T3
  replace T4 : (fun v _ => v = .int .i64 0) (a11.at 4) w3 := by rw [ha, put_other rfl]; exact T4
  replace T5 : (fun v _ => v = .int .i64 0) (a11.at 5) w3 := by rw [ha, put_other rfl]; exact T5
  have T6 : (fun v _ => v = .int .i64 0) (a11.at 6) w3 := by rw [ha, put_same N (by decide)]; skip
  replace N := (ha ▸ put_size _ _ _ : a11.tmps.size = _).trans N
  replace D := (ha ▸ put_defers' _ _ _ : a11.defers = _).trans D
  clear ha
  refine hK10 _ _ ?_
  refine wp_block ?_
  -- the loop
  obtain ⟨I13, hI13⟩ : ∃ I : Nat → Act → World → Prop, I = fun μ aa ww => ∃ (p : Nat) (c : Nat) (k : Nat), (aa.tmps.size = 52) ∧ (aa.defers = []) ∧ (Ext w ww) ∧ (Ext w3 ww) ∧ ((fun v _ => v = .string s) (aa.at 0) ww) ∧ ((fun v _ => v = .pointer (some ⟨b4, 0, none⟩)) (aa.at 2) ww) ∧ ((fun v _ => v = .int .i64 0) (aa.at 3) ww) ∧ ((fun v _ => v = .int .i64 (p : Int)) (aa.at 4) ww) ∧ ((fun v _ => v = .int .i64 (c : Int)) (aa.at 5) ww) ∧ ((fun v _ => v = .int .i64 (k : Int)) (aa.at 6) ww) ∧ (μ = s.size - k) ∧ (AddrRel s p c k) := ⟨_, rfl⟩
  refine loop_rule I13 _ (by rw [hI13]; exact ⟨0, 0, 0, N, D, E, Ext.refl _, T0, T2, T3, T4, T5, T6, rfl, ⟨⟨Nat.zero_le _, Nat.le_refl _, Nat.le_refl _⟩, rfl, fun h => absurd h (by decide)⟩⟩) ?_
  clear T0
  clear T2
  clear T3
  clear T4
  clear T5
  clear T6
  have H_b4 := R_b4; clear R_b4
  clear N D E
  intro μ a14 w15 hI
  rw [hI13] at hI
  obtain ⟨p, c, k, N, D, E, X12, T0, T2, T3, T4, T5, T6, hμ, hrel⟩ := hI
  have HM := Lib.hid hμ; clear hμ
  have R_b4 := X12.row H_b4
  obtain ⟨hk, hpk, hck⟩ := hrel.1
  refine wp_seq_k (fun K16 hK16 => ?_)
  refine wp_seq_k (fun K17 hK17 => ?_)
  -- region 3: ref.go:68
  show (Code.region 3 (rg Tryd.f21 3) false).wp _ _ _ _
  refine plain_list (n := 4) (N := 52) (deps := [[], [], [1], [0, 2]]) (F := [(fun v _ => v = .int .i64 (k : Int)), (fun v _ => v = .string s), (fun v _ => v = .int .i64 (s.size : Int)), (fun v _ => v = .bool (decide ((k : Int) < (s.size : Int))))]) (by kernel_rfl) (by kernel_rfl) rfl (by kernel_rfl) ⟨(stab_eq _), (stab_eq _), (stab_eq _), (stab_eq _), trivial⟩ N (by kernel_rfl) ⟨?_, ?_, ?_, ?_, trivial⟩ ?_
  · -- 0 ref.go:68
    rintro aa ww hE hF ⟨-⟩
    have o6 : aa.eval (.tmp 6) = .int .i64 (k : Int) := hF.carry (fun v _ => v = .int .i64 (k : Int)) rfl (stab_eq _) hE T6
    exact opAt rfl (ok_run rfl (run_here rfl (ex_move (.inl rfl) o6) ( rfl)))
  · -- 1 ref.go:68
    rintro aa ww hE hF ⟨-⟩
    have o0 : aa.eval (.tmp 0) = .string s := hF.carry (fun v _ => v = .string s) rfl (stab_eq _) hE T0
    exact opAt rfl (ok_run rfl (run_here rfl (ex_move (.inl rfl) o0) ( rfl)))
  · -- 2 ref.go:68
    rintro aa ww hE hF ⟨d1, -⟩
    replace d1 : aa.eval (.tmp 8) = .string s := d1
    exact opAt rfl (ok_run rfl (run_here rfl (ex_builtin rfl (fun cs => by simp only [List.map_toArray, List.map_cons, List.map_nil, show aa.eval (.tmp 8) = .string s from d1]; exact len_str Tryd.underlying9)) ( rfl)))
  · -- 3 ref.go:68
    rintro aa ww hE hF ⟨d0, d2, -⟩
    replace d0 : aa.eval (.tmp 7) = .int .i64 (k : Int) := d0
    replace d2 : aa.eval (.tmp 9) = .int .i64 (s.size : Int) := d2
    exact opAt rfl (ok_run rfl (run_here rfl (ex_binOp rfl (by rw [show aa.eval (.tmp 7) = .int .i64 (k : Int) from d0, show aa.eval (.tmp 9) = .int .i64 (s.size : Int) from d2]; exact eqg_int) (by rw [show aa.eval (.tmp 7) = .int .i64 (k : Int) from d0, show aa.eval (.tmp 9) = .int .i64 (s.size : Int) from d2]; exact bin_lss)) ( rfl)))
  intro a18 w19 hE hF hfac hap
  obtain ⟨f0, f1, f2, f3, -⟩ := hfac
  replace N := hF.size.trans N
  replace D := hF.defers.trans D
  replace R_b4 := hE.row R_b4
  replace T0 : (fun v _ => v = .string s) (a18.at 0) w19 := hF.carry (fun v _ => v = .string s) rfl (stab_eq _) hE T0
  replace T2 : (fun v _ => v = .pointer (some ⟨b4, 0, none⟩)) (a18.at 2) w19 := hF.carry (fun v _ => v = .pointer (some ⟨b4, 0, none⟩)) rfl (stab_eq _) hE T2
  replace T3 : (fun v _ => v = .int .i64 0) (a18.at 3) w19 := hF.carry (fun v _ => v = .int .i64 0) rfl (stab_eq _) hE T3
  replace T4 : (fun v _ => v = .int .i64 (p : Int)) (a18.at 4) w19 := hF.carry (fun v _ => v = .int .i64 (p : Int)) rfl (stab_eq _) hE T4
  replace T5 : (fun v _ => v = .int .i64 (c : Int)) (a18.at 5) w19 := hF.carry (fun v _ => v = .int .i64 (c : Int)) rfl (stab_eq _) hE T5
  replace T6 : (fun v _ => v = .int .i64 (k : Int)) (a18.at 6) w19 := hF.carry (fun v _ => v = .int .i64 (k : Int)) rfl (stab_eq _) hE T6
  have T10 : (fun v _ => v = .bool (decide ((k : Int) < (s.size : Int)))) (a18.at 10) w19 := f3
  replace E := E.trans hE
  replace X12 := X12.trans hE
  clear hE hF hap
  show wpOps _ (rg Tryd.f21 3) _ [] _ _
  refine hK17 _ _ ?_
  refine wp_cond_split (t := decide ((k : Int) < (s.size : Int))) T10 (fun C20 => ?_) (fun C20 => ?_)
  · clear T10
    have hlt : k < s.size := by have := of_decide_eq_true C20; omega
    refine wp_skip ?_
    refine hK16 _ _ ?_
    refine wp_seq_k (fun K21 hK21 => ?_)
    refine wp_block ?_
    refine wp_seq_k (fun K22 hK22 => ?_)
    -- region 5: ref.go:69
    show (Code.region 5 (rg Tryd.f21 5) false).wp _ _ _ _
    refine plain_list (n := 4) (N := 52) (deps := [[], [], [0, 1], [2]]) (F := [(fun v _ => v = .string s), (fun v _ => v = .int .i64 (k : Int)), (fun v _ => v = .int .u8 ((s[k]'hlt).toNat : Int)), (fun v _ => v = .bool (((s[k]'hlt).toNat : Int) == (64 : Int)))]) (by kernel_rfl) (by kernel_rfl) rfl (by kernel_rfl) ⟨(stab_eq _), (stab_eq _), (stab_eq _), (stab_eq _), trivial⟩ N (by kernel_rfl) ⟨?_, ?_, ?_, ?_, trivial⟩ ?_
    · -- 0 ref.go:69
      rintro aa ww hE hF ⟨-⟩
      have o0 : aa.eval (.tmp 0) = .string s := hF.carry (fun v _ => v = .string s) rfl (stab_eq _) hE T0
      exact opAt rfl (ok_run rfl (run_here rfl (ex_move (.inl rfl) o0) ( rfl)))
    · -- 1 ref.go:69
      rintro aa ww hE hF ⟨-⟩
      have o6 : aa.eval (.tmp 6) = .int .i64 (k : Int) := hF.carry (fun v _ => v = .int .i64 (k : Int)) rfl (stab_eq _) hE T6
      exact opAt rfl (ok_run rfl (run_here rfl (ex_move (.inl rfl) o6) ( rfl)))
    · -- 2 ref.go:69
      rintro aa ww hE hF ⟨d0, d1, -⟩
      replace d0 : aa.eval (.tmp 13) = .string s := d0
      replace d1 : aa.eval (.tmp 14) = .int .i64 (k : Int) := d1
      exact opAt rfl (ok_run rfl (run_here rfl (ex_index rfl (by rw [show aa.eval (.tmp 13) = .string s from d0, show aa.eval (.tmp 14) = .int .i64 (k : Int) from d1]; exact index_str Tryd.underlying9 hlt)) ( rfl)))
    · -- 3 ref.go:69
      rintro aa ww hE hF ⟨d2, -⟩
      replace d2 : aa.eval (.tmp 15) = .int .u8 ((s[k]'hlt).toNat : Int) := d2
      exact opAt rfl (ok_run rfl (run_here rfl (ex_binOp rfl (by rw [show aa.eval (.tmp 15) = .int .u8 ((s[k]'hlt).toNat : Int) from d2, show aa.eval (.const (.int .u8 64)) = .int .u8 64 from (ev_const (v := .int .u8 64))]; exact eqg_int) (by rw [show aa.eval (.tmp 15) = .int .u8 ((s[k]'hlt).toNat : Int) from d2, show aa.eval (.const (.int .u8 64)) = .int .u8 64 from (ev_const (v := .int .u8 64))]; exact bin_eql)) ( rfl)))
    intro a23 w24 hE hF hfac hap
    obtain ⟨f0, f1, f2, f3, -⟩ := hfac
    replace N := hF.size.trans N
    replace D := hF.defers.trans D
    replace R_b4 := hE.row R_b4
    replace T0 : (fun v _ => v = .string s) (a23.at 0) w24 := hF.carry (fun v _ => v = .string s) rfl (stab_eq _) hE T0
    replace T2 : (fun v _ => v = .pointer (some ⟨b4, 0, none⟩)) (a23.at 2) w24 := hF.carry (fun v _ => v = .pointer (some ⟨b4, 0, none⟩)) rfl (stab_eq _) hE T2
    replace T3 : (fun v _ => v = .int .i64 0) (a23.at 3) w24 := hF.carry (fun v _ => v = .int .i64 0) rfl (stab_eq _) hE T3
    replace T4 : (fun v _ => v = .int .i64 (p : Int)) (a23.at 4) w24 := hF.carry (fun v _ => v = .int .i64 (p : Int)) rfl (stab_eq _) hE T4
    replace T5 : (fun v _ => v = .int .i64 (c : Int)) (a23.at 5) w24 := hF.carry (fun v _ => v = .int .i64 (c : Int)) rfl (stab_eq _) hE T5
    replace T6 : (fun v _ => v = .int .i64 (k : Int)) (a23.at 6) w24 := hF.carry (fun v _ => v = .int .i64 (k : Int)) rfl (stab_eq _) hE T6
    have T16 : (fun v _ => v = .bool (((s[k]'hlt).toNat : Int) == (64 : Int))) (a23.at 16) w24 := f3
    replace E := E.trans hE
    replace X12 := X12.trans hE
    clear hE hF hap
    show wpOps _ (rg Tryd.f21 5) _ [] _ _
    refine hK22 _ _ ?_
    refine wp_cond_split (t := ((s[k]'hlt).toNat : Int) == (64 : Int)) T16 (fun C25 => ?_) (fun C25 => ?_)
    · clear T16
      refine wp_seq_k (fun K26 hK26 => ?_)
      -- region 6: ref.go:70
      show (Code.region 6 (rg Tryd.f21 6) false).wp _ _ _ _
      refine plain_list (n := 1) (N := 52) (deps := [[]]) (F := [(fun v _ => v = .int .i64 (k : Int))]) (by kernel_rfl) (by kernel_rfl) rfl (by kernel_rfl) ⟨(stab_eq _), trivial⟩ N (by kernel_rfl) ⟨?_, trivial⟩ ?_
      · -- 0 ref.go:70
        rintro aa ww hE hF ⟨-⟩
        have o6 : aa.eval (.tmp 6) = .int .i64 (k : Int) := hF.carry (fun v _ => v = .int .i64 (k : Int)) rfl (stab_eq _) hE T6
        exact opAt rfl (ok_run rfl (run_here rfl (ex_move (.inl rfl) o6) ( rfl)))
      intro a27 w28 hE hF hfac hap
      obtain ⟨f0, -⟩ := hfac
      replace N := hF.size.trans N
      replace D := hF.defers.trans D
      replace R_b4 := hE.row R_b4
      replace T0 : (fun v _ => v = .string s) (a27.at 0) w28 := hF.carry (fun v _ => v = .string s) rfl (stab_eq _) hE T0
      replace T2 : (fun v _ => v = .pointer (some ⟨b4, 0, none⟩)) (a27.at 2) w28 := hF.carry (fun v _ => v = .pointer (some ⟨b4, 0, none⟩)) rfl (stab_eq _) hE T2
      replace T3 : (fun v _ => v = .int .i64 0) (a27.at 3) w28 := hF.carry (fun v _ => v = .int .i64 0) rfl (stab_eq _) hE T3
      replace T4 : (fun v _ => v = .int .i64 (p : Int)) (a27.at 4) w28 := hF.carry (fun v _ => v = .int .i64 (p : Int)) rfl (stab_eq _) hE T4
      replace T5 : (fun v _ => v = .int .i64 (c : Int)) (a27.at 5) w28 := hF.carry (fun v _ => v = .int .i64 (c : Int)) rfl (stab_eq _) hE T5
      replace T6 : (fun v _ => v = .int .i64 (k : Int)) (a27.at 6) w28 := hF.carry (fun v _ => v = .int .i64 (k : Int)) rfl (stab_eq _) hE T6
      have T17 : (fun v _ => v = .int .i64 (k : Int)) (a27.at 17) w28 := f0
      replace E := E.trans hE
      replace X12 := X12.trans hE
      clear hE hF hap
      show wpOps _ (rg Tryd.f21 6) _ [1] _ _
      refine tail_val rfl rfl rfl (ex_move (.inr rfl) (v := .int .i64 (k : Int)) (show a27.eval (.tmp 17) = .int .i64 (k : Int) from T17)) ?_
      obtain ⟨a29, ha⟩ : ∃ x : Act, x = a27.put (some 4) (.int .i64 (k : Int)) := ⟨_, rfl⟩
      rw [← ha]
      replace T0 : (fun v _ => v = .string s) (a29.at 0) w28 := by rw [ha, put_other rfl]; exact T0
      replace T2 : (fun v _ => v = .pointer (some ⟨b4, 0, none⟩)) (a29.at 2) w28 := by rw [ha, put_other rfl]; exact T2
      replace T3 : (fun v _ => v = .int .i64 0) (a29.at 3) w28 := by rw [ha, put_other rfl]; exact T3
      replace T5 : (fun v _ => v = .int .i64 (c : Int)) (a29.at 5) w28 := by rw [ha, put_other rfl]; exact T5
      replace T6 : (fun v _ => v = .int .i64 (k : Int)) (a29.at 6) w28 := by rw [ha, put_other rfl]; exact T6
      replace T17 : (fun v _ => v = .int .i64 (k : Int)) (a29.at 17) w28 := by rw [ha, put_other rfl]; exact T17
      replace T4 : (fun v _ => v = .int .i64 (k : Int)) (a29.at 4) w28 := by rw [ha, put_same N (by decide)]; skip
      replace N := (ha ▸ put_size _ _ _ : a29.tmps.size = _).trans N
      replace D := (ha ▸ put_defers' _ _ _ : a29.defers = _).trans D
      clear ha
      clear T17
      refine hK26 _ _ ?_
      -- region 7: ref.go:71
      show (Code.region 7 (rg Tryd.f21 7) false).wp _ _ _ _
      refine plain_list (n := 2) (N := 52) (deps := [[], [0]]) (F := [(fun v _ => v = .int .i64 (c : Int)), (fun v _ => v = .int .i64 ((c : Int) + 1))]) (by kernel_rfl) (by kernel_rfl) rfl (by kernel_rfl) ⟨(stab_eq _), (stab_eq _), trivial⟩ N (by kernel_rfl) ⟨?_, ?_, trivial⟩ ?_
      · -- 0 ref.go:71
        rintro aa ww hE hF ⟨-⟩
        have o5 : aa.eval (.tmp 5) = .int .i64 (c : Int) := hF.carry (fun v _ => v = .int .i64 (c : Int)) rfl (stab_eq _) hE T5
        exact opAt rfl (ok_run rfl (run_here rfl (ex_move (.inl rfl) o5) ( rfl)))
      · -- 1 ref.go:71
        rintro aa ww hE hF ⟨d0, -⟩
        replace d0 : aa.eval (.tmp 18) = .int .i64 (c : Int) := d0
        exact opAt rfl (ok_run rfl (run_here rfl (ex_binOp rfl (by rw [show aa.eval (.tmp 18) = .int .i64 (c : Int) from d0, show aa.eval (.const (.int .i64 1)) = .int .i64 1 from (ev_const (v := .int .i64 1))]; exact eqg_int) (by rw [show aa.eval (.tmp 18) = .int .i64 (c : Int) from d0, show aa.eval (.const (.int .i64 1)) = .int .i64 1 from (ev_const (v := .int .i64 1))]; exact bin_addN (by omega) (by omega))) ( rfl)))
      intro a30 w31 hE hF hfac hap
      obtain ⟨f0, f1, -⟩ := hfac
      replace N := hF.size.trans N
      replace D := hF.defers.trans D
      replace R_b4 := hE.row R_b4
      replace T0 : (fun v _ => v = .string s) (a30.at 0) w31 := hF.carry (fun v _ => v = .string s) rfl (stab_eq _) hE T0
      replace T2 : (fun v _ => v = .pointer (some ⟨b4, 0, none⟩)) (a30.at 2) w31 := hF.carry (fun v _ => v = .pointer (some ⟨b4, 0, none⟩)) rfl (stab_eq _) hE T2
      replace T3 : (fun v _ => v = .int .i64 0) (a30.at 3) w31 := hF.carry (fun v _ => v = .int .i64 0) rfl (stab_eq _) hE T3
      replace T4 : (fun v _ => v = .int .i64 (k : Int)) (a30.at 4) w31 := hF.carry (fun v _ => v = .int .i64 (k : Int)) rfl (stab_eq _) hE T4
      replace T5 : (fun v _ => v = .int .i64 (c : Int)) (a30.at 5) w31 := hF.carry (fun v _ => v = .int .i64 (c : Int)) rfl (stab_eq _) hE T5
      replace T6 : (fun v _ => v = .int .i64 (k : Int)) (a30.at 6) w31 := hF.carry (fun v _ => v = .int .i64 (k : Int)) rfl (stab_eq _) hE T6
      have T19 : (fun v _ => v = .int .i64 ((c : Int) + 1)) (a30.at 19) w31 := f1
      replace E := E.trans hE
      replace X12 := X12.trans hE
      clear hE hF hap
      show wpOps _ (rg Tryd.f21 7) _ [2] _ _
      refine tail_val rfl rfl rfl (ex_move (.inr rfl) (v := .int .i64 ((c : Int) + 1)) (show a30.eval (.tmp 19) = .int .i64 ((c : Int) + 1) from T19)) ?_
      obtain ⟨a32, ha⟩ : ∃ x : Act, x = a30.put (some 5) (.int .i64 ((c : Int) + 1)) := ⟨_, rfl⟩
      rw [← ha]
      replace T0 : (fun v _ => v = .string s) (a32.at 0) w31 := by rw [ha, put_other rfl]; exact T0
      replace T2 : (fun v _ => v = .pointer (some ⟨b4, 0, none⟩)) (a32.at 2) w31 := by rw [ha, put_other rfl]; exact T2
      replace T3 : (fun v _ => v = .int .i64 0) (a32.at 3) w31 := by rw [ha, put_other rfl]; exact T3
      replace T4 : (fun v _ => v = .int .i64 (k : Int)) (a32.at 4) w31 := by rw [ha, put_other rfl]; exact T4
      replace T6 : (fun v _ => v = .int .i64 (k : Int)) (a32.at 6) w31 := by rw [ha, put_other rfl]; exact T6
      replace T19 : (fun v _ => v = .int .i64 ((c : Int) + 1)) (a32.at 19) w31 := by rw [ha, put_other rfl]; exact T19
      replace T5 : (fun v _ => v = .int .i64 ((c : Int) + 1)) (a32.at 5) w31 := by rw [ha, put_same N (by decide)]; skip
      replace N := (ha ▸ put_size _ _ _ : a32.tmps.size = _).trans N
      replace D := (ha ▸ put_defers' _ _ _ : a32.defers = _).trans D
      clear ha
      clear T19
      refine hK21 _ _ ?_
      -- region 4: ref.go:68
      show (Code.region 4 (rg Tryd.f21 4) false).wp _ _ _ _
      refine plain_list (n := 2) (N := 52) (deps := [[], [0]]) (F := [(fun v _ => v = .int .i64 (k : Int)), (fun v _ => v = .int .i64 ((k : Int) + 1))]) (by kernel_rfl) (by kernel_rfl) rfl (by kernel_rfl) ⟨(stab_eq _), (stab_eq _), trivial⟩ N (by kernel_rfl) ⟨?_, ?_, trivial⟩ ?_
      · -- 0 ref.go:68
        rintro aa ww hE hF ⟨-⟩
        have o6 : aa.eval (.tmp 6) = .int .i64 (k : Int) := hF.carry (fun v _ => v = .int .i64 (k : Int)) rfl (stab_eq _) hE T6
        exact opAt rfl (ok_run rfl (run_here rfl (ex_move (.inl rfl) o6) ( rfl)))
      · -- 1 ref.go:68
        rintro aa ww hE hF ⟨d0, -⟩
        replace d0 : aa.eval (.tmp 11) = .int .i64 (k : Int) := d0
        exact opAt rfl (ok_run rfl (run_here rfl (ex_binOp rfl (by rw [show aa.eval (.tmp 11) = .int .i64 (k : Int) from d0, show aa.eval (.const (.int .i64 1)) = .int .i64 1 from (ev_const (v := .int .i64 1))]; exact eqg_int) (by rw [show aa.eval (.tmp 11) = .int .i64 (k : Int) from d0, show aa.eval (.const (.int .i64 1)) = .int .i64 1 from (ev_const (v := .int .i64 1))]; exact bin_addN (by omega) (by omega))) ( rfl)))
      intro a33 w34 hE hF hfac hap
      obtain ⟨f0, f1, -⟩ := hfac
      replace N := hF.size.trans N
      replace D := hF.defers.trans D
      replace R_b4 := hE.row R_b4
      replace T0 : (fun v _ => v = .string s) (a33.at 0) w34 := hF.carry (fun v _ => v = .string s) rfl (stab_eq _) hE T0
      replace T2 : (fun v _ => v = .pointer (some ⟨b4, 0, none⟩)) (a33.at 2) w34 := hF.carry (fun v _ => v = .pointer (some ⟨b4, 0, none⟩)) rfl (stab_eq _) hE T2
      replace T3 : (fun v _ => v = .int .i64 0) (a33.at 3) w34 := hF.carry (fun v _ => v = .int .i64 0) rfl (stab_eq _) hE T3
      replace T4 : (fun v _ => v = .int .i64 (k : Int)) (a33.at 4) w34 := hF.carry (fun v _ => v = .int .i64 (k : Int)) rfl (stab_eq _) hE T4
      replace T5 : (fun v _ => v = .int .i64 ((c : Int) + 1)) (a33.at 5) w34 := hF.carry (fun v _ => v = .int .i64 ((c : Int) + 1)) rfl (stab_eq _) hE T5
      replace T6 : (fun v _ => v = .int .i64 (k : Int)) (a33.at 6) w34 := hF.carry (fun v _ => v = .int .i64 (k : Int)) rfl (stab_eq _) hE T6
      have T12 : (fun v _ => v = .int .i64 ((k : Int) + 1)) (a33.at 12) w34 := f1
      replace E := E.trans hE
      replace X12 := X12.trans hE
      clear hE hF hap
      show wpOps _ (rg Tryd.f21 4) _ [2] _ _
      refine tail_val rfl rfl rfl (ex_move (.inr rfl) (v := .int .i64 ((k : Int) + 1)) (show a33.eval (.tmp 12) = .int .i64 ((k : Int) + 1) from T12)) ?_
      obtain ⟨a35, ha⟩ : ∃ x : Act, x = a33.put (some 6) (.int .i64 ((k : Int) + 1)) := ⟨_, rfl⟩
      rw [← ha]
      replace T0 : (fun v _ => v = .string s) (a35.at 0) w34 := by rw [ha, put_other rfl]; exact T0
      replace T2 : (fun v _ => v = .pointer (some ⟨b4, 0, none⟩)) (a35.at 2) w34 := by rw [ha, put_other rfl]; exact T2
      replace T3 : (fun v _ => v = .int .i64 0) (a35.at 3) w34 := by rw [ha, put_other rfl]; exact T3
      replace T4 : (fun v _ => v = .int .i64 (k : Int)) (a35.at 4) w34 := by rw [ha, put_other rfl]; exact T4
      replace T5 : (fun v _ => v = .int .i64 ((c : Int) + 1)) (a35.at 5) w34 := by rw [ha, put_other rfl]; exact T5
      replace T12 : (fun v _ => v = .int .i64 ((k : Int) + 1)) (a35.at 12) w34 := by rw [ha, put_other rfl]; exact T12
      replace T6 : (fun v _ => v = .int .i64 ((k : Int) + 1)) (a35.at 6) w34 := by rw [ha, put_same N (by decide)]; skip
      replace N := (ha ▸ put_size _ _ _ : a35.tmps.size = _).trans N
      replace D := (ha ▸ put_defers' _ _ _ : a35.defers = _).trans D
      clear ha
      clear T12
      -- the round's end
      have hμ := HM.out
      refine ⟨_, by rw [hI13]; exact ⟨k, c + 1, k + 1, N, D, E, X12, T0, T2, T3, T4, T5, T6, rfl, addr_hit hlt hrel C25⟩, ?_⟩
      omega
    · clear T16
      refine wp_skip ?_
      refine hK21 _ _ ?_
      -- region 4: ref.go:68
      show (Code.region 4 (rg Tryd.f21 4) false).wp _ _ _ _
      refine plain_list (n := 2) (N := 52) (deps := [[], [0]]) (F := [(fun v _ => v = .int .i64 (k : Int)), (fun v _ => v = .int .i64 ((k : Int) + 1))]) (by kernel_rfl) (by kernel_rfl) rfl (by kernel_rfl) ⟨(stab_eq _), (stab_eq _), trivial⟩ N (by kernel_rfl) ⟨?_, ?_, trivial⟩ ?_
      · -- 0 ref.go:68
        rintro aa ww hE hF ⟨-⟩
        have o6 : aa.eval (.tmp 6) = .int .i64 (k : Int) := hF.carry (fun v _ => v = .int .i64 (k : Int)) rfl (stab_eq _) hE T6
        exact opAt rfl (ok_run rfl (run_here rfl (ex_move (.inl rfl) o6) ( rfl)))
      · -- 1 ref.go:68
        rintro aa ww hE hF ⟨d0, -⟩
        replace d0 : aa.eval (.tmp 11) = .int .i64 (k : Int) := d0
        exact opAt rfl (ok_run rfl (run_here rfl (ex_binOp rfl (by rw [show aa.eval (.tmp 11) = .int .i64 (k : Int) from d0, show aa.eval (.const (.int .i64 1)) = .int .i64 1 from (ev_const (v := .int .i64 1))]; exact eqg_int) (by rw [show aa.eval (.tmp 11) = .int .i64 (k : Int) from d0, show aa.eval (.const (.int .i64 1)) = .int .i64 1 from (ev_const (v := .int .i64 1))]; exact bin_addN (by omega) (by omega))) ( rfl)))
      intro a36 w37 hE hF hfac hap
      obtain ⟨f0, f1, -⟩ := hfac
      replace N := hF.size.trans N
      replace D := hF.defers.trans D
      replace R_b4 := hE.row R_b4
      replace T0 : (fun v _ => v = .string s) (a36.at 0) w37 := hF.carry (fun v _ => v = .string s) rfl (stab_eq _) hE T0
      replace T2 : (fun v _ => v = .pointer (some ⟨b4, 0, none⟩)) (a36.at 2) w37 := hF.carry (fun v _ => v = .pointer (some ⟨b4, 0, none⟩)) rfl (stab_eq _) hE T2
      replace T3 : (fun v _ => v = .int .i64 0) (a36.at 3) w37 := hF.carry (fun v _ => v = .int .i64 0) rfl (stab_eq _) hE T3
      replace T4 : (fun v _ => v = .int .i64 (p : Int)) (a36.at 4) w37 := hF.carry (fun v _ => v = .int .i64 (p : Int)) rfl (stab_eq _) hE T4
      replace T5 : (fun v _ => v = .int .i64 (c : Int)) (a36.at 5) w37 := hF.carry (fun v _ => v = .int .i64 (c : Int)) rfl (stab_eq _) hE T5
      replace T6 : (fun v _ => v = .int .i64 (k : Int)) (a36.at 6) w37 := hF.carry (fun v _ => v = .int .i64 (k : Int)) rfl (stab_eq _) hE T6
      have T12 : (fun v _ => v = .int .i64 ((k : Int) + 1)) (a36.at 12) w37 := f1
      replace E := E.trans hE
      replace X12 := X12.trans hE
      clear hE hF hap
      show wpOps _ (rg Tryd.f21 4) _ [2] _ _
      refine tail_val rfl rfl rfl (ex_move (.inr rfl) (v := .int .i64 ((k : Int) + 1)) (show a36.eval (.tmp 12) = .int .i64 ((k : Int) + 1) from T12)) ?_
      obtain ⟨a38, ha⟩ : ∃ x : Act, x = a36.put (some 6) (.int .i64 ((k : Int) + 1)) := ⟨_, rfl⟩
      rw [← ha]
      replace T0 : (fun v _ => v = .string s) (a38.at 0) w37 := by rw [ha, put_other rfl]; exact T0
      replace T2 : (fun v _ => v = .pointer (some ⟨b4, 0, none⟩)) (a38.at 2) w37 := by rw [ha, put_other rfl]; exact T2
      replace T3 : (fun v _ => v = .int .i64 0) (a38.at 3) w37 := by rw [ha, put_other rfl]; exact T3
      replace T4 : (fun v _ => v = .int .i64 (p : Int)) (a38.at 4) w37 := by rw [ha, put_other rfl]; exact T4
      replace T5 : (fun v _ => v = .int .i64 (c : Int)) (a38.at 5) w37 := by rw [ha, put_other rfl]; exact T5
      replace T12 : (fun v _ => v = .int .i64 ((k : Int) + 1)) (a38.at 12) w37 := by rw [ha, put_other rfl]; exact T12
      replace T6 : (fun v _ => v = .int .i64 ((k : Int) + 1)) (a38.at 6) w37 := by rw [ha, put_same N (by decide)]; skip
      replace N := (ha ▸ put_size _ _ _ : a38.tmps.size = _).trans N
      replace D := (ha ▸ put_defers' _ _ _ : a38.defers = _).trans D
      clear ha
      clear T12
      -- the round's end
      have hμ := HM.out
      refine ⟨_, by rw [hI13]; exact ⟨p, c, k + 1, N, D, E, X12, T0, T2, T3, T4, T5, T6, rfl, addr_miss hlt hrel C25⟩, ?_⟩
      omega
  · clear T10
    have hge : k = s.size := by have := of_decide_eq_false C20; omega
    have hpc : c = 1 → p + 1 ≤ s.size := fun h => by have := (hrel.2.2 (by omega)).1; omega
    refine wp_exit ?_
    refine hK9 _ _ ?_
    refine wp_seq_k (fun K39 hK39 => ?_)
    refine wp_block ?_
    refine wp_seq_k (fun K40 hK40 => ?_)
    -- region 8: ref.go:75
    show (Code.region 8 (rg Tryd.f21 8) false).wp _ _ _ _
    refine plain_list (n := 2) (N := 52) (deps := [[], [0]]) (F := [(fun v _ => v = .int .i64 (c : Int)), (fun v _ => v = .bool ((c : Int) != (1 : Int)))]) (by kernel_rfl) (by kernel_rfl) rfl (by kernel_rfl) ⟨(stab_eq _), (stab_eq _), trivial⟩ N (by kernel_rfl) ⟨?_, ?_, trivial⟩ ?_
    · -- 0 ref.go:75
      rintro aa ww hE hF ⟨-⟩
      have o5 : aa.eval (.tmp 5) = .int .i64 (c : Int) := hF.carry (fun v _ => v = .int .i64 (c : Int)) rfl (stab_eq _) hE T5
      exact opAt rfl (ok_run rfl (run_here rfl (ex_move (.inl rfl) o5) ( rfl)))
    · -- 1 ref.go:75
      rintro aa ww hE hF ⟨d0, -⟩
      replace d0 : aa.eval (.tmp 21) = .int .i64 (c : Int) := d0
      exact opAt rfl (ok_run rfl (run_here rfl (ex_binOp rfl (by rw [show aa.eval (.tmp 21) = .int .i64 (c : Int) from d0, show aa.eval (.const (.int .i64 1)) = .int .i64 1 from (ev_const (v := .int .i64 1))]; exact eqg_int) (by rw [show aa.eval (.tmp 21) = .int .i64 (c : Int) from d0, show aa.eval (.const (.int .i64 1)) = .int .i64 1 from (ev_const (v := .int .i64 1))]; exact bin_neq)) ( rfl)))
    intro a41 w42 hE hF hfac hap
    obtain ⟨f0, f1, -⟩ := hfac
    replace N := hF.size.trans N
    replace D := hF.defers.trans D
    replace R_b4 := hE.row R_b4
    replace T0 : (fun v _ => v = .string s) (a41.at 0) w42 := hF.carry (fun v _ => v = .string s) rfl (stab_eq _) hE T0
    replace T2 : (fun v _ => v = .pointer (some ⟨b4, 0, none⟩)) (a41.at 2) w42 := hF.carry (fun v _ => v = .pointer (some ⟨b4, 0, none⟩)) rfl (stab_eq _) hE T2
    replace T3 : (fun v _ => v = .int .i64 0) (a41.at 3) w42 := hF.carry (fun v _ => v = .int .i64 0) rfl (stab_eq _) hE T3
    replace T4 : (fun v _ => v = .int .i64 (p : Int)) (a41.at 4) w42 := hF.carry (fun v _ => v = .int .i64 (p : Int)) rfl (stab_eq _) hE T4
    replace T5 : (fun v _ => v = .int .i64 (c : Int)) (a41.at 5) w42 := hF.carry (fun v _ => v = .int .i64 (c : Int)) rfl (stab_eq _) hE T5
    clear T6
    have T22 : (fun v _ => v = .bool ((c : Int) != (1 : Int))) (a41.at 22) w42 := f1
    replace E := E.trans hE
    replace X12 := X12.trans hE
    clear hE hF hap
    show wpOps _ (rg Tryd.f21 8) _ [2] _ _
    refine tail_val rfl rfl rfl (ex_move (.inr rfl) (v := .bool ((c : Int) != (1 : Int))) (show a41.eval (.tmp 22) = .bool ((c : Int) != (1 : Int)) from T22)) ?_
    obtain ⟨a43, ha⟩ : ∃ x : Act, x = a41.put (some 20) (.bool ((c : Int) != (1 : Int))) := ⟨_, rfl⟩
    rw [← ha]
    replace T0 : (fun v _ => v = .string s) (a43.at 0) w42 := by rw [ha, put_other rfl]; exact T0
    replace T2 : (fun v _ => v = .pointer (some ⟨b4, 0, none⟩)) (a43.at 2) w42 := by rw [ha, put_other rfl]; exact T2
    replace T3 : (fun v _ => v = .int .i64 0) (a43.at 3) w42 := by rw [ha, put_other rfl]; exact T3
    replace T4 : (fun v _ => v = .int .i64 (p : Int)) (a43.at 4) w42 := by rw [ha, put_other rfl]; exact T4
    replace T5 : (fun v _ => v = .int .i64 (c : Int)) (a43.at 5) w42 := by rw [ha, put_other rfl]; exact T5
    replace T22 : (fun v _ => v = .bool ((c : Int) != (1 : Int))) (a43.at 22) w42 := by rw [ha, put_other rfl]; exact T22
    have T20 : (fun v _ => v = .bool ((c : Int) != (1 : Int))) (a43.at 20) w42 := by rw [ha, put_same N (by decide)]; skip
    replace N := (ha ▸ put_size _ _ _ : a43.tmps.size = _).trans N
    replace D := (ha ▸ put_defers' _ _ _ : a43.defers = _).trans D
    clear ha
    clear T5
    clear T22
    refine hK40 _ _ ?_
    refine wp_cond_split (t := (c : Int) != (1 : Int)) T20 (fun C44 => ?_) (fun C44 => ?_)
    · clear T20
      refine wp_seq_k (fun K45 hK45 => ?_)
      -- region 9: ref.go:76
      show (Code.region 9 (rg Tryd.f21 9) false).wp _ _ _ _
      refine plain_list (n := 1) (N := 52) (deps := [[]]) (F := [(fun v _ => v = .agg #[.string ⟨#[]⟩, .string ⟨#[]⟩])]) (by kernel_rfl) (by kernel_rfl) rfl (by kernel_rfl) ⟨(stab_eq _), trivial⟩ N (by kernel_rfl) ⟨?_, trivial⟩ ?_
      · -- 0 ref.go:76
        rintro aa ww hE hF ⟨-⟩
        exact opAt rfl (ok_run rfl (run_here rfl (ex_build rfl (by simp [Instr.build, Tryd.zeroValue23, Tryd.runUnderlying23, Instr.fill, Value.cells, Tryd.sizeOf9])) ( rfl)))
      intro a46 w47 hE hF hfac hap
      obtain ⟨f0, -⟩ := hfac
      replace N := hF.size.trans N
      replace D := hF.defers.trans D
      replace R_b4 := hE.row R_b4
      replace T0 : (fun v _ => v = .string s) (a46.at 0) w47 := hF.carry (fun v _ => v = .string s) rfl (stab_eq _) hE T0
      replace T2 : (fun v _ => v = .pointer (some ⟨b4, 0, none⟩)) (a46.at 2) w47 := hF.carry (fun v _ => v = .pointer (some ⟨b4, 0, none⟩)) rfl (stab_eq _) hE T2
      replace T3 : (fun v _ => v = .int .i64 0) (a46.at 3) w47 := hF.carry (fun v _ => v = .int .i64 0) rfl (stab_eq _) hE T3
      replace T4 : (fun v _ => v = .int .i64 (p : Int)) (a46.at 4) w47 := hF.carry (fun v _ => v = .int .i64 (p : Int)) rfl (stab_eq _) hE T4
      have T23 : (fun v _ => v = .agg #[.string ⟨#[]⟩, .string ⟨#[]⟩]) (a46.at 23) w47 := f0
      replace E := E.trans hE
      replace X12 := X12.trans hE
      clear hE hF hap
      show wpOps _ (rg Tryd.f21 9) _ [1, 2] _ _
      refine tail_do rfl rfl rfl (ex_store rfl (show a46.eval (.tmp 2) = .pointer (some ⟨b4, 0, none⟩) from T2) (by rw [show a46.eval (.tmp 23) = .agg #[.string ⟨#[]⟩, .string ⟨#[]⟩] from (show a46.eval (.tmp 23) = .agg #[.string ⟨#[]⟩, .string ⟨#[]⟩] from T23)]; exact store_row R_b4 (by kernel_rfl) rfl (by simp [Value.oneCell']))) ?_
      obtain ⟨w48, hw⟩ : ∃ x : World, x = w47.setRow b4 #[.string ⟨#[]⟩, .string ⟨#[]⟩] := ⟨_, rfl⟩
      rw [← hw]
      replace R_b4 : w48.heap[b4]? = some (.cells #[.string ⟨#[]⟩, .string ⟨#[]⟩] 23 (0, 0)) := hw ▸ setRow_heap _ _ _ _ _ _ R_b4
      replace E : Ext w w48 := hw ▸ below_row E B_b4
      clear hw
      refine tail_val rfl rfl rfl (ex_move (.inr rfl) (v := .int .i64 3) (ev_const (v := .int .i64 3))) ?_
      obtain ⟨a49, ha⟩ : ∃ x : Act, x = a46.put (some 3) (.int .i64 3) := ⟨_, rfl⟩
      rw [← ha]
      replace T0 : (fun v _ => v = .string s) (a49.at 0) w48 := by rw [ha, put_other rfl]; exact T0
      replace T2 : (fun v _ => v = .pointer (some ⟨b4, 0, none⟩)) (a49.at 2) w48 := by rw [ha, put_other rfl]; exact T2
      replace T4 : (fun v _ => v = .int .i64 (p : Int)) (a49.at 4) w48 := by rw [ha, put_other rfl]; exact T4
      replace T23 : (fun v _ => v = .agg #[.string ⟨#[]⟩, .string ⟨#[]⟩]) (a49.at 23) w48 := by rw [ha, put_other rfl]; exact T23
      replace T3 : (fun v _ => v = .int .i64 3) (a49.at 3) w48 := by rw [ha, put_same N (by decide)]; skip
      replace N := (ha ▸ put_size _ _ _ : a49.tmps.size = _).trans N
      replace D := (ha ▸ put_defers' _ _ _ : a49.defers = _).trans D
      clear ha
      clear T23
      refine hK45 _ _ ?_
      refine wp_ret ?_
      -- the end
      refine ret_c1 Tryd.results21 D T2 (load_row R_b4 Tryd.underlying23 rfl (by kernel_rfl)) T3 ?_
      have hcc : cntB (by' s) 64 = c := by rw [hrel.2.1, hge, List.take_of_length_le (show (by' s).length ≤ s.size from Nat.le_refl _)]
      exact ⟨_, rfl, E, by rw [addr_ref1 hcc C44] <;> rfl⟩
    · clear T20
      have hc1 : c = 1 := by have := bne_eq_false_iff_eq.1 C44; omega
      have hp1 := hpc hc1
      refine wp_seq_k (fun K50 hK50 => ?_)
      -- region 10: ref.go:77
      show (Code.region 10 (rg Tryd.f21 10) false).wp _ _ _ _
      refine plain_list (n := 5) (N := 52) (deps := [[], [], [0, 1], [2], [3]]) (F := [(fun v _ => v = .string s), (fun v _ => v = .int .i64 (p : Int)), (fun v _ => v = .string (s.extract 0 ((p : Int)).toNat)), (fun v _ => v = .bool (userB (s.extract 0 ((p : Int)).toNat))), (fun v _ => v = .bool (!(userB (s.extract 0 ((p : Int)).toNat))))]) (by kernel_rfl) (by kernel_rfl) rfl (by kernel_rfl) ⟨(stab_eq _), (stab_eq _), (stab_eq _), (stab_eq _), (stab_eq _), trivial⟩ N (by kernel_rfl) ⟨?_, ?_, ?_, ?_, ?_, trivial⟩ ?_
      · -- 0 ref.go:77
        rintro aa ww hE hF ⟨-⟩
        have o0 : aa.eval (.tmp 0) = .string s := hF.carry (fun v _ => v = .string s) rfl (stab_eq _) hE T0
        exact opAt rfl (ok_run rfl (run_here rfl (ex_move (.inl rfl) o0) ( rfl)))
      · -- 1 ref.go:77
        rintro aa ww hE hF ⟨-⟩
        have o4 : aa.eval (.tmp 4) = .int .i64 (p : Int) := hF.carry (fun v _ => v = .int .i64 (p : Int)) rfl (stab_eq _) hE T4
        exact opAt rfl (ok_run rfl (run_here rfl (ex_move (.inl rfl) o4) ( rfl)))
      · -- 2 ref.go:77
        rintro aa ww hE hF ⟨d0, d1, -⟩
        replace d0 : aa.eval (.tmp 25) = .string s := d0
        replace d1 : aa.eval (.tmp 26) = .int .i64 (p : Int) := d1
        exact opAt rfl (ok_run rfl (run_here rfl (ex_slice rfl (by simp only [Option.map_some, Option.map_none, show aa.eval (.tmp 25) = .string s from d0, show aa.eval (.tmp 26) = .int .i64 (p : Int) from d1]; exact slice_hi Tryd.underlying9 (by omega) (by omega))) ( rfl)))
      · -- 3 ref.go:77
        rintro aa ww hE hF ⟨d2, -⟩
        replace d2 : aa.eval (.tmp 27) = .string (s.extract 0 ((p : Int)).toNat) := d2
        exact opAt rfl (ok_run rfl (run_callR (ψ := (fun v _ => v = .bool (userB (s.extract 0 ((p : Int)).toNat)))) rfl Tryd.call41 (by
      simp only [List.map_toArray, List.map_cons, List.map_nil, d2]
      exact ret_same (rUser_c (s.extract 0 ((p : Int)).toNat) _ (by first | with_reducible assumption | exact le_max (by omega) | (simp only [ByteArray.size_extract]; unfold maxLen at *; omega)))) (fun _ _ h =>  h)))
      · -- 4 ref.go:77
        rintro aa ww hE hF ⟨d3, -⟩
        replace d3 : aa.eval (.tmp 28) = .bool (userB (s.extract 0 ((p : Int)).toNat)) := d3
        exact opAt rfl (ok_run rfl (run_here rfl (ex_unOp rfl (by rw [show aa.eval (.tmp 28) = .bool (userB (s.extract 0 ((p : Int)).toNat)) from d3]; exact un_not)) ( rfl)))
      intro a51 w52 hE hF hfac hap
      obtain ⟨f0, f1, f2, f3, f4, -⟩ := hfac
      replace N := hF.size.trans N
      replace D := hF.defers.trans D
      replace R_b4 := hE.row R_b4
      replace T0 : (fun v _ => v = .string s) (a51.at 0) w52 := hF.carry (fun v _ => v = .string s) rfl (stab_eq _) hE T0
      replace T2 : (fun v _ => v = .pointer (some ⟨b4, 0, none⟩)) (a51.at 2) w52 := hF.carry (fun v _ => v = .pointer (some ⟨b4, 0, none⟩)) rfl (stab_eq _) hE T2
      replace T3 : (fun v _ => v = .int .i64 0) (a51.at 3) w52 := hF.carry (fun v _ => v = .int .i64 0) rfl (stab_eq _) hE T3
      replace T4 : (fun v _ => v = .int .i64 (p : Int)) (a51.at 4) w52 := hF.carry (fun v _ => v = .int .i64 (p : Int)) rfl (stab_eq _) hE T4
      have T29 : (fun v _ => v = .bool (!(userB (s.extract 0 ((p : Int)).toNat)))) (a51.at 29) w52 := f4
      replace E := E.trans hE
      replace X12 := X12.trans hE
      clear hE hF hap
      show wpOps _ (rg Tryd.f21 10) _ [5] _ _
      refine tail_val rfl rfl rfl (ex_move (.inr rfl) (v := .bool (!(userB (s.extract 0 ((p : Int)).toNat)))) (show a51.eval (.tmp 29) = .bool (!(userB (s.extract 0 ((p : Int)).toNat))) from T29)) ?_
      obtain ⟨a53, ha⟩ : ∃ x : Act, x = a51.put (some 24) (.bool (!(userB (s.extract 0 ((p : Int)).toNat)))) := ⟨_, rfl⟩
      rw [← ha]
      replace T0 : (fun v _ => v = .string s) (a53.at 0) w52 := by rw [ha, put_other rfl]; exact T0
      replace T2 : (fun v _ => v = .pointer (some ⟨b4, 0, none⟩)) (a53.at 2) w52 := by rw [ha, put_other rfl]; exact T2
      replace T3 : (fun v _ => v = .int .i64 0) (a53.at 3) w52 := by rw [ha, put_other rfl]; exact T3
      replace T4 : (fun v _ => v = .int .i64 (p : Int)) (a53.at 4) w52 := by rw [ha, put_other rfl]; exact T4
      replace T29 : (fun v _ => v = .bool (!(userB (s.extract 0 ((p : Int)).toNat)))) (a53.at 29) w52 := by rw [ha, put_other rfl]; exact T29
      have T24 : (fun v _ => v = .bool (!(userB (s.extract 0 ((p : Int)).toNat)))) (a53.at 24) w52 := by rw [ha, put_same N (by decide)]; skip
      replace N := (ha ▸ put_size _ _ _ : a53.tmps.size = _).trans N
      replace D := (ha ▸ put_defers' _ _ _ : a53.defers = _).trans D
      clear ha
      clear T29
      refine hK50 _ _ ?_
      refine wp_cond_split (t := (!(userB (s.extract 0 ((p : Int)).toNat)))) T24 (fun C54 => ?_) (fun C54 => ?_)
      · clear T24
        refine wp_seq_k (fun K55 hK55 => ?_)
        -- region 11: ref.go:78
        show (Code.region 11 (rg Tryd.f21 11) false).wp _ _ _ _
        refine plain_list (n := 1) (N := 52) (deps := [[]]) (F := [(fun v _ => v = .agg #[.string ⟨#[]⟩, .string ⟨#[]⟩])]) (by kernel_rfl) (by kernel_rfl) rfl (by kernel_rfl) ⟨(stab_eq _), trivial⟩ N (by kernel_rfl) ⟨?_, trivial⟩ ?_
        · -- 0 ref.go:78
          rintro aa ww hE hF ⟨-⟩
          exact opAt rfl (ok_run rfl (run_here rfl (ex_build rfl (by simp [Instr.build, Tryd.zeroValue23, Tryd.runUnderlying23, Instr.fill, Value.cells, Tryd.sizeOf9])) ( rfl)))
        intro a56 w57 hE hF hfac hap
        obtain ⟨f0, -⟩ := hfac
        replace N := hF.size.trans N
        replace D := hF.defers.trans D
        replace R_b4 := hE.row R_b4
        replace T0 : (fun v _ => v = .string s) (a56.at 0) w57 := hF.carry (fun v _ => v = .string s) rfl (stab_eq _) hE T0
        replace T2 : (fun v _ => v = .pointer (some ⟨b4, 0, none⟩)) (a56.at 2) w57 := hF.carry (fun v _ => v = .pointer (some ⟨b4, 0, none⟩)) rfl (stab_eq _) hE T2
        replace T3 : (fun v _ => v = .int .i64 0) (a56.at 3) w57 := hF.carry (fun v _ => v = .int .i64 0) rfl (stab_eq _) hE T3
        replace T4 : (fun v _ => v = .int .i64 (p : Int)) (a56.at 4) w57 := hF.carry (fun v _ => v = .int .i64 (p : Int)) rfl (stab_eq _) hE T4
        have T30 : (fun v _ => v = .agg #[.string ⟨#[]⟩, .string ⟨#[]⟩]) (a56.at 30) w57 := f0
        replace E := E.trans hE
        replace X12 := X12.trans hE
        clear hE hF hap
        show wpOps _ (rg Tryd.f21 11) _ [1, 2] _ _
        refine tail_do rfl rfl rfl (ex_store rfl (show a56.eval (.tmp 2) = .pointer (some ⟨b4, 0, none⟩) from T2) (by rw [show a56.eval (.tmp 30) = .agg #[.string ⟨#[]⟩, .string ⟨#[]⟩] from (show a56.eval (.tmp 30) = .agg #[.string ⟨#[]⟩, .string ⟨#[]⟩] from T30)]; exact store_row R_b4 (by kernel_rfl) rfl (by simp [Value.oneCell']))) ?_
        obtain ⟨w58, hw⟩ : ∃ x : World, x = w57.setRow b4 #[.string ⟨#[]⟩, .string ⟨#[]⟩] := ⟨_, rfl⟩
        rw [← hw]
        replace R_b4 : w58.heap[b4]? = some (.cells #[.string ⟨#[]⟩, .string ⟨#[]⟩] 23 (0, 0)) := hw ▸ setRow_heap _ _ _ _ _ _ R_b4
        replace E : Ext w w58 := hw ▸ below_row E B_b4
        clear hw
        refine tail_val rfl rfl rfl (ex_move (.inr rfl) (v := .int .i64 12) (ev_const (v := .int .i64 12))) ?_
        obtain ⟨a59, ha⟩ : ∃ x : Act, x = a56.put (some 3) (.int .i64 12) := ⟨_, rfl⟩
        rw [← ha]
        replace T0 : (fun v _ => v = .string s) (a59.at 0) w58 := by rw [ha, put_other rfl]; exact T0
        replace T2 : (fun v _ => v = .pointer (some ⟨b4, 0, none⟩)) (a59.at 2) w58 := by rw [ha, put_other rfl]; exact T2
        replace T4 : (fun v _ => v = .int .i64 (p : Int)) (a59.at 4) w58 := by rw [ha, put_other rfl]; exact T4
        replace T30 : (fun v _ => v = .agg #[.string ⟨#[]⟩, .string ⟨#[]⟩]) (a59.at 30) w58 := by rw [ha, put_other rfl]; exact T30
        replace T3 : (fun v _ => v = .int .i64 12) (a59.at 3) w58 := by rw [ha, put_same N (by decide)]; skip
        replace N := (ha ▸ put_size _ _ _ : a59.tmps.size = _).trans N
        replace D := (ha ▸ put_defers' _ _ _ : a59.defers = _).trans D
        clear ha
        clear T30
        refine hK55 _ _ ?_
        refine wp_ret ?_
        -- the end
        refine ret_c1 Tryd.results21 D T2 (load_row R_b4 Tryd.underlying23 rfl (by kernel_rfl)) T3 ?_
        have hcc : cntB (by' s) 64 = c := by rw [hrel.2.1, hge, List.take_of_length_le (show (by' s).length ≤ s.size from Nat.le_refl _)]
        exact ⟨_, rfl, E, by rw [addr_ref2 hcc hc1 (hrel.2.2 (by omega)).2 C44 C54] <;> rfl⟩
      · clear T24
        refine wp_seq_k (fun K60 hK60 => ?_)
        -- region 12: ref.go:79
        show (Code.region 12 (rg Tryd.f21 12) false).wp _ _ _ _
        refine plain_list (n := 6) (N := 52) (deps := [[], [], [1], [0, 2], [3], [4]]) (F := [(fun v _ => v = .string s), (fun v _ => v = .int .i64 (p : Int)), (fun v _ => v = .int .i64 ((p : Int) + 1)), (fun v _ => v = .string (s.extract (((p : Int) + 1)).toNat s.size)), (fun v _ => v = .int .i64 (siteE (s.extract (((p : Int) + 1)).toNat s.size) : Int)), (fun v _ => v = .bool ((siteE (s.extract (((p : Int) + 1)).toNat s.size) : Int) != (0 : Int)))]) (by kernel_rfl) (by kernel_rfl) rfl (by kernel_rfl) ⟨(stab_eq _), (stab_eq _), (stab_eq _), (stab_eq _), (stab_eq _), (stab_eq _), trivial⟩ N (by kernel_rfl) ⟨?_, ?_, ?_, ?_, ?_, ?_, trivial⟩ ?_
        · -- 0 ref.go:79
          rintro aa ww hE hF ⟨-⟩
          have o0 : aa.eval (.tmp 0) = .string s := hF.carry (fun v _ => v = .string s) rfl (stab_eq _) hE T0
          exact opAt rfl (ok_run rfl (run_here rfl (ex_move (.inl rfl) o0) ( rfl)))
        · -- 1 ref.go:79
          rintro aa ww hE hF ⟨-⟩
          have o4 : aa.eval (.tmp 4) = .int .i64 (p : Int) := hF.carry (fun v _ => v = .int .i64 (p : Int)) rfl (stab_eq _) hE T4
          exact opAt rfl (ok_run rfl (run_here rfl (ex_move (.inl rfl) o4) ( rfl)))
        · -- 2 ref.go:79
          rintro aa ww hE hF ⟨d1, -⟩
          replace d1 : aa.eval (.tmp 33) = .int .i64 (p : Int) := d1
          exact opAt rfl (ok_run rfl (run_here rfl (ex_binOp rfl (by rw [show aa.eval (.tmp 33) = .int .i64 (p : Int) from d1, show aa.eval (.const (.int .i64 1)) = .int .i64 1 from (ev_const (v := .int .i64 1))]; exact eqg_int) (by rw [show aa.eval (.tmp 33) = .int .i64 (p : Int) from d1, show aa.eval (.const (.int .i64 1)) = .int .i64 1 from (ev_const (v := .int .i64 1))]; exact bin_addN (by omega) (by omega))) ( rfl)))
        · -- 3 ref.go:79
          rintro aa ww hE hF ⟨d0, d2, -⟩
          replace d0 : aa.eval (.tmp 32) = .string s := d0
          replace d2 : aa.eval (.tmp 34) = .int .i64 ((p : Int) + 1) := d2
          exact opAt rfl (ok_run rfl (run_here rfl (ex_slice rfl (by simp only [Option.map_some, Option.map_none, show aa.eval (.tmp 32) = .string s from d0, show aa.eval (.tmp 34) = .int .i64 ((p : Int) + 1) from d2]; exact slice_lo Tryd.underlying9 (by omega) (by omega))) ( rfl)))
        · -- 4 ref.go:79
          rintro aa ww hE hF ⟨d3, -⟩
          replace d3 : aa.eval (.tmp 35) = .string (s.extract (((p : Int) + 1)).toNat s.size) := d3
          exact opAt rfl (ok_run rfl (run_callR (ψ := (fun v _ => v = .int .i64 (siteE (s.extract (((p : Int) + 1)).toNat s.size) : Int))) rfl Tryd.call32 (by
      simp only [List.map_toArray, List.map_cons, List.map_nil, d3]
      exact ret_same (rmSite_c (s.extract (((p : Int) + 1)).toNat s.size) _ (by first | with_reducible assumption | exact le_max (by omega) | (simp only [ByteArray.size_extract]; unfold maxLen at *; omega)))) (fun _ _ h =>  h)))
        · -- 5 ref.go:79
          rintro aa ww hE hF ⟨d4, -⟩
          replace d4 : aa.eval (.tmp 36) = .int .i64 (siteE (s.extract (((p : Int) + 1)).toNat s.size) : Int) := d4
          exact opAt rfl (ok_run rfl (run_here rfl (ex_binOp rfl (by rw [show aa.eval (.tmp 36) = .int .i64 (siteE (s.extract (((p : Int) + 1)).toNat s.size) : Int) from d4, show aa.eval (.const (.int .i64 0)) = .int .i64 0 from (ev_const (v := .int .i64 0))]; exact eqg_int) (by rw [show aa.eval (.tmp 36) = .int .i64 (siteE (s.extract (((p : Int) + 1)).toNat s.size) : Int) from d4, show aa.eval (.const (.int .i64 0)) = .int .i64 0 from (ev_const (v := .int .i64 0))]; exact bin_neq)) ( rfl)))
        intro a61 w62 hE hF hfac hap
        obtain ⟨f0, f1, f2, f3, f4, f5, -⟩ := hfac
        replace N := hF.size.trans N
        replace D := hF.defers.trans D
        replace R_b4 := hE.row R_b4
        replace T0 : (fun v _ => v = .string s) (a61.at 0) w62 := hF.carry (fun v _ => v = .string s) rfl (stab_eq _) hE T0
        replace T2 : (fun v _ => v = .pointer (some ⟨b4, 0, none⟩)) (a61.at 2) w62 := hF.carry (fun v _ => v = .pointer (some ⟨b4, 0, none⟩)) rfl (stab_eq _) hE T2
        replace T3 : (fun v _ => v = .int .i64 0) (a61.at 3) w62 := hF.carry (fun v _ => v = .int .i64 0) rfl (stab_eq _) hE T3
        replace T4 : (fun v _ => v = .int .i64 (p : Int)) (a61.at 4) w62 := hF.carry (fun v _ => v = .int .i64 (p : Int)) rfl (stab_eq _) hE T4
        have T37 : (fun v _ => v = .bool ((siteE (s.extract (((p : Int) + 1)).toNat s.size) : Int) != (0 : Int))) (a61.at 37) w62 := f5
        replace E := E.trans hE
        replace X12 := X12.trans hE
        clear hE hF hap
        show wpOps _ (rg Tryd.f21 12) _ [6] _ _
        refine tail_val rfl rfl rfl (ex_move (.inr rfl) (v := .bool ((siteE (s.extract (((p : Int) + 1)).toNat s.size) : Int) != (0 : Int))) (show a61.eval (.tmp 37) = .bool ((siteE (s.extract (((p : Int) + 1)).toNat s.size) : Int) != (0 : Int)) from T37)) ?_
        obtain ⟨a63, ha⟩ : ∃ x : Act, x = a61.put (some 31) (.bool ((siteE (s.extract (((p : Int) + 1)).toNat s.size) : Int) != (0 : Int))) := ⟨_, rfl⟩
        rw [← ha]
        replace T0 : (fun v _ => v = .string s) (a63.at 0) w62 := by rw [ha, put_other rfl]; exact T0
        replace T2 : (fun v _ => v = .pointer (some ⟨b4, 0, none⟩)) (a63.at 2) w62 := by rw [ha, put_other rfl]; exact T2
        replace T3 : (fun v _ => v = .int .i64 0) (a63.at 3) w62 := by rw [ha, put_other rfl]; exact T3
        replace T4 : (fun v _ => v = .int .i64 (p : Int)) (a63.at 4) w62 := by rw [ha, put_other rfl]; exact T4
        replace T37 : (fun v _ => v = .bool ((siteE (s.extract (((p : Int) + 1)).toNat s.size) : Int) != (0 : Int))) (a63.at 37) w62 := by rw [ha, put_other rfl]; exact T37
        have T31 : (fun v _ => v = .bool ((siteE (s.extract (((p : Int) + 1)).toNat s.size) : Int) != (0 : Int))) (a63.at 31) w62 := by rw [ha, put_same N (by decide)]; skip
        replace N := (ha ▸ put_size _ _ _ : a63.tmps.size = _).trans N
        replace D := (ha ▸ put_defers' _ _ _ : a63.defers = _).trans D
        clear ha
        clear T37
        refine hK60 _ _ ?_
        refine wp_cond_split (t := (siteE (s.extract (((p : Int) + 1)).toNat s.size) : Int) != (0 : Int)) T31 (fun C64 => ?_) (fun C64 => ?_)
        · clear T31
          refine wp_seq_k (fun K65 hK65 => ?_)
          -- region 13: ref.go:80
          show (Code.region 13 (rg Tryd.f21 13) false).wp _ _ _ _
          refine plain_list (n := 6) (N := 52) (deps := [[], [], [], [2], [1, 3], [4]]) (F := [(fun v _ => v = .agg #[.string ⟨#[]⟩, .string ⟨#[]⟩]), (fun v _ => v = .string s), (fun v _ => v = .int .i64 (p : Int)), (fun v _ => v = .int .i64 ((p : Int) + 1)), (fun v _ => v = .string (s.extract (((p : Int) + 1)).toNat s.size)), (fun v _ => v = .int .i64 (siteE (s.extract (((p : Int) + 1)).toNat s.size) : Int))]) (by kernel_rfl) (by kernel_rfl) rfl (by kernel_rfl) ⟨(stab_eq _), (stab_eq _), (stab_eq _), (stab_eq _), (stab_eq _), (stab_eq _), trivial⟩ N (by kernel_rfl) ⟨?_, ?_, ?_, ?_, ?_, ?_, trivial⟩ ?_
          · -- 0 ref.go:80
            rintro aa ww hE hF ⟨-⟩
            exact opAt rfl (ok_run rfl (run_here rfl (ex_build rfl (by simp [Instr.build, Tryd.zeroValue23, Tryd.runUnderlying23, Instr.fill, Value.cells, Tryd.sizeOf9])) ( rfl)))
          · -- 1 ref.go:80
            rintro aa ww hE hF ⟨-⟩
            have o0 : aa.eval (.tmp 0) = .string s := hF.carry (fun v _ => v = .string s) rfl (stab_eq _) hE T0
            exact opAt rfl (ok_run rfl (run_here rfl (ex_move (.inl rfl) o0) ( rfl)))
          · -- 2 ref.go:80
            rintro aa ww hE hF ⟨-⟩
            have o4 : aa.eval (.tmp 4) = .int .i64 (p : Int) := hF.carry (fun v _ => v = .int .i64 (p : Int)) rfl (stab_eq _) hE T4
            exact opAt rfl (ok_run rfl (run_here rfl (ex_move (.inl rfl) o4) ( rfl)))
          · -- 3 ref.go:80
            rintro aa ww hE hF ⟨d2, -⟩
            replace d2 : aa.eval (.tmp 40) = .int .i64 (p : Int) := d2
            exact opAt rfl (ok_run rfl (run_here rfl (ex_binOp rfl (by rw [show aa.eval (.tmp 40) = .int .i64 (p : Int) from d2, show aa.eval (.const (.int .i64 1)) = .int .i64 1 from (ev_const (v := .int .i64 1))]; exact eqg_int) (by rw [show aa.eval (.tmp 40) = .int .i64 (p : Int) from d2, show aa.eval (.const (.int .i64 1)) = .int .i64 1 from (ev_const (v := .int .i64 1))]; exact bin_addN (by omega) (by omega))) ( rfl)))
          · -- 4 ref.go:80
            rintro aa ww hE hF ⟨d1, d3, -⟩
            replace d1 : aa.eval (.tmp 39) = .string s := d1
            replace d3 : aa.eval (.tmp 41) = .int .i64 ((p : Int) + 1) := d3
            exact opAt rfl (ok_run rfl (run_here rfl (ex_slice rfl (by simp only [Option.map_some, Option.map_none, show aa.eval (.tmp 39) = .string s from d1, show aa.eval (.tmp 41) = .int .i64 ((p : Int) + 1) from d3]; exact slice_lo Tryd.underlying9 (by omega) (by omega))) ( rfl)))
          · -- 5 ref.go:80
            rintro aa ww hE hF ⟨d4, -⟩
            replace d4 : aa.eval (.tmp 42) = .string (s.extract (((p : Int) + 1)).toNat s.size) := d4
            exact opAt rfl (ok_run rfl (run_callR (ψ := (fun v _ => v = .int .i64 (siteE (s.extract (((p : Int) + 1)).toNat s.size) : Int))) rfl Tryd.call32 (by
      simp only [List.map_toArray, List.map_cons, List.map_nil, d4]
      exact ret_same (rmSite_c (s.extract (((p : Int) + 1)).toNat s.size) _ (by first | with_reducible assumption | exact le_max (by omega) | (simp only [ByteArray.size_extract]; unfold maxLen at *; omega)))) (fun _ _ h =>  h)))
          intro a66 w67 hE hF hfac hap
          obtain ⟨f0, f1, f2, f3, f4, f5, -⟩ := hfac
          replace N := hF.size.trans N
          replace D := hF.defers.trans D
          replace R_b4 := hE.row R_b4
          replace T0 : (fun v _ => v = .string s) (a66.at 0) w67 := hF.carry (fun v _ => v = .string s) rfl (stab_eq _) hE T0
          replace T2 : (fun v _ => v = .pointer (some ⟨b4, 0, none⟩)) (a66.at 2) w67 := hF.carry (fun v _ => v = .pointer (some ⟨b4, 0, none⟩)) rfl (stab_eq _) hE T2
          replace T3 : (fun v _ => v = .int .i64 0) (a66.at 3) w67 := hF.carry (fun v _ => v = .int .i64 0) rfl (stab_eq _) hE T3
          replace T4 : (fun v _ => v = .int .i64 (p : Int)) (a66.at 4) w67 := hF.carry (fun v _ => v = .int .i64 (p : Int)) rfl (stab_eq _) hE T4
          have T38 : (fun v _ => v = .agg #[.string ⟨#[]⟩, .string ⟨#[]⟩]) (a66.at 38) w67 := f0
          have T43 : (fun v _ => v = .int .i64 (siteE (s.extract (((p : Int) + 1)).toNat s.size) : Int)) (a66.at 43) w67 := f5
          replace E := E.trans hE
          replace X12 := X12.trans hE
          clear hE hF hap
          show wpOps _ (rg Tryd.f21 13) _ [6, 7] _ _
          refine tail_do rfl rfl rfl (ex_store rfl (show a66.eval (.tmp 2) = .pointer (some ⟨b4, 0, none⟩) from T2) (by rw [show a66.eval (.tmp 38) = .agg #[.string ⟨#[]⟩, .string ⟨#[]⟩] from (show a66.eval (.tmp 38) = .agg #[.string ⟨#[]⟩, .string ⟨#[]⟩] from T38)]; exact store_row R_b4 (by kernel_rfl) rfl (by simp [Value.oneCell']))) ?_
          obtain ⟨w68, hw⟩ : ∃ x : World, x = w67.setRow b4 #[.string ⟨#[]⟩, .string ⟨#[]⟩] := ⟨_, rfl⟩
          rw [← hw]
          replace R_b4 : w68.heap[b4]? = some (.cells #[.string ⟨#[]⟩, .string ⟨#[]⟩] 23 (0, 0)) := hw ▸ setRow_heap _ _ _ _ _ _ R_b4
          replace E : Ext w w68 := hw ▸ below_row E B_b4
          clear hw
          refine tail_val rfl rfl rfl (ex_move (.inr rfl) (v := .int .i64 (siteE (s.extract (((p : Int) + 1)).toNat s.size) : Int)) (show a66.eval (.tmp 43) = .int .i64 (siteE (s.extract (((p : Int) + 1)).toNat s.size) : Int) from T43)) ?_
          obtain ⟨a69, ha⟩ : ∃ x : Act, x = a66.put (some 3) (.int .i64 (siteE (s.extract (((p : Int) + 1)).toNat s.size) : Int)) := ⟨_, rfl⟩
          rw [← ha]
          replace T0 : (fun v _ => v = .string s) (a69.at 0) w68 := by rw [ha, put_other rfl]; exact T0
          replace T2 : (fun v _ => v = .pointer (some ⟨b4, 0, none⟩)) (a69.at 2) w68 := by rw [ha, put_other rfl]; exact T2
          replace T4 : (fun v _ => v = .int .i64 (p : Int)) (a69.at 4) w68 := by rw [ha, put_other rfl]; exact T4
          replace T38 : (fun v _ => v = .agg #[.string ⟨#[]⟩, .string ⟨#[]⟩]) (a69.at 38) w68 := by rw [ha, put_other rfl]; exact T38
          replace T43 : (fun v _ => v = .int .i64 (siteE (s.extract (((p : Int) + 1)).toNat s.size) : Int)) (a69.at 43) w68 := by rw [ha, put_other rfl]; exact T43
          replace T3 : (fun v _ => v = .int .i64 (siteE (s.extract (((p : Int) + 1)).toNat s.size) : Int)) (a69.at 3) w68 := by rw [ha, put_same N (by decide)]; skip
          replace N := (ha ▸ put_size _ _ _ : a69.tmps.size = _).trans N
          replace D := (ha ▸ put_defers' _ _ _ : a69.defers = _).trans D
          clear ha
          clear T38
          clear T43
          refine hK65 _ _ ?_
          refine wp_ret ?_
          -- the end
          refine ret_c1 Tryd.results21 D T2 (load_row R_b4 Tryd.underlying23 rfl (by kernel_rfl)) T3 ?_
          have hcc : cntB (by' s) 64 = c := by rw [hrel.2.1, hge, List.take_of_length_le (show (by' s).length ≤ s.size from Nat.le_refl _)]
          exact ⟨_, rfl, E, by rw [addr_ref3 hcc hc1 (hrel.2.2 (by omega)).2 C44 C54 C64] <;> rfl⟩
        · clear T31
          refine wp_skip ?_
          refine hK39 _ _ ?_
          refine wp_seq_k (fun K70 hK70 => ?_)
          -- region 14 (drawn): ref.go:82
          show (Code.region 14 (rg Tryd.f21 14) true).wp _ _ _ _
          refine draw_list (n := 8) (N := 52) (deps := [[], [], [0, 1], [], [], [4], [3, 4, 5], [0, 1, 2, 3, 4, 5, 6], [0, 1, 2, 3, 4, 5, 6, 7], [0, 1, 2, 3, 4, 5, 6, 7, 8]]) (F := [(fun v _ => v = .string s), (fun v _ => v = .int .i64 (p : Int)), (fun v _ => v = .string (s.extract 0 ((p : Int)).toNat)), (fun v _ => v = .string s), (fun v _ => v = .int .i64 (p : Int)), (fun v _ => v = .int .i64 ((p : Int) + 1)), (fun v _ => v = .string (s.extract (((p : Int) + 1)).toNat s.size)), (fun v _ => v = .agg #[.string (s.extract 0 ((p : Int)).toNat), .string (s.extract (((p : Int) + 1)).toNat s.size)])]) (E := []) Trydmixed ⟨by kernel_rfl, by kernel_rfl, by kernel_rfl, by kernel_rfl, by kernel_rfl, by kernel_rfl, Nat.le_of_ble_eq_true (by kernel_rfl)⟩ rfl (by kernel_rfl) ⟨(stab_eq _), (stab_eq _), (stab_eq _), (stab_eq _), (stab_eq _), (stab_eq _), (stab_eq _), (stab_eq _), trivial⟩ N ⟨?_, ?_, ?_, ?_, ?_, ?_, ?_, ?_, trivial⟩ trivial ?_
          · -- 0 ref.go:82
            rintro aa ww hE hF ⟨-⟩
            have o0 : aa.eval (.tmp 0) = .string s := hF.carry (fun v _ => v = .string s) rfl (stab_eq _) hE T0
            exact opAt rfl (ok_run rfl (run_here rfl (ex_move (.inl rfl) o0) ( rfl)))
          · -- 1 ref.go:82
            rintro aa ww hE hF ⟨-⟩
            have o4 : aa.eval (.tmp 4) = .int .i64 (p : Int) := hF.carry (fun v _ => v = .int .i64 (p : Int)) rfl (stab_eq _) hE T4
            exact opAt rfl (ok_run rfl (run_here rfl (ex_move (.inl rfl) o4) ( rfl)))
          · -- 2 ref.go:82
            rintro aa ww hE hF ⟨d0, d1, -⟩
            replace d0 : aa.eval (.tmp 44) = .string s := d0
            replace d1 : aa.eval (.tmp 45) = .int .i64 (p : Int) := d1
            exact opAt rfl (ok_run rfl (run_here rfl (ex_slice rfl (by simp only [Option.map_some, Option.map_none, show aa.eval (.tmp 44) = .string s from d0, show aa.eval (.tmp 45) = .int .i64 (p : Int) from d1]; exact slice_hi Tryd.underlying9 (by omega) (by omega))) ( rfl)))
          · -- 3 ref.go:82
            rintro aa ww hE hF ⟨-⟩
            have o0 : aa.eval (.tmp 0) = .string s := hF.carry (fun v _ => v = .string s) rfl (stab_eq _) hE T0
            exact opAt rfl (ok_run rfl (run_here rfl (ex_move (.inl rfl) o0) ( rfl)))
          · -- 4 ref.go:82
            rintro aa ww hE hF ⟨-⟩
            have o4 : aa.eval (.tmp 4) = .int .i64 (p : Int) := hF.carry (fun v _ => v = .int .i64 (p : Int)) rfl (stab_eq _) hE T4
            exact opAt rfl (ok_run rfl (run_here rfl (ex_move (.inl rfl) o4) ( rfl)))
          · -- 5 ref.go:82
            rintro aa ww hE hF ⟨d4, -⟩
            replace d4 : aa.eval (.tmp 48) = .int .i64 (p : Int) := d4
            exact opAt rfl (ok_run rfl (run_here rfl (ex_binOp rfl (by rw [show aa.eval (.tmp 48) = .int .i64 (p : Int) from d4, show aa.eval (.const (.int .i64 1)) = .int .i64 1 from (ev_const (v := .int .i64 1))]; exact eqg_int) (by rw [show aa.eval (.tmp 48) = .int .i64 (p : Int) from d4, show aa.eval (.const (.int .i64 1)) = .int .i64 1 from (ev_const (v := .int .i64 1))]; exact bin_addN (by omega) (by omega))) ( rfl)))
          · -- 6 ref.go:82
            rintro aa ww hE hF ⟨d3, -, d5, -⟩
            replace d3 : aa.eval (.tmp 47) = .string s := d3
            replace d5 : aa.eval (.tmp 49) = .int .i64 ((p : Int) + 1) := d5
            exact opAt rfl (ok_run rfl (run_here rfl (ex_slice rfl (by simp only [Option.map_some, Option.map_none, show aa.eval (.tmp 47) = .string s from d3, show aa.eval (.tmp 49) = .int .i64 ((p : Int) + 1) from d5]; exact slice_lo Tryd.underlying9 (by omega) (by omega))) ( rfl)))
          · -- 7 ref.go:82
            rintro aa ww hE hF ⟨-, -, d2, -, -, -, d6, -⟩
            replace d2 : aa.eval (.tmp 46) = .string (s.extract 0 ((p : Int)).toNat) := d2
            replace d6 : aa.eval (.tmp 50) = .string (s.extract (((p : Int) + 1)).toNat s.size) := d6
            exact opAt rfl (ok_run rfl (run_here rfl (ex_build rfl (by simp only [List.map_toArray, List.map_cons, List.map_nil, show aa.eval (.tmp 46) = .string (s.extract 0 ((p : Int)).toNat) from d2, show aa.eval (.tmp 50) = .string (s.extract (((p : Int) + 1)).toNat s.size) from d6]; simp [Instr.build, Tryd.zeroValue23, Tryd.runUnderlying23, Instr.fill, Value.cells, Tryd.sizeOf9])) ( rfl)))
          intro a71 w72 hE hF hfac hap
          obtain ⟨f0, f1, f2, f3, f4, f5, f6, f7, -⟩ := hfac
          replace N := hF.size.trans N
          replace D := hF.defers.trans D
          replace R_b4 := hE.row R_b4
          replace T0 : (fun v _ => v = .string s) (a71.at 0) w72 := hF.carry (fun v _ => v = .string s) rfl (stab_eq _) hE T0
          replace T2 : (fun v _ => v = .pointer (some ⟨b4, 0, none⟩)) (a71.at 2) w72 := hF.carry (fun v _ => v = .pointer (some ⟨b4, 0, none⟩)) rfl (stab_eq _) hE T2
          replace T3 : (fun v _ => v = .int .i64 0) (a71.at 3) w72 := hF.carry (fun v _ => v = .int .i64 0) rfl (stab_eq _) hE T3
          replace T4 : (fun v _ => v = .int .i64 (p : Int)) (a71.at 4) w72 := hF.carry (fun v _ => v = .int .i64 (p : Int)) rfl (stab_eq _) hE T4
          have T51 : (fun v _ => v = .agg #[.string (s.extract 0 ((p : Int)).toNat), .string (s.extract (((p : Int) + 1)).toNat s.size)]) (a71.at 51) w72 := f7
          replace E := E.trans hE
          replace X12 := X12.trans hE
          clear hE hF hap
          show wpOps _ (rg Tryd.f21 14) _ [8, 9] _ _
          refine tail_do rfl rfl rfl (ex_store rfl (show a71.eval (.tmp 2) = .pointer (some ⟨b4, 0, none⟩) from T2) (by rw [show a71.eval (.tmp 51) = .agg #[.string (s.extract 0 ((p : Int)).toNat), .string (s.extract (((p : Int) + 1)).toNat s.size)] from (show a71.eval (.tmp 51) = .agg #[.string (s.extract 0 ((p : Int)).toNat), .string (s.extract (((p : Int) + 1)).toNat s.size)] from T51)]; exact store_row R_b4 (by kernel_rfl) rfl (by simp [Value.oneCell']))) ?_
          obtain ⟨w73, hw⟩ : ∃ x : World, x = w72.setRow b4 #[.string (s.extract 0 ((p : Int)).toNat), .string (s.extract (((p : Int) + 1)).toNat s.size)] := ⟨_, rfl⟩
          rw [← hw]
          replace R_b4 : w73.heap[b4]? = some (.cells #[.string (s.extract 0 ((p : Int)).toNat), .string (s.extract (((p : Int) + 1)).toNat s.size)] 23 (0, 0)) := hw ▸ setRow_heap _ _ _ _ _ _ R_b4
          replace E : Ext w w73 := hw ▸ below_row E B_b4
          clear hw
          refine tail_val rfl rfl rfl (ex_move (.inr rfl) (v := .int .i64 0) (ev_const (v := .int .i64 0))) ?_
          obtain ⟨a74, ha⟩ : ∃ x : Act, x = a71.put (some 3) (.int .i64 0) := ⟨_, rfl⟩
          rw [← ha]
          replace T0 : (fun v _ => v = .string s) (a74.at 0) w73 := by rw [ha, put_other rfl]; exact T0
          replace T2 : (fun v _ => v = .pointer (some ⟨b4, 0, none⟩)) (a74.at 2) w73 := by rw [ha, put_other rfl]; exact T2
          replace T4 : (fun v _ => v = .int .i64 (p : Int)) (a74.at 4) w73 := by rw [ha, put_other rfl]; exact T4
          replace T51 : (fun v _ => v = .agg #[.string (s.extract 0 ((p : Int)).toNat), .string (s.extract (((p : Int) + 1)).toNat s.size)]) (a74.at 51) w73 := by rw [ha, put_other rfl]; exact T51
          replace T3 : (fun v _ => v = .int .i64 0) (a74.at 3) w73 := by rw [ha, put_same N (by decide)]; skip
          replace N := (ha ▸ put_size _ _ _ : a74.tmps.size = _).trans N
          replace D := (ha ▸ put_defers' _ _ _ : a74.defers = _).trans D
          clear ha
          clear T0
          clear T4
          clear T51
          refine hK70 _ _ ?_
          refine wp_ret ?_
          -- the end
          refine ret_c1 Tryd.results21 D T2 (load_row R_b4 Tryd.underlying23 rfl (by kernel_rfl)) T3 ?_
          have hcc : cntB (by' s) 64 = c := by rw [hrel.2.1, hge, List.take_of_length_le (show (by' s).length ≤ s.size from Nat.le_refl _)]
          exact ⟨_, rfl, E, by rw [addr_ref4 hcc hc1 (hrel.2.2 (by omega)).2 C44 C54 C64] <;> rfl⟩

end Go.Proofs.YtfcfddfjifofgaaDoor
