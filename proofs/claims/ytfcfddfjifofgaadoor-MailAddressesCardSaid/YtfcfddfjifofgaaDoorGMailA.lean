/- What the law MailAddresses returns: true. -/
import Derived.Test.YtfcfddfjifofgaaDoorGAddr
import Derived.Test.YtfcfddfjifofgaaDoorKnown
namespace Go.Proofs.YtfcfddfjifofgaaDoor
open Go.RowKit Go.Shelf
set_option maxRecDepth 100000 in
set_option maxHeartbeats 600000 in
theorem mailAddresses_e (s : ByteArray) (w : World) (hs : s.size ≤ maxLen) (POW : PowT w) : Calls Tryd.prog 7 #[.string s] w (Ret (fun v _ => v = .bool true) w) := by
  unfold maxLen at hs
  have hx : (s.extract 0 (min (s.size : Int) 120).toNat).size ≤ 120 := by simp only [ByteArray.size_extract]; omega
  have hy := addrR_size (s.extract 0 (min (s.size : Int) 120).toNat)
  have hy1 := Nat.le_trans hy.1 hx
  have hy2 := Nat.le_trans hy.2 hx
  refine enter_fn Tryd.func7 rfl Tryd.ntmps7 (Nat.le_of_ble_eq_true rfl) (fun a0 N D hA => ?_)
  have T0 : (fun v _ => v = .string s) (a0.at 0) w := by rw [hA 0 (by simp)]; exact rfl
  clear hA
  have E : Ext w w := Ext.refl w
  refine wp_seq_k (fun K1 hK1 => ?_)
  -- region 0: law.go:48
  show (Code.region 0 (rg Tryd.f7 0) false).wp _ _ _ _
  refine wp_region ?_
  show wpOps _ (rg Tryd.f7 0) _ [0] _ _
  refine tail_val rfl rfl rfl (ex_move (.inr rfl) (v := .bool false) (ev_const (v := .bool false))) ?_
  obtain ⟨a2, ha⟩ : ∃ x : Act, x = a0.put (some 2) (.bool false) := ⟨_, rfl⟩
  rw [← ha]
  replace T0 : (fun v _ => v = .string s) (a2.at 0) w := by rw [ha, put_other rfl]; exact T0
  have T2 : (fun v _ => v = .bool false) (a2.at 2) w := by rw [ha, put_same N (by decide)]; skip
  replace N := (ha ▸ put_size _ _ _ : a2.tmps.size = _).trans N
  replace D := (ha ▸ put_defers' _ _ _ : a2.defers = _).trans D
  clear ha
  refine hK1 _ _ ?_
  refine wp_seq_k (fun K3 hK3 => ?_)
  -- region 1: law.go:49
  show (Code.region 1 (rg Tryd.f7 1) false).wp _ _ _ _
  refine plain_list (n := 5) (N := 52) (deps := [[], [], [1], [2], [0, 3]]) (F := [(fun v _ => v = .string s), (fun v _ => v = .string s), (fun v _ => v = .int .i64 (s.size : Int)), (fun v _ => v = .int .i64 (min (s.size : Int) 120)), (fun v _ => v = .string (s.extract 0 ((min (s.size : Int) 120)).toNat))]) (by kernel_rfl) (by kernel_rfl) rfl (by kernel_rfl) ⟨(stab_eq _), (stab_eq _), (stab_eq _), (stab_eq _), (stab_eq _), trivial⟩ N (by kernel_rfl) ⟨?_, ?_, ?_, ?_, ?_, trivial⟩ ?_
  · -- 0 law.go:49
    rintro aa ww hE hF ⟨-⟩
    have o0 : aa.eval (.tmp 0) = .string s := hF.carry (fun v _ => v = .string s) rfl (stab_eq _) hE T0
    exact opAt rfl (ok_run rfl (run_here rfl (ex_move (.inl rfl) o0) ( rfl)))
  · -- 1 law.go:49
    rintro aa ww hE hF ⟨-⟩
    have o0 : aa.eval (.tmp 0) = .string s := hF.carry (fun v _ => v = .string s) rfl (stab_eq _) hE T0
    exact opAt rfl (ok_run rfl (run_here rfl (ex_move (.inl rfl) o0) ( rfl)))
  · -- 2 law.go:49
    rintro aa ww hE hF ⟨d1, -⟩
    replace d1 : aa.eval (.tmp 8) = .string s := d1
    exact opAt rfl (ok_run rfl (run_here rfl (ex_builtin rfl (fun cs => by simp only [List.map_toArray, List.map_cons, List.map_nil, show aa.eval (.tmp 8) = .string s from d1]; exact len_str Tryd.underlying9)) ( rfl)))
  · -- 3 law.go:49
    rintro aa ww hE hF ⟨d2, -⟩
    replace d2 : aa.eval (.tmp 9) = .int .i64 (s.size : Int) := d2
    exact opAt rfl (ok_run rfl (run_here rfl (ex_builtin rfl (fun cs => by simp only [List.map_toArray, List.map_cons, List.map_nil, show aa.eval (.tmp 9) = .int .i64 (s.size : Int) from d2, show aa.eval (.const (.int .i64 120)) = .int .i64 120 from (ev_const (v := .int .i64 120))]; exact min_int)) ( rfl)))
  · -- 4 law.go:49
    rintro aa ww hE hF ⟨d0, d3, -⟩
    replace d0 : aa.eval (.tmp 7) = .string s := d0
    replace d3 : aa.eval (.tmp 10) = .int .i64 (min (s.size : Int) 120) := d3
    exact opAt rfl (ok_run rfl (run_here rfl (ex_slice rfl (by simp only [Option.map_some, Option.map_none, show aa.eval (.tmp 7) = .string s from d0, show aa.eval (.tmp 10) = .int .i64 (min (s.size : Int) 120) from d3]; exact slice_hi Tryd.underlying9 (by omega) (by omega))) ( rfl)))
  intro a4 w5 hE hF hfac hap
  obtain ⟨f0, f1, f2, f3, f4, -⟩ := hfac
  replace N := hF.size.trans N
  replace D := hF.defers.trans D
  replace T0 : (fun v _ => v = .string s) (a4.at 0) w5 := hF.carry (fun v _ => v = .string s) rfl (stab_eq _) hE T0
  replace T2 : (fun v _ => v = .bool false) (a4.at 2) w5 := hF.carry (fun v _ => v = .bool false) rfl (stab_eq _) hE T2
  have T11 : (fun v _ => v = .string (s.extract 0 ((min (s.size : Int) 120)).toNat)) (a4.at 11) w5 := f4
  replace E := E.trans hE
  clear hE hF hap
  show wpOps _ (rg Tryd.f7 1) _ [5] _ _
  refine tail_val rfl rfl rfl (ex_move (.inr rfl) (v := .string (s.extract 0 ((min (s.size : Int) 120)).toNat)) (show a4.eval (.tmp 11) = .string (s.extract 0 ((min (s.size : Int) 120)).toNat) from T11)) ?_
  obtain ⟨a6, ha⟩ : ∃ x : Act, x = a4.put (some 0) (.string (s.extract 0 ((min (s.size : Int) 120)).toNat)) := ⟨_, rfl⟩
  rw [← ha]
  replace T2 : (fun v _ => v = .bool false) (a6.at 2) w5 := by rw [ha, put_other rfl]; exact T2
  replace T11 : (fun v _ => v = .string (s.extract 0 ((min (s.size : Int) 120)).toNat)) (a6.at 11) w5 := by rw [ha, put_other rfl]; exact T11
  replace T0 : (fun v _ => v = .string (s.extract 0 ((min (s.size : Int) 120)).toNat)) (a6.at 0) w5 := by rw [ha, put_same N (by decide)]; skip
  replace N := (ha ▸ put_size _ _ _ : a6.tmps.size = _).trans N
  replace D := (ha ▸ put_defers' _ _ _ : a6.defers = _).trans D
  clear ha
  clear T11
  refine hK3 _ _ ?_
  refine wp_seq_k (fun K7 hK7 => ?_)
  -- region 2: law.go:50
  show (Code.region 2 (rg Tryd.f7 2) false).wp _ _ _ _
  refine plain_list (n := 6) (N := 52) (deps := [[], [0], [1], [2], [2], []]) (F := [(fun v _ => v = .string (s.extract 0 ((min (s.size : Int) 120)).toNat)), (fun v _ => v = .tuple #[.agg #[.string ((addrR (s.extract 0 ((min (s.size : Int) 120)).toNat)).1.1), .string ((addrR (s.extract 0 ((min (s.size : Int) 120)).toNat)).1.2)], .int .i64 ((addrR (s.extract 0 ((min (s.size : Int) 120)).toNat)).2 : Int)]), (fun v _ => v = .tuple #[.agg #[.string ((addrR (s.extract 0 ((min (s.size : Int) 120)).toNat)).1.1), .string ((addrR (s.extract 0 ((min (s.size : Int) 120)).toNat)).1.2)], .int .i64 ((addrR (s.extract 0 ((min (s.size : Int) 120)).toNat)).2 : Int)]), (fun v _ => v = .agg #[.string ((addrR (s.extract 0 ((min (s.size : Int) 120)).toNat)).1.1), .string ((addrR (s.extract 0 ((min (s.size : Int) 120)).toNat)).1.2)]), (fun v _ => v = .int .i64 ((addrR (s.extract 0 ((min (s.size : Int) 120)).toNat)).2 : Int)), (IsBox #[.string ⟨#[]⟩, .string ⟨#[]⟩] 27 w5.heap.size)]) (by kernel_rfl) (by kernel_rfl) rfl (by kernel_rfl) ⟨(stab_eq _), (stab_eq _), (stab_eq _), (stab_eq _), (stab_eq _), (stab_box _ _ _), trivial⟩ N (by kernel_rfl) ⟨?_, ?_, ?_, ?_, ?_, ?_, trivial⟩ ?_
  · -- 0 law.go:50
    rintro aa ww hE hF ⟨-⟩
    have o0 : aa.eval (.tmp 0) = .string (s.extract 0 ((min (s.size : Int) 120)).toNat) := hF.carry (fun v _ => v = .string (s.extract 0 ((min (s.size : Int) 120)).toNat)) rfl (stab_eq _) hE T0
    exact opAt rfl (ok_run rfl (run_here rfl (ex_move (.inl rfl) o0) ( rfl)))
  · -- 1 law.go:50
    rintro aa ww hE hF ⟨d0, -⟩
    replace d0 : aa.eval (.tmp 13) = .string (s.extract 0 ((min (s.size : Int) 120)).toNat) := d0
    exact opAt rfl (ok_run rfl (run_callR (ψ := (fun v _ => v = .tuple #[.agg #[.string ((addrR (s.extract 0 ((min (s.size : Int) 120)).toNat)).1.1), .string ((addrR (s.extract 0 ((min (s.size : Int) 120)).toNat)).1.2)], .int .i64 ((addrR (s.extract 0 ((min (s.size : Int) 120)).toNat)).2 : Int)])) rfl Tryd.call20 (by
      simp only [List.map_toArray, List.map_cons, List.map_nil, d0]
      exact id (parseAddress_e (s.extract 0 ((min (s.size : Int) 120)).toNat) _ (by first | with_reducible assumption | exact le_max (by omega)))) (fun _ _ h =>  h)))
  · -- 2 law.go:50
    rintro aa ww hE hF ⟨d1, -⟩
    replace d1 : aa.eval (.tmp 14) = .tuple #[.agg #[.string ((addrR (s.extract 0 ((min (s.size : Int) 120)).toNat)).1.1), .string ((addrR (s.extract 0 ((min (s.size : Int) 120)).toNat)).1.2)], .int .i64 ((addrR (s.extract 0 ((min (s.size : Int) 120)).toNat)).2 : Int)] := d1
    exact opAt rfl (ok_run rfl (run_here rfl (ex_move (.inl rfl) d1) ( rfl)))
  · -- 3 law.go:50
    rintro aa ww hE hF ⟨d2, -⟩
    replace d2 : aa.eval (.tmp 12) = .tuple #[.agg #[.string ((addrR (s.extract 0 ((min (s.size : Int) 120)).toNat)).1.1), .string ((addrR (s.extract 0 ((min (s.size : Int) 120)).toNat)).1.2)], .int .i64 ((addrR (s.extract 0 ((min (s.size : Int) 120)).toNat)).2 : Int)] := d2
    exact opAt rfl (ok_run rfl (run_here rfl (ex_extract rfl d2 rfl) ( rfl)))
  · -- 4 law.go:50
    rintro aa ww hE hF ⟨d2, -⟩
    replace d2 : aa.eval (.tmp 12) = .tuple #[.agg #[.string ((addrR (s.extract 0 ((min (s.size : Int) 120)).toNat)).1.1), .string ((addrR (s.extract 0 ((min (s.size : Int) 120)).toNat)).1.2)], .int .i64 ((addrR (s.extract 0 ((min (s.size : Int) 120)).toNat)).2 : Int)] := d2
    exact opAt rfl (ok_run rfl (run_here rfl (ex_extract rfl d2 rfl) ( rfl)))
  · -- 5 law.go:50
    rintro aa ww hE hF ⟨-⟩
    exact opAt rfl (ok_run rfl (run_new (ex_alloc rfl Tryd.zeroValue27) ( box_new hE.size)))
  intro a8 w9 hE hF hfac hap
  obtain ⟨f0, f1, f2, f3, f4, f5, -⟩ := hfac
  replace N := hF.size.trans N
  replace D := hF.defers.trans D
  obtain ⟨b10, T3, B_b10, R_b10⟩ := f5
  replace B_b10 := Nat.le_trans E.size B_b10
  replace T0 : (fun v _ => v = .string (s.extract 0 ((min (s.size : Int) 120)).toNat)) (a8.at 0) w9 := hF.carry (fun v _ => v = .string (s.extract 0 ((min (s.size : Int) 120)).toNat)) rfl (stab_eq _) hE T0
  replace T2 : (fun v _ => v = .bool false) (a8.at 2) w9 := hF.carry (fun v _ => v = .bool false) rfl (stab_eq _) hE T2
  have T15 : (fun v _ => v = .agg #[.string ((addrR (s.extract 0 ((min (s.size : Int) 120)).toNat)).1.1), .string ((addrR (s.extract 0 ((min (s.size : Int) 120)).toNat)).1.2)]) (a8.at 15) w9 := f3
  have T16 : (fun v _ => v = .int .i64 ((addrR (s.extract 0 ((min (s.size : Int) 120)).toNat)).2 : Int)) (a8.at 16) w9 := f4
  replace E := E.trans hE
  clear hE hF hap
  show wpOps _ (rg Tryd.f7 2) _ [6, 7] _ _
  refine tail_do rfl rfl rfl (ex_store rfl (show a8.eval (.tmp 3) = .pointer (some ⟨b10, 0, none⟩) from T3) (by rw [show a8.eval (.tmp 15) = .agg #[.string ((addrR (s.extract 0 ((min (s.size : Int) 120)).toNat)).1.1), .string ((addrR (s.extract 0 ((min (s.size : Int) 120)).toNat)).1.2)] from (show a8.eval (.tmp 15) = .agg #[.string ((addrR (s.extract 0 ((min (s.size : Int) 120)).toNat)).1.1), .string ((addrR (s.extract 0 ((min (s.size : Int) 120)).toNat)).1.2)] from T15)]; exact store_row R_b10 (by kernel_rfl) rfl (by simp [Value.oneCell']))) ?_
  obtain ⟨w11, hw⟩ : ∃ x : World, x = w9.setRow b10 #[.string ((addrR (s.extract 0 ((min (s.size : Int) 120)).toNat)).1.1), .string ((addrR (s.extract 0 ((min (s.size : Int) 120)).toNat)).1.2)] := ⟨_, rfl⟩
  rw [← hw]
  replace R_b10 : w11.heap[b10]? = some (.cells #[.string ((addrR (s.extract 0 ((min (s.size : Int) 120)).toNat)).1.1), .string ((addrR (s.extract 0 ((min (s.size : Int) 120)).toNat)).1.2)] 27 (0, 0)) := hw ▸ setRow_heap _ _ _ _ _ _ R_b10
  replace E : Ext w w11 := hw ▸ below_row E B_b10
  clear hw
  refine tail_val rfl rfl rfl (ex_move (.inr rfl) (v := .int .i64 ((addrR (s.extract 0 ((min (s.size : Int) 120)).toNat)).2 : Int)) (show a8.eval (.tmp 16) = .int .i64 ((addrR (s.extract 0 ((min (s.size : Int) 120)).toNat)).2 : Int) from T16)) ?_
  obtain ⟨a12, ha⟩ : ∃ x : Act, x = a8.put (some 4) (.int .i64 ((addrR (s.extract 0 ((min (s.size : Int) 120)).toNat)).2 : Int)) := ⟨_, rfl⟩
  rw [← ha]
  replace T0 : (fun v _ => v = .string (s.extract 0 ((min (s.size : Int) 120)).toNat)) (a12.at 0) w11 := by rw [ha, put_other rfl]; exact T0
  replace T2 : (fun v _ => v = .bool false) (a12.at 2) w11 := by rw [ha, put_other rfl]; exact T2
  replace T15 : (fun v _ => v = .agg #[.string ((addrR (s.extract 0 ((min (s.size : Int) 120)).toNat)).1.1), .string ((addrR (s.extract 0 ((min (s.size : Int) 120)).toNat)).1.2)]) (a12.at 15) w11 := by rw [ha, put_other rfl]; exact T15
  replace T16 : (fun v _ => v = .int .i64 ((addrR (s.extract 0 ((min (s.size : Int) 120)).toNat)).2 : Int)) (a12.at 16) w11 := by rw [ha, put_other rfl]; exact T16
  replace T3 : (fun v _ => v = .pointer (some ⟨b10, 0, none⟩)) (a12.at 3) w11 := by rw [ha, put_other rfl]; exact T3
  have T4 : (fun v _ => v = .int .i64 ((addrR (s.extract 0 ((min (s.size : Int) 120)).toNat)).2 : Int)) (a12.at 4) w11 := by rw [ha, put_same N (by decide)]; skip
  replace N := (ha ▸ put_size _ _ _ : a12.tmps.size = _).trans N
  replace D := (ha ▸ put_defers' _ _ _ : a12.defers = _).trans D
  clear ha
  clear T15
  clear T16
  refine hK7 _ _ ?_
  refine wp_seq_k (fun K13 hK13 => ?_)
  -- region 3: law.go:51
  show (Code.region 3 (rg Tryd.f7 3) false).wp _ _ _ _
  refine plain_list (n := 6) (N := 52) (deps := [[], [0], [1], [2], [2], []]) (F := [(fun v _ => v = .string (s.extract 0 ((min (s.size : Int) 120)).toNat)), (fun v _ => v = .tuple #[.agg #[.string ((addrR (s.extract 0 ((min (s.size : Int) 120)).toNat)).1.1), .string ((addrR (s.extract 0 ((min (s.size : Int) 120)).toNat)).1.2)], .int .i64 ((addrR (s.extract 0 ((min (s.size : Int) 120)).toNat)).2 : Int)]), (fun v _ => v = .tuple #[.agg #[.string ((addrR (s.extract 0 ((min (s.size : Int) 120)).toNat)).1.1), .string ((addrR (s.extract 0 ((min (s.size : Int) 120)).toNat)).1.2)], .int .i64 ((addrR (s.extract 0 ((min (s.size : Int) 120)).toNat)).2 : Int)]), (fun v _ => v = .agg #[.string ((addrR (s.extract 0 ((min (s.size : Int) 120)).toNat)).1.1), .string ((addrR (s.extract 0 ((min (s.size : Int) 120)).toNat)).1.2)]), (fun v _ => v = .int .i64 ((addrR (s.extract 0 ((min (s.size : Int) 120)).toNat)).2 : Int)), (IsBox #[.string ⟨#[]⟩, .string ⟨#[]⟩] 23 w11.heap.size)]) (by kernel_rfl) (by kernel_rfl) rfl (by kernel_rfl) ⟨(stab_eq _), (stab_eq _), (stab_eq _), (stab_eq _), (stab_eq _), (stab_box _ _ _), trivial⟩ N (by kernel_rfl) ⟨?_, ?_, ?_, ?_, ?_, ?_, trivial⟩ ?_
  · -- 0 law.go:51
    rintro aa ww hE hF ⟨-⟩
    have o0 : aa.eval (.tmp 0) = .string (s.extract 0 ((min (s.size : Int) 120)).toNat) := hF.carry (fun v _ => v = .string (s.extract 0 ((min (s.size : Int) 120)).toNat)) rfl (stab_eq _) hE T0
    exact opAt rfl (ok_run rfl (run_here rfl (ex_move (.inl rfl) o0) ( rfl)))
  · -- 1 law.go:51
    rintro aa ww hE hF ⟨d0, -⟩
    replace d0 : aa.eval (.tmp 18) = .string (s.extract 0 ((min (s.size : Int) 120)).toNat) := d0
    exact opAt rfl (ok_run rfl (run_callR (ψ := (fun v _ => v = .tuple #[.agg #[.string ((addrR (s.extract 0 ((min (s.size : Int) 120)).toNat)).1.1), .string ((addrR (s.extract 0 ((min (s.size : Int) 120)).toNat)).1.2)], .int .i64 ((addrR (s.extract 0 ((min (s.size : Int) 120)).toNat)).2 : Int)])) rfl Tryd.call21 (by
      simp only [List.map_toArray, List.map_cons, List.map_nil, d0]
      exact id (rAddress_e (s.extract 0 ((min (s.size : Int) 120)).toNat) _ (by first | with_reducible assumption | exact le_max (by omega)))) (fun _ _ h =>  h)))
  · -- 2 law.go:51
    rintro aa ww hE hF ⟨d1, -⟩
    replace d1 : aa.eval (.tmp 19) = .tuple #[.agg #[.string ((addrR (s.extract 0 ((min (s.size : Int) 120)).toNat)).1.1), .string ((addrR (s.extract 0 ((min (s.size : Int) 120)).toNat)).1.2)], .int .i64 ((addrR (s.extract 0 ((min (s.size : Int) 120)).toNat)).2 : Int)] := d1
    exact opAt rfl (ok_run rfl (run_here rfl (ex_move (.inl rfl) d1) ( rfl)))
  · -- 3 law.go:51
    rintro aa ww hE hF ⟨d2, -⟩
    replace d2 : aa.eval (.tmp 17) = .tuple #[.agg #[.string ((addrR (s.extract 0 ((min (s.size : Int) 120)).toNat)).1.1), .string ((addrR (s.extract 0 ((min (s.size : Int) 120)).toNat)).1.2)], .int .i64 ((addrR (s.extract 0 ((min (s.size : Int) 120)).toNat)).2 : Int)] := d2
    exact opAt rfl (ok_run rfl (run_here rfl (ex_extract rfl d2 rfl) ( rfl)))
  · -- 4 law.go:51
    rintro aa ww hE hF ⟨d2, -⟩
    replace d2 : aa.eval (.tmp 17) = .tuple #[.agg #[.string ((addrR (s.extract 0 ((min (s.size : Int) 120)).toNat)).1.1), .string ((addrR (s.extract 0 ((min (s.size : Int) 120)).toNat)).1.2)], .int .i64 ((addrR (s.extract 0 ((min (s.size : Int) 120)).toNat)).2 : Int)] := d2
    exact opAt rfl (ok_run rfl (run_here rfl (ex_extract rfl d2 rfl) ( rfl)))
  · -- 5 law.go:51
    rintro aa ww hE hF ⟨-⟩
    exact opAt rfl (ok_run rfl (run_new (ex_alloc rfl Tryd.zeroValue23) ( box_new hE.size)))
  intro a14 w15 hE hF hfac hap
  obtain ⟨f0, f1, f2, f3, f4, f5, -⟩ := hfac
  replace N := hF.size.trans N
  replace D := hF.defers.trans D
  obtain ⟨b16, T5, B_b16, R_b16⟩ := f5
  have NE_b10_b16 : b10 ≠ b16 := by have := row_lt R_b10; omega
  replace B_b16 := Nat.le_trans E.size B_b16
  replace R_b10 := hE.row R_b10
  replace T0 : (fun v _ => v = .string (s.extract 0 ((min (s.size : Int) 120)).toNat)) (a14.at 0) w15 := hF.carry (fun v _ => v = .string (s.extract 0 ((min (s.size : Int) 120)).toNat)) rfl (stab_eq _) hE T0
  replace T2 : (fun v _ => v = .bool false) (a14.at 2) w15 := hF.carry (fun v _ => v = .bool false) rfl (stab_eq _) hE T2
  replace T3 : (fun v _ => v = .pointer (some ⟨b10, 0, none⟩)) (a14.at 3) w15 := hF.carry (fun v _ => v = .pointer (some ⟨b10, 0, none⟩)) rfl (stab_eq _) hE T3
  replace T4 : (fun v _ => v = .int .i64 ((addrR (s.extract 0 ((min (s.size : Int) 120)).toNat)).2 : Int)) (a14.at 4) w15 := hF.carry (fun v _ => v = .int .i64 ((addrR (s.extract 0 ((min (s.size : Int) 120)).toNat)).2 : Int)) rfl (stab_eq _) hE T4
  have T20 : (fun v _ => v = .agg #[.string ((addrR (s.extract 0 ((min (s.size : Int) 120)).toNat)).1.1), .string ((addrR (s.extract 0 ((min (s.size : Int) 120)).toNat)).1.2)]) (a14.at 20) w15 := f3
  have T21 : (fun v _ => v = .int .i64 ((addrR (s.extract 0 ((min (s.size : Int) 120)).toNat)).2 : Int)) (a14.at 21) w15 := f4
  replace E := E.trans hE
  clear hE hF hap
  show wpOps _ (rg Tryd.f7 3) _ [6, 7] _ _
  refine tail_do rfl rfl rfl (ex_store rfl (show a14.eval (.tmp 5) = .pointer (some ⟨b16, 0, none⟩) from T5) (by rw [show a14.eval (.tmp 20) = .agg #[.string ((addrR (s.extract 0 ((min (s.size : Int) 120)).toNat)).1.1), .string ((addrR (s.extract 0 ((min (s.size : Int) 120)).toNat)).1.2)] from (show a14.eval (.tmp 20) = .agg #[.string ((addrR (s.extract 0 ((min (s.size : Int) 120)).toNat)).1.1), .string ((addrR (s.extract 0 ((min (s.size : Int) 120)).toNat)).1.2)] from T20)]; exact store_row R_b16 (by kernel_rfl) rfl (by simp [Value.oneCell']))) ?_
  obtain ⟨w17, hw⟩ : ∃ x : World, x = w15.setRow b16 #[.string ((addrR (s.extract 0 ((min (s.size : Int) 120)).toNat)).1.1), .string ((addrR (s.extract 0 ((min (s.size : Int) 120)).toNat)).1.2)] := ⟨_, rfl⟩
  rw [← hw]
  replace R_b10 := hw ▸ row_other R_b10 (by first | exact NE_b10_b16 | exact NE_b16_b10.symm)
  replace R_b16 : w17.heap[b16]? = some (.cells #[.string ((addrR (s.extract 0 ((min (s.size : Int) 120)).toNat)).1.1), .string ((addrR (s.extract 0 ((min (s.size : Int) 120)).toNat)).1.2)] 23 (0, 0)) := hw ▸ setRow_heap _ _ _ _ _ _ R_b16
  replace E : Ext w w17 := hw ▸ below_row E B_b16
  clear hw
  refine tail_val rfl rfl rfl (ex_move (.inr rfl) (v := .int .i64 ((addrR (s.extract 0 ((min (s.size : Int) 120)).toNat)).2 : Int)) (show a14.eval (.tmp 21) = .int .i64 ((addrR (s.extract 0 ((min (s.size : Int) 120)).toNat)).2 : Int) from T21)) ?_
  obtain ⟨a18, ha⟩ : ∃ x : Act, x = a14.put (some 6) (.int .i64 ((addrR (s.extract 0 ((min (s.size : Int) 120)).toNat)).2 : Int)) := ⟨_, rfl⟩
  rw [← ha]
  replace T0 : (fun v _ => v = .string (s.extract 0 ((min (s.size : Int) 120)).toNat)) (a18.at 0) w17 := by rw [ha, put_other rfl]; exact T0
  replace T2 : (fun v _ => v = .bool false) (a18.at 2) w17 := by rw [ha, put_other rfl]; exact T2
  replace T3 : (fun v _ => v = .pointer (some ⟨b10, 0, none⟩)) (a18.at 3) w17 := by rw [ha, put_other rfl]; exact T3
  replace T4 : (fun v _ => v = .int .i64 ((addrR (s.extract 0 ((min (s.size : Int) 120)).toNat)).2 : Int)) (a18.at 4) w17 := by rw [ha, put_other rfl]; exact T4
  replace T20 : (fun v _ => v = .agg #[.string ((addrR (s.extract 0 ((min (s.size : Int) 120)).toNat)).1.1), .string ((addrR (s.extract 0 ((min (s.size : Int) 120)).toNat)).1.2)]) (a18.at 20) w17 := by rw [ha, put_other rfl]; exact T20
  replace T21 : (fun v _ => v = .int .i64 ((addrR (s.extract 0 ((min (s.size : Int) 120)).toNat)).2 : Int)) (a18.at 21) w17 := by rw [ha, put_other rfl]; exact T21
  replace T5 : (fun v _ => v = .pointer (some ⟨b16, 0, none⟩)) (a18.at 5) w17 := by rw [ha, put_other rfl]; exact T5
  have T6 : (fun v _ => v = .int .i64 ((addrR (s.extract 0 ((min (s.size : Int) 120)).toNat)).2 : Int)) (a18.at 6) w17 := by rw [ha, put_same N (by decide)]; skip
  replace N := (ha ▸ put_size _ _ _ : a18.tmps.size = _).trans N
  replace D := (ha ▸ put_defers' _ _ _ : a18.defers = _).trans D
  clear ha
  clear T20
  clear T21
  refine hK13 _ _ ?_
  refine wp_seq_k (fun K19 hK19 => ?_)
  -- region 4: law.go:52
  show (Code.region 4 (rg Tryd.f7 4) false).wp _ _ _ _
  refine plain_list (n := 30) (N := 52) (deps := [[], [0], [1], [1], [1, 2, 3], [1, 4], [5], [6], [6, 7], [6], [6, 9], [6, 8, 10], [6, 11], [12], [13], [13, 14], [13], [13, 16], [13, 15, 17], [13, 18], [19], [20], [20, 21], [20, 22], [23], [23, 24], [23], [23, 25, 26], [20, 23, 27], [20, 28]]) (F := [(fun v _ => v = .bool true), (fun v _ => v = .bool true), (fun v _ => v = .int .i64 ((addrR (s.extract 0 ((min (s.size : Int) 120)).toNat)).2 : Int)), (fun v _ => v = .int .i64 ((addrR (s.extract 0 ((min (s.size : Int) 120)).toNat)).2 : Int)), (fun v _ => v = .bool true), (fun v _ => v = .bool true), (fun v _ => v = .bool true), (fun v _ => v = .pointer (some ⟨b10, 0, none⟩)), (fun v _ => v = .string ((addrR (s.extract 0 ((min (s.size : Int) 120)).toNat)).1.1)), (fun v _ => v = .pointer (some ⟨b16, 0, none⟩)), (fun v _ => v = .string ((addrR (s.extract 0 ((min (s.size : Int) 120)).toNat)).1.1)), (fun v _ => v = .bool true), (fun v _ => v = .bool true), (fun v _ => v = .bool true), (fun v _ => v = .pointer (some ⟨b10, 1, none⟩)), (fun v _ => v = .string ((addrR (s.extract 0 ((min (s.size : Int) 120)).toNat)).1.2)), (fun v _ => v = .pointer (some ⟨b16, 1, none⟩)), (fun v _ => v = .string ((addrR (s.extract 0 ((min (s.size : Int) 120)).toNat)).1.2)), (fun v _ => v = .bool true), (fun v _ => v = .bool true), (fun v _ => v = .bool true), (fun v _ => v = .int .i64 ((addrR (s.extract 0 ((min (s.size : Int) 120)).toNat)).2 : Int)), (fun v _ => v = .bool (((addrR (s.extract 0 ((min (s.size : Int) 120)).toNat)).2 : Int) != (0 : Int))), (fun v _ => v = .bool (((addrR (s.extract 0 ((min (s.size : Int) 120)).toNat)).2 : Int) != (0 : Int))), (fun v w => (((addrR (s.extract 0 ((min (s.size : Int) 120)).toNat)).2 : Int) != (0 : Int)) = false → (fun v _ => v = .agg #[.string ((addrR (s.extract 0 ((min (s.size : Int) 120)).toNat)).1.1), .string ((addrR (s.extract 0 ((min (s.size : Int) 120)).toNat)).1.2)]) v w), (fun v w => (((addrR (s.extract 0 ((min (s.size : Int) 120)).toNat)).2 : Int) != (0 : Int)) = false → (fun v _ => v = .string (textA ((addrR (s.extract 0 ((min (s.size : Int) 120)).toNat)).1.1) ((addrR (s.extract 0 ((min (s.size : Int) 120)).toNat)).1.2))) v w), (fun v w => (((addrR (s.extract 0 ((min (s.size : Int) 120)).toNat)).2 : Int) != (0 : Int)) = false → (fun v _ => v = .string (s.extract 0 ((min (s.size : Int) 120)).toNat)) v w), (fun v w => (((addrR (s.extract 0 ((min (s.size : Int) 120)).toNat)).2 : Int) != (0 : Int)) = false → (fun v _ => v = .bool (decide ((textA ((addrR (s.extract 0 ((min (s.size : Int) 120)).toNat)).1.1) ((addrR (s.extract 0 ((min (s.size : Int) 120)).toNat)).1.2)) = s.extract 0 ((min (s.size : Int) 120)).toNat))) v w), (fun v _ => v = .bool ((((addrR (s.extract 0 ((min (s.size : Int) 120)).toNat)).2 : Int) != (0 : Int)) || (decide ((textA ((addrR (s.extract 0 ((min (s.size : Int) 120)).toNat)).1.1) ((addrR (s.extract 0 ((min (s.size : Int) 120)).toNat)).1.2)) = s.extract 0 ((min (s.size : Int) 120)).toNat)))), (fun v _ => v = .bool ((((addrR (s.extract 0 ((min (s.size : Int) 120)).toNat)).2 : Int) != (0 : Int)) || (decide ((textA ((addrR (s.extract 0 ((min (s.size : Int) 120)).toNat)).1.1) ((addrR (s.extract 0 ((min (s.size : Int) 120)).toNat)).1.2)) = s.extract 0 ((min (s.size : Int) 120)).toNat))))]) (by kernel_rfl) (by kernel_rfl) rfl (by kernel_rfl) ⟨(stab_eq _), (stab_eq _), (stab_eq _), (stab_eq _), (stab_eq _), (stab_eq _), (stab_eq _), (stab_eq _), (stab_eq _), (stab_eq _), (stab_eq _), (stab_eq _), (stab_eq _), (stab_eq _), (stab_eq _), (stab_eq _), (stab_eq _), (stab_eq _), (stab_eq _), (stab_eq _), (stab_eq _), (stab_eq _), (stab_eq _), (stab_eq _), (stab_imp (stab_eq _)), (stab_imp (stab_eq _)), (stab_imp (stab_eq _)), (stab_imp (stab_eq _)), (stab_eq _), (stab_eq _), trivial⟩ N (by kernel_rfl) ⟨?_, ?_, ?_, ?_, ?_, ?_, ?_, ?_, ?_, ?_, ?_, ?_, ?_, ?_, ?_, ?_, ?_, ?_, ?_, ?_, ?_, ?_, ?_, ?_, ?_, ?_, ?_, ?_, ?_, ?_, trivial⟩ ?_
  · -- 0 law.go:52
    rintro aa ww hE hF ⟨-⟩
    exact opAt rfl (ok_run rfl (run_callR (ψ := (fun v _ => v = .bool true)) rfl Tryd.call14 (by
      simp only [List.map_toArray, List.map_nil]
      exact ret_below (known_c _ (POW.below (E.trans hE)))) (fun _ _ h =>  h)))
  · -- 1 law.go:52
    rintro aa ww hE hF ⟨d0, -⟩
    replace d0 : aa.eval (.tmp 22) = .bool true := d0
    exact opAt rfl (ok_run rfl (run_here rfl (ex_move (.inl rfl) d0) ( rfl)))
  · -- 2 law.go:52
    rintro aa ww hE hF ⟨d1, -⟩
    replace d1 : aa.eval (.tmp 23) = .bool true := d1
    have o4 : aa.eval (.tmp 4) = .int .i64 ((addrR (s.extract 0 ((min (s.size : Int) 120)).toNat)).2 : Int) := hF.carry (fun v _ => v = .int .i64 ((addrR (s.extract 0 ((min (s.size : Int) 120)).toNat)).2 : Int)) rfl (stab_eq _) hE T4
    exact opAt rfl (ok_guard rfl d1 (fun _ => run_here rfl (ex_move (.inl rfl) o4) ( rfl)) (fun hn => absurd rfl hn))
  · -- 3 law.go:52
    rintro aa ww hE hF ⟨d1, -⟩
    replace d1 : aa.eval (.tmp 23) = .bool true := d1
    have o6 : aa.eval (.tmp 6) = .int .i64 ((addrR (s.extract 0 ((min (s.size : Int) 120)).toNat)).2 : Int) := hF.carry (fun v _ => v = .int .i64 ((addrR (s.extract 0 ((min (s.size : Int) 120)).toNat)).2 : Int)) rfl (stab_eq _) hE T6
    exact opAt rfl (ok_guard rfl d1 (fun _ => run_here rfl (ex_move (.inl rfl) o6) ( rfl)) (fun hn => absurd rfl hn))
  · -- 4 law.go:52
    rintro aa ww hE hF ⟨d1, d2, d3, -⟩
    replace d1 : aa.eval (.tmp 23) = .bool true := d1
    replace d2 : aa.eval (.tmp 24) = .int .i64 ((addrR (s.extract 0 ((min (s.size : Int) 120)).toNat)).2 : Int) := d2
    replace d3 : aa.eval (.tmp 25) = .int .i64 ((addrR (s.extract 0 ((min (s.size : Int) 120)).toNat)).2 : Int) := d3
    exact opAt rfl (ok_guard rfl d1 (fun _ => run_here rfl (ex_binOp rfl (by rw [show aa.eval (.tmp 24) = .int .i64 ((addrR (s.extract 0 ((min (s.size : Int) 120)).toNat)).2 : Int) from d2, show aa.eval (.tmp 25) = .int .i64 ((addrR (s.extract 0 ((min (s.size : Int) 120)).toNat)).2 : Int) from d3]; exact eqg_int) (by rw [show aa.eval (.tmp 24) = .int .i64 ((addrR (s.extract 0 ((min (s.size : Int) 120)).toNat)).2 : Int) from d2, show aa.eval (.tmp 25) = .int .i64 ((addrR (s.extract 0 ((min (s.size : Int) 120)).toNat)).2 : Int) from d3]; exact bin_eql)) ( (by rw [beq_self_eq_true]))) (fun hn => absurd rfl hn))
  · -- 5 law.go:52
    rintro aa ww hE hF ⟨d1, d4, -⟩
    replace d1 : aa.eval (.tmp 23) = .bool true := d1
    replace d4 : aa.eval (.tmp 26) = .bool true := d4
    exact opAt rfl (ok_run rfl (run_here rfl (ex_pick_and rfl d1 (fun hc => d4)) ( rfl)))
  · -- 6 law.go:52
    rintro aa ww hE hF ⟨d5, -⟩
    replace d5 : aa.eval (.tmp 27) = .bool true := d5
    exact opAt rfl (ok_run rfl (run_here rfl (ex_move (.inl rfl) d5) ( rfl)))
  · -- 7 law.go:52
    rintro aa ww hE hF ⟨d6, -⟩
    replace d6 : aa.eval (.tmp 28) = .bool true := d6
    have o3 : aa.eval (.tmp 3) = .pointer (some ⟨b10, 0, none⟩) := hF.carry (fun v _ => v = .pointer (some ⟨b10, 0, none⟩)) rfl (stab_eq _) hE T3
    exact opAt rfl (ok_guard rfl d6 (fun _ => run_here rfl (ex_fieldAddr rfl o3 Tryd.underlying27 rfl (fun w => ⟨_, Tryd.sizeOf9 w⟩) rfl) ( rfl)) (fun hn => absurd rfl hn))
  · -- 8 law.go:52
    rintro aa ww hE hF ⟨d6, d7, -⟩
    replace d6 : aa.eval (.tmp 28) = .bool true := d6
    replace d7 : aa.eval (.tmp 29) = .pointer (some ⟨b10, 0, none⟩) := d7
    exact opAt rfl (ok_guard rfl d6 (fun _ => run_here rfl (ex_load rfl d7 (load_cell Tryd.isAgg9 ((cell_row (hE.row R_b10) 0).trans rfl))) ( rfl)) (fun hn => absurd rfl hn))
  · -- 9 law.go:52
    rintro aa ww hE hF ⟨d6, -⟩
    replace d6 : aa.eval (.tmp 28) = .bool true := d6
    have o5 : aa.eval (.tmp 5) = .pointer (some ⟨b16, 0, none⟩) := hF.carry (fun v _ => v = .pointer (some ⟨b16, 0, none⟩)) rfl (stab_eq _) hE T5
    exact opAt rfl (ok_guard rfl d6 (fun _ => run_here rfl (ex_fieldAddr rfl o5 Tryd.underlying23 rfl (fun w => ⟨_, Tryd.sizeOf9 w⟩) rfl) ( rfl)) (fun hn => absurd rfl hn))
  · -- 10 law.go:52
    rintro aa ww hE hF ⟨d6, d9, -⟩
    replace d6 : aa.eval (.tmp 28) = .bool true := d6
    replace d9 : aa.eval (.tmp 31) = .pointer (some ⟨b16, 0, none⟩) := d9
    exact opAt rfl (ok_guard rfl d6 (fun _ => run_here rfl (ex_load rfl d9 (load_cell Tryd.isAgg9 ((cell_row (hE.row R_b16) 0).trans rfl))) ( rfl)) (fun hn => absurd rfl hn))
  · -- 11 law.go:52
    rintro aa ww hE hF ⟨d6, d8, d10, -⟩
    replace d6 : aa.eval (.tmp 28) = .bool true := d6
    replace d8 : aa.eval (.tmp 30) = .string ((addrR (s.extract 0 ((min (s.size : Int) 120)).toNat)).1.1) := d8
    replace d10 : aa.eval (.tmp 32) = .string ((addrR (s.extract 0 ((min (s.size : Int) 120)).toNat)).1.1) := d10
    exact opAt rfl (ok_guard rfl d6 (fun _ => run_here rfl (ex_binOp rfl (by rw [show aa.eval (.tmp 30) = .string ((addrR (s.extract 0 ((min (s.size : Int) 120)).toNat)).1.1) from d8, show aa.eval (.tmp 32) = .string ((addrR (s.extract 0 ((min (s.size : Int) 120)).toNat)).1.1) from d10]; exact eqg_str) (by rw [show aa.eval (.tmp 30) = .string ((addrR (s.extract 0 ((min (s.size : Int) 120)).toNat)).1.1) from d8, show aa.eval (.tmp 32) = .string ((addrR (s.extract 0 ((min (s.size : Int) 120)).toNat)).1.1) from d10]; exact bin_seql)) ( (by simp))) (fun hn => absurd rfl hn))
  · -- 12 law.go:52
    rintro aa ww hE hF ⟨d6, d11, -⟩
    replace d6 : aa.eval (.tmp 28) = .bool true := d6
    replace d11 : aa.eval (.tmp 33) = .bool true := d11
    exact opAt rfl (ok_run rfl (run_here rfl (ex_pick_and rfl d6 (fun hc => d11)) ( rfl)))
  · -- 13 law.go:52
    rintro aa ww hE hF ⟨d12, -⟩
    replace d12 : aa.eval (.tmp 34) = .bool true := d12
    exact opAt rfl (ok_run rfl (run_here rfl (ex_move (.inl rfl) d12) ( rfl)))
  · -- 14 law.go:52
    rintro aa ww hE hF ⟨d13, -⟩
    replace d13 : aa.eval (.tmp 35) = .bool true := d13
    have o3 : aa.eval (.tmp 3) = .pointer (some ⟨b10, 0, none⟩) := hF.carry (fun v _ => v = .pointer (some ⟨b10, 0, none⟩)) rfl (stab_eq _) hE T3
    exact opAt rfl (ok_guard rfl d13 (fun _ => run_here rfl (ex_fieldAddr rfl o3 Tryd.underlying27 rfl (fun w => ⟨_, Tryd.sizeOf9 w⟩) rfl) ( rfl)) (fun hn => absurd rfl hn))
  · -- 15 law.go:52
    rintro aa ww hE hF ⟨d13, d14, -⟩
    replace d13 : aa.eval (.tmp 35) = .bool true := d13
    replace d14 : aa.eval (.tmp 36) = .pointer (some ⟨b10, 1, none⟩) := d14
    exact opAt rfl (ok_guard rfl d13 (fun _ => run_here rfl (ex_load rfl d14 (load_cell Tryd.isAgg9 ((cell_row (hE.row R_b10) 1).trans rfl))) ( rfl)) (fun hn => absurd rfl hn))
  · -- 16 law.go:52
    rintro aa ww hE hF ⟨d13, -⟩
    replace d13 : aa.eval (.tmp 35) = .bool true := d13
    have o5 : aa.eval (.tmp 5) = .pointer (some ⟨b16, 0, none⟩) := hF.carry (fun v _ => v = .pointer (some ⟨b16, 0, none⟩)) rfl (stab_eq _) hE T5
    exact opAt rfl (ok_guard rfl d13 (fun _ => run_here rfl (ex_fieldAddr rfl o5 Tryd.underlying23 rfl (fun w => ⟨_, Tryd.sizeOf9 w⟩) rfl) ( rfl)) (fun hn => absurd rfl hn))
  · -- 17 law.go:52
    rintro aa ww hE hF ⟨d13, d16, -⟩
    replace d13 : aa.eval (.tmp 35) = .bool true := d13
    replace d16 : aa.eval (.tmp 38) = .pointer (some ⟨b16, 1, none⟩) := d16
    exact opAt rfl (ok_guard rfl d13 (fun _ => run_here rfl (ex_load rfl d16 (load_cell Tryd.isAgg9 ((cell_row (hE.row R_b16) 1).trans rfl))) ( rfl)) (fun hn => absurd rfl hn))
  · -- 18 law.go:52
    rintro aa ww hE hF ⟨d13, d15, d17, -⟩
    replace d13 : aa.eval (.tmp 35) = .bool true := d13
    replace d15 : aa.eval (.tmp 37) = .string ((addrR (s.extract 0 ((min (s.size : Int) 120)).toNat)).1.2) := d15
    replace d17 : aa.eval (.tmp 39) = .string ((addrR (s.extract 0 ((min (s.size : Int) 120)).toNat)).1.2) := d17
    exact opAt rfl (ok_guard rfl d13 (fun _ => run_here rfl (ex_binOp rfl (by rw [show aa.eval (.tmp 37) = .string ((addrR (s.extract 0 ((min (s.size : Int) 120)).toNat)).1.2) from d15, show aa.eval (.tmp 39) = .string ((addrR (s.extract 0 ((min (s.size : Int) 120)).toNat)).1.2) from d17]; exact eqg_str) (by rw [show aa.eval (.tmp 37) = .string ((addrR (s.extract 0 ((min (s.size : Int) 120)).toNat)).1.2) from d15, show aa.eval (.tmp 39) = .string ((addrR (s.extract 0 ((min (s.size : Int) 120)).toNat)).1.2) from d17]; exact bin_seql)) ( (by simp))) (fun hn => absurd rfl hn))
  · -- 19 law.go:52
    rintro aa ww hE hF ⟨d13, d18, -⟩
    replace d13 : aa.eval (.tmp 35) = .bool true := d13
    replace d18 : aa.eval (.tmp 40) = .bool true := d18
    exact opAt rfl (ok_run rfl (run_here rfl (ex_pick_and rfl d13 (fun hc => d18)) ( rfl)))
  · -- 20 law.go:52
    rintro aa ww hE hF ⟨d19, -⟩
    replace d19 : aa.eval (.tmp 41) = .bool true := d19
    exact opAt rfl (ok_run rfl (run_here rfl (ex_move (.inl rfl) d19) ( rfl)))
  · -- 21 law.go:52
    rintro aa ww hE hF ⟨d20, -⟩
    replace d20 : aa.eval (.tmp 42) = .bool true := d20
    have o4 : aa.eval (.tmp 4) = .int .i64 ((addrR (s.extract 0 ((min (s.size : Int) 120)).toNat)).2 : Int) := hF.carry (fun v _ => v = .int .i64 ((addrR (s.extract 0 ((min (s.size : Int) 120)).toNat)).2 : Int)) rfl (stab_eq _) hE T4
    exact opAt rfl (ok_guard rfl d20 (fun _ => run_here rfl (ex_move (.inl rfl) o4) ( rfl)) (fun hn => absurd rfl hn))
  · -- 22 law.go:52
    rintro aa ww hE hF ⟨d20, d21, -⟩
    replace d20 : aa.eval (.tmp 42) = .bool true := d20
    replace d21 : aa.eval (.tmp 43) = .int .i64 ((addrR (s.extract 0 ((min (s.size : Int) 120)).toNat)).2 : Int) := d21
    exact opAt rfl (ok_guard rfl d20 (fun _ => run_here rfl (ex_binOp rfl (by rw [show aa.eval (.tmp 43) = .int .i64 ((addrR (s.extract 0 ((min (s.size : Int) 120)).toNat)).2 : Int) from d21, show aa.eval (.const (.int .i64 0)) = .int .i64 0 from (ev_const (v := .int .i64 0))]; exact eqg_int) (by rw [show aa.eval (.tmp 43) = .int .i64 ((addrR (s.extract 0 ((min (s.size : Int) 120)).toNat)).2 : Int) from d21, show aa.eval (.const (.int .i64 0)) = .int .i64 0 from (ev_const (v := .int .i64 0))]; exact bin_neq)) ( rfl)) (fun hn => absurd rfl hn))
  · -- 23 law.go:52
    rintro aa ww hE hF ⟨d20, d22, -⟩
    replace d20 : aa.eval (.tmp 42) = .bool true := d20
    replace d22 : aa.eval (.tmp 44) = .bool (((addrR (s.extract 0 ((min (s.size : Int) 120)).toNat)).2 : Int) != (0 : Int)) := d22
    exact opAt rfl (ok_guard rfl d20 (fun _ => run_here rfl (ex_move (.inl rfl) d22) ( rfl)) (fun hn => absurd rfl hn))
  · -- 24 law.go:52
    rintro aa ww hE hF ⟨d23, -⟩
    replace d23 : aa.eval (.tmp 45) = .bool (((addrR (s.extract 0 ((min (s.size : Int) 120)).toNat)).2 : Int) != (0 : Int)) := d23
    have o3 : aa.eval (.tmp 3) = .pointer (some ⟨b10, 0, none⟩) := hF.carry (fun v _ => v = .pointer (some ⟨b10, 0, none⟩)) rfl (stab_eq _) hE T3
    exact opAt rfl (ok_guard rfl d23 (fun hc => run_here rfl (ex_load rfl o3 (load_row (hE.row R_b10) Tryd.underlying27 rfl (by kernel_rfl))) (fun _ =>  rfl)) (fun hn hc => absurd hc hn))
  · -- 25 law.go:52
    rintro aa ww hE hF ⟨d23, d24, -⟩
    replace d23 : aa.eval (.tmp 45) = .bool (((addrR (s.extract 0 ((min (s.size : Int) 120)).toNat)).2 : Int) != (0 : Int)) := d23
    replace d24 : (((addrR (s.extract 0 ((min (s.size : Int) 120)).toNat)).2 : Int) != (0 : Int)) = false → aa.eval (.tmp 46) = .agg #[.string ((addrR (s.extract 0 ((min (s.size : Int) 120)).toNat)).1.1), .string ((addrR (s.extract 0 ((min (s.size : Int) 120)).toNat)).1.2)] := d24
    exact opAt rfl (ok_guard rfl d23 (fun hc => run_callR (ψ := (fun v _ => v = .string (textA ((addrR (s.extract 0 ((min (s.size : Int) 120)).toNat)).1.1) ((addrR (s.extract 0 ((min (s.size : Int) 120)).toNat)).1.2)))) rfl Tryd.call22 (by
      simp only [List.map_toArray, List.map_cons, List.map_nil, (d24 hc)]
      exact ret_below (string_c ((addrR (s.extract 0 ((min (s.size : Int) 120)).toNat)).1.1) ((addrR (s.extract 0 ((min (s.size : Int) 120)).toNat)).1.2) _ (by first | with_reducible assumption | omega) (by first | with_reducible assumption | omega))) (fun _ _ h => fun _ =>  h)) (fun hn hc => absurd hc hn))
  · -- 26 law.go:52
    rintro aa ww hE hF ⟨d23, -⟩
    replace d23 : aa.eval (.tmp 45) = .bool (((addrR (s.extract 0 ((min (s.size : Int) 120)).toNat)).2 : Int) != (0 : Int)) := d23
    have o0 : aa.eval (.tmp 0) = .string (s.extract 0 ((min (s.size : Int) 120)).toNat) := hF.carry (fun v _ => v = .string (s.extract 0 ((min (s.size : Int) 120)).toNat)) rfl (stab_eq _) hE T0
    exact opAt rfl (ok_guard rfl d23 (fun hc => run_here rfl (ex_move (.inl rfl) o0) (fun _ =>  rfl)) (fun hn hc => absurd hc hn))
  · -- 27 law.go:52
    rintro aa ww hE hF ⟨d23, d25, d26, -⟩
    replace d23 : aa.eval (.tmp 45) = .bool (((addrR (s.extract 0 ((min (s.size : Int) 120)).toNat)).2 : Int) != (0 : Int)) := d23
    replace d25 : (((addrR (s.extract 0 ((min (s.size : Int) 120)).toNat)).2 : Int) != (0 : Int)) = false → aa.eval (.tmp 47) = .string (textA ((addrR (s.extract 0 ((min (s.size : Int) 120)).toNat)).1.1) ((addrR (s.extract 0 ((min (s.size : Int) 120)).toNat)).1.2)) := d25
    replace d26 : (((addrR (s.extract 0 ((min (s.size : Int) 120)).toNat)).2 : Int) != (0 : Int)) = false → aa.eval (.tmp 48) = .string (s.extract 0 ((min (s.size : Int) 120)).toNat) := d26
    exact opAt rfl (ok_guard rfl d23 (fun hc => run_here rfl (ex_binOp rfl (by rw [show aa.eval (.tmp 47) = .string (textA ((addrR (s.extract 0 ((min (s.size : Int) 120)).toNat)).1.1) ((addrR (s.extract 0 ((min (s.size : Int) 120)).toNat)).1.2)) from (d25 hc), show aa.eval (.tmp 48) = .string (s.extract 0 ((min (s.size : Int) 120)).toNat) from (d26 hc)]; exact eqg_str) (by rw [show aa.eval (.tmp 47) = .string (textA ((addrR (s.extract 0 ((min (s.size : Int) 120)).toNat)).1.1) ((addrR (s.extract 0 ((min (s.size : Int) 120)).toNat)).1.2)) from (d25 hc), show aa.eval (.tmp 48) = .string (s.extract 0 ((min (s.size : Int) 120)).toNat) from (d26 hc)]; exact bin_seql)) (fun _ =>  rfl)) (fun hn hc => absurd hc hn))
  · -- 28 law.go:52
    rintro aa ww hE hF ⟨d20, d23, d27, -⟩
    replace d20 : aa.eval (.tmp 42) = .bool true := d20
    replace d23 : aa.eval (.tmp 45) = .bool (((addrR (s.extract 0 ((min (s.size : Int) 120)).toNat)).2 : Int) != (0 : Int)) := d23
    replace d27 : (((addrR (s.extract 0 ((min (s.size : Int) 120)).toNat)).2 : Int) != (0 : Int)) = false → aa.eval (.tmp 49) = .bool (decide ((textA ((addrR (s.extract 0 ((min (s.size : Int) 120)).toNat)).1.1) ((addrR (s.extract 0 ((min (s.size : Int) 120)).toNat)).1.2)) = s.extract 0 ((min (s.size : Int) 120)).toNat)) := d27
    exact opAt rfl (ok_guard rfl d20 (fun _ => run_here rfl (ex_pick_or rfl d23 (fun hc => (d27 hc))) ( rfl)) (fun hn => absurd rfl hn))
  · -- 29 law.go:52
    rintro aa ww hE hF ⟨d20, d28, -⟩
    replace d20 : aa.eval (.tmp 42) = .bool true := d20
    replace d28 : aa.eval (.tmp 50) = .bool ((((addrR (s.extract 0 ((min (s.size : Int) 120)).toNat)).2 : Int) != (0 : Int)) || (decide ((textA ((addrR (s.extract 0 ((min (s.size : Int) 120)).toNat)).1.1) ((addrR (s.extract 0 ((min (s.size : Int) 120)).toNat)).1.2)) = s.extract 0 ((min (s.size : Int) 120)).toNat))) := d28
    exact opAt rfl (ok_run rfl (run_here rfl (ex_pick_and rfl d20 (fun hc => d28)) ( rfl)))
  intro a20 w21 hE hF hfac hap
  obtain ⟨f0, f1, f2, f3, f4, f5, f6, f7, f8, f9, f10, f11, f12, f13, f14, f15, f16, f17, f18, f19, f20, f21, f22, f23, f24, f25, f26, f27, f28, f29, -⟩ := hfac
  replace N := hF.size.trans N
  replace D := hF.defers.trans D
  replace R_b10 := hE.row R_b10
  replace R_b16 := hE.row R_b16
  replace T0 : (fun v _ => v = .string (s.extract 0 ((min (s.size : Int) 120)).toNat)) (a20.at 0) w21 := hF.carry (fun v _ => v = .string (s.extract 0 ((min (s.size : Int) 120)).toNat)) rfl (stab_eq _) hE T0
  replace T2 : (fun v _ => v = .bool false) (a20.at 2) w21 := hF.carry (fun v _ => v = .bool false) rfl (stab_eq _) hE T2
  replace T3 : (fun v _ => v = .pointer (some ⟨b10, 0, none⟩)) (a20.at 3) w21 := hF.carry (fun v _ => v = .pointer (some ⟨b10, 0, none⟩)) rfl (stab_eq _) hE T3
  replace T4 : (fun v _ => v = .int .i64 ((addrR (s.extract 0 ((min (s.size : Int) 120)).toNat)).2 : Int)) (a20.at 4) w21 := hF.carry (fun v _ => v = .int .i64 ((addrR (s.extract 0 ((min (s.size : Int) 120)).toNat)).2 : Int)) rfl (stab_eq _) hE T4
  replace T5 : (fun v _ => v = .pointer (some ⟨b16, 0, none⟩)) (a20.at 5) w21 := hF.carry (fun v _ => v = .pointer (some ⟨b16, 0, none⟩)) rfl (stab_eq _) hE T5
  replace T6 : (fun v _ => v = .int .i64 ((addrR (s.extract 0 ((min (s.size : Int) 120)).toNat)).2 : Int)) (a20.at 6) w21 := hF.carry (fun v _ => v = .int .i64 ((addrR (s.extract 0 ((min (s.size : Int) 120)).toNat)).2 : Int)) rfl (stab_eq _) hE T6
  have T51 : (fun v _ => v = .bool ((((addrR (s.extract 0 ((min (s.size : Int) 120)).toNat)).2 : Int) != (0 : Int)) || (decide ((textA ((addrR (s.extract 0 ((min (s.size : Int) 120)).toNat)).1.1) ((addrR (s.extract 0 ((min (s.size : Int) 120)).toNat)).1.2)) = s.extract 0 ((min (s.size : Int) 120)).toNat)))) (a20.at 51) w21 := f29
  replace E := E.trans hE
  clear hE hF hap
  show wpOps _ (rg Tryd.f7 4) _ [30] _ _
  refine tail_val rfl rfl rfl (ex_move (.inr rfl) (v := .bool ((((addrR (s.extract 0 ((min (s.size : Int) 120)).toNat)).2 : Int) != (0 : Int)) || (decide ((textA ((addrR (s.extract 0 ((min (s.size : Int) 120)).toNat)).1.1) ((addrR (s.extract 0 ((min (s.size : Int) 120)).toNat)).1.2)) = s.extract 0 ((min (s.size : Int) 120)).toNat)))) (show a20.eval (.tmp 51) = .bool ((((addrR (s.extract 0 ((min (s.size : Int) 120)).toNat)).2 : Int) != (0 : Int)) || (decide ((textA ((addrR (s.extract 0 ((min (s.size : Int) 120)).toNat)).1.1) ((addrR (s.extract 0 ((min (s.size : Int) 120)).toNat)).1.2)) = s.extract 0 ((min (s.size : Int) 120)).toNat))) from T51)) ?_
  obtain ⟨a22, ha⟩ : ∃ x : Act, x = a20.put (some 2) (.bool ((((addrR (s.extract 0 ((min (s.size : Int) 120)).toNat)).2 : Int) != (0 : Int)) || (decide ((textA ((addrR (s.extract 0 ((min (s.size : Int) 120)).toNat)).1.1) ((addrR (s.extract 0 ((min (s.size : Int) 120)).toNat)).1.2)) = s.extract 0 ((min (s.size : Int) 120)).toNat)))) := ⟨_, rfl⟩
  rw [← ha]
  replace T0 : (fun v _ => v = .string (s.extract 0 ((min (s.size : Int) 120)).toNat)) (a22.at 0) w21 := by rw [ha, put_other rfl]; exact T0
  replace T3 : (fun v _ => v = .pointer (some ⟨b10, 0, none⟩)) (a22.at 3) w21 := by rw [ha, put_other rfl]; exact T3
  replace T4 : (fun v _ => v = .int .i64 ((addrR (s.extract 0 ((min (s.size : Int) 120)).toNat)).2 : Int)) (a22.at 4) w21 := by rw [ha, put_other rfl]; exact T4
  replace T5 : (fun v _ => v = .pointer (some ⟨b16, 0, none⟩)) (a22.at 5) w21 := by rw [ha, put_other rfl]; exact T5
  replace T6 : (fun v _ => v = .int .i64 ((addrR (s.extract 0 ((min (s.size : Int) 120)).toNat)).2 : Int)) (a22.at 6) w21 := by rw [ha, put_other rfl]; exact T6
  replace T51 : (fun v _ => v = .bool ((((addrR (s.extract 0 ((min (s.size : Int) 120)).toNat)).2 : Int) != (0 : Int)) || (decide ((textA ((addrR (s.extract 0 ((min (s.size : Int) 120)).toNat)).1.1) ((addrR (s.extract 0 ((min (s.size : Int) 120)).toNat)).1.2)) = s.extract 0 ((min (s.size : Int) 120)).toNat)))) (a22.at 51) w21 := by rw [ha, put_other rfl]; exact T51
  replace T2 : (fun v _ => v = .bool ((((addrR (s.extract 0 ((min (s.size : Int) 120)).toNat)).2 : Int) != (0 : Int)) || (decide ((textA ((addrR (s.extract 0 ((min (s.size : Int) 120)).toNat)).1.1) ((addrR (s.extract 0 ((min (s.size : Int) 120)).toNat)).1.2)) = s.extract 0 ((min (s.size : Int) 120)).toNat)))) (a22.at 2) w21 := by rw [ha, put_same N (by decide)]; skip
  replace N := (ha ▸ put_size _ _ _ : a22.tmps.size = _).trans N
  replace D := (ha ▸ put_defers' _ _ _ : a22.defers = _).trans D
  clear ha
  clear T0
  clear T3
  clear T4
  clear T5
  clear T6
  clear T51
  refine hK19 _ _ ?_
  refine wp_ret ?_
  -- the end
  refine ret_1 Tryd.results7 D T2 ?_
  exact ⟨_, rfl, E, by rw [addr_text]⟩

end Go.Proofs.YtfcfddfjifofgaaDoor
