/- What the law MailChecks returns: true. -/
import Derived.Test.YtfcfddfjifofgaaDoorEngC
import Derived.Test.YtfcfddfjifofgaaDoorKnown
import Derived.Test.YtfcfddfjifofgaaDoorBPlain
import Derived.Test.YtfcfddfjifofgaaDoorRefC
import Derived.Test.YtfcfddfjifofgaaDoorSame
import Derived.Test.YtfcfddfjifofgaaDoorOf
import Derived.Test.YtfcfddfjifofgaaDoorMailB
namespace Go.Proofs.YtfcfddfjifofgaaDoor
open Go.RowKit Go.Shelf
theorem toM_len (m : Msg) : (toM m).hops.length ≤ 1099511627776 := by
  show (m.hops.take 20).length ≤ _
  rw [List.length_take]; omega
set_option maxRecDepth 100000 in
set_option maxHeartbeats 600000 in
theorem mailChecks_e (a b : Msg) (av bv : Value) (w : World) (fa : a.Fits) (fb : b.Fits) (sa : StrsAt w av a.hops) (sb : StrsAt w bv b.hops) (POW : PowT w) : Calls Tryd.prog 4 #[.agg (msgC a av), .agg (msgC b bv)] w (Ret (fun v _ => v = .bool true) w) := by
  refine enter_fn Tryd.func4 rfl Tryd.ntmps4 (Nat.le_of_ble_eq_true rfl) (fun a0 N D hA => ?_)
  have T0 : (fun v _ => v = .agg (msgC a av)) (a0.at 0) w := by rw [hA 0 (by simp)]; exact rfl
  have T1 : (fun v _ => v = .agg (msgC b bv)) (a0.at 1) w := by rw [hA 1 (by simp)]; exact rfl
  clear hA
  have E : Ext w w := Ext.refl w
  refine wp_seq_k (fun K1 hK1 => ?_)
  -- region 0: law.go:56
  show (Code.region 0 (rg Tryd.f4 0) false).wp _ _ _ _
  refine plain_list (n := 2) (N := 37) (deps := [[], []]) (F := [(IsBox (msgC a av) 26 w.heap.size), (IsBox (msgC b bv) 26 w.heap.size)]) (by kernel_rfl) (by kernel_rfl) rfl (by kernel_rfl) ⟨(stab_box _ _ _), (stab_box _ _ _), trivial⟩ N (by kernel_rfl) ⟨?_, ?_, trivial⟩ ?_
  · -- 0 law.go:56
    rintro aa ww hE hF ⟨-⟩
    have o0 : aa.eval (.tmp 0) = .agg (msgC a av) := hF.carry (fun v _ => v = .agg (msgC a av)) rfl (stab_eq _) hE T0
    exact opAt rfl (ok_run rfl (run_new (ex_box rfl o0) ( (box_new hE.size))))
  · -- 1 law.go:56
    rintro aa ww hE hF ⟨-⟩
    have o1 : aa.eval (.tmp 1) = .agg (msgC b bv) := hF.carry (fun v _ => v = .agg (msgC b bv)) rfl (stab_eq _) hE T1
    exact opAt rfl (ok_run rfl (run_new (ex_box rfl o1) ( (box_new hE.size))))
  intro a2 w3 hE hF hfac hap
  obtain ⟨f0, f1, -⟩ := hfac
  replace N := hF.size.trans N
  replace D := hF.defers.trans D
  obtain ⟨b4, T2, B_b4, R_b4⟩ := f0
  obtain ⟨b5, T3, B_b5, R_b5⟩ := f1
  have NE_b4_b5 : b4 ≠ b5 := hap 0 1 (by decide) (by decide) (by decide) (by kernel_rfl) (by kernel_rfl) _ _ _ _ _ _ T2 T3
  replace B_b4 := Nat.le_trans E.size B_b4
  replace B_b5 := Nat.le_trans E.size B_b5
  clear T0
  clear T1
  replace E := E.trans hE
  clear hE hF hap
  show wpOps _ (rg Tryd.f4 0) _ [2] _ _
  refine tail_val rfl rfl rfl (ex_move (.inr rfl) (v := .bool false) (ev_const (v := .bool false))) ?_
  obtain ⟨a6, ha⟩ : ∃ x : Act, x = a2.put (some 4) (.bool false) := ⟨_, rfl⟩
  rw [← ha]
  replace T2 : (fun v _ => v = .pointer (some ⟨b4, 0, none⟩)) (a6.at 2) w3 := by rw [ha, put_other rfl]; exact T2
  replace T3 : (fun v _ => v = .pointer (some ⟨b5, 0, none⟩)) (a6.at 3) w3 := by rw [ha, put_other rfl]; exact T3
  have T4 : (fun v _ => v = .bool false) (a6.at 4) w3 := by rw [ha, put_same N (by decide)]; skip
  replace N := (ha ▸ put_size _ _ _ : a6.tmps.size = _).trans N
  replace D := (ha ▸ put_defers' _ _ _ : a6.defers = _).trans D
  clear ha
  refine hK1 _ _ ?_
  refine wp_seq_k (fun K7 hK7 => ?_)
  -- region 1 (drawn): law.go:57
  show (Code.region 1 (rg Tryd.f4 1) true).wp _ _ _ _
  refine draw_list (n := 6) (N := 37) (deps := [[], [0], [], [0, 1, 2], [], [], [0, 1, 2, 3, 4, 5], [0, 1, 2, 3, 4, 5, 6]]) (F := [(IsMsg a), (IsOwn (toM a)), (IsMsg b), (IsOwn (toM b)), (IsBox #[.string ⟨#[]⟩, .string ⟨#[]⟩, .string ⟨#[]⟩, .string ⟨#[]⟩, .int .i64 0, .int .i64 0, .string ⟨#[]⟩, .slice none 0 0, .string ⟨#[]⟩] 29 w3.heap.size), (IsBox #[.string ⟨#[]⟩, .string ⟨#[]⟩, .string ⟨#[]⟩, .string ⟨#[]⟩, .int .i64 0, .int .i64 0, .string ⟨#[]⟩, .slice none 0 0, .string ⟨#[]⟩] 29 w3.heap.size)]) (E := []) Trydmixed ⟨by kernel_rfl, by kernel_rfl, by kernel_rfl, by kernel_rfl, by kernel_rfl, by kernel_rfl, Nat.le_of_ble_eq_true (by kernel_rfl)⟩ rfl (by kernel_rfl) ⟨(stab_msg _), (stab_own _), (stab_msg _), (stab_own _), (stab_box _ _ _), (stab_box _ _ _), trivial⟩ N ⟨?_, ?_, ?_, ?_, ?_, ?_, trivial⟩ trivial ?_
  · -- 0 law.go:57
    rintro aa ww hE hF ⟨-⟩
    have o2 : aa.eval (.tmp 2) = .pointer (some ⟨b4, 0, none⟩) := hF.carry (fun v _ => v = .pointer (some ⟨b4, 0, none⟩)) rfl (stab_eq _) hE T2
    exact opAt rfl (ok_run rfl (run_here rfl (ex_load rfl o2 (load_row (hE.row R_b4) Tryd.underlying26 rfl (by kernel_rfl))) ( ⟨_, rfl, (sa.below (E.trans hE))⟩)))
  · -- 1 law.go:57
    rintro aa ww hE hF ⟨d0, -⟩
    replace d0 : (IsMsg a) (aa.eval (.tmp 7)) ww := d0
    exact opAt rfl (ok_run rfl (run_callR (ψ := (IsOwn (toM a))) rfl Tryd.call9 (by
      obtain ⟨hv0, e0, s0⟩ := d0
      simp only [List.map_toArray, List.map_cons, List.map_nil, e0]
      exact to_e fa ⟨_, rfl, s0⟩) (fun _ _ h =>  h)))
  · -- 2 law.go:57
    rintro aa ww hE hF ⟨-⟩
    have o3 : aa.eval (.tmp 3) = .pointer (some ⟨b5, 0, none⟩) := hF.carry (fun v _ => v = .pointer (some ⟨b5, 0, none⟩)) rfl (stab_eq _) hE T3
    exact opAt rfl (ok_run rfl (run_here rfl (ex_load rfl o3 (load_row (hE.row R_b5) Tryd.underlying26 rfl (by kernel_rfl))) ( ⟨_, rfl, (sb.below (E.trans hE))⟩)))
  · -- 3 law.go:57
    rintro aa ww hE hF ⟨-, -, d2, -⟩
    replace d2 : (IsMsg b) (aa.eval (.tmp 9)) ww := d2
    exact opAt rfl (ok_run rfl (run_callR (ψ := (IsOwn (toM b))) rfl Tryd.call9 (by
      obtain ⟨hv0, e0, s0⟩ := d2
      simp only [List.map_toArray, List.map_cons, List.map_nil, e0]
      exact to_e fb ⟨_, rfl, s0⟩) (fun _ _ h =>  h)))
  · -- 4 law.go:57
    rintro aa ww hE hF ⟨-⟩
    exact opAt rfl (ok_run rfl (run_new (ex_alloc rfl Tryd.zeroValue29) ( (box_new hE.size))))
  · -- 5 law.go:57
    rintro aa ww hE hF ⟨-⟩
    exact opAt rfl (ok_run rfl (run_new (ex_alloc rfl Tryd.zeroValue29) ( (box_new hE.size))))
  intro a8 w9 hE hF hfac hap
  obtain ⟨f0, f1, f2, f3, f4, f5, -⟩ := hfac
  replace N := hF.size.trans N
  replace D := hF.defers.trans D
  obtain ⟨b10, T5, B_b10, R_b10⟩ := f4
  have NE_b4_b10 : b4 ≠ b10 := by have := row_lt R_b4; omega
  have NE_b5_b10 : b5 ≠ b10 := by have := row_lt R_b5; omega
  obtain ⟨b11, T6, B_b11, R_b11⟩ := f5
  have NE_b4_b11 : b4 ≠ b11 := by have := row_lt R_b4; omega
  have NE_b5_b11 : b5 ≠ b11 := by have := row_lt R_b5; omega
  have NE_b10_b11 : b10 ≠ b11 := hap 4 5 (by decide) (by decide) (by decide) (by kernel_rfl) (by kernel_rfl) _ _ _ _ _ _ T5 T6
  replace B_b10 := Nat.le_trans E.size B_b10
  replace B_b11 := Nat.le_trans E.size B_b11
  replace R_b4 := hE.row R_b4
  replace R_b5 := hE.row R_b5
  replace T2 : (fun v _ => v = .pointer (some ⟨b4, 0, none⟩)) (a8.at 2) w9 := hF.carry (fun v _ => v = .pointer (some ⟨b4, 0, none⟩)) rfl (stab_eq _) hE T2
  replace T3 : (fun v _ => v = .pointer (some ⟨b5, 0, none⟩)) (a8.at 3) w9 := hF.carry (fun v _ => v = .pointer (some ⟨b5, 0, none⟩)) rfl (stab_eq _) hE T3
  replace T4 : (fun v _ => v = .bool false) (a8.at 4) w9 := hF.carry (fun v _ => v = .bool false) rfl (stab_eq _) hE T4
  have T8 : (IsOwn (toM a)) (a8.at 8) w9 := f1
  have T10 : (IsOwn (toM b)) (a8.at 10) w9 := f3
  replace E := E.trans hE
  clear hE hF hap
  obtain ⟨hv12, T8, S13⟩ := T8
  replace T8 : (fun v _ => v = .agg (msgC (toM a) hv12)) (a8.at 8) w9 := T8
  obtain ⟨hv14, T10, S15⟩ := T10
  replace T10 : (fun v _ => v = .agg (msgC (toM b) hv14)) (a8.at 10) w9 := T10
  show wpOps _ (rg Tryd.f4 1) _ [6, 7] _ _
  refine tail_do rfl rfl rfl (ex_store rfl (show a8.eval (.tmp 5) = .pointer (some ⟨b10, 0, none⟩) from T5) (by rw [show a8.eval (.tmp 8) = .agg (msgC (toM a) hv12) from (show a8.eval (.tmp 8) = .agg (msgC (toM a) hv12) from T8)]; exact store_row R_b10 (by kernel_rfl) rfl (own_cell S13))) ?_
  obtain ⟨w16, hw⟩ : ∃ x : World, x = w9.setRow b10 (msgC (toM a) hv12) := ⟨_, rfl⟩
  rw [← hw]
  replace R_b4 := hw ▸ row_other R_b4 (by first | exact NE_b4_b10 | exact NE_b10_b4.symm)
  replace R_b5 := hw ▸ row_other R_b5 (by first | exact NE_b5_b10 | exact NE_b10_b5.symm)
  replace R_b11 := hw ▸ row_other R_b11 (by first | exact NE_b11_b10 | exact NE_b10_b11.symm)
  replace E : Ext w w16 := hw ▸ below_row E B_b10
  replace T2 : (fun v _ => v = .pointer (some ⟨b4, 0, none⟩)) (a8.at 2) w16 := T2
  replace T3 : (fun v _ => v = .pointer (some ⟨b5, 0, none⟩)) (a8.at 3) w16 := T3
  replace T4 : (fun v _ => v = .bool false) (a8.at 4) w16 := T4
  replace T8 : (fun v _ => v = .agg (msgC (toM a) hv12)) (a8.at 8) w16 := T8
  replace T10 : (fun v _ => v = .agg (msgC (toM b) hv14)) (a8.at 10) w16 := T10
  replace T5 : (fun v _ => v = .pointer (some ⟨b10, 0, none⟩)) (a8.at 5) w16 := T5
  replace T6 : (fun v _ => v = .pointer (some ⟨b11, 0, none⟩)) (a8.at 6) w16 := T6
  replace S13 : OwnStrs 0 ((toM a).hops) w16 hv12 := hw ▸ S13.setRow R_b10 rfl
  replace S15 : OwnStrs 0 ((toM b).hops) w16 hv14 := hw ▸ S15.setRow R_b10 rfl
  replace R_b10 : w16.heap[b10]? = some (.cells (msgC (toM a) hv12) 29 (0, 0)) := hw ▸ setRow_heap _ _ _ _ _ _ R_b10
  clear hw
  refine tail_do rfl rfl rfl (ex_store rfl (show a8.eval (.tmp 6) = .pointer (some ⟨b11, 0, none⟩) from T6) (by rw [show a8.eval (.tmp 10) = .agg (msgC (toM b) hv14) from (show a8.eval (.tmp 10) = .agg (msgC (toM b) hv14) from T10)]; exact store_row R_b11 (by kernel_rfl) rfl (own_cell S15))) ?_
  obtain ⟨w17, hw⟩ : ∃ x : World, x = w16.setRow b11 (msgC (toM b) hv14) := ⟨_, rfl⟩
  rw [← hw]
  replace R_b4 := hw ▸ row_other R_b4 (by first | exact NE_b4_b11 | exact NE_b11_b4.symm)
  replace R_b5 := hw ▸ row_other R_b5 (by first | exact NE_b5_b11 | exact NE_b11_b5.symm)
  replace R_b10 := hw ▸ row_other R_b10 (by first | exact NE_b10_b11 | exact NE_b11_b10.symm)
  replace E : Ext w w17 := hw ▸ below_row E B_b11
  replace T2 : (fun v _ => v = .pointer (some ⟨b4, 0, none⟩)) (a8.at 2) w17 := T2
  replace T3 : (fun v _ => v = .pointer (some ⟨b5, 0, none⟩)) (a8.at 3) w17 := T3
  replace T4 : (fun v _ => v = .bool false) (a8.at 4) w17 := T4
  replace T8 : (fun v _ => v = .agg (msgC (toM a) hv12)) (a8.at 8) w17 := T8
  replace T10 : (fun v _ => v = .agg (msgC (toM b) hv14)) (a8.at 10) w17 := T10
  replace T5 : (fun v _ => v = .pointer (some ⟨b10, 0, none⟩)) (a8.at 5) w17 := T5
  replace T6 : (fun v _ => v = .pointer (some ⟨b11, 0, none⟩)) (a8.at 6) w17 := T6
  replace S13 : OwnStrs 0 ((toM a).hops) w17 hv12 := hw ▸ S13.setRow R_b11 rfl
  replace S15 : OwnStrs 0 ((toM b).hops) w17 hv14 := hw ▸ S15.setRow R_b11 rfl
  replace R_b11 : w17.heap[b11]? = some (.cells (msgC (toM b) hv14) 29 (0, 0)) := hw ▸ setRow_heap _ _ _ _ _ _ R_b11
  clear hw
  clear T3
  clear T8
  clear T10
  refine hK7 _ _ ?_
  refine wp_seq_k (fun K18 hK18 => ?_)
  -- region 2 (drawn): law.go:58
  show (Code.region 2 (rg Tryd.f4 2) true).wp _ _ _ _
  refine draw_list (n := 26) (N := 37) (deps := [[], [0], [0, 1], [0, 1, 2], [0, 1], [0, 1, 2, 3, 4], [0, 1, 2, 3, 4, 5], [0, 1, 2, 3, 4, 5, 6], [0, 1, 2, 3, 4, 5, 6, 7], [0, 1, 2, 3, 4, 5, 6, 7, 8], [0, 1, 2, 3, 4, 5, 6, 7, 8, 9], [0, 1, 2, 3, 4, 5, 6, 7, 8, 9], [0, 1, 2, 3, 4, 5, 6, 7, 8, 9, 10, 11], [0, 1, 2, 3, 4, 5, 6, 7, 8, 9], [0, 1, 2, 3, 4, 5, 6, 7, 8, 9, 10, 11, 12, 13], [0, 1, 2, 3, 4, 5, 6, 7, 8, 9], [0, 1, 2, 3, 4, 5, 6, 7, 8, 9, 10, 11, 12, 13, 14, 15], [0, 1, 2, 3, 4, 5, 6, 7, 8, 9, 10, 11, 12, 13, 14, 15, 16], [0, 1, 2, 3, 4, 5, 6, 7, 8, 9, 10, 11, 12, 13, 14, 15, 16, 17], [0, 1, 2, 3, 4, 5, 6, 7, 8, 9, 10, 11, 12, 13, 14, 15, 16, 17, 18], [0, 1, 2, 3, 4, 5, 6, 7, 8, 9, 10, 11, 12, 13, 14, 15, 16, 17, 18, 19], [0, 1, 2, 3, 4, 5, 6, 7, 8, 9, 10, 11, 12, 13, 14, 15, 16, 17, 18, 19, 20], [0, 1, 2, 3, 4, 5, 6, 7, 8, 9, 10, 11, 12, 13, 14, 15, 16, 17, 18, 19, 20], [0, 1, 2, 3, 4, 5, 6, 7, 8, 9, 10, 11, 12, 13, 14, 15, 16, 17, 18, 19, 20, 22], [0, 1, 2, 3, 4, 5, 6, 7, 8, 9, 10, 11, 12, 13, 14, 15, 16, 17, 18, 19, 20, 21, 22, 23], [0, 1, 2, 3, 4, 5, 6, 7, 8, 9, 10, 11, 12, 13, 14, 15, 16, 17, 18, 19, 20, 21, 22, 23, 24], [0, 1, 2, 3, 4, 5, 6, 7, 8, 9, 10, 11, 12, 13, 14, 15, 16, 17, 18, 19, 20, 21, 22, 23, 24, 25]]) (F := [(fun v _ => v = .bool true), (fun v _ => v = .bool true), (IsOwn (toM a)), (fun v _ => v = .int .i64 (checkE (toM a) : Int)), (IsOwn (toM a)), (IsOwn (toM a)), (fun v _ => v = .int .i64 (checkE (toM a) : Int)), (fun v _ => v = .bool true), (fun v _ => v = .bool true), (fun v _ => v = .bool true), (IsOwn (toM a)), (IsOwn (toM b)), (fun v _ => v = .bool (sameM (toM a) (toM b))), (IsOwn (toM a)), (IsOwn (toM a)), (IsOwn (toM b)), (IsOwn (toM b)), (fun v _ => v = .bool (sameM (toM a) (toM b))), (fun v _ => v = .bool true), (fun v _ => v = .bool true), (fun v _ => v = .bool true), (IsOwn (toM a)), (IsMsg a), (IsOwn (toM a)), (fun v _ => v = .bool (sameM (toM a) (toM a))), (fun v _ => v = .bool (sameM (toM a) (toM a)))]) (E := []) Trydmixed ⟨by kernel_rfl, by kernel_rfl, by kernel_rfl, by kernel_rfl, by kernel_rfl, by kernel_rfl, Nat.le_of_ble_eq_true (by kernel_rfl)⟩ rfl (by kernel_rfl) ⟨(stab_eq _), (stab_eq _), (stab_own _), (stab_eq _), (stab_own _), (stab_own _), (stab_eq _), (stab_eq _), (stab_eq _), (stab_eq _), (stab_own _), (stab_own _), (stab_eq _), (stab_own _), (stab_own _), (stab_own _), (stab_own _), (stab_eq _), (stab_eq _), (stab_eq _), (stab_eq _), (stab_own _), (stab_msg _), (stab_own _), (stab_eq _), (stab_eq _), trivial⟩ N ⟨?_, ?_, ?_, ?_, ?_, ?_, ?_, ?_, ?_, ?_, ?_, ?_, ?_, ?_, ?_, ?_, ?_, ?_, ?_, ?_, ?_, ?_, ?_, ?_, ?_, ?_, trivial⟩ trivial ?_
  · -- 0 law.go:58
    rintro aa ww hE hF ⟨-⟩
    exact opAt rfl (ok_run rfl (run_callR (ψ := (fun v _ => v = .bool true)) rfl Tryd.call14 (by
      simp only [List.map_toArray, List.map_nil]
      exact ret_below (known_c _ (POW.below (E.trans hE)))) (fun _ _ h =>  h)))
  · -- 1 law.go:58
    rintro aa ww hE hF ⟨d0, -⟩
    replace d0 : aa.eval (.tmp 11) = .bool true := d0
    exact opAt rfl (ok_run rfl (run_here rfl (ex_move (.inl rfl) d0) ( rfl)))
  · -- 2 law.go:58
    rintro aa ww hE hF ⟨-, d1, -⟩
    replace d1 : aa.eval (.tmp 12) = .bool true := d1
    have o5 : aa.eval (.tmp 5) = .pointer (some ⟨b10, 0, none⟩) := hF.carry (fun v _ => v = .pointer (some ⟨b10, 0, none⟩)) rfl (stab_eq _) hE T5
    exact opAt rfl (ok_guard rfl d1 (fun _ => run_here rfl (ex_load rfl o5 (load_row (hE.row R_b10) Tryd.underlying29 rfl (by kernel_rfl))) ( ⟨_, rfl, (S13.ext hE)⟩)) (fun hn => absurd rfl hn))
  · -- 3 law.go:58
    rintro aa ww hE hF ⟨-, d1, d2, -⟩
    replace d1 : aa.eval (.tmp 12) = .bool true := d1
    replace d2 : (IsOwn (toM a)) (aa.eval (.tmp 13)) ww := d2
    exact opAt rfl (ok_guard rfl d1 (fun _ => run_callR (ψ := (fun v _ => v = .int .i64 (checkE (toM a) : Int))) rfl Tryd.call15 (by
      obtain ⟨hv0, e0, s0⟩ := IsOwn.msg (d2)
      simp only [List.map_toArray, List.map_cons, List.map_nil, e0]
      exact ret_below (check_c _ _ _ (toM_fits fa) s0)) (fun _ _ h =>  h)) (fun hn => absurd rfl hn))
  · -- 4 law.go:58
    rintro aa ww hE hF ⟨-, d1, -⟩
    replace d1 : aa.eval (.tmp 12) = .bool true := d1
    have o5 : aa.eval (.tmp 5) = .pointer (some ⟨b10, 0, none⟩) := hF.carry (fun v _ => v = .pointer (some ⟨b10, 0, none⟩)) rfl (stab_eq _) hE T5
    exact opAt rfl (ok_guard rfl d1 (fun _ => run_here rfl (ex_load rfl o5 (load_row (hE.row R_b10) Tryd.underlying29 rfl (by kernel_rfl))) ( ⟨_, rfl, (S13.ext hE)⟩)) (fun hn => absurd rfl hn))
  · -- 5 law.go:58
    rintro aa ww hE hF ⟨-, d1, -, -, d4, -⟩
    replace d1 : aa.eval (.tmp 12) = .bool true := d1
    replace d4 : (IsOwn (toM a)) (aa.eval (.tmp 15)) ww := d4
    exact opAt rfl (ok_guard rfl d1 (fun _ => run_callR (ψ := (IsOwn (toM a))) rfl Tryd.call12 (by
      obtain ⟨hv0, e0, s0⟩ := IsOwn.msg (d4)
      simp only [List.map_toArray, List.map_cons, List.map_nil, e0]
      exact (of_c _ _ _ (toM_fits fa) s0 (toM_len a)).mono (fun _ _ ⟨_, e, o, b⟩ => ⟨_, e, b, _, rfl, o.lower⟩)) (fun _ _ h =>  h)) (fun hn => absurd rfl hn))
  · -- 6 law.go:58
    rintro aa ww hE hF ⟨-, d1, -, -, -, d5, -⟩
    replace d1 : aa.eval (.tmp 12) = .bool true := d1
    replace d5 : (IsOwn (toM a)) (aa.eval (.tmp 16)) ww := d5
    exact opAt rfl (ok_guard rfl d1 (fun _ => run_callR (ψ := (fun v _ => v = .int .i64 (checkE (toM a) : Int))) rfl Tryd.call16 (by
      obtain ⟨hv0, e0, s0⟩ := IsOwn.msg (d5)
      simp only [List.map_toArray, List.map_cons, List.map_nil, e0]
      exact ret_below (rCheck_c _ _ _ (toM_fits fa) s0)) (fun _ _ h =>  h)) (fun hn => absurd rfl hn))
  · -- 7 law.go:58
    rintro aa ww hE hF ⟨-, d1, -, d3, -, -, d6, -⟩
    replace d1 : aa.eval (.tmp 12) = .bool true := d1
    replace d3 : aa.eval (.tmp 14) = .int .i64 (checkE (toM a) : Int) := d3
    replace d6 : aa.eval (.tmp 17) = .int .i64 (checkE (toM a) : Int) := d6
    exact opAt rfl (ok_guard rfl d1 (fun _ => run_here rfl (ex_binOp rfl (by rw [show aa.eval (.tmp 14) = .int .i64 (checkE (toM a) : Int) from d3, show aa.eval (.tmp 17) = .int .i64 (checkE (toM a) : Int) from d6]; exact eqg_int) (by rw [show aa.eval (.tmp 14) = .int .i64 (checkE (toM a) : Int) from d3, show aa.eval (.tmp 17) = .int .i64 (checkE (toM a) : Int) from d6]; exact bin_eql)) ( (by rw [beq_self_eq_true]))) (fun hn => absurd rfl hn))
  · -- 8 law.go:58
    rintro aa ww hE hF ⟨-, d1, -, -, -, -, -, d7, -⟩
    replace d1 : aa.eval (.tmp 12) = .bool true := d1
    replace d7 : aa.eval (.tmp 18) = .bool true := d7
    exact opAt rfl (ok_run rfl (run_here rfl (ex_pick_and rfl d1 (fun hp => d7)) ( rfl)))
  · -- 9 law.go:58
    rintro aa ww hE hF ⟨-, -, -, -, -, -, -, -, d8, -⟩
    replace d8 : aa.eval (.tmp 19) = .bool true := d8
    exact opAt rfl (ok_run rfl (run_here rfl (ex_move (.inl rfl) d8) ( rfl)))
  · -- 10 law.go:58
    rintro aa ww hE hF ⟨-, -, -, -, -, -, -, -, -, d9, -⟩
    replace d9 : aa.eval (.tmp 20) = .bool true := d9
    have o5 : aa.eval (.tmp 5) = .pointer (some ⟨b10, 0, none⟩) := hF.carry (fun v _ => v = .pointer (some ⟨b10, 0, none⟩)) rfl (stab_eq _) hE T5
    exact opAt rfl (ok_guard rfl d9 (fun _ => run_here rfl (ex_load rfl o5 (load_row (hE.row R_b10) Tryd.underlying29 rfl (by kernel_rfl))) ( ⟨_, rfl, (S13.ext hE)⟩)) (fun hn => absurd rfl hn))
  · -- 11 law.go:58
    rintro aa ww hE hF ⟨-, -, -, -, -, -, -, -, -, d9, -⟩
    replace d9 : aa.eval (.tmp 20) = .bool true := d9
    have o6 : aa.eval (.tmp 6) = .pointer (some ⟨b11, 0, none⟩) := hF.carry (fun v _ => v = .pointer (some ⟨b11, 0, none⟩)) rfl (stab_eq _) hE T6
    exact opAt rfl (ok_guard rfl d9 (fun _ => run_here rfl (ex_load rfl o6 (load_row (hE.row R_b11) Tryd.underlying29 rfl (by kernel_rfl))) ( ⟨_, rfl, (S15.ext hE)⟩)) (fun hn => absurd rfl hn))
  · -- 12 law.go:58
    rintro aa ww hE hF ⟨-, -, -, -, -, -, -, -, -, d9, d10, d11, -⟩
    replace d9 : aa.eval (.tmp 20) = .bool true := d9
    replace d10 : (IsOwn (toM a)) (aa.eval (.tmp 21)) ww := d10
    replace d11 : (IsOwn (toM b)) (aa.eval (.tmp 22)) ww := d11
    exact opAt rfl (ok_guard rfl d9 (fun _ => run_callR (ψ := (fun v _ => v = .bool (sameM (toM a) (toM b)))) rfl Tryd.call17 (by
      obtain ⟨hv0, e0, s0⟩ := IsOwn.msg (d10)
      obtain ⟨hv1, e1, s1⟩ := IsOwn.msg (d11)
      simp only [List.map_toArray, List.map_cons, List.map_nil, e0, e1]
      exact ret_below (equal_c _ _ _ _ _ (toM_fits fa) (toM_fits fb) s0 s1)) (fun _ _ h =>  h)) (fun hn => absurd rfl hn))
  · -- 13 law.go:58
    rintro aa ww hE hF ⟨-, -, -, -, -, -, -, -, -, d9, -⟩
    replace d9 : aa.eval (.tmp 20) = .bool true := d9
    have o5 : aa.eval (.tmp 5) = .pointer (some ⟨b10, 0, none⟩) := hF.carry (fun v _ => v = .pointer (some ⟨b10, 0, none⟩)) rfl (stab_eq _) hE T5
    exact opAt rfl (ok_guard rfl d9 (fun _ => run_here rfl (ex_load rfl o5 (load_row (hE.row R_b10) Tryd.underlying29 rfl (by kernel_rfl))) ( ⟨_, rfl, (S13.ext hE)⟩)) (fun hn => absurd rfl hn))
  · -- 14 law.go:58
    rintro aa ww hE hF ⟨-, -, -, -, -, -, -, -, -, d9, -, -, -, d13, -⟩
    replace d9 : aa.eval (.tmp 20) = .bool true := d9
    replace d13 : (IsOwn (toM a)) (aa.eval (.tmp 24)) ww := d13
    exact opAt rfl (ok_guard rfl d9 (fun _ => run_callR (ψ := (IsOwn (toM a))) rfl Tryd.call12 (by
      obtain ⟨hv0, e0, s0⟩ := IsOwn.msg (d13)
      simp only [List.map_toArray, List.map_cons, List.map_nil, e0]
      exact (of_c _ _ _ (toM_fits fa) s0 (toM_len a)).mono (fun _ _ ⟨_, e, o, b⟩ => ⟨_, e, b, _, rfl, o.lower⟩)) (fun _ _ h =>  h)) (fun hn => absurd rfl hn))
  · -- 15 law.go:58
    rintro aa ww hE hF ⟨-, -, -, -, -, -, -, -, -, d9, -⟩
    replace d9 : aa.eval (.tmp 20) = .bool true := d9
    have o6 : aa.eval (.tmp 6) = .pointer (some ⟨b11, 0, none⟩) := hF.carry (fun v _ => v = .pointer (some ⟨b11, 0, none⟩)) rfl (stab_eq _) hE T6
    exact opAt rfl (ok_guard rfl d9 (fun _ => run_here rfl (ex_load rfl o6 (load_row (hE.row R_b11) Tryd.underlying29 rfl (by kernel_rfl))) ( ⟨_, rfl, (S15.ext hE)⟩)) (fun hn => absurd rfl hn))
  · -- 16 law.go:58
    rintro aa ww hE hF ⟨-, -, -, -, -, -, -, -, -, d9, -, -, -, -, -, d15, -⟩
    replace d9 : aa.eval (.tmp 20) = .bool true := d9
    replace d15 : (IsOwn (toM b)) (aa.eval (.tmp 26)) ww := d15
    exact opAt rfl (ok_guard rfl d9 (fun _ => run_callR (ψ := (IsOwn (toM b))) rfl Tryd.call12 (by
      obtain ⟨hv0, e0, s0⟩ := IsOwn.msg (d15)
      simp only [List.map_toArray, List.map_cons, List.map_nil, e0]
      exact (of_c _ _ _ (toM_fits fb) s0 (toM_len b)).mono (fun _ _ ⟨_, e, o, b⟩ => ⟨_, e, b, _, rfl, o.lower⟩)) (fun _ _ h =>  h)) (fun hn => absurd rfl hn))
  · -- 17 law.go:58
    rintro aa ww hE hF ⟨-, -, -, -, -, -, -, -, -, d9, -, -, -, -, d14, -, d16, -⟩
    replace d9 : aa.eval (.tmp 20) = .bool true := d9
    replace d14 : (IsOwn (toM a)) (aa.eval (.tmp 25)) ww := d14
    replace d16 : (IsOwn (toM b)) (aa.eval (.tmp 27)) ww := d16
    exact opAt rfl (ok_guard rfl d9 (fun _ => run_callR (ψ := (fun v _ => v = .bool (sameM (toM a) (toM b)))) rfl Tryd.call13 (by
      obtain ⟨hv0, e0, s0⟩ := IsOwn.msg (d14)
      obtain ⟨hv1, e1, s1⟩ := IsOwn.msg (d16)
      simp only [List.map_toArray, List.map_cons, List.map_nil, e0, e1]
      exact ret_below (rSame_c _ _ _ _ _ (toM_fits fa) (toM_fits fb) s0 s1)) (fun _ _ h =>  h)) (fun hn => absurd rfl hn))
  · -- 18 law.go:58
    rintro aa ww hE hF ⟨-, -, -, -, -, -, -, -, -, d9, -, -, d12, -, -, -, -, d17, -⟩
    replace d9 : aa.eval (.tmp 20) = .bool true := d9
    replace d12 : aa.eval (.tmp 23) = .bool (sameM (toM a) (toM b)) := d12
    replace d17 : aa.eval (.tmp 28) = .bool (sameM (toM a) (toM b)) := d17
    exact opAt rfl (ok_guard rfl d9 (fun _ => run_here rfl (ex_binOp rfl (by rw [show aa.eval (.tmp 23) = .bool (sameM (toM a) (toM b)) from d12, show aa.eval (.tmp 28) = .bool (sameM (toM a) (toM b)) from d17]; exact eqg_bool) (by rw [show aa.eval (.tmp 23) = .bool (sameM (toM a) (toM b)) from d12, show aa.eval (.tmp 28) = .bool (sameM (toM a) (toM b)) from d17]; exact bin_beql Tryd.underlying4)) ( (by simp))) (fun hn => absurd rfl hn))
  · -- 19 law.go:58
    rintro aa ww hE hF ⟨-, -, -, -, -, -, -, -, -, d9, -, -, -, -, -, -, -, -, d18, -⟩
    replace d9 : aa.eval (.tmp 20) = .bool true := d9
    replace d18 : aa.eval (.tmp 29) = .bool true := d18
    exact opAt rfl (ok_run rfl (run_here rfl (ex_pick_and rfl d9 (fun hp => d18)) ( rfl)))
  · -- 20 law.go:58
    rintro aa ww hE hF ⟨-, -, -, -, -, -, -, -, -, -, -, -, -, -, -, -, -, -, -, d19, -⟩
    replace d19 : aa.eval (.tmp 30) = .bool true := d19
    exact opAt rfl (ok_run rfl (run_here rfl (ex_move (.inl rfl) d19) ( rfl)))
  · -- 21 law.go:58
    rintro aa ww hE hF ⟨-, -, -, -, -, -, -, -, -, -, -, -, -, -, -, -, -, -, -, -, d20, -⟩
    replace d20 : aa.eval (.tmp 31) = .bool true := d20
    have o5 : aa.eval (.tmp 5) = .pointer (some ⟨b10, 0, none⟩) := hF.carry (fun v _ => v = .pointer (some ⟨b10, 0, none⟩)) rfl (stab_eq _) hE T5
    exact opAt rfl (ok_guard rfl d20 (fun _ => run_here rfl (ex_load rfl o5 (load_row (hE.row R_b10) Tryd.underlying29 rfl (by kernel_rfl))) ( ⟨_, rfl, (S13.ext hE)⟩)) (fun hn => absurd rfl hn))
  · -- 22 law.go:58
    rintro aa ww hE hF ⟨-, -, -, -, -, -, -, -, -, -, -, -, -, -, -, -, -, -, -, -, d20, -⟩
    replace d20 : aa.eval (.tmp 31) = .bool true := d20
    have o2 : aa.eval (.tmp 2) = .pointer (some ⟨b4, 0, none⟩) := hF.carry (fun v _ => v = .pointer (some ⟨b4, 0, none⟩)) rfl (stab_eq _) hE T2
    exact opAt rfl (ok_guard rfl d20 (fun _ => run_here rfl (ex_load rfl o2 (load_row (hE.row R_b4) Tryd.underlying26 rfl (by kernel_rfl))) ( ⟨_, rfl, (sa.below (E.trans hE))⟩)) (fun hn => absurd rfl hn))
  · -- 23 law.go:58
    rintro aa ww hE hF ⟨-, -, -, -, -, -, -, -, -, -, -, -, -, -, -, -, -, -, -, -, d20, d22, -⟩
    replace d20 : aa.eval (.tmp 31) = .bool true := d20
    replace d22 : (IsMsg a) (aa.eval (.tmp 33)) ww := d22
    exact opAt rfl (ok_guard rfl d20 (fun _ => run_callR (ψ := (IsOwn (toM a))) rfl Tryd.call9 (by
      obtain ⟨hv0, e0, s0⟩ := d22
      simp only [List.map_toArray, List.map_cons, List.map_nil, e0]
      exact to_e fa ⟨_, rfl, s0⟩) (fun _ _ h =>  h)) (fun hn => absurd rfl hn))
  · -- 24 law.go:58
    rintro aa ww hE hF ⟨-, -, -, -, -, -, -, -, -, -, -, -, -, -, -, -, -, -, -, -, d20, d21, -, d23, -⟩
    replace d20 : aa.eval (.tmp 31) = .bool true := d20
    replace d21 : (IsOwn (toM a)) (aa.eval (.tmp 32)) ww := d21
    replace d23 : (IsOwn (toM a)) (aa.eval (.tmp 34)) ww := d23
    exact opAt rfl (ok_guard rfl d20 (fun _ => run_callR (ψ := (fun v _ => v = .bool (sameM (toM a) (toM a)))) rfl Tryd.call17 (by
      obtain ⟨hv0, e0, s0⟩ := IsOwn.msg (d21)
      obtain ⟨hv1, e1, s1⟩ := IsOwn.msg (d23)
      simp only [List.map_toArray, List.map_cons, List.map_nil, e0, e1]
      exact ret_below (equal_c _ _ _ _ _ (toM_fits fa) (toM_fits fa) s0 s1)) (fun _ _ h =>  h)) (fun hn => absurd rfl hn))
  · -- 25 law.go:58
    rintro aa ww hE hF ⟨-, -, -, -, -, -, -, -, -, -, -, -, -, -, -, -, -, -, -, -, d20, -, -, -, d24, -⟩
    replace d20 : aa.eval (.tmp 31) = .bool true := d20
    replace d24 : aa.eval (.tmp 35) = .bool (sameM (toM a) (toM a)) := d24
    exact opAt rfl (ok_run rfl (run_here rfl (ex_pick_and rfl d20 (fun hp => d24)) ( rfl)))
  intro a19 w20 hE hF hfac hap
  obtain ⟨f0, f1, f2, f3, f4, f5, f6, f7, f8, f9, f10, f11, f12, f13, f14, f15, f16, f17, f18, f19, f20, f21, f22, f23, f24, f25, -⟩ := hfac
  replace N := hF.size.trans N
  replace D := hF.defers.trans D
  replace R_b4 := hE.row R_b4
  replace R_b5 := hE.row R_b5
  replace R_b10 := hE.row R_b10
  replace R_b11 := hE.row R_b11
  replace S13 : OwnStrs 0 ((toM a).hops) w20 hv12 := S13.ext hE
  replace S15 : OwnStrs 0 ((toM b).hops) w20 hv14 := S15.ext hE
  replace T2 : (fun v _ => v = .pointer (some ⟨b4, 0, none⟩)) (a19.at 2) w20 := hF.carry (fun v _ => v = .pointer (some ⟨b4, 0, none⟩)) rfl (stab_eq _) hE T2
  replace T4 : (fun v _ => v = .bool false) (a19.at 4) w20 := hF.carry (fun v _ => v = .bool false) rfl (stab_eq _) hE T4
  replace T5 : (fun v _ => v = .pointer (some ⟨b10, 0, none⟩)) (a19.at 5) w20 := hF.carry (fun v _ => v = .pointer (some ⟨b10, 0, none⟩)) rfl (stab_eq _) hE T5
  replace T6 : (fun v _ => v = .pointer (some ⟨b11, 0, none⟩)) (a19.at 6) w20 := hF.carry (fun v _ => v = .pointer (some ⟨b11, 0, none⟩)) rfl (stab_eq _) hE T6
  have T36 : (fun v _ => v = .bool (sameM (toM a) (toM a))) (a19.at 36) w20 := f25
  replace E := E.trans hE
  clear hE hF hap
  show wpOps _ (rg Tryd.f4 2) _ [26] _ _
  refine tail_val rfl rfl rfl (ex_move (.inr rfl) (v := .bool (sameM (toM a) (toM a))) (show a19.eval (.tmp 36) = .bool (sameM (toM a) (toM a)) from T36)) ?_
  obtain ⟨a21, ha⟩ : ∃ x : Act, x = a19.put (some 4) (.bool (sameM (toM a) (toM a))) := ⟨_, rfl⟩
  rw [← ha]
  replace T2 : (fun v _ => v = .pointer (some ⟨b4, 0, none⟩)) (a21.at 2) w20 := by rw [ha, put_other rfl]; exact T2
  replace T5 : (fun v _ => v = .pointer (some ⟨b10, 0, none⟩)) (a21.at 5) w20 := by rw [ha, put_other rfl]; exact T5
  replace T6 : (fun v _ => v = .pointer (some ⟨b11, 0, none⟩)) (a21.at 6) w20 := by rw [ha, put_other rfl]; exact T6
  replace T36 : (fun v _ => v = .bool (sameM (toM a) (toM a))) (a21.at 36) w20 := by rw [ha, put_other rfl]; exact T36
  replace T4 : (fun v _ => v = .bool (sameM (toM a) (toM a))) (a21.at 4) w20 := by rw [ha, put_same N (by decide)]; skip
  replace N := (ha ▸ put_size _ _ _ : a21.tmps.size = _).trans N
  replace D := (ha ▸ put_defers' _ _ _ : a21.defers = _).trans D
  clear ha
  clear T2
  clear T5
  clear T6
  clear T36
  refine hK18 _ _ ?_
  refine wp_ret ?_
  -- the end
  refine ret_1 Tryd.results4 D T4 ?_
  exact ⟨_, rfl, E, by rw [sameM_refl]⟩

end Go.Proofs.YtfcfddfjifofgaaDoor
