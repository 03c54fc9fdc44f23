/- What the closure of Due returns. -/
import Derived.Test.YtfcfddfjifofgaaDoorOwnR
import Derived.Test.YtfcfddfjifofgaaDoorEngC
namespace Go.Proofs.YtfcfddfjifofgaaDoor
open Go.RowKit Go.Shelf
namespace Mono
set_option maxRecDepth 100000 in
set_option maxHeartbeats 600000 in
theorem or_e (b : Nat) (i1 i2 : Int) (w : World) (hr : w.heap[b]? = some (.cells #[.int .i64 i1, .int .i64 i2] 3 (0, 0))) : Calls Tryd.prog 52 #[.slice (some ⟨b, 0, none⟩) 2 2] w (Ret (fun v _ => v = .int .i64 (orI i1 i2)) w) := by
  refine enter_fn Tryd.func52 rfl Tryd.ntmps52 (Nat.le_of_ble_eq_true rfl) (fun a0 N D hA => ?_)
  have T0 : (fun v _ => v = .slice (some ⟨b, 0, none⟩) 2 2) (a0.at 0) w := by rw [hA 0 (by simp)]; exact rfl
  clear hA
  have E : Ext w w := Ext.refl w
  refine wp_seq_k (fun K1 hK1 => ?_)
  -- region 0: cmp.go:69
  show (Code.region 0 (rg Tryd.f52 0) false).wp _ _ _ _
  refine wp_region ?_
  show wpOps _ (rg Tryd.f52 0) _ [0] _ _
  refine tail_val rfl rfl rfl (ex_move (.inr rfl) (v := .int .i64 0) (ev_const (v := .int .i64 0))) ?_
  obtain ⟨a2, ha⟩ : ∃ x : Act, x = a0.put (some 2) (.int .i64 0) := ⟨_, rfl⟩
  rw [← ha]
  replace T0 : (fun v _ => v = .slice (some ⟨b, 0, none⟩) 2 2) (a2.at 0) w := by rw [ha, put_other rfl]; exact T0
  have T2 : (fun v _ => v = .int .i64 0) (a2.at 2) w := by rw [ha, put_same N (by decide)]; skip
  replace N := (ha ▸ put_size _ _ _ : a2.tmps.size = _).trans N
  replace D := (ha ▸ put_defers' _ _ _ : a2.defers = _).trans D
  clear ha
  refine hK1 _ _ ?_
  refine wp_seq_k (fun K3 hK3 => ?_)
  -- region 1: cmp.go:70
  show (Code.region 1 (rg Tryd.f52 1) false).wp _ _ _ _
  refine wp_region ?_
  show wpOps _ (rg Tryd.f52 1) _ [0] _ _
  refine tail_val rfl rfl rfl (ex_move (.inr rfl) (v := .int .i64 0) (ev_const (v := .int .i64 0))) ?_
  obtain ⟨a4, ha⟩ : ∃ x : Act, x = a2.put (some 3) (.int .i64 0) := ⟨_, rfl⟩
  rw [← ha]
  replace T0 : (fun v _ => v = .slice (some ⟨b, 0, none⟩) 2 2) (a4.at 0) w := by rw [ha, put_other rfl]; exact T0
  replace T2 : (fun v _ => v = .int .i64 0) (a4.at 2) w := by rw [ha, put_other rfl]; exact T2
  have T3 : (fun v _ => v = .int .i64 0) (a4.at 3) w := by rw [ha, put_same N (by decide)]; skip
  replace N := (ha ▸ put_size _ _ _ : a4.tmps.size = _).trans N
  replace D := (ha ▸ put_defers' _ _ _ : a4.defers = _).trans D
  clear ha
  refine hK3 _ _ ?_
  refine wp_seq_k (fun K5 hK5 => ?_)
  refine wp_seq_k (fun K6 hK6 => ?_)
  -- region 2: cmp.go:71
  show (Code.region 2 (rg Tryd.f52 2) false).wp _ _ _ _
  refine plain_list (n := 3) (N := 18) (deps := [[], [0], []]) (F := [(fun v _ => v = .slice (some ⟨b, 0, none⟩) 2 2), (fun v _ => v = .int .i64 (2 : Int)), (fun v _ => v = .int .i64 0)]) (by kernel_rfl) (by kernel_rfl) rfl (by kernel_rfl) ⟨(stab_eq _), (stab_eq _), (stab_eq _), trivial⟩ N (by kernel_rfl) ⟨?_, ?_, ?_, trivial⟩ ?_
  · -- 0 cmp.go:71
    rintro aa ww hE hF ⟨-⟩
    have o0 : aa.eval (.tmp 0) = .slice (some ⟨b, 0, none⟩) 2 2 := hF.carry (fun v _ => v = .slice (some ⟨b, 0, none⟩) 2 2) rfl (stab_eq _) hE T0
    exact opAt rfl (ok_run rfl (run_here rfl (ex_move (.inl rfl) o0) ( rfl)))
  · -- 1 cmp.go:71
    rintro aa ww hE hF ⟨d0, -⟩
    replace d0 : aa.eval (.tmp 6) = .slice (some ⟨b, 0, none⟩) 2 2 := d0
    exact opAt rfl (ok_run rfl (run_here rfl (ex_builtin rfl (fun cs => by simp only [List.map_toArray, List.map_cons, List.map_nil, show aa.eval (.tmp 6) = .slice (some ⟨b, 0, none⟩) 2 2 from d0]; exact len_slice Tryd.underlying66)) ( rfl)))
  · -- 2 cmp.go:71
    rintro aa ww hE hF ⟨-⟩
    exact opAt rfl (ok_run rfl (run_here rfl (ex_move (.inl rfl) (ev_const (v := .int .i64 0))) ( rfl)))
  intro a7 w8 hE hF hfac hap
  obtain ⟨f0, f1, f2, -⟩ := hfac
  replace N := hF.size.trans N
  replace D := hF.defers.trans D
  clear T0
  replace T2 : (fun v _ => v = .int .i64 0) (a7.at 2) w8 := hF.carry (fun v _ => v = .int .i64 0) rfl (stab_eq _) hE T2
  replace T3 : (fun v _ => v = .int .i64 0) (a7.at 3) w8 := hF.carry (fun v _ => v = .int .i64 0) rfl (stab_eq _) hE T3
  have T6 : (fun v _ => v = .slice (some ⟨b, 0, none⟩) 2 2) (a7.at 6) w8 := f0
  have T7 : (fun v _ => v = .int .i64 (2 : Int)) (a7.at 7) w8 := f1
  have T8 : (fun v _ => v = .int .i64 0) (a7.at 8) w8 := f2
  replace E := E.trans hE
  clear hE hF hap
  show wpOps _ (rg Tryd.f52 2) _ [] _ _
  refine hK6 _ _ ?_
  refine wp_block ?_
  -- the loop
  obtain ⟨I10, hI10⟩ : ∃ I : Nat → Act → World → Prop, I = fun μ aa ww => ∃ (k : Nat), (aa.tmps.size = 18) ∧ (aa.defers = []) ∧ (Ext w ww) ∧ (Ext w8 ww) ∧ ((fun v _ => v = .int .i64 0) (aa.at 2) ww) ∧ ((fun v _ => v = .int .i64 0) (aa.at 3) ww) ∧ ((fun v _ => v = .slice (some ⟨b, 0, none⟩) 2 2) (aa.at 6) ww) ∧ ((fun v _ => v = .int .i64 (2 : Int)) (aa.at 7) ww) ∧ ((fun v _ => v = .int .i64 (k : Int)) (aa.at 8) ww) ∧ (μ = 2 - k) ∧ (OrRel i1 i2 k) := ⟨_, rfl⟩
  refine loop_rule I10 _ (by rw [hI10]; exact ⟨0, N, D, E, Ext.refl _, T2, T3, T6, T7, T8, rfl, Or.inl rfl⟩) ?_
  clear T2
  clear T3
  clear T6
  clear T7
  clear T8
  clear N D E
  intro μ a11 w12 hI
  rw [hI10] at hI
  obtain ⟨k, N, D, E, X9, T2, T3, T6, T7, T8, hμ, hrel⟩ := hI
  have HM := Lib.hid hμ; clear hμ
  refine wp_seq_k (fun K13 hK13 => ?_)
  -- region 3: cmp.go:71
  show (Code.region 3 (rg Tryd.f52 3) false).wp _ _ _ _
  refine plain_list (n := 1) (N := 18) (deps := [[]]) (F := [(fun v _ => v = .bool (decide ((k : Int) < (2 : Int))))]) (by kernel_rfl) (by kernel_rfl) rfl (by kernel_rfl) ⟨(stab_eq _), trivial⟩ N (by kernel_rfl) ⟨?_, trivial⟩ ?_
  · -- 0 cmp.go:71
    rintro aa ww hE hF ⟨-⟩
    have o7 : aa.eval (.tmp 7) = .int .i64 (2 : Int) := hF.carry (fun v _ => v = .int .i64 (2 : Int)) rfl (stab_eq _) hE T7
    have o8 : aa.eval (.tmp 8) = .int .i64 (k : Int) := hF.carry (fun v _ => v = .int .i64 (k : Int)) rfl (stab_eq _) hE T8
    exact opAt rfl (ok_run rfl (run_here rfl (ex_binOp rfl (by rw [show aa.eval (.tmp 8) = .int .i64 (k : Int) from o8, show aa.eval (.tmp 7) = .int .i64 (2 : Int) from o7]; exact eqg_int) (by rw [show aa.eval (.tmp 8) = .int .i64 (k : Int) from o8, show aa.eval (.tmp 7) = .int .i64 (2 : Int) from o7]; exact bin_lss)) ( rfl)))
  intro a14 w15 hE hF hfac hap
  obtain ⟨f0, -⟩ := hfac
  replace N := hF.size.trans N
  replace D := hF.defers.trans D
  replace T2 : (fun v _ => v = .int .i64 0) (a14.at 2) w15 := hF.carry (fun v _ => v = .int .i64 0) rfl (stab_eq _) hE T2
  replace T3 : (fun v _ => v = .int .i64 0) (a14.at 3) w15 := hF.carry (fun v _ => v = .int .i64 0) rfl (stab_eq _) hE T3
  replace T6 : (fun v _ => v = .slice (some ⟨b, 0, none⟩) 2 2) (a14.at 6) w15 := hF.carry (fun v _ => v = .slice (some ⟨b, 0, none⟩) 2 2) rfl (stab_eq _) hE T6
  replace T7 : (fun v _ => v = .int .i64 (2 : Int)) (a14.at 7) w15 := hF.carry (fun v _ => v = .int .i64 (2 : Int)) rfl (stab_eq _) hE T7
  replace T8 : (fun v _ => v = .int .i64 (k : Int)) (a14.at 8) w15 := hF.carry (fun v _ => v = .int .i64 (k : Int)) rfl (stab_eq _) hE T8
  have T9 : (fun v _ => v = .bool (decide ((k : Int) < (2 : Int)))) (a14.at 9) w15 := f0
  replace E := E.trans hE
  replace X9 := X9.trans hE
  clear hE hF hap
  show wpOps _ (rg Tryd.f52 3) _ [] _ _
  refine hK13 _ _ ?_
  refine wp_seq_k (fun K16 hK16 => ?_)
  refine wp_cond_split (t := decide ((k : Int) < (2 : Int))) T9 (fun C17 => ?_) (fun C17 => ?_)
  · clear T9
    have hlt : k < 2 := by have := of_decide_eq_true C17; omega
    refine wp_skip ?_
    refine hK16 _ _ ?_
    refine wp_seq_k (fun K18 hK18 => ?_)
    refine wp_block ?_
    refine wp_seq_k (fun K19 hK19 => ?_)
    -- region 4: cmp.go:71
    show (Code.region 4 (rg Tryd.f52 4) false).wp _ _ _ _
    refine plain_list (n := 2) (N := 18) (deps := [[], [0]]) (F := [(fun v _ => v = .pointer (some ⟨b, 0 + k * 1, none⟩)), (fun v _ => v = .int .i64 (pr2 i1 i2 k))]) (by kernel_rfl) (by kernel_rfl) rfl (by kernel_rfl) ⟨(stab_eq _), (stab_eq _), trivial⟩ N (by kernel_rfl) ⟨?_, ?_, trivial⟩ ?_
    · -- 0 cmp.go:71
      rintro aa ww hE hF ⟨-⟩
      have o6 : aa.eval (.tmp 6) = .slice (some ⟨b, 0, none⟩) 2 2 := hF.carry (fun v _ => v = .slice (some ⟨b, 0, none⟩) 2 2) rfl (stab_eq _) hE T6
      have o8 : aa.eval (.tmp 8) = .int .i64 (k : Int) := hF.carry (fun v _ => v = .int .i64 (k : Int)) rfl (stab_eq _) hE T8
      exact opAt rfl (ok_run rfl (run_here rfl (ex_indexAddr rfl (by rw [show aa.eval (.tmp 6) = .slice (some ⟨b, 0, none⟩) 2 2 from o6, show aa.eval (.tmp 8) = .int .i64 (k : Int) from o8]; exact index_slice Tryd.underlying66 hlt (fun w => Tryd.sizeOf3 w))) ( rfl)))
    · -- 1 cmp.go:71
      rintro aa ww hE hF ⟨d0, -⟩
      replace d0 : aa.eval (.tmp 10) = .pointer (some ⟨b, 0 + k * 1, none⟩) := d0
      exact opAt rfl (ok_run rfl (run_here rfl (ex_load rfl d0 (load_cell Tryd.isAgg3 (pair_get ((E.trans hE).row hr) hlt))) ( rfl)))
    intro a20 w21 hE hF hfac hap
    obtain ⟨f0, f1, -⟩ := hfac
    replace N := hF.size.trans N
    replace D := hF.defers.trans D
    replace T2 : (fun v _ => v = .int .i64 0) (a20.at 2) w21 := hF.carry (fun v _ => v = .int .i64 0) rfl (stab_eq _) hE T2
    replace T3 : (fun v _ => v = .int .i64 0) (a20.at 3) w21 := hF.carry (fun v _ => v = .int .i64 0) rfl (stab_eq _) hE T3
    replace T6 : (fun v _ => v = .slice (some ⟨b, 0, none⟩) 2 2) (a20.at 6) w21 := hF.carry (fun v _ => v = .slice (some ⟨b, 0, none⟩) 2 2) rfl (stab_eq _) hE T6
    replace T7 : (fun v _ => v = .int .i64 (2 : Int)) (a20.at 7) w21 := hF.carry (fun v _ => v = .int .i64 (2 : Int)) rfl (stab_eq _) hE T7
    replace T8 : (fun v _ => v = .int .i64 (k : Int)) (a20.at 8) w21 := hF.carry (fun v _ => v = .int .i64 (k : Int)) rfl (stab_eq _) hE T8
    have T11 : (fun v _ => v = .int .i64 (pr2 i1 i2 k)) (a20.at 11) w21 := f1
    replace E := E.trans hE
    replace X9 := X9.trans hE
    clear hE hF hap
    show wpOps _ (rg Tryd.f52 4) _ [2] _ _
    refine tail_val rfl rfl rfl (ex_move (.inr rfl) (v := .int .i64 (pr2 i1 i2 k)) (show a20.eval (.tmp 11) = .int .i64 (pr2 i1 i2 k) from T11)) ?_
    obtain ⟨a22, ha⟩ : ∃ x : Act, x = a20.put (some 5) (.int .i64 (pr2 i1 i2 k)) := ⟨_, rfl⟩
    rw [← ha]
    replace T2 : (fun v _ => v = .int .i64 0) (a22.at 2) w21 := by rw [ha, put_other rfl]; exact T2
    replace T3 : (fun v _ => v = .int .i64 0) (a22.at 3) w21 := by rw [ha, put_other rfl]; exact T3
    replace T6 : (fun v _ => v = .slice (some ⟨b, 0, none⟩) 2 2) (a22.at 6) w21 := by rw [ha, put_other rfl]; exact T6
    replace T7 : (fun v _ => v = .int .i64 (2 : Int)) (a22.at 7) w21 := by rw [ha, put_other rfl]; exact T7
    replace T8 : (fun v _ => v = .int .i64 (k : Int)) (a22.at 8) w21 := by rw [ha, put_other rfl]; exact T8
    replace T11 : (fun v _ => v = .int .i64 (pr2 i1 i2 k)) (a22.at 11) w21 := by rw [ha, put_other rfl]; exact T11
    have T5 : (fun v _ => v = .int .i64 (pr2 i1 i2 k)) (a22.at 5) w21 := by rw [ha, put_same N (by decide)]; skip
    replace N := (ha ▸ put_size _ _ _ : a22.tmps.size = _).trans N
    replace D := (ha ▸ put_defers' _ _ _ : a22.defers = _).trans D
    clear ha
    clear T11
    refine hK19 _ _ ?_
    refine wp_seq_k (fun K23 hK23 => ?_)
    -- region 5: cmp.go:72
    show (Code.region 5 (rg Tryd.f52 5) false).wp _ _ _ _
    refine plain_list (n := 3) (N := 18) (deps := [[], [], [0, 1]]) (F := [(fun v _ => v = .int .i64 (pr2 i1 i2 k)), (fun v _ => v = .int .i64 0), (fun v _ => v = .bool ((pr2 i1 i2 k) != (0 : Int)))]) (by kernel_rfl) (by kernel_rfl) rfl (by kernel_rfl) ⟨(stab_eq _), (stab_eq _), (stab_eq _), trivial⟩ N (by kernel_rfl) ⟨?_, ?_, ?_, trivial⟩ ?_
    · -- 0 cmp.go:72
      rintro aa ww hE hF ⟨-⟩
      have o5 : aa.eval (.tmp 5) = .int .i64 (pr2 i1 i2 k) := hF.carry (fun v _ => v = .int .i64 (pr2 i1 i2 k)) rfl (stab_eq _) hE T5
      exact opAt rfl (ok_run rfl (run_here rfl (ex_move (.inl rfl) o5) ( rfl)))
    · -- 1 cmp.go:72
      rintro aa ww hE hF ⟨-⟩
      have o3 : aa.eval (.tmp 3) = .int .i64 0 := hF.carry (fun v _ => v = .int .i64 0) rfl (stab_eq _) hE T3
      exact opAt rfl (ok_run rfl (run_here rfl (ex_move (.inl rfl) o3) ( rfl)))
    · -- 2 cmp.go:72
      rintro aa ww hE hF ⟨d0, d1, -⟩
      replace d0 : aa.eval (.tmp 12) = .int .i64 (pr2 i1 i2 k) := d0
      replace d1 : aa.eval (.tmp 13) = .int .i64 0 := d1
      exact opAt rfl (ok_run rfl (run_here rfl (ex_binOp rfl (by rw [show aa.eval (.tmp 12) = .int .i64 (pr2 i1 i2 k) from d0, show aa.eval (.tmp 13) = .int .i64 0 from d1]; exact eqg_int) (by rw [show aa.eval (.tmp 12) = .int .i64 (pr2 i1 i2 k) from d0, show aa.eval (.tmp 13) = .int .i64 0 from d1]; exact bin_neq)) ( rfl)))
    intro a24 w25 hE hF hfac hap
    obtain ⟨f0, f1, f2, -⟩ := hfac
    replace N := hF.size.trans N
    replace D := hF.defers.trans D
    replace T2 : (fun v _ => v = .int .i64 0) (a24.at 2) w25 := hF.carry (fun v _ => v = .int .i64 0) rfl (stab_eq _) hE T2
    replace T3 : (fun v _ => v = .int .i64 0) (a24.at 3) w25 := hF.carry (fun v _ => v = .int .i64 0) rfl (stab_eq _) hE T3
    replace T6 : (fun v _ => v = .slice (some ⟨b, 0, none⟩) 2 2) (a24.at 6) w25 := hF.carry (fun v _ => v = .slice (some ⟨b, 0, none⟩) 2 2) rfl (stab_eq _) hE T6
    replace T7 : (fun v _ => v = .int .i64 (2 : Int)) (a24.at 7) w25 := hF.carry (fun v _ => v = .int .i64 (2 : Int)) rfl (stab_eq _) hE T7
    replace T8 : (fun v _ => v = .int .i64 (k : Int)) (a24.at 8) w25 := hF.carry (fun v _ => v = .int .i64 (k : Int)) rfl (stab_eq _) hE T8
    replace T5 : (fun v _ => v = .int .i64 (pr2 i1 i2 k)) (a24.at 5) w25 := hF.carry (fun v _ => v = .int .i64 (pr2 i1 i2 k)) rfl (stab_eq _) hE T5
    have T14 : (fun v _ => v = .bool ((pr2 i1 i2 k) != (0 : Int))) (a24.at 14) w25 := f2
    replace E := E.trans hE
    replace X9 := X9.trans hE
    clear hE hF hap
    show wpOps _ (rg Tryd.f52 5) _ [] _ _
    refine hK23 _ _ ?_
    refine wp_cond_split (t := (pr2 i1 i2 k) != (0 : Int)) T14 (fun C26 => ?_) (fun C26 => ?_)
    · clear T14
      refine wp_seq_k (fun K27 hK27 => ?_)
      -- region 6: cmp.go:73
      show (Code.region 6 (rg Tryd.f52 6) false).wp _ _ _ _
      refine plain_list (n := 1) (N := 18) (deps := [[]]) (F := [(fun v _ => v = .int .i64 (pr2 i1 i2 k))]) (by kernel_rfl) (by kernel_rfl) rfl (by kernel_rfl) ⟨(stab_eq _), trivial⟩ N (by kernel_rfl) ⟨?_, trivial⟩ ?_
      · -- 0 cmp.go:73
        rintro aa ww hE hF ⟨-⟩
        have o5 : aa.eval (.tmp 5) = .int .i64 (pr2 i1 i2 k) := hF.carry (fun v _ => v = .int .i64 (pr2 i1 i2 k)) rfl (stab_eq _) hE T5
        exact opAt rfl (ok_run rfl (run_here rfl (ex_move (.inl rfl) o5) ( rfl)))
      intro a28 w29 hE hF hfac hap
      obtain ⟨f0, -⟩ := hfac
      replace N := hF.size.trans N
      replace D := hF.defers.trans D
      replace T2 : (fun v _ => v = .int .i64 0) (a28.at 2) w29 := hF.carry (fun v _ => v = .int .i64 0) rfl (stab_eq _) hE T2
      replace T3 : (fun v _ => v = .int .i64 0) (a28.at 3) w29 := hF.carry (fun v _ => v = .int .i64 0) rfl (stab_eq _) hE T3
      replace T6 : (fun v _ => v = .slice (some ⟨b, 0, none⟩) 2 2) (a28.at 6) w29 := hF.carry (fun v _ => v = .slice (some ⟨b, 0, none⟩) 2 2) rfl (stab_eq _) hE T6
      replace T7 : (fun v _ => v = .int .i64 (2 : Int)) (a28.at 7) w29 := hF.carry (fun v _ => v = .int .i64 (2 : Int)) rfl (stab_eq _) hE T7
      replace T8 : (fun v _ => v = .int .i64 (k : Int)) (a28.at 8) w29 := hF.carry (fun v _ => v = .int .i64 (k : Int)) rfl (stab_eq _) hE T8
      replace T5 : (fun v _ => v = .int .i64 (pr2 i1 i2 k)) (a28.at 5) w29 := hF.carry (fun v _ => v = .int .i64 (pr2 i1 i2 k)) rfl (stab_eq _) hE T5
      have T15 : (fun v _ => v = .int .i64 (pr2 i1 i2 k)) (a28.at 15) w29 := f0
      replace E := E.trans hE
      replace X9 := X9.trans hE
      clear hE hF hap
      show wpOps _ (rg Tryd.f52 6) _ [1] _ _
      refine tail_val rfl rfl rfl (ex_move (.inr rfl) (v := .int .i64 (pr2 i1 i2 k)) (show a28.eval (.tmp 15) = .int .i64 (pr2 i1 i2 k) from T15)) ?_
      obtain ⟨a30, ha⟩ : ∃ x : Act, x = a28.put (some 2) (.int .i64 (pr2 i1 i2 k)) := ⟨_, rfl⟩
      rw [← ha]
      replace T3 : (fun v _ => v = .int .i64 0) (a30.at 3) w29 := by rw [ha, put_other rfl]; exact T3
      replace T6 : (fun v _ => v = .slice (some ⟨b, 0, none⟩) 2 2) (a30.at 6) w29 := by rw [ha, put_other rfl]; exact T6
      replace T7 : (fun v _ => v = .int .i64 (2 : Int)) (a30.at 7) w29 := by rw [ha, put_other rfl]; exact T7
      replace T8 : (fun v _ => v = .int .i64 (k : Int)) (a30.at 8) w29 := by rw [ha, put_other rfl]; exact T8
      replace T5 : (fun v _ => v = .int .i64 (pr2 i1 i2 k)) (a30.at 5) w29 := by rw [ha, put_other rfl]; exact T5
      replace T15 : (fun v _ => v = .int .i64 (pr2 i1 i2 k)) (a30.at 15) w29 := by rw [ha, put_other rfl]; exact T15
      replace T2 : (fun v _ => v = .int .i64 (pr2 i1 i2 k)) (a30.at 2) w29 := by rw [ha, put_same N (by decide)]; skip
      replace N := (ha ▸ put_size _ _ _ : a30.tmps.size = _).trans N
      replace D := (ha ▸ put_defers' _ _ _ : a30.defers = _).trans D
      clear ha
      clear T15
      refine hK27 _ _ ?_
      refine wp_ret ?_
      -- the end
      refine ret_1 Tryd.results52 D T2 ?_
      exact ⟨_, rfl, E, by rw [or_hit hrel hlt C26]⟩
    · clear T14
      refine wp_skip ?_
      refine hK18 _ _ ?_
      -- region 7: cmp.go:71
      show (Code.region 7 (rg Tryd.f52 7) false).wp _ _ _ _
      refine plain_list (n := 1) (N := 18) (deps := [[]]) (F := [(fun v _ => v = .int .i64 ((k : Int) + 1))]) (by kernel_rfl) (by kernel_rfl) rfl (by kernel_rfl) ⟨(stab_eq _), trivial⟩ N (by kernel_rfl) ⟨?_, trivial⟩ ?_
      · -- 0 cmp.go:71
        rintro aa ww hE hF ⟨-⟩
        have o8 : aa.eval (.tmp 8) = .int .i64 (k : Int) := hF.carry (fun v _ => v = .int .i64 (k : Int)) rfl (stab_eq _) hE T8
        exact opAt rfl (ok_run rfl (run_here rfl (ex_binOp rfl (by rw [show aa.eval (.tmp 8) = .int .i64 (k : Int) from o8, show aa.eval (.const (.int .i64 1)) = .int .i64 1 from (ev_const (v := .int .i64 1))]; exact eqg_int) (by rw [show aa.eval (.tmp 8) = .int .i64 (k : Int) from o8, show aa.eval (.const (.int .i64 1)) = .int .i64 1 from (ev_const (v := .int .i64 1))]; exact bin_addN (by omega) (by omega))) ( rfl)))
      intro a31 w32 hE hF hfac hap
      obtain ⟨f0, -⟩ := hfac
      replace N := hF.size.trans N
      replace D := hF.defers.trans D
      replace T2 : (fun v _ => v = .int .i64 0) (a31.at 2) w32 := hF.carry (fun v _ => v = .int .i64 0) rfl (stab_eq _) hE T2
      replace T3 : (fun v _ => v = .int .i64 0) (a31.at 3) w32 := hF.carry (fun v _ => v = .int .i64 0) rfl (stab_eq _) hE T3
      replace T6 : (fun v _ => v = .slice (some ⟨b, 0, none⟩) 2 2) (a31.at 6) w32 := hF.carry (fun v _ => v = .slice (some ⟨b, 0, none⟩) 2 2) rfl (stab_eq _) hE T6
      replace T7 : (fun v _ => v = .int .i64 (2 : Int)) (a31.at 7) w32 := hF.carry (fun v _ => v = .int .i64 (2 : Int)) rfl (stab_eq _) hE T7
      replace T8 : (fun v _ => v = .int .i64 (k : Int)) (a31.at 8) w32 := hF.carry (fun v _ => v = .int .i64 (k : Int)) rfl (stab_eq _) hE T8
      replace T5 : (fun v _ => v = .int .i64 (pr2 i1 i2 k)) (a31.at 5) w32 := hF.carry (fun v _ => v = .int .i64 (pr2 i1 i2 k)) rfl (stab_eq _) hE T5
      have T16 : (fun v _ => v = .int .i64 ((k : Int) + 1)) (a31.at 16) w32 := f0
      replace E := E.trans hE
      replace X9 := X9.trans hE
      clear hE hF hap
      show wpOps _ (rg Tryd.f52 7) _ [1] _ _
      refine tail_val rfl rfl rfl (ex_move (.inl rfl) (v := .int .i64 ((k : Int) + 1)) (show a31.eval (.tmp 16) = .int .i64 ((k : Int) + 1) from T16)) ?_
      obtain ⟨a33, ha⟩ : ∃ x : Act, x = a31.put (some 8) (.int .i64 ((k : Int) + 1)) := ⟨_, rfl⟩
      rw [← ha]
      replace T2 : (fun v _ => v = .int .i64 0) (a33.at 2) w32 := by rw [ha, put_other rfl]; exact T2
      replace T3 : (fun v _ => v = .int .i64 0) (a33.at 3) w32 := by rw [ha, put_other rfl]; exact T3
      replace T6 : (fun v _ => v = .slice (some ⟨b, 0, none⟩) 2 2) (a33.at 6) w32 := by rw [ha, put_other rfl]; exact T6
      replace T7 : (fun v _ => v = .int .i64 (2 : Int)) (a33.at 7) w32 := by rw [ha, put_other rfl]; exact T7
      replace T5 : (fun v _ => v = .int .i64 (pr2 i1 i2 k)) (a33.at 5) w32 := by rw [ha, put_other rfl]; exact T5
      replace T16 : (fun v _ => v = .int .i64 ((k : Int) + 1)) (a33.at 16) w32 := by rw [ha, put_other rfl]; exact T16
      replace T8 : (fun v _ => v = .int .i64 ((k : Int) + 1)) (a33.at 8) w32 := by rw [ha, put_same N (by decide)]; skip
      replace N := (ha ▸ put_size _ _ _ : a33.tmps.size = _).trans N
      replace D := (ha ▸ put_defers' _ _ _ : a33.defers = _).trans D
      clear ha
      clear T16
      -- the round's end
      have hμ := HM.out
      refine ⟨_, by rw [hI10]; exact ⟨k + 1, N, D, E, X9, T2, T3, T6, T7, T8, rfl, or_next hrel hlt C26⟩, ?_⟩
      omega
  · clear T9
    have hge : ¬ k < 2 := by have := of_decide_eq_false C17; omega
    refine wp_exit ?_
    refine hK5 _ _ ?_
    refine wp_seq_k (fun K34 hK34 => ?_)
    -- region 8: cmp.go:76
    show (Code.region 8 (rg Tryd.f52 8) false).wp _ _ _ _
    refine plain_list (n := 1) (N := 18) (deps := [[]]) (F := [(fun v _ => v = .int .i64 0)]) (by kernel_rfl) (by kernel_rfl) rfl (by kernel_rfl) ⟨(stab_eq _), trivial⟩ N (by kernel_rfl) ⟨?_, trivial⟩ ?_
    · -- 0 cmp.go:76
      rintro aa ww hE hF ⟨-⟩
      have o3 : aa.eval (.tmp 3) = .int .i64 0 := hF.carry (fun v _ => v = .int .i64 0) rfl (stab_eq _) hE T3
      exact opAt rfl (ok_run rfl (run_here rfl (ex_move (.inl rfl) o3) ( rfl)))
    intro a35 w36 hE hF hfac hap
    obtain ⟨f0, -⟩ := hfac
    replace N := hF.size.trans N
    replace D := hF.defers.trans D
    replace T2 : (fun v _ => v = .int .i64 0) (a35.at 2) w36 := hF.carry (fun v _ => v = .int .i64 0) rfl (stab_eq _) hE T2
    replace T3 : (fun v _ => v = .int .i64 0) (a35.at 3) w36 := hF.carry (fun v _ => v = .int .i64 0) rfl (stab_eq _) hE T3
    clear T6
    clear T7
    clear T8
    have T17 : (fun v _ => v = .int .i64 0) (a35.at 17) w36 := f0
    replace E := E.trans hE
    replace X9 := X9.trans hE
    clear hE hF hap
    show wpOps _ (rg Tryd.f52 8) _ [1] _ _
    refine tail_val rfl rfl rfl (ex_move (.inr rfl) (v := .int .i64 0) (show a35.eval (.tmp 17) = .int .i64 0 from T17)) ?_
    obtain ⟨a37, ha⟩ : ∃ x : Act, x = a35.put (some 2) (.int .i64 0) := ⟨_, rfl⟩
    rw [← ha]
    replace T3 : (fun v _ => v = .int .i64 0) (a37.at 3) w36 := by rw [ha, put_other rfl]; exact T3
    replace T17 : (fun v _ => v = .int .i64 0) (a37.at 17) w36 := by rw [ha, put_other rfl]; exact T17
    replace T2 : (fun v _ => v = .int .i64 0) (a37.at 2) w36 := by rw [ha, put_same N (by decide)]; skip
    replace N := (ha ▸ put_size _ _ _ : a37.tmps.size = _).trans N
    replace D := (ha ▸ put_defers' _ _ _ : a37.defers = _).trans D
    clear ha
    clear T3
    clear T17
    refine hK34 _ _ ?_
    refine wp_ret ?_
    -- the end
    refine ret_1 Tryd.results52 D T2 ?_
    exact ⟨_, rfl, E, by rw [or_none hrel hge]⟩

set_option maxRecDepth 100000 in
set_option maxHeartbeats 600000 in
theorem cmp_e (p1 p2 : QEnt) (w : World) : Calls Tryd.prog 51 #[.agg (wC p1), .agg (wC p2)] w (Ret (fun v _ => v = .int .i64 (cmpW p1 p2)) w) := by
  refine enter_fn Tryd.func51 rfl Tryd.ntmps51 (Nat.le_of_ble_eq_true rfl) (fun a0 N D hA => ?_)
  have T0 : (fun v _ => v = .agg (wC p1)) (a0.at 0) w := by rw [hA 0 (by simp)]; exact rfl
  have T1 : (fun v _ => v = .agg (wC p2)) (a0.at 1) w := by rw [hA 1 (by simp)]; exact rfl
  clear hA
  have E : Ext w w := Ext.refl w
  refine wp_seq_k (fun K1 hK1 => ?_)
  -- region 0: mail.go:274
  show (Code.region 0 (rg Tryd.f51 0) false).wp _ _ _ _
  refine plain_list (n := 2) (N := 17) (deps := [[], []]) (F := [(IsBox (wC p1) 87 w.heap.size), (IsBox (wC p2) 87 w.heap.size)]) (by kernel_rfl) (by kernel_rfl) rfl (by kernel_rfl) ⟨(stab_box _ _ _), (stab_box _ _ _), trivial⟩ N (by kernel_rfl) ⟨?_, ?_, trivial⟩ ?_
  · -- 0 mail.go:274
    rintro aa ww hE hF ⟨-⟩
    have o0 : aa.eval (.tmp 0) = .agg (wC p1) := hF.carry (fun v _ => v = .agg (wC p1)) rfl (stab_eq _) hE T0
    exact opAt rfl (ok_run rfl (run_new (ex_box rfl o0) ( (box_new hE.size))))
  · -- 1 mail.go:274
    rintro aa ww hE hF ⟨-⟩
    have o1 : aa.eval (.tmp 1) = .agg (wC p2) := hF.carry (fun v _ => v = .agg (wC p2)) rfl (stab_eq _) hE T1
    exact opAt rfl (ok_run rfl (run_new (ex_box rfl o1) ( (box_new hE.size))))
  intro a2 w3 hE hF hfac hap
  obtain ⟨f0, f1, -⟩ := hfac
  replace N := hF.size.trans N
  replace D := hF.defers.trans D
  obtain ⟨b4, T2, B_b4, R_b4⟩ := f0
  obtain ⟨b5, T3, B_b5, R_b5⟩ := f1
  have NE_b4_b5 : b4 ≠ b5 := hap 0 1 (by decide) (by decide) (by decide) (by kernel_rfl) (by kernel_rfl) _ _ _ _ _ _ T2 T3
  replace B_b4 := Nat.le_trans E.size B_b4
  replace B_b5 := Nat.le_trans E.size B_b5
  clear T0
  clear T1
  replace E := E.trans hE
  clear hE hF hap
  show wpOps _ (rg Tryd.f51 0) _ [2] _ _
  refine tail_val rfl rfl rfl (ex_move (.inr rfl) (v := .int .i64 0) (ev_const (v := .int .i64 0))) ?_
  obtain ⟨a6, ha⟩ : ∃ x : Act, x = a2.put (some 4) (.int .i64 0) := ⟨_, rfl⟩
  rw [← ha]
  replace T2 : (fun v _ => v = .pointer (some ⟨b4, 0, none⟩)) (a6.at 2) w3 := by rw [ha, put_other rfl]; exact T2
  replace T3 : (fun v _ => v = .pointer (some ⟨b5, 0, none⟩)) (a6.at 3) w3 := by rw [ha, put_other rfl]; exact T3
  have T4 : (fun v _ => v = .int .i64 0) (a6.at 4) w3 := by rw [ha, put_same N (by decide)]; skip
  replace N := (ha ▸ put_size _ _ _ : a6.tmps.size = _).trans N
  replace D := (ha ▸ put_defers' _ _ _ : a6.defers = _).trans D
  clear ha
  refine hK1 _ _ ?_
  refine wp_seq_k (fun K7 hK7 => ?_)
  -- region 1 (drawn): mail.go:275
  show (Code.region 1 (rg Tryd.f51 1) true).wp _ _ _ _
  refine draw_list (n := 12) (N := 17) (deps := [[], [0], [], [2], [0, 1, 2, 3], [], [5], [], [7], [0, 1, 2, 3, 4, 5, 6, 7, 8], [0, 1, 2, 3, 4, 5, 6, 7, 8, 9], [0, 1, 2, 3, 4, 5, 6, 7, 8, 9, 10], [0, 1, 2, 3, 4, 5, 6, 7, 8, 9, 10, 11]]) (F := [(fun v _ => v = .pointer (some ⟨b4, 10, none⟩)), (fun v _ => v = .int .i64 p1.due), (fun v _ => v = .pointer (some ⟨b5, 10, none⟩)), (fun v _ => v = .int .i64 p2.due), (fun v _ => v = .int .i64 (Lib.compareInt p1.due p2.due)), (fun v _ => v = .pointer (some ⟨b4, 9, none⟩)), (fun v _ => v = .int .i64 p1.num), (fun v _ => v = .pointer (some ⟨b5, 9, none⟩)), (fun v _ => v = .int .i64 p2.num), (fun v _ => v = .int .i64 (Lib.compareInt p1.num p2.num)), (IsPair (Lib.compareInt p1.due p2.due) (Lib.compareInt p1.num p2.num)), (fun v _ => v = .int .i64 (orI (Lib.compareInt p1.due p2.due) (Lib.compareInt p1.num p2.num)))]) (E := []) Trydmixed ⟨by kernel_rfl, by kernel_rfl, by kernel_rfl, by kernel_rfl, by kernel_rfl, by kernel_rfl, Nat.le_of_ble_eq_true (by kernel_rfl)⟩ rfl (by kernel_rfl) ⟨(stab_eq _), (stab_eq _), (stab_eq _), (stab_eq _), (stab_eq _), (stab_eq _), (stab_eq _), (stab_eq _), (stab_eq _), (stab_eq _), (stab_pair _ _), (stab_eq _), trivial⟩ N ⟨?_, ?_, ?_, ?_, ?_, ?_, ?_, ?_, ?_, ?_, ?_, ?_, trivial⟩ trivial ?_
  · -- 0 mail.go:275
    rintro aa ww hE hF ⟨-⟩
    have o2 : aa.eval (.tmp 2) = .pointer (some ⟨b4, 0, none⟩) := hF.carry (fun v _ => v = .pointer (some ⟨b4, 0, none⟩)) rfl (stab_eq _) hE T2
    exact opAt rfl (ok_run rfl (run_here rfl (ex_fieldAddr rfl o2 Tryd.underlying87 rfl (fun w => ⟨_, Tryd.sizeOf3 w⟩) rfl) ( rfl)))
  · -- 1 mail.go:275
    rintro aa ww hE hF ⟨d0, -⟩
    replace d0 : aa.eval (.tmp 5) = .pointer (some ⟨b4, 10, none⟩) := d0
    exact opAt rfl (ok_run rfl (run_here rfl (ex_load rfl d0 (load_cell Tryd.isAgg3 ((cell_row (hE.row R_b4) 10).trans rfl))) ( rfl)))
  · -- 2 mail.go:275
    rintro aa ww hE hF ⟨-⟩
    have o3 : aa.eval (.tmp 3) = .pointer (some ⟨b5, 0, none⟩) := hF.carry (fun v _ => v = .pointer (some ⟨b5, 0, none⟩)) rfl (stab_eq _) hE T3
    exact opAt rfl (ok_run rfl (run_here rfl (ex_fieldAddr rfl o3 Tryd.underlying87 rfl (fun w => ⟨_, Tryd.sizeOf3 w⟩) rfl) ( rfl)))
  · -- 3 mail.go:275
    rintro aa ww hE hF ⟨d2, -⟩
    replace d2 : aa.eval (.tmp 7) = .pointer (some ⟨b5, 10, none⟩) := d2
    exact opAt rfl (ok_run rfl (run_here rfl (ex_load rfl d2 (load_cell Tryd.isAgg3 ((cell_row (hE.row R_b5) 10).trans rfl))) ( rfl)))
  · -- 4 mail.go:275
    rintro aa ww hE hF ⟨-, d1, -, d3, -⟩
    replace d1 : aa.eval (.tmp 6) = .int .i64 p1.due := d1
    replace d3 : aa.eval (.tmp 8) = .int .i64 p2.due := d3
    exact opAt rfl (ok_run rfl (run_callR (ψ := (fun v _ => v = .int .i64 (Lib.compareInt p1.due p2.due))) rfl Tryd.call53 (by
      simp only [List.map_toArray, List.map_cons, List.map_nil, d1, d3]
      exact ret_same' (Tryd.cmp_Compare_int p1.due p2.due _)) (fun _ _ h =>  h)))
  · -- 5 mail.go:275
    rintro aa ww hE hF ⟨-⟩
    have o2 : aa.eval (.tmp 2) = .pointer (some ⟨b4, 0, none⟩) := hF.carry (fun v _ => v = .pointer (some ⟨b4, 0, none⟩)) rfl (stab_eq _) hE T2
    exact opAt rfl (ok_run rfl (run_here rfl (ex_fieldAddr rfl o2 Tryd.underlying87 rfl (fun w => ⟨_, Tryd.sizeOf3 w⟩) rfl) ( rfl)))
  · -- 6 mail.go:275
    rintro aa ww hE hF ⟨d5, -⟩
    replace d5 : aa.eval (.tmp 10) = .pointer (some ⟨b4, 9, none⟩) := d5
    exact opAt rfl (ok_run rfl (run_here rfl (ex_load rfl d5 (load_cell Tryd.isAgg3 ((cell_row (hE.row R_b4) 9).trans rfl))) ( rfl)))
  · -- 7 mail.go:275
    rintro aa ww hE hF ⟨-⟩
    have o3 : aa.eval (.tmp 3) = .pointer (some ⟨b5, 0, none⟩) := hF.carry (fun v _ => v = .pointer (some ⟨b5, 0, none⟩)) rfl (stab_eq _) hE T3
    exact opAt rfl (ok_run rfl (run_here rfl (ex_fieldAddr rfl o3 Tryd.underlying87 rfl (fun w => ⟨_, Tryd.sizeOf3 w⟩) rfl) ( rfl)))
  · -- 8 mail.go:275
    rintro aa ww hE hF ⟨d7, -⟩
    replace d7 : aa.eval (.tmp 12) = .pointer (some ⟨b5, 9, none⟩) := d7
    exact opAt rfl (ok_run rfl (run_here rfl (ex_load rfl d7 (load_cell Tryd.isAgg3 ((cell_row (hE.row R_b5) 9).trans rfl))) ( rfl)))
  · -- 9 mail.go:275
    rintro aa ww hE hF ⟨-, -, -, -, -, -, d6, -, d8, -⟩
    replace d6 : aa.eval (.tmp 11) = .int .i64 p1.num := d6
    replace d8 : aa.eval (.tmp 13) = .int .i64 p2.num := d8
    exact opAt rfl (ok_run rfl (run_callR (ψ := (fun v _ => v = .int .i64 (Lib.compareInt p1.num p2.num))) rfl Tryd.call53 (by
      simp only [List.map_toArray, List.map_cons, List.map_nil, d6, d8]
      exact ret_same' (Tryd.cmp_Compare_int p1.num p2.num _)) (fun _ _ h =>  h)))
  · -- 10 mail.go:275
    rintro aa ww hE hF ⟨-, -, -, -, d4, -, -, -, -, d9, -⟩
    replace d4 : aa.eval (.tmp 9) = .int .i64 (Lib.compareInt p1.due p2.due) := d4
    replace d9 : aa.eval (.tmp 14) = .int .i64 (Lib.compareInt p1.num p2.num) := d9
    exact opAt rfl (ok_run rfl (run_ok rfl (ex_buildSlice rfl (by simp only [List.map_toArray, List.map_cons, List.map_nil, d4, d9]; exact run_pair _ _ _)) (Ext.alloc _ _) ( (new_pair _ _ _))))
  · -- 11 mail.go:275
    rintro aa ww hE hF ⟨-, -, -, -, -, -, -, -, -, -, d10, -⟩
    replace d10 : (IsPair (Lib.compareInt p1.due p2.due) (Lib.compareInt p1.num p2.num)) (aa.eval (.tmp 15)) ww := d10
    exact opAt rfl (ok_run rfl (run_callR (ψ := (fun v _ => v = .int .i64 (orI (Lib.compareInt p1.due p2.due) (Lib.compareInt p1.num p2.num)))) rfl Tryd.call52 (by obtain ⟨b, e, r⟩ := d10; simp only [List.map_toArray, List.map_cons, List.map_nil, e]; exact or_e b _ _ _ r) (fun _ _ h =>  h)))
  intro a8 w9 hE hF hfac hap
  obtain ⟨f0, f1, f2, f3, f4, f5, f6, f7, f8, f9, f10, f11, -⟩ := hfac
  replace N := hF.size.trans N
  replace D := hF.defers.trans D
  replace R_b4 := hE.row R_b4
  replace R_b5 := hE.row R_b5
  replace T2 : (fun v _ => v = .pointer (some ⟨b4, 0, none⟩)) (a8.at 2) w9 := hF.carry (fun v _ => v = .pointer (some ⟨b4, 0, none⟩)) rfl (stab_eq _) hE T2
  replace T3 : (fun v _ => v = .pointer (some ⟨b5, 0, none⟩)) (a8.at 3) w9 := hF.carry (fun v _ => v = .pointer (some ⟨b5, 0, none⟩)) rfl (stab_eq _) hE T3
  replace T4 : (fun v _ => v = .int .i64 0) (a8.at 4) w9 := hF.carry (fun v _ => v = .int .i64 0) rfl (stab_eq _) hE T4
  have T16 : (fun v _ => v = .int .i64 (orI (Lib.compareInt p1.due p2.due) (Lib.compareInt p1.num p2.num))) (a8.at 16) w9 := f11
  replace E := E.trans hE
  clear hE hF hap
  show wpOps _ (rg Tryd.f51 1) _ [12] _ _
  refine tail_val rfl rfl rfl (ex_move (.inr rfl) (v := .int .i64 (orI (Lib.compareInt p1.due p2.due) (Lib.compareInt p1.num p2.num))) (show a8.eval (.tmp 16) = .int .i64 (orI (Lib.compareInt p1.due p2.due) (Lib.compareInt p1.num p2.num)) from T16)) ?_
  obtain ⟨a10, ha⟩ : ∃ x : Act, x = a8.put (some 4) (.int .i64 (orI (Lib.compareInt p1.due p2.due) (Lib.compareInt p1.num p2.num))) := ⟨_, rfl⟩
  rw [← ha]
  replace T2 : (fun v _ => v = .pointer (some ⟨b4, 0, none⟩)) (a10.at 2) w9 := by rw [ha, put_other rfl]; exact T2
  replace T3 : (fun v _ => v = .pointer (some ⟨b5, 0, none⟩)) (a10.at 3) w9 := by rw [ha, put_other rfl]; exact T3
  replace T16 : (fun v _ => v = .int .i64 (orI (Lib.compareInt p1.due p2.due) (Lib.compareInt p1.num p2.num))) (a10.at 16) w9 := by rw [ha, put_other rfl]; exact T16
  replace T4 : (fun v _ => v = .int .i64 (orI (Lib.compareInt p1.due p2.due) (Lib.compareInt p1.num p2.num))) (a10.at 4) w9 := by rw [ha, put_same N (by decide)]; skip
  replace N := (ha ▸ put_size _ _ _ : a10.tmps.size = _).trans N
  replace D := (ha ▸ put_defers' _ _ _ : a10.defers = _).trans D
  clear ha
  clear T2
  clear T3
  clear T16
  refine hK7 _ _ ?_
  refine wp_ret ?_
  -- the end
  refine ret_1 Tryd.results51 D T4 ?_
  exact ⟨_, rfl, E, rfl⟩

end Mono
end Go.Proofs.YtfcfddfjifofgaaDoor
