/- What Pass returns. -/
import Derived.Test.YtfcfddfjifofgaaDoorEngD
import Derived.Test.YtfcfddfjifofgaaDoorAddrP
import Derived.Test.YtfcfddfjifofgaaDoorBPlain
namespace Go.Proofs.YtfcfddfjifofgaaDoor
open Go.RowKit Go.Shelf
set_option maxRecDepth 100000 in
set_option maxHeartbeats 600000 in
theorem pass_e (m : Msg) (mv : Value) (s : ByteArray) (w : World) (fm : m.Fits) (sm : StrsAt w mv m.hops) (hs : s.size ≤ maxLen) (hl : m.hops.length ≤ 1099511627775) : Calls Tryd.prog 18 #[.agg (msgC m mv), .string s] w (Ret (IsOwnE w.heap.size (passR m s).1 (passR m s).2) w) := by
  have hl1 : m.hops.length ≤ maxLen := le_max (by omega)
  have hl2 : m.hops.length ≤ 1099511627776 := by omega
  have h1l : ([s] : List ByteArray).length = 1 := rfl
  refine enter_fn Tryd.func18 rfl Tryd.ntmps18 (Nat.le_of_ble_eq_true rfl) (fun a0 N D hA => ?_)
  have T0 : (fun v _ => v = .agg (msgC m mv)) (a0.at 0) w := by rw [hA 0 (by simp)]; exact rfl
  have T1 : (fun v _ => v = .string s) (a0.at 1) w := by rw [hA 1 (by simp)]; exact rfl
  clear hA
  have E : Ext w w := Ext.refl w
  refine wp_seq_k (fun K1 hK1 => ?_)
  -- region 0: mail.go:192
  show (Code.region 0 (rg Tryd.f18 0) false).wp _ _ _ _
  refine plain_list (n := 2) (N := 40) (deps := [[], []]) (F := [(IsBox (msgC m mv) 29 w.heap.size), (IsBox #[.string ⟨#[]⟩, .string ⟨#[]⟩, .string ⟨#[]⟩, .string ⟨#[]⟩, .int .i64 0, .int .i64 0, .string ⟨#[]⟩, .slice none 0 0, .string ⟨#[]⟩] 29 w.heap.size)]) (by kernel_rfl) (by kernel_rfl) rfl (by kernel_rfl) ⟨(stab_box _ _ _), (stab_box _ _ _), trivial⟩ N (by kernel_rfl) ⟨?_, ?_, trivial⟩ ?_
  · -- 0 mail.go:192
    rintro aa ww hE hF ⟨-⟩
    have o0 : aa.eval (.tmp 0) = .agg (msgC m mv) := hF.carry (fun v _ => v = .agg (msgC m mv)) rfl (stab_eq _) hE T0
    exact opAt rfl (ok_run rfl (run_new (ex_box rfl o0) ( (box_new hE.size))))
  · -- 1 mail.go:192
    rintro aa ww hE hF ⟨-⟩
    exact opAt rfl (ok_run rfl (run_new (ex_alloc rfl Tryd.zeroValue29) ( (box_new hE.size))))
  intro a2 w3 hE hF hfac hap
  obtain ⟨f0, f1, -⟩ := hfac
  replace N := hF.size.trans N
  replace D := hF.defers.trans D
  obtain ⟨b4, T2, B_b4, R_b4⟩ := f0
  obtain ⟨b5, T4, B_b5, R_b5⟩ := f1
  have NE_b4_b5 : b4 ≠ b5 := hap 0 1 (by decide) (by decide) (by decide) (by kernel_rfl) (by kernel_rfl) _ _ _ _ _ _ T2 T4
  replace B_b4 := Nat.le_trans E.size B_b4
  replace B_b5 := Nat.le_trans E.size B_b5
  clear T0
  replace T1 : (fun v _ => v = .string s) (a2.at 1) w3 := hF.carry (fun v _ => v = .string s) rfl (stab_eq _) hE T1
  replace E := E.trans hE
  clear hE hF hap
  show wpOps _ (rg Tryd.f18 0) _ [2] _ _
  refine tail_val rfl rfl rfl (ex_move (.inr rfl) (v := .int .i64 0) (ev_const (v := .int .i64 0))) ?_
  obtain ⟨a6, ha⟩ : ∃ x : Act, x = a2.put (some 5) (.int .i64 0) := ⟨_, rfl⟩
  rw [← ha]
  replace T1 : (fun v _ => v = .string s) (a6.at 1) w3 := by rw [ha, put_other rfl]; exact T1
  replace T2 : (fun v _ => v = .pointer (some ⟨b4, 0, none⟩)) (a6.at 2) w3 := by rw [ha, put_other rfl]; exact T2
  replace T4 : (fun v _ => v = .pointer (some ⟨b5, 0, none⟩)) (a6.at 4) w3 := by rw [ha, put_other rfl]; exact T4
  have T5 : (fun v _ => v = .int .i64 0) (a6.at 5) w3 := by rw [ha, put_same N (by decide)]; skip
  replace N := (ha ▸ put_size _ _ _ : a6.tmps.size = _).trans N
  replace D := (ha ▸ put_defers' _ _ _ : a6.defers = _).trans D
  clear ha
  refine hK1 _ _ ?_
  refine wp_seq_k (fun K7 hK7 => ?_)
  refine wp_seq_k (fun K8 hK8 => ?_)
  -- region 1: mail.go:193
  show (Code.region 1 (rg Tryd.f18 1) false).wp _ _ _ _
  refine plain_list (n := 2) (N := 40) (deps := [[], [0]]) (F := [(IsMsg m), (fun v _ => v = .int .i64 (checkE m : Int))]) (by kernel_rfl) (by kernel_rfl) rfl (by kernel_rfl) ⟨(stab_msg _), (stab_eq _), trivial⟩ N (by kernel_rfl) ⟨?_, ?_, trivial⟩ ?_
  · -- 0 mail.go:193
    rintro aa ww hE hF ⟨-⟩
    have o2 : aa.eval (.tmp 2) = .pointer (some ⟨b4, 0, none⟩) := hF.carry (fun v _ => v = .pointer (some ⟨b4, 0, none⟩)) rfl (stab_eq _) hE T2
    exact opAt rfl (ok_run rfl (run_here rfl (ex_load rfl o2 (load_row (hE.row R_b4) Tryd.underlying29 rfl (by kernel_rfl))) ( ⟨_, rfl, (sm.below (E.trans hE))⟩)))
  · -- 1 mail.go:193
    rintro aa ww hE hF ⟨d0, -⟩
    replace d0 : (IsMsg m) (aa.eval (.tmp 8)) ww := d0
    exact opAt rfl (ok_run rfl (run_callR (ψ := (fun v _ => v = .int .i64 (checkE m : Int))) rfl Tryd.call15 (by
      obtain ⟨hv0, e0, s0⟩ := d0
      simp only [List.map_toArray, List.map_cons, List.map_nil, e0]
      exact ret_below (check_c _ _ _ fm s0)) (fun _ _ h =>  h)))
  intro a9 w10 hE hF hfac hap
  obtain ⟨f0, f1, -⟩ := hfac
  replace N := hF.size.trans N
  replace D := hF.defers.trans D
  replace R_b4 := hE.row R_b4
  replace R_b5 := hE.row R_b5
  replace T1 : (fun v _ => v = .string s) (a9.at 1) w10 := hF.carry (fun v _ => v = .string s) rfl (stab_eq _) hE T1
  replace T2 : (fun v _ => v = .pointer (some ⟨b4, 0, none⟩)) (a9.at 2) w10 := hF.carry (fun v _ => v = .pointer (some ⟨b4, 0, none⟩)) rfl (stab_eq _) hE T2
  replace T4 : (fun v _ => v = .pointer (some ⟨b5, 0, none⟩)) (a9.at 4) w10 := hF.carry (fun v _ => v = .pointer (some ⟨b5, 0, none⟩)) rfl (stab_eq _) hE T4
  replace T5 : (fun v _ => v = .int .i64 0) (a9.at 5) w10 := hF.carry (fun v _ => v = .int .i64 0) rfl (stab_eq _) hE T5
  have T9 : (fun v _ => v = .int .i64 (checkE m : Int)) (a9.at 9) w10 := f1
  replace E := E.trans hE
  clear hE hF hap
  show wpOps _ (rg Tryd.f18 1) _ [2] _ _
  refine tail_val rfl rfl rfl (ex_move (.inr rfl) (v := .int .i64 (checkE m : Int)) (show a9.eval (.tmp 9) = .int .i64 (checkE m : Int) from T9)) ?_
  obtain ⟨a11, ha⟩ : ∃ x : Act, x = a9.put (some 6) (.int .i64 (checkE m : Int)) := ⟨_, rfl⟩
  rw [← ha]
  replace T1 : (fun v _ => v = .string s) (a11.at 1) w10 := by rw [ha, put_other rfl]; exact T1
  replace T2 : (fun v _ => v = .pointer (some ⟨b4, 0, none⟩)) (a11.at 2) w10 := by rw [ha, put_other rfl]; exact T2
  replace T4 : (fun v _ => v = .pointer (some ⟨b5, 0, none⟩)) (a11.at 4) w10 := by rw [ha, put_other rfl]; exact T4
  replace T5 : (fun v _ => v = .int .i64 0) (a11.at 5) w10 := by rw [ha, put_other rfl]; exact T5
  replace T9 : (fun v _ => v = .int .i64 (checkE m : Int)) (a11.at 9) w10 := by rw [ha, put_other rfl]; exact T9
  have T6 : (fun v _ => v = .int .i64 (checkE m : Int)) (a11.at 6) w10 := by rw [ha, put_same N (by decide)]; skip
  replace N := (ha ▸ put_size _ _ _ : a11.tmps.size = _).trans N
  replace D := (ha ▸ put_defers' _ _ _ : a11.defers = _).trans D
  clear ha
  clear T9
  refine hK8 _ _ ?_
  refine wp_seq_k (fun K12 hK12 => ?_)
  -- region 2: mail.go:193
  show (Code.region 2 (rg Tryd.f18 2) false).wp _ _ _ _
  refine plain_list (n := 2) (N := 40) (deps := [[], [0]]) (F := [(fun v _ => v = .int .i64 (checkE m : Int)), (fun v _ => v = .bool ((checkE m : Int) != (0 : Int)))]) (by kernel_rfl) (by kernel_rfl) rfl (by kernel_rfl) ⟨(stab_eq _), (stab_eq _), trivial⟩ N (by kernel_rfl) ⟨?_, ?_, trivial⟩ ?_
  · -- 0 mail.go:193
    rintro aa ww hE hF ⟨-⟩
    have o6 : aa.eval (.tmp 6) = .int .i64 (checkE m : Int) := hF.carry (fun v _ => v = .int .i64 (checkE m : Int)) rfl (stab_eq _) hE T6
    exact opAt rfl (ok_run rfl (run_here rfl (ex_move (.inl rfl) o6) ( rfl)))
  · -- 1 mail.go:193
    rintro aa ww hE hF ⟨d0, -⟩
    replace d0 : aa.eval (.tmp 10) = .int .i64 (checkE m : Int) := d0
    exact opAt rfl (ok_run rfl (run_here rfl (ex_binOp rfl (by rw [show aa.eval (.tmp 10) = .int .i64 (checkE m : Int) from d0, show aa.eval (.const (.int .i64 0)) = .int .i64 0 from (ev_const (v := .int .i64 0))]; exact eqg_int) (by rw [show aa.eval (.tmp 10) = .int .i64 (checkE m : Int) from d0, show aa.eval (.const (.int .i64 0)) = .int .i64 0 from (ev_const (v := .int .i64 0))]; exact bin_neq)) ( rfl)))
  intro a13 w14 hE hF hfac hap
  obtain ⟨f0, f1, -⟩ := hfac
  replace N := hF.size.trans N
  replace D := hF.defers.trans D
  replace R_b4 := hE.row R_b4
  replace R_b5 := hE.row R_b5
  replace T1 : (fun v _ => v = .string s) (a13.at 1) w14 := hF.carry (fun v _ => v = .string s) rfl (stab_eq _) hE T1
  replace T2 : (fun v _ => v = .pointer (some ⟨b4, 0, none⟩)) (a13.at 2) w14 := hF.carry (fun v _ => v = .pointer (some ⟨b4, 0, none⟩)) rfl (stab_eq _) hE T2
  replace T4 : (fun v _ => v = .pointer (some ⟨b5, 0, none⟩)) (a13.at 4) w14 := hF.carry (fun v _ => v = .pointer (some ⟨b5, 0, none⟩)) rfl (stab_eq _) hE T4
  replace T5 : (fun v _ => v = .int .i64 0) (a13.at 5) w14 := hF.carry (fun v _ => v = .int .i64 0) rfl (stab_eq _) hE T5
  replace T6 : (fun v _ => v = .int .i64 (checkE m : Int)) (a13.at 6) w14 := hF.carry (fun v _ => v = .int .i64 (checkE m : Int)) rfl (stab_eq _) hE T6
  have T11 : (fun v _ => v = .bool ((checkE m : Int) != (0 : Int))) (a13.at 11) w14 := f1
  replace E := E.trans hE
  clear hE hF hap
  show wpOps _ (rg Tryd.f18 2) _ [] _ _
  refine hK12 _ _ ?_
  refine wp_cond_split (t := (checkE m : Int) != (0 : Int)) T11 (fun C15 => ?_) (fun C15 => ?_)
  · clear T11
    refine wp_seq_k (fun K16 hK16 => ?_)
    -- region 3: mail.go:194
    show (Code.region 3 (rg Tryd.f18 3) false).wp _ _ _ _
    refine plain_list (n := 2) (N := 40) (deps := [[], []]) (F := [(fun v _ => v = .agg #[.string ⟨#[]⟩, .string ⟨#[]⟩, .string ⟨#[]⟩, .string ⟨#[]⟩, .int .i64 0, .int .i64 0, .string ⟨#[]⟩, .slice none 0 0, .string ⟨#[]⟩]), (fun v _ => v = .int .i64 (checkE m : Int))]) (by kernel_rfl) (by kernel_rfl) rfl (by kernel_rfl) ⟨(stab_eq _), (stab_eq _), trivial⟩ N (by kernel_rfl) ⟨?_, ?_, trivial⟩ ?_
    · -- 0 mail.go:194
      rintro aa ww hE hF ⟨-⟩
      exact opAt rfl (ok_run rfl (run_here rfl (ex_build rfl (by simp [Instr.build, Tryd.zeroValue29, Tryd.runUnderlying29, Instr.fill, Value.cells, Tryd.sizeOf3, Tryd.sizeOf9, Tryd.sizeOf24, Tryd.sizeOf27])) ( rfl)))
    · -- 1 mail.go:194
      rintro aa ww hE hF ⟨-⟩
      have o6 : aa.eval (.tmp 6) = .int .i64 (checkE m : Int) := hF.carry (fun v _ => v = .int .i64 (checkE m : Int)) rfl (stab_eq _) hE T6
      exact opAt rfl (ok_run rfl (run_here rfl (ex_move (.inl rfl) o6) ( rfl)))
    intro a17 w18 hE hF hfac hap
    obtain ⟨f0, f1, -⟩ := hfac
    replace N := hF.size.trans N
    replace D := hF.defers.trans D
    replace R_b4 := hE.row R_b4
    replace R_b5 := hE.row R_b5
    replace T1 : (fun v _ => v = .string s) (a17.at 1) w18 := hF.carry (fun v _ => v = .string s) rfl (stab_eq _) hE T1
    replace T2 : (fun v _ => v = .pointer (some ⟨b4, 0, none⟩)) (a17.at 2) w18 := hF.carry (fun v _ => v = .pointer (some ⟨b4, 0, none⟩)) rfl (stab_eq _) hE T2
    replace T4 : (fun v _ => v = .pointer (some ⟨b5, 0, none⟩)) (a17.at 4) w18 := hF.carry (fun v _ => v = .pointer (some ⟨b5, 0, none⟩)) rfl (stab_eq _) hE T4
    replace T5 : (fun v _ => v = .int .i64 0) (a17.at 5) w18 := hF.carry (fun v _ => v = .int .i64 0) rfl (stab_eq _) hE T5
    replace T6 : (fun v _ => v = .int .i64 (checkE m : Int)) (a17.at 6) w18 := hF.carry (fun v _ => v = .int .i64 (checkE m : Int)) rfl (stab_eq _) hE T6
    have T12 : (fun v _ => v = .agg #[.string ⟨#[]⟩, .string ⟨#[]⟩, .string ⟨#[]⟩, .string ⟨#[]⟩, .int .i64 0, .int .i64 0, .string ⟨#[]⟩, .slice none 0 0, .string ⟨#[]⟩]) (a17.at 12) w18 := f0
    have T13 : (fun v _ => v = .int .i64 (checkE m : Int)) (a17.at 13) w18 := f1
    replace E := E.trans hE
    clear hE hF hap
    show wpOps _ (rg Tryd.f18 3) _ [2, 3] _ _
    refine tail_do rfl rfl rfl (ex_store rfl (show a17.eval (.tmp 4) = .pointer (some ⟨b5, 0, none⟩) from T4) (by rw [show a17.eval (.tmp 12) = .agg #[.string ⟨#[]⟩, .string ⟨#[]⟩, .string ⟨#[]⟩, .string ⟨#[]⟩, .int .i64 0, .int .i64 0, .string ⟨#[]⟩, .slice none 0 0, .string ⟨#[]⟩] from (show a17.eval (.tmp 12) = .agg #[.string ⟨#[]⟩, .string ⟨#[]⟩, .string ⟨#[]⟩, .string ⟨#[]⟩, .int .i64 0, .int .i64 0, .string ⟨#[]⟩, .slice none 0 0, .string ⟨#[]⟩] from T12)]; exact store_row R_b5 (by kernel_rfl) rfl (by simp [Value.oneCell']))) ?_
    obtain ⟨w19, hw⟩ : ∃ x : World, x = w18.setRow b5 #[.string ⟨#[]⟩, .string ⟨#[]⟩, .string ⟨#[]⟩, .string ⟨#[]⟩, .int .i64 0, .int .i64 0, .string ⟨#[]⟩, .slice none 0 0, .string ⟨#[]⟩] := ⟨_, rfl⟩
    rw [← hw]
    replace R_b4 := hw ▸ row_other R_b4 (by first | exact NE_b4_b5 | exact NE_b5_b4.symm)
    replace E : Ext w w19 := hw ▸ below_row E B_b5
    replace T1 : (fun v _ => v = .string s) (a17.at 1) w19 := T1
    replace T2 : (fun v _ => v = .pointer (some ⟨b4, 0, none⟩)) (a17.at 2) w19 := T2
    replace T4 : (fun v _ => v = .pointer (some ⟨b5, 0, none⟩)) (a17.at 4) w19 := T4
    replace T5 : (fun v _ => v = .int .i64 0) (a17.at 5) w19 := T5
    replace T6 : (fun v _ => v = .int .i64 (checkE m : Int)) (a17.at 6) w19 := T6
    replace T12 : (fun v _ => v = .agg #[.string ⟨#[]⟩, .string ⟨#[]⟩, .string ⟨#[]⟩, .string ⟨#[]⟩, .int .i64 0, .int .i64 0, .string ⟨#[]⟩, .slice none 0 0, .string ⟨#[]⟩]) (a17.at 12) w19 := T12
    replace T13 : (fun v _ => v = .int .i64 (checkE m : Int)) (a17.at 13) w19 := T13
    replace R_b5 : w19.heap[b5]? = some (.cells #[.string ⟨#[]⟩, .string ⟨#[]⟩, .string ⟨#[]⟩, .string ⟨#[]⟩, .int .i64 0, .int .i64 0, .string ⟨#[]⟩, .slice none 0 0, .string ⟨#[]⟩] 29 (0, 0)) := by rw [hw]; exact setRow_heap _ _ _ _ _ _ R_b5
    clear hw
    refine tail_val rfl rfl rfl (ex_move (.inr rfl) (v := .int .i64 (checkE m : Int)) (show a17.eval (.tmp 13) = .int .i64 (checkE m : Int) from T13)) ?_
    obtain ⟨a20, ha⟩ : ∃ x : Act, x = a17.put (some 5) (.int .i64 (checkE m : Int)) := ⟨_, rfl⟩
    rw [← ha]
    replace T1 : (fun v _ => v = .string s) (a20.at 1) w19 := by rw [ha, put_other rfl]; exact T1
    replace T2 : (fun v _ => v = .pointer (some ⟨b4, 0, none⟩)) (a20.at 2) w19 := by rw [ha, put_other rfl]; exact T2
    replace T4 : (fun v _ => v = .pointer (some ⟨b5, 0, none⟩)) (a20.at 4) w19 := by rw [ha, put_other rfl]; exact T4
    replace T6 : (fun v _ => v = .int .i64 (checkE m : Int)) (a20.at 6) w19 := by rw [ha, put_other rfl]; exact T6
    replace T12 : (fun v _ => v = .agg #[.string ⟨#[]⟩, .string ⟨#[]⟩, .string ⟨#[]⟩, .string ⟨#[]⟩, .int .i64 0, .int .i64 0, .string ⟨#[]⟩, .slice none 0 0, .string ⟨#[]⟩]) (a20.at 12) w19 := by rw [ha, put_other rfl]; exact T12
    replace T13 : (fun v _ => v = .int .i64 (checkE m : Int)) (a20.at 13) w19 := by rw [ha, put_other rfl]; exact T13
    replace T5 : (fun v _ => v = .int .i64 (checkE m : Int)) (a20.at 5) w19 := by rw [ha, put_same N (by decide)]; skip
    replace N := (ha ▸ put_size _ _ _ : a20.tmps.size = _).trans N
    replace D := (ha ▸ put_defers' _ _ _ : a20.defers = _).trans D
    clear ha
    clear T6
    clear T12
    clear T13
    refine hK16 _ _ ?_
    refine wp_ret ?_
    -- the end
    refine ret_c1 Tryd.results18 D T4 (load_row R_b5 Tryd.underlying29 rfl (by kernel_rfl)) T5 ?_
    exact ⟨_, rfl, E, pass1 w.heap.size C15⟩
  · clear T11
    refine wp_skip ?_
    refine hK7 _ _ ?_
    refine wp_seq_k (fun K21 hK21 => ?_)
    refine wp_seq_k (fun K22 hK22 => ?_)
    -- region 4: mail.go:196
    show (Code.region 4 (rg Tryd.f18 4) false).wp _ _ _ _
    refine plain_list (n := 2) (N := 40) (deps := [[], [0]]) (F := [(fun v _ => v = .string s), (fun v _ => v = .int .i64 (siteE s : Int))]) (by kernel_rfl) (by kernel_rfl) rfl (by kernel_rfl) ⟨(stab_eq _), (stab_eq _), trivial⟩ N (by kernel_rfl) ⟨?_, ?_, trivial⟩ ?_
    · -- 0 mail.go:196
      rintro aa ww hE hF ⟨-⟩
      have o1 : aa.eval (.tmp 1) = .string s := hF.carry (fun v _ => v = .string s) rfl (stab_eq _) hE T1
      exact opAt rfl (ok_run rfl (run_here rfl (ex_move (.inl rfl) o1) ( rfl)))
    · -- 1 mail.go:196
      rintro aa ww hE hF ⟨d0, -⟩
      replace d0 : aa.eval (.tmp 14) = .string s := d0
      exact opAt rfl (ok_run rfl (run_callR (ψ := (fun v _ => v = .int .i64 (siteE s : Int))) rfl Tryd.call29 (by
      simp only [List.map_toArray, List.map_cons, List.map_nil, d0]
      exact ret_same (mSite_c s _ (by first | with_reducible assumption | exact le_max (by omega) | (simp only [ByteArray.size_extract]; unfold maxLen at *; omega)))) (fun _ _ h =>  h)))
    intro a23 w24 hE hF hfac hap
    obtain ⟨f0, f1, -⟩ := hfac
    replace N := hF.size.trans N
    replace D := hF.defers.trans D
    replace R_b4 := hE.row R_b4
    replace R_b5 := hE.row R_b5
    replace T1 : (fun v _ => v = .string s) (a23.at 1) w24 := hF.carry (fun v _ => v = .string s) rfl (stab_eq _) hE T1
    replace T2 : (fun v _ => v = .pointer (some ⟨b4, 0, none⟩)) (a23.at 2) w24 := hF.carry (fun v _ => v = .pointer (some ⟨b4, 0, none⟩)) rfl (stab_eq _) hE T2
    replace T4 : (fun v _ => v = .pointer (some ⟨b5, 0, none⟩)) (a23.at 4) w24 := hF.carry (fun v _ => v = .pointer (some ⟨b5, 0, none⟩)) rfl (stab_eq _) hE T4
    replace T5 : (fun v _ => v = .int .i64 0) (a23.at 5) w24 := hF.carry (fun v _ => v = .int .i64 0) rfl (stab_eq _) hE T5
    clear T6
    have T15 : (fun v _ => v = .int .i64 (siteE s : Int)) (a23.at 15) w24 := f1
    replace E := E.trans hE
    clear hE hF hap
    show wpOps _ (rg Tryd.f18 4) _ [2] _ _
    refine tail_val rfl rfl rfl (ex_move (.inr rfl) (v := .int .i64 (siteE s : Int)) (show a23.eval (.tmp 15) = .int .i64 (siteE s : Int) from T15)) ?_
    obtain ⟨a25, ha⟩ : ∃ x : Act, x = a23.put (some 7) (.int .i64 (siteE s : Int)) := ⟨_, rfl⟩
    rw [← ha]
    replace T1 : (fun v _ => v = .string s) (a25.at 1) w24 := by rw [ha, put_other rfl]; exact T1
    replace T2 : (fun v _ => v = .pointer (some ⟨b4, 0, none⟩)) (a25.at 2) w24 := by rw [ha, put_other rfl]; exact T2
    replace T4 : (fun v _ => v = .pointer (some ⟨b5, 0, none⟩)) (a25.at 4) w24 := by rw [ha, put_other rfl]; exact T4
    replace T5 : (fun v _ => v = .int .i64 0) (a25.at 5) w24 := by rw [ha, put_other rfl]; exact T5
    replace T15 : (fun v _ => v = .int .i64 (siteE s : Int)) (a25.at 15) w24 := by rw [ha, put_other rfl]; exact T15
    have T7 : (fun v _ => v = .int .i64 (siteE s : Int)) (a25.at 7) w24 := by rw [ha, put_same N (by decide)]; skip
    replace N := (ha ▸ put_size _ _ _ : a25.tmps.size = _).trans N
    replace D := (ha ▸ put_defers' _ _ _ : a25.defers = _).trans D
    clear ha
    clear T15
    refine hK22 _ _ ?_
    refine wp_seq_k (fun K26 hK26 => ?_)
    -- region 5: mail.go:196
    show (Code.region 5 (rg Tryd.f18 5) false).wp _ _ _ _
    refine plain_list (n := 2) (N := 40) (deps := [[], [0]]) (F := [(fun v _ => v = .int .i64 (siteE s : Int)), (fun v _ => v = .bool ((siteE s : Int) != (0 : Int)))]) (by kernel_rfl) (by kernel_rfl) rfl (by kernel_rfl) ⟨(stab_eq _), (stab_eq _), trivial⟩ N (by kernel_rfl) ⟨?_, ?_, trivial⟩ ?_
    · -- 0 mail.go:196
      rintro aa ww hE hF ⟨-⟩
      have o7 : aa.eval (.tmp 7) = .int .i64 (siteE s : Int) := hF.carry (fun v _ => v = .int .i64 (siteE s : Int)) rfl (stab_eq _) hE T7
      exact opAt rfl (ok_run rfl (run_here rfl (ex_move (.inl rfl) o7) ( rfl)))
    · -- 1 mail.go:196
      rintro aa ww hE hF ⟨d0, -⟩
      replace d0 : aa.eval (.tmp 16) = .int .i64 (siteE s : Int) := d0
      exact opAt rfl (ok_run rfl (run_here rfl (ex_binOp rfl (by rw [show aa.eval (.tmp 16) = .int .i64 (siteE s : Int) from d0, show aa.eval (.const (.int .i64 0)) = .int .i64 0 from (ev_const (v := .int .i64 0))]; exact eqg_int) (by rw [show aa.eval (.tmp 16) = .int .i64 (siteE s : Int) from d0, show aa.eval (.const (.int .i64 0)) = .int .i64 0 from (ev_const (v := .int .i64 0))]; exact bin_neq)) ( rfl)))
    intro a27 w28 hE hF hfac hap
    obtain ⟨f0, f1, -⟩ := hfac
    replace N := hF.size.trans N
    replace D := hF.defers.trans D
    replace R_b4 := hE.row R_b4
    replace R_b5 := hE.row R_b5
    replace T1 : (fun v _ => v = .string s) (a27.at 1) w28 := hF.carry (fun v _ => v = .string s) rfl (stab_eq _) hE T1
    replace T2 : (fun v _ => v = .pointer (some ⟨b4, 0, none⟩)) (a27.at 2) w28 := hF.carry (fun v _ => v = .pointer (some ⟨b4, 0, none⟩)) rfl (stab_eq _) hE T2
    replace T4 : (fun v _ => v = .pointer (some ⟨b5, 0, none⟩)) (a27.at 4) w28 := hF.carry (fun v _ => v = .pointer (some ⟨b5, 0, none⟩)) rfl (stab_eq _) hE T4
    replace T5 : (fun v _ => v = .int .i64 0) (a27.at 5) w28 := hF.carry (fun v _ => v = .int .i64 0) rfl (stab_eq _) hE T5
    replace T7 : (fun v _ => v = .int .i64 (siteE s : Int)) (a27.at 7) w28 := hF.carry (fun v _ => v = .int .i64 (siteE s : Int)) rfl (stab_eq _) hE T7
    have T17 : (fun v _ => v = .bool ((siteE s : Int) != (0 : Int))) (a27.at 17) w28 := f1
    replace E := E.trans hE
    clear hE hF hap
    show wpOps _ (rg Tryd.f18 5) _ [] _ _
    refine hK26 _ _ ?_
    refine wp_cond_split (t := (siteE s : Int) != (0 : Int)) T17 (fun C29 => ?_) (fun C29 => ?_)
    · clear T17
      refine wp_seq_k (fun K30 hK30 => ?_)
      -- region 6: mail.go:197
      show (Code.region 6 (rg Tryd.f18 6) false).wp _ _ _ _
      refine plain_list (n := 2) (N := 40) (deps := [[], []]) (F := [(fun v _ => v = .agg #[.string ⟨#[]⟩, .string ⟨#[]⟩, .string ⟨#[]⟩, .string ⟨#[]⟩, .int .i64 0, .int .i64 0, .string ⟨#[]⟩, .slice none 0 0, .string ⟨#[]⟩]), (fun v _ => v = .int .i64 (siteE s : Int))]) (by kernel_rfl) (by kernel_rfl) rfl (by kernel_rfl) ⟨(stab_eq _), (stab_eq _), trivial⟩ N (by kernel_rfl) ⟨?_, ?_, trivial⟩ ?_
      · -- 0 mail.go:197
        rintro aa ww hE hF ⟨-⟩
        exact opAt rfl (ok_run rfl (run_here rfl (ex_build rfl (by simp [Instr.build, Tryd.zeroValue29, Tryd.runUnderlying29, Instr.fill, Value.cells, Tryd.sizeOf3, Tryd.sizeOf9, Tryd.sizeOf24, Tryd.sizeOf27])) ( rfl)))
      · -- 1 mail.go:197
        rintro aa ww hE hF ⟨-⟩
        have o7 : aa.eval (.tmp 7) = .int .i64 (siteE s : Int) := hF.carry (fun v _ => v = .int .i64 (siteE s : Int)) rfl (stab_eq _) hE T7
        exact opAt rfl (ok_run rfl (run_here rfl (ex_move (.inl rfl) o7) ( rfl)))
      intro a31 w32 hE hF hfac hap
      obtain ⟨f0, f1, -⟩ := hfac
      replace N := hF.size.trans N
      replace D := hF.defers.trans D
      replace R_b4 := hE.row R_b4
      replace R_b5 := hE.row R_b5
      replace T1 : (fun v _ => v = .string s) (a31.at 1) w32 := hF.carry (fun v _ => v = .string s) rfl (stab_eq _) hE T1
      replace T2 : (fun v _ => v = .pointer (some ⟨b4, 0, none⟩)) (a31.at 2) w32 := hF.carry (fun v _ => v = .pointer (some ⟨b4, 0, none⟩)) rfl (stab_eq _) hE T2
      replace T4 : (fun v _ => v = .pointer (some ⟨b5, 0, none⟩)) (a31.at 4) w32 := hF.carry (fun v _ => v = .pointer (some ⟨b5, 0, none⟩)) rfl (stab_eq _) hE T4
      replace T5 : (fun v _ => v = .int .i64 0) (a31.at 5) w32 := hF.carry (fun v _ => v = .int .i64 0) rfl (stab_eq _) hE T5
      replace T7 : (fun v _ => v = .int .i64 (siteE s : Int)) (a31.at 7) w32 := hF.carry (fun v _ => v = .int .i64 (siteE s : Int)) rfl (stab_eq _) hE T7
      have T18 : (fun v _ => v = .agg #[.string ⟨#[]⟩, .string ⟨#[]⟩, .string ⟨#[]⟩, .string ⟨#[]⟩, .int .i64 0, .int .i64 0, .string ⟨#[]⟩, .slice none 0 0, .string ⟨#[]⟩]) (a31.at 18) w32 := f0
      have T19 : (fun v _ => v = .int .i64 (siteE s : Int)) (a31.at 19) w32 := f1
      replace E := E.trans hE
      clear hE hF hap
      show wpOps _ (rg Tryd.f18 6) _ [2, 3] _ _
      refine tail_do rfl rfl rfl (ex_store rfl (show a31.eval (.tmp 4) = .pointer (some ⟨b5, 0, none⟩) from T4) (by rw [show a31.eval (.tmp 18) = .agg #[.string ⟨#[]⟩, .string ⟨#[]⟩, .string ⟨#[]⟩, .string ⟨#[]⟩, .int .i64 0, .int .i64 0, .string ⟨#[]⟩, .slice none 0 0, .string ⟨#[]⟩] from (show a31.eval (.tmp 18) = .agg #[.string ⟨#[]⟩, .string ⟨#[]⟩, .string ⟨#[]⟩, .string ⟨#[]⟩, .int .i64 0, .int .i64 0, .string ⟨#[]⟩, .slice none 0 0, .string ⟨#[]⟩] from T18)]; exact store_row R_b5 (by kernel_rfl) rfl (by simp [Value.oneCell']))) ?_
      obtain ⟨w33, hw⟩ : ∃ x : World, x = w32.setRow b5 #[.string ⟨#[]⟩, .string ⟨#[]⟩, .string ⟨#[]⟩, .string ⟨#[]⟩, .int .i64 0, .int .i64 0, .string ⟨#[]⟩, .slice none 0 0, .string ⟨#[]⟩] := ⟨_, rfl⟩
      rw [← hw]
      replace R_b4 := hw ▸ row_other R_b4 (by first | exact NE_b4_b5 | exact NE_b5_b4.symm)
      replace E : Ext w w33 := hw ▸ below_row E B_b5
      replace T1 : (fun v _ => v = .string s) (a31.at 1) w33 := T1
      replace T2 : (fun v _ => v = .pointer (some ⟨b4, 0, none⟩)) (a31.at 2) w33 := T2
      replace T4 : (fun v _ => v = .pointer (some ⟨b5, 0, none⟩)) (a31.at 4) w33 := T4
      replace T5 : (fun v _ => v = .int .i64 0) (a31.at 5) w33 := T5
      replace T7 : (fun v _ => v = .int .i64 (siteE s : Int)) (a31.at 7) w33 := T7
      replace T18 : (fun v _ => v = .agg #[.string ⟨#[]⟩, .string ⟨#[]⟩, .string ⟨#[]⟩, .string ⟨#[]⟩, .int .i64 0, .int .i64 0, .string ⟨#[]⟩, .slice none 0 0, .string ⟨#[]⟩]) (a31.at 18) w33 := T18
      replace T19 : (fun v _ => v = .int .i64 (siteE s : Int)) (a31.at 19) w33 := T19
      replace R_b5 : w33.heap[b5]? = some (.cells #[.string ⟨#[]⟩, .string ⟨#[]⟩, .string ⟨#[]⟩, .string ⟨#[]⟩, .int .i64 0, .int .i64 0, .string ⟨#[]⟩, .slice none 0 0, .string ⟨#[]⟩] 29 (0, 0)) := by rw [hw]; exact setRow_heap _ _ _ _ _ _ R_b5
      clear hw
      refine tail_val rfl rfl rfl (ex_move (.inr rfl) (v := .int .i64 (siteE s : Int)) (show a31.eval (.tmp 19) = .int .i64 (siteE s : Int) from T19)) ?_
      obtain ⟨a34, ha⟩ : ∃ x : Act, x = a31.put (some 5) (.int .i64 (siteE s : Int)) := ⟨_, rfl⟩
      rw [← ha]
      replace T1 : (fun v _ => v = .string s) (a34.at 1) w33 := by rw [ha, put_other rfl]; exact T1
      replace T2 : (fun v _ => v = .pointer (some ⟨b4, 0, none⟩)) (a34.at 2) w33 := by rw [ha, put_other rfl]; exact T2
      replace T4 : (fun v _ => v = .pointer (some ⟨b5, 0, none⟩)) (a34.at 4) w33 := by rw [ha, put_other rfl]; exact T4
      replace T7 : (fun v _ => v = .int .i64 (siteE s : Int)) (a34.at 7) w33 := by rw [ha, put_other rfl]; exact T7
      replace T18 : (fun v _ => v = .agg #[.string ⟨#[]⟩, .string ⟨#[]⟩, .string ⟨#[]⟩, .string ⟨#[]⟩, .int .i64 0, .int .i64 0, .string ⟨#[]⟩, .slice none 0 0, .string ⟨#[]⟩]) (a34.at 18) w33 := by rw [ha, put_other rfl]; exact T18
      replace T19 : (fun v _ => v = .int .i64 (siteE s : Int)) (a34.at 19) w33 := by rw [ha, put_other rfl]; exact T19
      replace T5 : (fun v _ => v = .int .i64 (siteE s : Int)) (a34.at 5) w33 := by rw [ha, put_same N (by decide)]; skip
      replace N := (ha ▸ put_size _ _ _ : a34.tmps.size = _).trans N
      replace D := (ha ▸ put_defers' _ _ _ : a34.defers = _).trans D
      clear ha
      clear T7
      clear T18
      clear T19
      refine hK30 _ _ ?_
      refine wp_ret ?_
      -- the end
      refine ret_c1 Tryd.results18 D T4 (load_row R_b5 Tryd.underlying29 rfl (by kernel_rfl)) T5 ?_
      exact ⟨_, rfl, E, pass2 w.heap.size C15 C29⟩
    · clear T17
      refine wp_skip ?_
      refine hK21 _ _ ?_
      refine wp_seq_k (fun K35 hK35 => ?_)
      refine wp_block ?_
      refine wp_seq_k (fun K36 hK36 => ?_)
      -- region 7: mail.go:200
      show (Code.region 7 (rg Tryd.f18 7) false).wp _ _ _ _
      refine plain_list (n := 4) (N := 40) (deps := [[], [0], [], [1, 2]]) (F := [(fun v _ => v = .pointer (some ⟨b4, 7, none⟩)), (IsStrs m.hops), (fun v _ => v = .string s), (fun v _ => v = .bool (Lib.containsS m.hops s))]) (by kernel_rfl) (by kernel_rfl) rfl (by kernel_rfl) ⟨(stab_eq _), (stab_strs _), (stab_eq _), (stab_eq _), trivial⟩ N (by kernel_rfl) ⟨?_, ?_, ?_, ?_, trivial⟩ ?_
      · -- 0 mail.go:200
        rintro aa ww hE hF ⟨-⟩
        have o2 : aa.eval (.tmp 2) = .pointer (some ⟨b4, 0, none⟩) := hF.carry (fun v _ => v = .pointer (some ⟨b4, 0, none⟩)) rfl (stab_eq _) hE T2
        exact opAt rfl (ok_run rfl (run_here rfl (ex_fieldAddr rfl o2 Tryd.underlying29 rfl (fun w => ⟨_, Tryd.sizeOf24 w⟩) rfl) ( rfl)))
      · -- 1 mail.go:200
        rintro aa ww hE hF ⟨d0, -⟩
        replace d0 : aa.eval (.tmp 21) = .pointer (some ⟨b4, 7, none⟩) := d0
        exact opAt rfl (ok_run rfl (run_here rfl (ex_load rfl d0 (load_cell Tryd.isAgg24 ((cell_row (hE.row R_b4) 7).trans rfl))) ( (sm.below (E.trans hE)))))
      · -- 2 mail.go:200
        rintro aa ww hE hF ⟨-⟩
        have o1 : aa.eval (.tmp 1) = .string s := hF.carry (fun v _ => v = .string s) rfl (stab_eq _) hE T1
        exact opAt rfl (ok_run rfl (run_here rfl (ex_move (.inl rfl) o1) ( rfl)))
      · -- 3 mail.go:200
        rintro aa ww hE hF ⟨d1, d2, -⟩
        replace d1 : (IsStrs m.hops) (aa.eval (.tmp 22)) ww := d1
        replace d2 : aa.eval (.tmp 23) = .string s := d2
        exact opAt rfl (ok_run rfl (run_callR (ψ := (fun v _ => v = .bool (Lib.containsS m.hops s))) rfl Tryd.call40 (by simp only [List.map_toArray, List.map_cons, List.map_nil, d2]; exact contains_e _ (by first | with_reducible assumption | omega) d1) (fun _ _ h =>  h)))
      intro a37 w38 hE hF hfac hap
      obtain ⟨f0, f1, f2, f3, -⟩ := hfac
      replace N := hF.size.trans N
      replace D := hF.defers.trans D
      replace R_b4 := hE.row R_b4
      replace R_b5 := hE.row R_b5
      replace T1 : (fun v _ => v = .string s) (a37.at 1) w38 := hF.carry (fun v _ => v = .string s) rfl (stab_eq _) hE T1
      replace T2 : (fun v _ => v = .pointer (some ⟨b4, 0, none⟩)) (a37.at 2) w38 := hF.carry (fun v _ => v = .pointer (some ⟨b4, 0, none⟩)) rfl (stab_eq _) hE T2
      replace T4 : (fun v _ => v = .pointer (some ⟨b5, 0, none⟩)) (a37.at 4) w38 := hF.carry (fun v _ => v = .pointer (some ⟨b5, 0, none⟩)) rfl (stab_eq _) hE T4
      replace T5 : (fun v _ => v = .int .i64 0) (a37.at 5) w38 := hF.carry (fun v _ => v = .int .i64 0) rfl (stab_eq _) hE T5
      clear T7
      have T24 : (fun v _ => v = .bool (Lib.containsS m.hops s)) (a37.at 24) w38 := f3
      replace E := E.trans hE
      clear hE hF hap
      show wpOps _ (rg Tryd.f18 7) _ [4] _ _
      refine tail_val rfl rfl rfl (ex_move (.inr rfl) (v := .bool (Lib.containsS m.hops s)) (show a37.eval (.tmp 24) = .bool (Lib.containsS m.hops s) from T24)) ?_
      obtain ⟨a39, ha⟩ : ∃ x : Act, x = a37.put (some 20) (.bool (Lib.containsS m.hops s)) := ⟨_, rfl⟩
      rw [← ha]
      replace T1 : (fun v _ => v = .string s) (a39.at 1) w38 := by rw [ha, put_other rfl]; exact T1
      replace T2 : (fun v _ => v = .pointer (some ⟨b4, 0, none⟩)) (a39.at 2) w38 := by rw [ha, put_other rfl]; exact T2
      replace T4 : (fun v _ => v = .pointer (some ⟨b5, 0, none⟩)) (a39.at 4) w38 := by rw [ha, put_other rfl]; exact T4
      replace T5 : (fun v _ => v = .int .i64 0) (a39.at 5) w38 := by rw [ha, put_other rfl]; exact T5
      replace T24 : (fun v _ => v = .bool (Lib.containsS m.hops s)) (a39.at 24) w38 := by rw [ha, put_other rfl]; exact T24
      have T20 : (fun v _ => v = .bool (Lib.containsS m.hops s)) (a39.at 20) w38 := by rw [ha, put_same N (by decide)]; skip
      replace N := (ha ▸ put_size _ _ _ : a39.tmps.size = _).trans N
      replace D := (ha ▸ put_defers' _ _ _ : a39.defers = _).trans D
      clear ha
      clear T24
      refine hK36 _ _ ?_
      refine wp_cond_split (t := Lib.containsS m.hops s) T20 (fun C40 => ?_) (fun C40 => ?_)
      · clear T20
        refine wp_seq_k (fun K41 hK41 => ?_)
        -- region 8: mail.go:201
        show (Code.region 8 (rg Tryd.f18 8) false).wp _ _ _ _
        refine plain_list (n := 1) (N := 40) (deps := [[]]) (F := [(fun v _ => v = .agg #[.string ⟨#[]⟩, .string ⟨#[]⟩, .string ⟨#[]⟩, .string ⟨#[]⟩, .int .i64 0, .int .i64 0, .string ⟨#[]⟩, .slice none 0 0, .string ⟨#[]⟩])]) (by kernel_rfl) (by kernel_rfl) rfl (by kernel_rfl) ⟨(stab_eq _), trivial⟩ N (by kernel_rfl) ⟨?_, trivial⟩ ?_
        · -- 0 mail.go:201
          rintro aa ww hE hF ⟨-⟩
          exact opAt rfl (ok_run rfl (run_here rfl (ex_build rfl (by simp [Instr.build, Tryd.zeroValue29, Tryd.runUnderlying29, Instr.fill, Value.cells, Tryd.sizeOf3, Tryd.sizeOf9, Tryd.sizeOf24, Tryd.sizeOf27])) ( rfl)))
        intro a42 w43 hE hF hfac hap
        obtain ⟨f0, -⟩ := hfac
        replace N := hF.size.trans N
        replace D := hF.defers.trans D
        replace R_b4 := hE.row R_b4
        replace R_b5 := hE.row R_b5
        replace T1 : (fun v _ => v = .string s) (a42.at 1) w43 := hF.carry (fun v _ => v = .string s) rfl (stab_eq _) hE T1
        replace T2 : (fun v _ => v = .pointer (some ⟨b4, 0, none⟩)) (a42.at 2) w43 := hF.carry (fun v _ => v = .pointer (some ⟨b4, 0, none⟩)) rfl (stab_eq _) hE T2
        replace T4 : (fun v _ => v = .pointer (some ⟨b5, 0, none⟩)) (a42.at 4) w43 := hF.carry (fun v _ => v = .pointer (some ⟨b5, 0, none⟩)) rfl (stab_eq _) hE T4
        replace T5 : (fun v _ => v = .int .i64 0) (a42.at 5) w43 := hF.carry (fun v _ => v = .int .i64 0) rfl (stab_eq _) hE T5
        have T25 : (fun v _ => v = .agg #[.string ⟨#[]⟩, .string ⟨#[]⟩, .string ⟨#[]⟩, .string ⟨#[]⟩, .int .i64 0, .int .i64 0, .string ⟨#[]⟩, .slice none 0 0, .string ⟨#[]⟩]) (a42.at 25) w43 := f0
        replace E := E.trans hE
        clear hE hF hap
        show wpOps _ (rg Tryd.f18 8) _ [1, 2] _ _
        refine tail_do rfl rfl rfl (ex_store rfl (show a42.eval (.tmp 4) = .pointer (some ⟨b5, 0, none⟩) from T4) (by rw [show a42.eval (.tmp 25) = .agg #[.string ⟨#[]⟩, .string ⟨#[]⟩, .string ⟨#[]⟩, .string ⟨#[]⟩, .int .i64 0, .int .i64 0, .string ⟨#[]⟩, .slice none 0 0, .string ⟨#[]⟩] from (show a42.eval (.tmp 25) = .agg #[.string ⟨#[]⟩, .string ⟨#[]⟩, .string ⟨#[]⟩, .string ⟨#[]⟩, .int .i64 0, .int .i64 0, .string ⟨#[]⟩, .slice none 0 0, .string ⟨#[]⟩] from T25)]; exact store_row R_b5 (by kernel_rfl) rfl (by simp [Value.oneCell']))) ?_
        obtain ⟨w44, hw⟩ : ∃ x : World, x = w43.setRow b5 #[.string ⟨#[]⟩, .string ⟨#[]⟩, .string ⟨#[]⟩, .string ⟨#[]⟩, .int .i64 0, .int .i64 0, .string ⟨#[]⟩, .slice none 0 0, .string ⟨#[]⟩] := ⟨_, rfl⟩
        rw [← hw]
        replace R_b4 := hw ▸ row_other R_b4 (by first | exact NE_b4_b5 | exact NE_b5_b4.symm)
        replace E : Ext w w44 := hw ▸ below_row E B_b5
        replace T1 : (fun v _ => v = .string s) (a42.at 1) w44 := T1
        replace T2 : (fun v _ => v = .pointer (some ⟨b4, 0, none⟩)) (a42.at 2) w44 := T2
        replace T4 : (fun v _ => v = .pointer (some ⟨b5, 0, none⟩)) (a42.at 4) w44 := T4
        replace T5 : (fun v _ => v = .int .i64 0) (a42.at 5) w44 := T5
        replace T25 : (fun v _ => v = .agg #[.string ⟨#[]⟩, .string ⟨#[]⟩, .string ⟨#[]⟩, .string ⟨#[]⟩, .int .i64 0, .int .i64 0, .string ⟨#[]⟩, .slice none 0 0, .string ⟨#[]⟩]) (a42.at 25) w44 := T25
        replace R_b5 : w44.heap[b5]? = some (.cells #[.string ⟨#[]⟩, .string ⟨#[]⟩, .string ⟨#[]⟩, .string ⟨#[]⟩, .int .i64 0, .int .i64 0, .string ⟨#[]⟩, .slice none 0 0, .string ⟨#[]⟩] 29 (0, 0)) := by rw [hw]; exact setRow_heap _ _ _ _ _ _ R_b5
        clear hw
        refine tail_val rfl rfl rfl (ex_move (.inr rfl) (v := .int .i64 24) (ev_const (v := .int .i64 24))) ?_
        obtain ⟨a45, ha⟩ : ∃ x : Act, x = a42.put (some 5) (.int .i64 24) := ⟨_, rfl⟩
        rw [← ha]
        replace T1 : (fun v _ => v = .string s) (a45.at 1) w44 := by rw [ha, put_other rfl]; exact T1
        replace T2 : (fun v _ => v = .pointer (some ⟨b4, 0, none⟩)) (a45.at 2) w44 := by rw [ha, put_other rfl]; exact T2
        replace T4 : (fun v _ => v = .pointer (some ⟨b5, 0, none⟩)) (a45.at 4) w44 := by rw [ha, put_other rfl]; exact T4
        replace T25 : (fun v _ => v = .agg #[.string ⟨#[]⟩, .string ⟨#[]⟩, .string ⟨#[]⟩, .string ⟨#[]⟩, .int .i64 0, .int .i64 0, .string ⟨#[]⟩, .slice none 0 0, .string ⟨#[]⟩]) (a45.at 25) w44 := by rw [ha, put_other rfl]; exact T25
        replace T5 : (fun v _ => v = .int .i64 24) (a45.at 5) w44 := by rw [ha, put_same N (by decide)]; skip
        replace N := (ha ▸ put_size _ _ _ : a45.tmps.size = _).trans N
        replace D := (ha ▸ put_defers' _ _ _ : a45.defers = _).trans D
        clear ha
        clear T25
        refine hK41 _ _ ?_
        refine wp_ret ?_
        -- the end
        refine ret_c1 Tryd.results18 D T4 (load_row R_b5 Tryd.underlying29 rfl (by kernel_rfl)) T5 ?_
        exact ⟨_, rfl, E, pass3 w.heap.size C15 C29 C40⟩
      · clear T20
        refine wp_seq_k (fun K46 hK46 => ?_)
        -- region 9: mail.go:202
        show (Code.region 9 (rg Tryd.f18 9) false).wp _ _ _ _
        refine plain_list (n := 4) (N := 40) (deps := [[], [0], [1], [2]]) (F := [(fun v _ => v = .pointer (some ⟨b4, 7, none⟩)), (IsStrs m.hops), (fun v _ => v = .int .i64 (m.hops.length : Int)), (fun v _ => v = .bool (decide ((16 : Int) ≤ (m.hops.length : Int))))]) (by kernel_rfl) (by kernel_rfl) rfl (by kernel_rfl) ⟨(stab_eq _), (stab_strs _), (stab_eq _), (stab_eq _), trivial⟩ N (by kernel_rfl) ⟨?_, ?_, ?_, ?_, trivial⟩ ?_
        · -- 0 mail.go:202
          rintro aa ww hE hF ⟨-⟩
          have o2 : aa.eval (.tmp 2) = .pointer (some ⟨b4, 0, none⟩) := hF.carry (fun v _ => v = .pointer (some ⟨b4, 0, none⟩)) rfl (stab_eq _) hE T2
          exact opAt rfl (ok_run rfl (run_here rfl (ex_fieldAddr rfl o2 Tryd.underlying29 rfl (fun w => ⟨_, Tryd.sizeOf24 w⟩) rfl) ( rfl)))
        · -- 1 mail.go:202
          rintro aa ww hE hF ⟨d0, -⟩
          replace d0 : aa.eval (.tmp 27) = .pointer (some ⟨b4, 7, none⟩) := d0
          exact opAt rfl (ok_run rfl (run_here rfl (ex_load rfl d0 (load_cell Tryd.isAgg24 ((cell_row (hE.row R_b4) 7).trans rfl))) ( (sm.below (E.trans hE)))))
        · -- 2 mail.go:202
          rintro aa ww hE hF ⟨d1, -⟩
          replace d1 : (IsStrs m.hops) (aa.eval (.tmp 28)) ww := d1
          exact opAt rfl (ok_run rfl (run_here rfl (ex_builtin rfl (fun cs => by obtain ⟨_, _, e⟩ := strs_form (d1); simp only [List.map_toArray, List.map_cons, List.map_nil, e]; exact len_slice Tryd.underlying24)) ( rfl)))
        · -- 3 mail.go:202
          rintro aa ww hE hF ⟨d2, -⟩
          replace d2 : aa.eval (.tmp 29) = .int .i64 (m.hops.length : Int) := d2
          exact opAt rfl (ok_run rfl (run_here rfl (ex_binOp rfl (by rw [show aa.eval (.tmp 29) = .int .i64 (m.hops.length : Int) from d2, show aa.eval (.const (.int .i64 16)) = .int .i64 16 from (ev_const (v := .int .i64 16))]; exact eqg_int) (by rw [show aa.eval (.tmp 29) = .int .i64 (m.hops.length : Int) from d2, show aa.eval (.const (.int .i64 16)) = .int .i64 16 from (ev_const (v := .int .i64 16))]; exact bin_geq)) ( rfl)))
        intro a47 w48 hE hF hfac hap
        obtain ⟨f0, f1, f2, f3, -⟩ := hfac
        replace N := hF.size.trans N
        replace D := hF.defers.trans D
        replace R_b4 := hE.row R_b4
        replace R_b5 := hE.row R_b5
        replace T1 : (fun v _ => v = .string s) (a47.at 1) w48 := hF.carry (fun v _ => v = .string s) rfl (stab_eq _) hE T1
        replace T2 : (fun v _ => v = .pointer (some ⟨b4, 0, none⟩)) (a47.at 2) w48 := hF.carry (fun v _ => v = .pointer (some ⟨b4, 0, none⟩)) rfl (stab_eq _) hE T2
        replace T4 : (fun v _ => v = .pointer (some ⟨b5, 0, none⟩)) (a47.at 4) w48 := hF.carry (fun v _ => v = .pointer (some ⟨b5, 0, none⟩)) rfl (stab_eq _) hE T4
        replace T5 : (fun v _ => v = .int .i64 0) (a47.at 5) w48 := hF.carry (fun v _ => v = .int .i64 0) rfl (stab_eq _) hE T5
        have T30 : (fun v _ => v = .bool (decide ((16 : Int) ≤ (m.hops.length : Int)))) (a47.at 30) w48 := f3
        replace E := E.trans hE
        clear hE hF hap
        show wpOps _ (rg Tryd.f18 9) _ [4] _ _
        refine tail_val rfl rfl rfl (ex_move (.inr rfl) (v := .bool (decide ((16 : Int) ≤ (m.hops.length : Int)))) (show a47.eval (.tmp 30) = .bool (decide ((16 : Int) ≤ (m.hops.length : Int))) from T30)) ?_
        obtain ⟨a49, ha⟩ : ∃ x : Act, x = a47.put (some 26) (.bool (decide ((16 : Int) ≤ (m.hops.length : Int)))) := ⟨_, rfl⟩
        rw [← ha]
        replace T1 : (fun v _ => v = .string s) (a49.at 1) w48 := by rw [ha, put_other rfl]; exact T1
        replace T2 : (fun v _ => v = .pointer (some ⟨b4, 0, none⟩)) (a49.at 2) w48 := by rw [ha, put_other rfl]; exact T2
        replace T4 : (fun v _ => v = .pointer (some ⟨b5, 0, none⟩)) (a49.at 4) w48 := by rw [ha, put_other rfl]; exact T4
        replace T5 : (fun v _ => v = .int .i64 0) (a49.at 5) w48 := by rw [ha, put_other rfl]; exact T5
        replace T30 : (fun v _ => v = .bool (decide ((16 : Int) ≤ (m.hops.length : Int)))) (a49.at 30) w48 := by rw [ha, put_other rfl]; exact T30
        have T26 : (fun v _ => v = .bool (decide ((16 : Int) ≤ (m.hops.length : Int)))) (a49.at 26) w48 := by rw [ha, put_same N (by decide)]; skip
        replace N := (ha ▸ put_size _ _ _ : a49.tmps.size = _).trans N
        replace D := (ha ▸ put_defers' _ _ _ : a49.defers = _).trans D
        clear ha
        clear T30
        refine hK46 _ _ ?_
        refine wp_cond_split (t := decide ((16 : Int) ≤ (m.hops.length : Int))) T26 (fun C50 => ?_) (fun C50 => ?_)
        · clear T26
          refine wp_seq_k (fun K51 hK51 => ?_)
          -- region 10: mail.go:203
          show (Code.region 10 (rg Tryd.f18 10) false).wp _ _ _ _
          refine plain_list (n := 1) (N := 40) (deps := [[]]) (F := [(fun v _ => v = .agg #[.string ⟨#[]⟩, .string ⟨#[]⟩, .string ⟨#[]⟩, .string ⟨#[]⟩, .int .i64 0, .int .i64 0, .string ⟨#[]⟩, .slice none 0 0, .string ⟨#[]⟩])]) (by kernel_rfl) (by kernel_rfl) rfl (by kernel_rfl) ⟨(stab_eq _), trivial⟩ N (by kernel_rfl) ⟨?_, trivial⟩ ?_
          · -- 0 mail.go:203
            rintro aa ww hE hF ⟨-⟩
            exact opAt rfl (ok_run rfl (run_here rfl (ex_build rfl (by simp [Instr.build, Tryd.zeroValue29, Tryd.runUnderlying29, Instr.fill, Value.cells, Tryd.sizeOf3, Tryd.sizeOf9, Tryd.sizeOf24, Tryd.sizeOf27])) ( rfl)))
          intro a52 w53 hE hF hfac hap
          obtain ⟨f0, -⟩ := hfac
          replace N := hF.size.trans N
          replace D := hF.defers.trans D
          replace R_b4 := hE.row R_b4
          replace R_b5 := hE.row R_b5
          replace T1 : (fun v _ => v = .string s) (a52.at 1) w53 := hF.carry (fun v _ => v = .string s) rfl (stab_eq _) hE T1
          replace T2 : (fun v _ => v = .pointer (some ⟨b4, 0, none⟩)) (a52.at 2) w53 := hF.carry (fun v _ => v = .pointer (some ⟨b4, 0, none⟩)) rfl (stab_eq _) hE T2
          replace T4 : (fun v _ => v = .pointer (some ⟨b5, 0, none⟩)) (a52.at 4) w53 := hF.carry (fun v _ => v = .pointer (some ⟨b5, 0, none⟩)) rfl (stab_eq _) hE T4
          replace T5 : (fun v _ => v = .int .i64 0) (a52.at 5) w53 := hF.carry (fun v _ => v = .int .i64 0) rfl (stab_eq _) hE T5
          have T31 : (fun v _ => v = .agg #[.string ⟨#[]⟩, .string ⟨#[]⟩, .string ⟨#[]⟩, .string ⟨#[]⟩, .int .i64 0, .int .i64 0, .string ⟨#[]⟩, .slice none 0 0, .string ⟨#[]⟩]) (a52.at 31) w53 := f0
          replace E := E.trans hE
          clear hE hF hap
          show wpOps _ (rg Tryd.f18 10) _ [1, 2] _ _
          refine tail_do rfl rfl rfl (ex_store rfl (show a52.eval (.tmp 4) = .pointer (some ⟨b5, 0, none⟩) from T4) (by rw [show a52.eval (.tmp 31) = .agg #[.string ⟨#[]⟩, .string ⟨#[]⟩, .string ⟨#[]⟩, .string ⟨#[]⟩, .int .i64 0, .int .i64 0, .string ⟨#[]⟩, .slice none 0 0, .string ⟨#[]⟩] from (show a52.eval (.tmp 31) = .agg #[.string ⟨#[]⟩, .string ⟨#[]⟩, .string ⟨#[]⟩, .string ⟨#[]⟩, .int .i64 0, .int .i64 0, .string ⟨#[]⟩, .slice none 0 0, .string ⟨#[]⟩] from T31)]; exact store_row R_b5 (by kernel_rfl) rfl (by simp [Value.oneCell']))) ?_
          obtain ⟨w54, hw⟩ : ∃ x : World, x = w53.setRow b5 #[.string ⟨#[]⟩, .string ⟨#[]⟩, .string ⟨#[]⟩, .string ⟨#[]⟩, .int .i64 0, .int .i64 0, .string ⟨#[]⟩, .slice none 0 0, .string ⟨#[]⟩] := ⟨_, rfl⟩
          rw [← hw]
          replace R_b4 := hw ▸ row_other R_b4 (by first | exact NE_b4_b5 | exact NE_b5_b4.symm)
          replace E : Ext w w54 := hw ▸ below_row E B_b5
          replace T1 : (fun v _ => v = .string s) (a52.at 1) w54 := T1
          replace T2 : (fun v _ => v = .pointer (some ⟨b4, 0, none⟩)) (a52.at 2) w54 := T2
          replace T4 : (fun v _ => v = .pointer (some ⟨b5, 0, none⟩)) (a52.at 4) w54 := T4
          replace T5 : (fun v _ => v = .int .i64 0) (a52.at 5) w54 := T5
          replace T31 : (fun v _ => v = .agg #[.string ⟨#[]⟩, .string ⟨#[]⟩, .string ⟨#[]⟩, .string ⟨#[]⟩, .int .i64 0, .int .i64 0, .string ⟨#[]⟩, .slice none 0 0, .string ⟨#[]⟩]) (a52.at 31) w54 := T31
          replace R_b5 : w54.heap[b5]? = some (.cells #[.string ⟨#[]⟩, .string ⟨#[]⟩, .string ⟨#[]⟩, .string ⟨#[]⟩, .int .i64 0, .int .i64 0, .string ⟨#[]⟩, .slice none 0 0, .string ⟨#[]⟩] 29 (0, 0)) := by rw [hw]; exact setRow_heap _ _ _ _ _ _ R_b5
          clear hw
          refine tail_val rfl rfl rfl (ex_move (.inr rfl) (v := .int .i64 9) (ev_const (v := .int .i64 9))) ?_
          obtain ⟨a55, ha⟩ : ∃ x : Act, x = a52.put (some 5) (.int .i64 9) := ⟨_, rfl⟩
          rw [← ha]
          replace T1 : (fun v _ => v = .string s) (a55.at 1) w54 := by rw [ha, put_other rfl]; exact T1
          replace T2 : (fun v _ => v = .pointer (some ⟨b4, 0, none⟩)) (a55.at 2) w54 := by rw [ha, put_other rfl]; exact T2
          replace T4 : (fun v _ => v = .pointer (some ⟨b5, 0, none⟩)) (a55.at 4) w54 := by rw [ha, put_other rfl]; exact T4
          replace T31 : (fun v _ => v = .agg #[.string ⟨#[]⟩, .string ⟨#[]⟩, .string ⟨#[]⟩, .string ⟨#[]⟩, .int .i64 0, .int .i64 0, .string ⟨#[]⟩, .slice none 0 0, .string ⟨#[]⟩]) (a55.at 31) w54 := by rw [ha, put_other rfl]; exact T31
          replace T5 : (fun v _ => v = .int .i64 9) (a55.at 5) w54 := by rw [ha, put_same N (by decide)]; skip
          replace N := (ha ▸ put_size _ _ _ : a55.tmps.size = _).trans N
          replace D := (ha ▸ put_defers' _ _ _ : a55.defers = _).trans D
          clear ha
          clear T31
          refine hK51 _ _ ?_
          refine wp_ret ?_
          -- the end
          refine ret_c1 Tryd.results18 D T4 (load_row R_b5 Tryd.underlying29 rfl (by kernel_rfl)) T5 ?_
          exact ⟨_, rfl, E, pass4 w.heap.size C15 C29 C40 C50⟩
        · clear T26
          refine wp_skip ?_
          refine hK35 _ _ ?_
          refine wp_seq_k (fun K56 hK56 => ?_)
          -- region 11: mail.go:205
          show (Code.region 11 (rg Tryd.f18 11) false).wp _ _ _ _
          refine plain_list (n := 5) (N := 40) (deps := [[], [0], [1], [], [3]]) (F := [(fun v _ => v = .pointer (some ⟨b4, 7, none⟩)), (IsStrs m.hops), (IsOwnS w.heap.size m.hops), (fun v _ => v = .string s), (IsOwnS w.heap.size [s])]) (by kernel_rfl) (by kernel_rfl) rfl (by kernel_rfl) ⟨(stab_eq _), (stab_strs _), (stab_ownS _ _), (stab_eq _), (stab_ownS _ _), trivial⟩ N (by kernel_rfl) ⟨?_, ?_, ?_, ?_, ?_, trivial⟩ ?_
          · -- 0 mail.go:205
            rintro aa ww hE hF ⟨-⟩
            have o2 : aa.eval (.tmp 2) = .pointer (some ⟨b4, 0, none⟩) := hF.carry (fun v _ => v = .pointer (some ⟨b4, 0, none⟩)) rfl (stab_eq _) hE T2
            exact opAt rfl (ok_run rfl (run_here rfl (ex_fieldAddr rfl o2 Tryd.underlying29 rfl (fun w => ⟨_, Tryd.sizeOf24 w⟩) rfl) ( rfl)))
          · -- 1 mail.go:205
            rintro aa ww hE hF ⟨d0, -⟩
            replace d0 : aa.eval (.tmp 32) = .pointer (some ⟨b4, 7, none⟩) := d0
            exact opAt rfl (ok_run rfl (run_here rfl (ex_load rfl d0 (load_cell Tryd.isAgg24 ((cell_row (hE.row R_b4) 7).trans rfl))) ( (sm.below (E.trans hE)))))
          · -- 2 mail.go:205
            rintro aa ww hE hF ⟨d1, -⟩
            replace d1 : (IsStrs m.hops) (aa.eval (.tmp 33)) ww := d1
            exact opAt rfl (ok_run rfl (run_callR (ψ := (IsOwnS w.heap.size m.hops)) rfl Tryd.call45 (by simp only [List.map_toArray, List.map_cons, List.map_nil]; exact clone_e (E.trans hE).size (by first | with_reducible assumption | omega) d1) (fun _ _ h =>  h)))
          · -- 3 mail.go:205
            rintro aa ww hE hF ⟨-⟩
            have o1 : aa.eval (.tmp 1) = .string s := hF.carry (fun v _ => v = .string s) rfl (stab_eq _) hE T1
            exact opAt rfl (ok_run rfl (run_here rfl (ex_move (.inl rfl) o1) ( rfl)))
          · -- 4 mail.go:205
            rintro aa ww hE hF ⟨d3, -⟩
            replace d3 : aa.eval (.tmp 35) = .string s := d3
            exact opAt rfl (ok_run rfl (run_ok rfl (ex_buildSlice rfl (by simp only [List.map_toArray, List.map_cons, List.map_nil, d3]; exact bs_str1 _ _)) (Ext.alloc _ _) ( ((bs_run (bs_str1 s _) (l := [s]) rfl rfl (by decide)).mono (E.trans hE).size))))
          intro a57 w58 hE hF hfac hap
          obtain ⟨f0, f1, f2, f3, f4, -⟩ := hfac
          replace N := hF.size.trans N
          replace D := hF.defers.trans D
          replace R_b4 := hE.row R_b4
          replace R_b5 := hE.row R_b5
          replace T1 : (fun v _ => v = .string s) (a57.at 1) w58 := hF.carry (fun v _ => v = .string s) rfl (stab_eq _) hE T1
          replace T2 : (fun v _ => v = .pointer (some ⟨b4, 0, none⟩)) (a57.at 2) w58 := hF.carry (fun v _ => v = .pointer (some ⟨b4, 0, none⟩)) rfl (stab_eq _) hE T2
          replace T4 : (fun v _ => v = .pointer (some ⟨b5, 0, none⟩)) (a57.at 4) w58 := hF.carry (fun v _ => v = .pointer (some ⟨b5, 0, none⟩)) rfl (stab_eq _) hE T4
          replace T5 : (fun v _ => v = .int .i64 0) (a57.at 5) w58 := hF.carry (fun v _ => v = .int .i64 0) rfl (stab_eq _) hE T5
          have T34 : (IsOwnS w.heap.size m.hops) (a57.at 34) w58 := f2
          have T36 : (IsOwnS w.heap.size [s]) (a57.at 36) w58 := f4
          replace E := E.trans hE
          clear hE hF hap
          show wpOps _ (rg Tryd.f18 11) _ [5, 6, 7] _ _
          obtain ⟨v59, w60, hrun, hown, hgr⟩ := app_strs 24 (show (IsOwnS w.heap.size m.hops) (a57.eval (.tmp 34)) w58 from T34) (OwnStrs.strsAt (show (IsOwnS w.heap.size [s]) (a57.eval (.tmp 36)) w58 from T36)) (by omega) E.size
          refine tail_val rfl rfl rfl (v := v59) (ex_builtin rfl (fun cs => by simp only [List.map_toArray, List.map_cons, List.map_nil]; exact builtin_app hrun)) ?_
          replace R_b4 := grown_row (show (IsOwnS w.heap.size m.hops) (a57.eval (.tmp 34)) w58 from T34) hgr R_b4 rfl
          replace R_b5 := grown_row (show (IsOwnS w.heap.size m.hops) (a57.eval (.tmp 34)) w58 from T34) hgr R_b5 rfl
          replace E : Ext w w60 := grown_ext (show (IsOwnS w.heap.size m.hops) (a57.eval (.tmp 34)) w58 from T34) hgr E (by omega)
          clear T34
          clear T36
          replace T1 : (fun v _ => v = .string s) (a57.at 1) w60 := T1
          replace T2 : (fun v _ => v = .pointer (some ⟨b4, 0, none⟩)) (a57.at 2) w60 := T2
          replace T4 : (fun v _ => v = .pointer (some ⟨b5, 0, none⟩)) (a57.at 4) w60 := T4
          replace T5 : (fun v _ => v = .int .i64 0) (a57.at 5) w60 := T5
          obtain ⟨a61, ha⟩ : ∃ x : Act, x = a57.put (some 37) (v59) := ⟨_, rfl⟩
          rw [← ha]
          replace T1 : (fun v _ => v = .string s) (a61.at 1) w60 := by rw [ha, put_other rfl]; exact T1
          replace T2 : (fun v _ => v = .pointer (some ⟨b4, 0, none⟩)) (a61.at 2) w60 := by rw [ha, put_other rfl]; exact T2
          replace T4 : (fun v _ => v = .pointer (some ⟨b5, 0, none⟩)) (a61.at 4) w60 := by rw [ha, put_other rfl]; exact T4
          replace T5 : (fun v _ => v = .int .i64 0) (a61.at 5) w60 := by rw [ha, put_other rfl]; exact T5
          have T37 : (IsOwnS w.heap.size (m.hops ++ [s] : List ByteArray)) (a61.at 37) w60 := by rw [ha, put_same N (by decide)]; exact hown
          replace N := (ha ▸ put_size _ _ _ : a61.tmps.size = _).trans N
          replace D := (ha ▸ put_defers' _ _ _ : a61.defers = _).trans D
          clear ha
          clear hrun hown hgr
          refine tail_val rfl rfl rfl (v := .pointer (some ⟨b4, 7, none⟩)) (ex_fieldAddr rfl (show a61.eval (.tmp 2) = .pointer (some ⟨b4, 0, none⟩) from T2) Tryd.underlying29 rfl (fun w => ⟨_, Tryd.sizeOf24 w⟩) rfl) ?_
          obtain ⟨a62, ha⟩ : ∃ x : Act, x = a61.put (some 38) (.pointer (some ⟨b4, 7, none⟩)) := ⟨_, rfl⟩
          rw [← ha]
          replace T1 : (fun v _ => v = .string s) (a62.at 1) w60 := by rw [ha, put_other rfl]; exact T1
          replace T2 : (fun v _ => v = .pointer (some ⟨b4, 0, none⟩)) (a62.at 2) w60 := by rw [ha, put_other rfl]; exact T2
          replace T4 : (fun v _ => v = .pointer (some ⟨b5, 0, none⟩)) (a62.at 4) w60 := by rw [ha, put_other rfl]; exact T4
          replace T5 : (fun v _ => v = .int .i64 0) (a62.at 5) w60 := by rw [ha, put_other rfl]; exact T5
          replace T37 : (IsOwnS w.heap.size (m.hops ++ [s] : List ByteArray)) (a62.at 37) w60 := by rw [ha, put_other rfl]; exact T37
          have T38 : (fun v _ => v = .pointer (some ⟨b4, 7, none⟩)) (a62.at 38) w60 := by rw [ha, put_same N (by decide)]; skip
          replace N := (ha ▸ put_size _ _ _ : a62.tmps.size = _).trans N
          replace D := (ha ▸ put_defers' _ _ _ : a62.defers = _).trans D
          clear ha
          have S66 := T37
          obtain ⟨x64, c65, eS66⟩ := ownStrs_len S66
          unfold IsOwnS at S66
          rw [eS66] at S66
          replace T37 : (fun v _ => v = .slice x64 ((m.hops ++ [s] : List ByteArray).length) c65) (a62.at 37) w60 := eS66
          clear eS66
          refine tail_do rfl rfl rfl (ex_store rfl (show a62.eval (.tmp 38) = .pointer (some ⟨b4, 7, none⟩) from T38) (by rw [show a62.eval (.tmp 37) = .slice x64 ((m.hops ++ [s] : List ByteArray).length) c65 from (show a62.eval (.tmp 37) = .slice x64 ((m.hops ++ [s] : List ByteArray).length) c65 from T37)]; exact store_cell R_b4 (Nat.le_of_ble_eq_true rfl) Tryd.sizeOf24 rfl rfl)) ?_
          obtain ⟨w63, hw⟩ : ∃ x : World, x = w60.setRow b4 (Array.setIfInBounds (msgC m mv) 7 (.slice x64 ((m.hops ++ [s] : List ByteArray).length) c65)) := ⟨_, rfl⟩
          rw [← hw]
          replace R_b5 := hw ▸ row_other R_b5 (by first | exact NE_b5_b4 | exact NE_b4_b5.symm)
          replace E : Ext w w63 := hw ▸ below_row E B_b4
          replace T1 : (fun v _ => v = .string s) (a62.at 1) w63 := T1
          replace T2 : (fun v _ => v = .pointer (some ⟨b4, 0, none⟩)) (a62.at 2) w63 := T2
          replace T4 : (fun v _ => v = .pointer (some ⟨b5, 0, none⟩)) (a62.at 4) w63 := T4
          replace T5 : (fun v _ => v = .int .i64 0) (a62.at 5) w63 := T5
          replace T37 : (fun v _ => v = .slice x64 ((m.hops ++ [s] : List ByteArray).length) c65) (a62.at 37) w63 := T37
          replace T38 : (fun v _ => v = .pointer (some ⟨b4, 7, none⟩)) (a62.at 38) w63 := T38
          replace S66 : OwnStrs w.heap.size (m.hops ++ [s] : List ByteArray) w63 (.slice x64 ((m.hops ++ [s] : List ByteArray).length) c65) := hw ▸ S66.setRow R_b4 rfl
          replace R_b4 : w63.heap[b4]? = some (.cells (msgC ({ m with hops := m.hops ++ [s] }) (.slice x64 ((m.hops ++ [s] : List ByteArray).length) c65)) 29 (0, 0)) := by rw [hw]; exact setRow_heap _ _ _ _ _ _ R_b4
          clear hw
          clear T1
          clear T37
          clear T38
          refine hK56 _ _ ?_
          refine wp_seq_k (fun K67 hK67 => ?_)
          -- region 12: mail.go:206
          show (Code.region 12 (rg Tryd.f18 12) false).wp _ _ _ _
          refine plain_list (n := 1) (N := 40) (deps := [[]]) (F := [(IsOwnB w.heap.size ({ m with hops := m.hops ++ [s] }))]) (by kernel_rfl) (by kernel_rfl) rfl (by kernel_rfl) ⟨(stab_ownB _ _), trivial⟩ N (by kernel_rfl) ⟨?_, trivial⟩ ?_
          · -- 0 mail.go:206
            rintro aa ww hE hF ⟨-⟩
            have o2 : aa.eval (.tmp 2) = .pointer (some ⟨b4, 0, none⟩) := hF.carry (fun v _ => v = .pointer (some ⟨b4, 0, none⟩)) rfl (stab_eq _) hE T2
            exact opAt rfl (ok_run rfl (run_here rfl (ex_load rfl o2 (load_row (hE.row R_b4) Tryd.underlying29 rfl (by kernel_rfl))) ( ⟨_, rfl, S66.ext hE⟩)))
          intro a68 w69 hE hF hfac hap
          obtain ⟨f0, -⟩ := hfac
          replace N := hF.size.trans N
          replace D := hF.defers.trans D
          replace R_b4 := hE.row R_b4
          replace R_b5 := hE.row R_b5
          replace S66 : OwnStrs w.heap.size (m.hops ++ [s] : List ByteArray) w69 (.slice x64 ((m.hops ++ [s] : List ByteArray).length) c65) := S66.ext hE
          replace T2 : (fun v _ => v = .pointer (some ⟨b4, 0, none⟩)) (a68.at 2) w69 := hF.carry (fun v _ => v = .pointer (some ⟨b4, 0, none⟩)) rfl (stab_eq _) hE T2
          replace T4 : (fun v _ => v = .pointer (some ⟨b5, 0, none⟩)) (a68.at 4) w69 := hF.carry (fun v _ => v = .pointer (some ⟨b5, 0, none⟩)) rfl (stab_eq _) hE T4
          replace T5 : (fun v _ => v = .int .i64 0) (a68.at 5) w69 := hF.carry (fun v _ => v = .int .i64 0) rfl (stab_eq _) hE T5
          have T39 : (IsOwnB w.heap.size ({ m with hops := m.hops ++ [s] })) (a68.at 39) w69 := f0
          replace E := E.trans hE
          clear hE hF hap
          obtain ⟨hv70, T39, S71⟩ := T39
          replace T39 : (fun v _ => v = .agg (msgC ({ m with hops := m.hops ++ [s] }) hv70)) (a68.at 39) w69 := T39
          show wpOps _ (rg Tryd.f18 12) _ [1, 2] _ _
          refine tail_do rfl rfl rfl (ex_store rfl (show a68.eval (.tmp 4) = .pointer (some ⟨b5, 0, none⟩) from T4) (by rw [show a68.eval (.tmp 39) = .agg (msgC ({ m with hops := m.hops ++ [s] }) hv70) from (show a68.eval (.tmp 39) = .agg (msgC ({ m with hops := m.hops ++ [s] }) hv70) from T39)]; exact store_row R_b5 (by kernel_rfl) rfl (ownB_cell S71))) ?_
          obtain ⟨w72, hw⟩ : ∃ x : World, x = w69.setRow b5 (msgC ({ m with hops := m.hops ++ [s] }) hv70) := ⟨_, rfl⟩
          rw [← hw]
          replace R_b4 := hw ▸ row_other R_b4 (by first | exact NE_b4_b5 | exact NE_b5_b4.symm)
          replace E : Ext w w72 := hw ▸ below_row E B_b5
          replace T2 : (fun v _ => v = .pointer (some ⟨b4, 0, none⟩)) (a68.at 2) w72 := T2
          replace T4 : (fun v _ => v = .pointer (some ⟨b5, 0, none⟩)) (a68.at 4) w72 := T4
          replace T5 : (fun v _ => v = .int .i64 0) (a68.at 5) w72 := T5
          replace T39 : (fun v _ => v = .agg (msgC ({ m with hops := m.hops ++ [s] }) hv70)) (a68.at 39) w72 := T39
          replace S66 : OwnStrs w.heap.size (m.hops ++ [s] : List ByteArray) w72 (.slice x64 ((m.hops ++ [s] : List ByteArray).length) c65) := hw ▸ S66.setRow R_b5 rfl
          replace S71 : OwnStrs w.heap.size (({ m with hops := m.hops ++ [s] }).hops) w72 hv70 := hw ▸ S71.setRow R_b5 rfl
          replace R_b5 : w72.heap[b5]? = some (.cells (msgC ({ m with hops := m.hops ++ [s] }) hv70) 29 (0, 0)) := by rw [hw]; exact setRow_heap _ _ _ _ _ _ R_b5
          clear hw
          refine tail_val rfl rfl rfl (ex_move (.inr rfl) (v := .int .i64 0) (ev_const (v := .int .i64 0))) ?_
          obtain ⟨a73, ha⟩ : ∃ x : Act, x = a68.put (some 5) (.int .i64 0) := ⟨_, rfl⟩
          rw [← ha]
          replace T2 : (fun v _ => v = .pointer (some ⟨b4, 0, none⟩)) (a73.at 2) w72 := by rw [ha, put_other rfl]; exact T2
          replace T4 : (fun v _ => v = .pointer (some ⟨b5, 0, none⟩)) (a73.at 4) w72 := by rw [ha, put_other rfl]; exact T4
          replace T39 : (fun v _ => v = .agg (msgC ({ m with hops := m.hops ++ [s] }) hv70)) (a73.at 39) w72 := by rw [ha, put_other rfl]; exact T39
          replace T5 : (fun v _ => v = .int .i64 0) (a73.at 5) w72 := by rw [ha, put_same N (by decide)]; skip
          replace N := (ha ▸ put_size _ _ _ : a73.tmps.size = _).trans N
          replace D := (ha ▸ put_defers' _ _ _ : a73.defers = _).trans D
          clear ha
          clear T2
          clear T39
          refine hK67 _ _ ?_
          refine wp_ret ?_
          -- the end
          refine ret_c1 Tryd.results18 D T4 (load_row R_b5 Tryd.underlying29 rfl (by kernel_rfl)) T5 ?_
          exact ⟨_, rfl, E, pass5 C15 C29 C40 C50 S71⟩

set_option maxRecDepth 100000 in
set_option maxHeartbeats 600000 in
theorem rPass_e (m : Msg) (mv : Value) (s : ByteArray) (w : World) (fm : m.Fits) (sm : StrsAt w mv m.hops) (hs : s.size ≤ maxLen) (hl : m.hops.length ≤ 1099511627775) : Calls Tryd.prog 19 #[.agg (msgC m mv), .string s] w (Ret (IsOwnE w.heap.size (passR m s).1 (passR m s).2) w) := by
  have hl1 : m.hops.length ≤ maxLen := le_max (by omega)
  have hl2 : m.hops.length ≤ 1099511627776 := by omega
  have h1l : ([s] : List ByteArray).length = 1 := rfl
  have h0l : ([] : List ByteArray).length = 0 := rfl
  have h2l : ([] ++ m.hops : List ByteArray).length = m.hops.length := rfl
  refine enter_fn Tryd.func19 rfl Tryd.ntmps19 (Nat.le_of_ble_eq_true rfl) (fun a0 N D hA => ?_)
  have T0 : (fun v _ => v = .agg (msgC m mv)) (a0.at 0) w := by rw [hA 0 (by simp)]; exact rfl
  have T1 : (fun v _ => v = .string s) (a0.at 1) w := by rw [hA 1 (by simp)]; exact rfl
  clear hA
  have E : Ext w w := Ext.refl w
  refine wp_seq_k (fun K1 hK1 => ?_)
  -- region 0: ref.go:206
  show (Code.region 0 (rg Tryd.f19 0) false).wp _ _ _ _
  refine plain_list (n := 2) (N := 41) (deps := [[], []]) (F := [(IsBox (msgC m mv) 26 w.heap.size), (IsBox #[.string ⟨#[]⟩, .string ⟨#[]⟩, .string ⟨#[]⟩, .string ⟨#[]⟩, .int .i64 0, .int .i64 0, .string ⟨#[]⟩, .slice none 0 0, .string ⟨#[]⟩] 26 w.heap.size)]) (by kernel_rfl) (by kernel_rfl) rfl (by kernel_rfl) ⟨(stab_box _ _ _), (stab_box _ _ _), trivial⟩ N (by kernel_rfl) ⟨?_, ?_, trivial⟩ ?_
  · -- 0 ref.go:206
    rintro aa ww hE hF ⟨-⟩
    have o0 : aa.eval (.tmp 0) = .agg (msgC m mv) := hF.carry (fun v _ => v = .agg (msgC m mv)) rfl (stab_eq _) hE T0
    exact opAt rfl (ok_run rfl (run_new (ex_box rfl o0) ( (box_new hE.size))))
  · -- 1 ref.go:206
    rintro aa ww hE hF ⟨-⟩
    exact opAt rfl (ok_run rfl (run_new (ex_alloc rfl Tryd.zeroValue26) ( (box_new hE.size))))
  intro a2 w3 hE hF hfac hap
  obtain ⟨f0, f1, -⟩ := hfac
  replace N := hF.size.trans N
  replace D := hF.defers.trans D
  obtain ⟨b4, T2, B_b4, R_b4⟩ := f0
  obtain ⟨b5, T4, B_b5, R_b5⟩ := f1
  have NE_b4_b5 : b4 ≠ b5 := hap 0 1 (by decide) (by decide) (by decide) (by kernel_rfl) (by kernel_rfl) _ _ _ _ _ _ T2 T4
  replace B_b4 := Nat.le_trans E.size B_b4
  replace B_b5 := Nat.le_trans E.size B_b5
  clear T0
  replace T1 : (fun v _ => v = .string s) (a2.at 1) w3 := hF.carry (fun v _ => v = .string s) rfl (stab_eq _) hE T1
  replace E := E.trans hE
  clear hE hF hap
  show wpOps _ (rg Tryd.f19 0) _ [2] _ _
  refine tail_val rfl rfl rfl (ex_move (.inr rfl) (v := .int .i64 0) (ev_const (v := .int .i64 0))) ?_
  obtain ⟨a6, ha⟩ : ∃ x : Act, x = a2.put (some 5) (.int .i64 0) := ⟨_, rfl⟩
  rw [← ha]
  replace T1 : (fun v _ => v = .string s) (a6.at 1) w3 := by rw [ha, put_other rfl]; exact T1
  replace T2 : (fun v _ => v = .pointer (some ⟨b4, 0, none⟩)) (a6.at 2) w3 := by rw [ha, put_other rfl]; exact T2
  replace T4 : (fun v _ => v = .pointer (some ⟨b5, 0, none⟩)) (a6.at 4) w3 := by rw [ha, put_other rfl]; exact T4
  have T5 : (fun v _ => v = .int .i64 0) (a6.at 5) w3 := by rw [ha, put_same N (by decide)]; skip
  replace N := (ha ▸ put_size _ _ _ : a6.tmps.size = _).trans N
  replace D := (ha ▸ put_defers' _ _ _ : a6.defers = _).trans D
  clear ha
  refine hK1 _ _ ?_
  refine wp_seq_k (fun K7 hK7 => ?_)
  refine wp_block ?_
  refine wp_seq_k (fun K8 hK8 => ?_)
  -- region 1: ref.go:208
  show (Code.region 1 (rg Tryd.f19 1) false).wp _ _ _ _
  refine plain_list (n := 3) (N := 41) (deps := [[], [0], [1]]) (F := [(IsMsg m), (fun v _ => v = .int .i64 (checkE m : Int)), (fun v _ => v = .bool ((checkE m : Int) != (0 : Int)))]) (by kernel_rfl) (by kernel_rfl) rfl (by kernel_rfl) ⟨(stab_msg _), (stab_eq _), (stab_eq _), trivial⟩ N (by kernel_rfl) ⟨?_, ?_, ?_, trivial⟩ ?_
  · -- 0 ref.go:208
    rintro aa ww hE hF ⟨-⟩
    have o2 : aa.eval (.tmp 2) = .pointer (some ⟨b4, 0, none⟩) := hF.carry (fun v _ => v = .pointer (some ⟨b4, 0, none⟩)) rfl (stab_eq _) hE T2
    exact opAt rfl (ok_run rfl (run_here rfl (ex_load rfl o2 (load_row (hE.row R_b4) Tryd.underlying26 rfl (by kernel_rfl))) ( ⟨_, rfl, (sm.below (E.trans hE))⟩)))
  · -- 1 ref.go:208
    rintro aa ww hE hF ⟨d0, -⟩
    replace d0 : (IsMsg m) (aa.eval (.tmp 7)) ww := d0
    exact opAt rfl (ok_run rfl (run_callR (ψ := (fun v _ => v = .int .i64 (checkE m : Int))) rfl Tryd.call16 (by
      obtain ⟨hv0, e0, s0⟩ := d0
      simp only [List.map_toArray, List.map_cons, List.map_nil, e0]
      exact ret_below (rCheck_c _ _ _ fm s0)) (fun _ _ h =>  h)))
  · -- 2 ref.go:208
    rintro aa ww hE hF ⟨d1, -⟩
    replace d1 : aa.eval (.tmp 8) = .int .i64 (checkE m : Int) := d1
    exact opAt rfl (ok_run rfl (run_here rfl (ex_binOp rfl (by rw [show aa.eval (.tmp 8) = .int .i64 (checkE m : Int) from d1, show aa.eval (.const (.int .i64 0)) = .int .i64 0 from (ev_const (v := .int .i64 0))]; exact eqg_int) (by rw [show aa.eval (.tmp 8) = .int .i64 (checkE m : Int) from d1, show aa.eval (.const (.int .i64 0)) = .int .i64 0 from (ev_const (v := .int .i64 0))]; exact bin_neq)) ( rfl)))
  intro a9 w10 hE hF hfac hap
  obtain ⟨f0, f1, f2, -⟩ := hfac
  replace N := hF.size.trans N
  replace D := hF.defers.trans D
  replace R_b4 := hE.row R_b4
  replace R_b5 := hE.row R_b5
  replace T1 : (fun v _ => v = .string s) (a9.at 1) w10 := hF.carry (fun v _ => v = .string s) rfl (stab_eq _) hE T1
  replace T2 : (fun v _ => v = .pointer (some ⟨b4, 0, none⟩)) (a9.at 2) w10 := hF.carry (fun v _ => v = .pointer (some ⟨b4, 0, none⟩)) rfl (stab_eq _) hE T2
  replace T4 : (fun v _ => v = .pointer (some ⟨b5, 0, none⟩)) (a9.at 4) w10 := hF.carry (fun v _ => v = .pointer (some ⟨b5, 0, none⟩)) rfl (stab_eq _) hE T4
  replace T5 : (fun v _ => v = .int .i64 0) (a9.at 5) w10 := hF.carry (fun v _ => v = .int .i64 0) rfl (stab_eq _) hE T5
  have T9 : (fun v _ => v = .bool ((checkE m : Int) != (0 : Int))) (a9.at 9) w10 := f2
  replace E := E.trans hE
  clear hE hF hap
  show wpOps _ (rg Tryd.f19 1) _ [3] _ _
  refine tail_val rfl rfl rfl (ex_move (.inr rfl) (v := .bool ((checkE m : Int) != (0 : Int))) (show a9.eval (.tmp 9) = .bool ((checkE m : Int) != (0 : Int)) from T9)) ?_
  obtain ⟨a11, ha⟩ : ∃ x : Act, x = a9.put (some 6) (.bool ((checkE m : Int) != (0 : Int))) := ⟨_, rfl⟩
  rw [← ha]
  replace T1 : (fun v _ => v = .string s) (a11.at 1) w10 := by rw [ha, put_other rfl]; exact T1
  replace T2 : (fun v _ => v = .pointer (some ⟨b4, 0, none⟩)) (a11.at 2) w10 := by rw [ha, put_other rfl]; exact T2
  replace T4 : (fun v _ => v = .pointer (some ⟨b5, 0, none⟩)) (a11.at 4) w10 := by rw [ha, put_other rfl]; exact T4
  replace T5 : (fun v _ => v = .int .i64 0) (a11.at 5) w10 := by rw [ha, put_other rfl]; exact T5
  replace T9 : (fun v _ => v = .bool ((checkE m : Int) != (0 : Int))) (a11.at 9) w10 := by rw [ha, put_other rfl]; exact T9
  have T6 : (fun v _ => v = .bool ((checkE m : Int) != (0 : Int))) (a11.at 6) w10 := by rw [ha, put_same N (by decide)]; skip
  replace N := (ha ▸ put_size _ _ _ : a11.tmps.size = _).trans N
  replace D := (ha ▸ put_defers' _ _ _ : a11.defers = _).trans D
  clear ha
  clear T9
  refine hK8 _ _ ?_
  refine wp_cond_split (t := (checkE m : Int) != (0 : Int)) T6 (fun C12 => ?_) (fun C12 => ?_)
  · clear T6
    refine wp_seq_k (fun K13 hK13 => ?_)
    -- region 2: ref.go:209
    show (Code.region 2 (rg Tryd.f19 2) false).wp _ _ _ _
    refine plain_list (n := 3) (N := 41) (deps := [[], [], [1]]) (F := [(fun v _ => v = .agg #[.string ⟨#[]⟩, .string ⟨#[]⟩, .string ⟨#[]⟩, .string ⟨#[]⟩, .int .i64 0, .int .i64 0, .string ⟨#[]⟩, .slice none 0 0, .string ⟨#[]⟩]), (IsMsg m), (fun v _ => v = .int .i64 (checkE m : Int))]) (by kernel_rfl) (by kernel_rfl) rfl (by kernel_rfl) ⟨(stab_eq _), (stab_msg _), (stab_eq _), trivial⟩ N (by kernel_rfl) ⟨?_, ?_, ?_, trivial⟩ ?_
    · -- 0 ref.go:209
      rintro aa ww hE hF ⟨-⟩
      exact opAt rfl (ok_run rfl (run_here rfl (ex_build rfl (by simp [Instr.build, Tryd.zeroValue26, Tryd.runUnderlying26, Instr.fill, Value.cells, Tryd.sizeOf3, Tryd.sizeOf9, Tryd.sizeOf23, Tryd.sizeOf24])) ( rfl)))
    · -- 1 ref.go:209
      rintro aa ww hE hF ⟨-⟩
      have o2 : aa.eval (.tmp 2) = .pointer (some ⟨b4, 0, none⟩) := hF.carry (fun v _ => v = .pointer (some ⟨b4, 0, none⟩)) rfl (stab_eq _) hE T2
      exact opAt rfl (ok_run rfl (run_here rfl (ex_load rfl o2 (load_row (hE.row R_b4) Tryd.underlying26 rfl (by kernel_rfl))) ( ⟨_, rfl, (sm.below (E.trans hE))⟩)))
    · -- 2 ref.go:209
      rintro aa ww hE hF ⟨d1, -⟩
      replace d1 : (IsMsg m) (aa.eval (.tmp 11)) ww := d1
      exact opAt rfl (ok_run rfl (run_callR (ψ := (fun v _ => v = .int .i64 (checkE m : Int))) rfl Tryd.call16 (by
      obtain ⟨hv0, e0, s0⟩ := d1
      simp only [List.map_toArray, List.map_cons, List.map_nil, e0]
      exact ret_below (rCheck_c _ _ _ fm s0)) (fun _ _ h =>  h)))
    intro a14 w15 hE hF hfac hap
    obtain ⟨f0, f1, f2, -⟩ := hfac
    replace N := hF.size.trans N
    replace D := hF.defers.trans D
    replace R_b4 := hE.row R_b4
    replace R_b5 := hE.row R_b5
    replace T1 : (fun v _ => v = .string s) (a14.at 1) w15 := hF.carry (fun v _ => v = .string s) rfl (stab_eq _) hE T1
    replace T2 : (fun v _ => v = .pointer (some ⟨b4, 0, none⟩)) (a14.at 2) w15 := hF.carry (fun v _ => v = .pointer (some ⟨b4, 0, none⟩)) rfl (stab_eq _) hE T2
    replace T4 : (fun v _ => v = .pointer (some ⟨b5, 0, none⟩)) (a14.at 4) w15 := hF.carry (fun v _ => v = .pointer (some ⟨b5, 0, none⟩)) rfl (stab_eq _) hE T4
    replace T5 : (fun v _ => v = .int .i64 0) (a14.at 5) w15 := hF.carry (fun v _ => v = .int .i64 0) rfl (stab_eq _) hE T5
    have T10 : (fun v _ => v = .agg #[.string ⟨#[]⟩, .string ⟨#[]⟩, .string ⟨#[]⟩, .string ⟨#[]⟩, .int .i64 0, .int .i64 0, .string ⟨#[]⟩, .slice none 0 0, .string ⟨#[]⟩]) (a14.at 10) w15 := f0
    have T12 : (fun v _ => v = .int .i64 (checkE m : Int)) (a14.at 12) w15 := f2
    replace E := E.trans hE
    clear hE hF hap
    show wpOps _ (rg Tryd.f19 2) _ [3, 4] _ _
    refine tail_do rfl rfl rfl (ex_store rfl (show a14.eval (.tmp 4) = .pointer (some ⟨b5, 0, none⟩) from T4) (by rw [show a14.eval (.tmp 10) = .agg #[.string ⟨#[]⟩, .string ⟨#[]⟩, .string ⟨#[]⟩, .string ⟨#[]⟩, .int .i64 0, .int .i64 0, .string ⟨#[]⟩, .slice none 0 0, .string ⟨#[]⟩] from (show a14.eval (.tmp 10) = .agg #[.string ⟨#[]⟩, .string ⟨#[]⟩, .string ⟨#[]⟩, .string ⟨#[]⟩, .int .i64 0, .int .i64 0, .string ⟨#[]⟩, .slice none 0 0, .string ⟨#[]⟩] from T10)]; exact store_row R_b5 (by kernel_rfl) rfl (by simp [Value.oneCell']))) ?_
    obtain ⟨w16, hw⟩ : ∃ x : World, x = w15.setRow b5 #[.string ⟨#[]⟩, .string ⟨#[]⟩, .string ⟨#[]⟩, .string ⟨#[]⟩, .int .i64 0, .int .i64 0, .string ⟨#[]⟩, .slice none 0 0, .string ⟨#[]⟩] := ⟨_, rfl⟩
    rw [← hw]
    replace R_b4 := hw ▸ row_other R_b4 (by first | exact NE_b4_b5 | exact NE_b5_b4.symm)
    replace E : Ext w w16 := hw ▸ below_row E B_b5
    replace T1 : (fun v _ => v = .string s) (a14.at 1) w16 := T1
    replace T2 : (fun v _ => v = .pointer (some ⟨b4, 0, none⟩)) (a14.at 2) w16 := T2
    replace T4 : (fun v _ => v = .pointer (some ⟨b5, 0, none⟩)) (a14.at 4) w16 := T4
    replace T5 : (fun v _ => v = .int .i64 0) (a14.at 5) w16 := T5
    replace T10 : (fun v _ => v = .agg #[.string ⟨#[]⟩, .string ⟨#[]⟩, .string ⟨#[]⟩, .string ⟨#[]⟩, .int .i64 0, .int .i64 0, .string ⟨#[]⟩, .slice none 0 0, .string ⟨#[]⟩]) (a14.at 10) w16 := T10
    replace T12 : (fun v _ => v = .int .i64 (checkE m : Int)) (a14.at 12) w16 := T12
    replace R_b5 : w16.heap[b5]? = some (.cells #[.string ⟨#[]⟩, .string ⟨#[]⟩, .string ⟨#[]⟩, .string ⟨#[]⟩, .int .i64 0, .int .i64 0, .string ⟨#[]⟩, .slice none 0 0, .string ⟨#[]⟩] 26 (0, 0)) := by rw [hw]; exact setRow_heap _ _ _ _ _ _ R_b5
    clear hw
    refine tail_val rfl rfl rfl (ex_move (.inr rfl) (v := .int .i64 (checkE m : Int)) (show a14.eval (.tmp 12) = .int .i64 (checkE m : Int) from T12)) ?_
    obtain ⟨a17, ha⟩ : ∃ x : Act, x = a14.put (some 5) (.int .i64 (checkE m : Int)) := ⟨_, rfl⟩
    rw [← ha]
    replace T1 : (fun v _ => v = .string s) (a17.at 1) w16 := by rw [ha, put_other rfl]; exact T1
    replace T2 : (fun v _ => v = .pointer (some ⟨b4, 0, none⟩)) (a17.at 2) w16 := by rw [ha, put_other rfl]; exact T2
    replace T4 : (fun v _ => v = .pointer (some ⟨b5, 0, none⟩)) (a17.at 4) w16 := by rw [ha, put_other rfl]; exact T4
    replace T10 : (fun v _ => v = .agg #[.string ⟨#[]⟩, .string ⟨#[]⟩, .string ⟨#[]⟩, .string ⟨#[]⟩, .int .i64 0, .int .i64 0, .string ⟨#[]⟩, .slice none 0 0, .string ⟨#[]⟩]) (a17.at 10) w16 := by rw [ha, put_other rfl]; exact T10
    replace T12 : (fun v _ => v = .int .i64 (checkE m : Int)) (a17.at 12) w16 := by rw [ha, put_other rfl]; exact T12
    replace T5 : (fun v _ => v = .int .i64 (checkE m : Int)) (a17.at 5) w16 := by rw [ha, put_same N (by decide)]; skip
    replace N := (ha ▸ put_size _ _ _ : a17.tmps.size = _).trans N
    replace D := (ha ▸ put_defers' _ _ _ : a17.defers = _).trans D
    clear ha
    clear T10
    clear T12
    refine hK13 _ _ ?_
    refine wp_ret ?_
    -- the end
    refine ret_c1 Tryd.results19 D T4 (load_row R_b5 Tryd.underlying26 rfl (by kernel_rfl)) T5 ?_
    exact ⟨_, rfl, E, pass1 w.heap.size C12⟩
  · clear T6
    refine wp_seq_k (fun K18 hK18 => ?_)
    -- region 3: ref.go:210
    show (Code.region 3 (rg Tryd.f19 3) false).wp _ _ _ _
    refine plain_list (n := 3) (N := 41) (deps := [[], [0], [1]]) (F := [(fun v _ => v = .string s), (fun v _ => v = .int .i64 (siteE s : Int)), (fun v _ => v = .bool ((siteE s : Int) != (0 : Int)))]) (by kernel_rfl) (by kernel_rfl) rfl (by kernel_rfl) ⟨(stab_eq _), (stab_eq _), (stab_eq _), trivial⟩ N (by kernel_rfl) ⟨?_, ?_, ?_, trivial⟩ ?_
    · -- 0 ref.go:210
      rintro aa ww hE hF ⟨-⟩
      have o1 : aa.eval (.tmp 1) = .string s := hF.carry (fun v _ => v = .string s) rfl (stab_eq _) hE T1
      exact opAt rfl (ok_run rfl (run_here rfl (ex_move (.inl rfl) o1) ( rfl)))
    · -- 1 ref.go:210
      rintro aa ww hE hF ⟨d0, -⟩
      replace d0 : aa.eval (.tmp 14) = .string s := d0
      exact opAt rfl (ok_run rfl (run_callR (ψ := (fun v _ => v = .int .i64 (siteE s : Int))) rfl Tryd.call32 (by
      simp only [List.map_toArray, List.map_cons, List.map_nil, d0]
      exact ret_same (rmSite_c s _ (by first | with_reducible assumption | exact le_max (by omega) | (simp only [ByteArray.size_extract]; unfold maxLen at *; omega)))) (fun _ _ h =>  h)))
    · -- 2 ref.go:210
      rintro aa ww hE hF ⟨d1, -⟩
      replace d1 : aa.eval (.tmp 15) = .int .i64 (siteE s : Int) := d1
      exact opAt rfl (ok_run rfl (run_here rfl (ex_binOp rfl (by rw [show aa.eval (.tmp 15) = .int .i64 (siteE s : Int) from d1, show aa.eval (.const (.int .i64 0)) = .int .i64 0 from (ev_const (v := .int .i64 0))]; exact eqg_int) (by rw [show aa.eval (.tmp 15) = .int .i64 (siteE s : Int) from d1, show aa.eval (.const (.int .i64 0)) = .int .i64 0 from (ev_const (v := .int .i64 0))]; exact bin_neq)) ( rfl)))
    intro a19 w20 hE hF hfac hap
    obtain ⟨f0, f1, f2, -⟩ := hfac
    replace N := hF.size.trans N
    replace D := hF.defers.trans D
    replace R_b4 := hE.row R_b4
    replace R_b5 := hE.row R_b5
    replace T1 : (fun v _ => v = .string s) (a19.at 1) w20 := hF.carry (fun v _ => v = .string s) rfl (stab_eq _) hE T1
    replace T2 : (fun v _ => v = .pointer (some ⟨b4, 0, none⟩)) (a19.at 2) w20 := hF.carry (fun v _ => v = .pointer (some ⟨b4, 0, none⟩)) rfl (stab_eq _) hE T2
    replace T4 : (fun v _ => v = .pointer (some ⟨b5, 0, none⟩)) (a19.at 4) w20 := hF.carry (fun v _ => v = .pointer (some ⟨b5, 0, none⟩)) rfl (stab_eq _) hE T4
    replace T5 : (fun v _ => v = .int .i64 0) (a19.at 5) w20 := hF.carry (fun v _ => v = .int .i64 0) rfl (stab_eq _) hE T5
    have T16 : (fun v _ => v = .bool ((siteE s : Int) != (0 : Int))) (a19.at 16) w20 := f2
    replace E := E.trans hE
    clear hE hF hap
    show wpOps _ (rg Tryd.f19 3) _ [3] _ _
    refine tail_val rfl rfl rfl (ex_move (.inr rfl) (v := .bool ((siteE s : Int) != (0 : Int))) (show a19.eval (.tmp 16) = .bool ((siteE s : Int) != (0 : Int)) from T16)) ?_
    obtain ⟨a21, ha⟩ : ∃ x : Act, x = a19.put (some 13) (.bool ((siteE s : Int) != (0 : Int))) := ⟨_, rfl⟩
    rw [← ha]
    replace T1 : (fun v _ => v = .string s) (a21.at 1) w20 := by rw [ha, put_other rfl]; exact T1
    replace T2 : (fun v _ => v = .pointer (some ⟨b4, 0, none⟩)) (a21.at 2) w20 := by rw [ha, put_other rfl]; exact T2
    replace T4 : (fun v _ => v = .pointer (some ⟨b5, 0, none⟩)) (a21.at 4) w20 := by rw [ha, put_other rfl]; exact T4
    replace T5 : (fun v _ => v = .int .i64 0) (a21.at 5) w20 := by rw [ha, put_other rfl]; exact T5
    replace T16 : (fun v _ => v = .bool ((siteE s : Int) != (0 : Int))) (a21.at 16) w20 := by rw [ha, put_other rfl]; exact T16
    have T13 : (fun v _ => v = .bool ((siteE s : Int) != (0 : Int))) (a21.at 13) w20 := by rw [ha, put_same N (by decide)]; skip
    replace N := (ha ▸ put_size _ _ _ : a21.tmps.size = _).trans N
    replace D := (ha ▸ put_defers' _ _ _ : a21.defers = _).trans D
    clear ha
    clear T16
    refine hK18 _ _ ?_
    refine wp_cond_split (t := (siteE s : Int) != (0 : Int)) T13 (fun C22 => ?_) (fun C22 => ?_)
    · clear T13
      refine wp_seq_k (fun K23 hK23 => ?_)
      -- region 4: ref.go:211
      show (Code.region 4 (rg Tryd.f19 4) false).wp _ _ _ _
      refine plain_list (n := 3) (N := 41) (deps := [[], [], [1]]) (F := [(fun v _ => v = .agg #[.string ⟨#[]⟩, .string ⟨#[]⟩, .string ⟨#[]⟩, .string ⟨#[]⟩, .int .i64 0, .int .i64 0, .string ⟨#[]⟩, .slice none 0 0, .string ⟨#[]⟩]), (fun v _ => v = .string s), (fun v _ => v = .int .i64 (siteE s : Int))]) (by kernel_rfl) (by kernel_rfl) rfl (by kernel_rfl) ⟨(stab_eq _), (stab_eq _), (stab_eq _), trivial⟩ N (by kernel_rfl) ⟨?_, ?_, ?_, trivial⟩ ?_
      · -- 0 ref.go:211
        rintro aa ww hE hF ⟨-⟩
        exact opAt rfl (ok_run rfl (run_here rfl (ex_build rfl (by simp [Instr.build, Tryd.zeroValue26, Tryd.runUnderlying26, Instr.fill, Value.cells, Tryd.sizeOf3, Tryd.sizeOf9, Tryd.sizeOf23, Tryd.sizeOf24])) ( rfl)))
      · -- 1 ref.go:211
        rintro aa ww hE hF ⟨-⟩
        have o1 : aa.eval (.tmp 1) = .string s := hF.carry (fun v _ => v = .string s) rfl (stab_eq _) hE T1
        exact opAt rfl (ok_run rfl (run_here rfl (ex_move (.inl rfl) o1) ( rfl)))
      · -- 2 ref.go:211
        rintro aa ww hE hF ⟨d1, -⟩
        replace d1 : aa.eval (.tmp 18) = .string s := d1
        exact opAt rfl (ok_run rfl (run_callR (ψ := (fun v _ => v = .int .i64 (siteE s : Int))) rfl Tryd.call32 (by
      simp only [List.map_toArray, List.map_cons, List.map_nil, d1]
      exact ret_same (rmSite_c s _ (by first | with_reducible assumption | exact le_max (by omega) | (simp only [ByteArray.size_extract]; unfold maxLen at *; omega)))) (fun _ _ h =>  h)))
      intro a24 w25 hE hF hfac hap
      obtain ⟨f0, f1, f2, -⟩ := hfac
      replace N := hF.size.trans N
      replace D := hF.defers.trans D
      replace R_b4 := hE.row R_b4
      replace R_b5 := hE.row R_b5
      replace T1 : (fun v _ => v = .string s) (a24.at 1) w25 := hF.carry (fun v _ => v = .string s) rfl (stab_eq _) hE T1
      replace T2 : (fun v _ => v = .pointer (some ⟨b4, 0, none⟩)) (a24.at 2) w25 := hF.carry (fun v _ => v = .pointer (some ⟨b4, 0, none⟩)) rfl (stab_eq _) hE T2
      replace T4 : (fun v _ => v = .pointer (some ⟨b5, 0, none⟩)) (a24.at 4) w25 := hF.carry (fun v _ => v = .pointer (some ⟨b5, 0, none⟩)) rfl (stab_eq _) hE T4
      replace T5 : (fun v _ => v = .int .i64 0) (a24.at 5) w25 := hF.carry (fun v _ => v = .int .i64 0) rfl (stab_eq _) hE T5
      have T17 : (fun v _ => v = .agg #[.string ⟨#[]⟩, .string ⟨#[]⟩, .string ⟨#[]⟩, .string ⟨#[]⟩, .int .i64 0, .int .i64 0, .string ⟨#[]⟩, .slice none 0 0, .string ⟨#[]⟩]) (a24.at 17) w25 := f0
      have T19 : (fun v _ => v = .int .i64 (siteE s : Int)) (a24.at 19) w25 := f2
      replace E := E.trans hE
      clear hE hF hap
      show wpOps _ (rg Tryd.f19 4) _ [3, 4] _ _
      refine tail_do rfl rfl rfl (ex_store rfl (show a24.eval (.tmp 4) = .pointer (some ⟨b5, 0, none⟩) from T4) (by rw [show a24.eval (.tmp 17) = .agg #[.string ⟨#[]⟩, .string ⟨#[]⟩, .string ⟨#[]⟩, .string ⟨#[]⟩, .int .i64 0, .int .i64 0, .string ⟨#[]⟩, .slice none 0 0, .string ⟨#[]⟩] from (show a24.eval (.tmp 17) = .agg #[.string ⟨#[]⟩, .string ⟨#[]⟩, .string ⟨#[]⟩, .string ⟨#[]⟩, .int .i64 0, .int .i64 0, .string ⟨#[]⟩, .slice none 0 0, .string ⟨#[]⟩] from T17)]; exact store_row R_b5 (by kernel_rfl) rfl (by simp [Value.oneCell']))) ?_
      obtain ⟨w26, hw⟩ : ∃ x : World, x = w25.setRow b5 #[.string ⟨#[]⟩, .string ⟨#[]⟩, .string ⟨#[]⟩, .string ⟨#[]⟩, .int .i64 0, .int .i64 0, .string ⟨#[]⟩, .slice none 0 0, .string ⟨#[]⟩] := ⟨_, rfl⟩
      rw [← hw]
      replace R_b4 := hw ▸ row_other R_b4 (by first | exact NE_b4_b5 | exact NE_b5_b4.symm)
      replace E : Ext w w26 := hw ▸ below_row E B_b5
      replace T1 : (fun v _ => v = .string s) (a24.at 1) w26 := T1
      replace T2 : (fun v _ => v = .pointer (some ⟨b4, 0, none⟩)) (a24.at 2) w26 := T2
      replace T4 : (fun v _ => v = .pointer (some ⟨b5, 0, none⟩)) (a24.at 4) w26 := T4
      replace T5 : (fun v _ => v = .int .i64 0) (a24.at 5) w26 := T5
      replace T17 : (fun v _ => v = .agg #[.string ⟨#[]⟩, .string ⟨#[]⟩, .string ⟨#[]⟩, .string ⟨#[]⟩, .int .i64 0, .int .i64 0, .string ⟨#[]⟩, .slice none 0 0, .string ⟨#[]⟩]) (a24.at 17) w26 := T17
      replace T19 : (fun v _ => v = .int .i64 (siteE s : Int)) (a24.at 19) w26 := T19
      replace R_b5 : w26.heap[b5]? = some (.cells #[.string ⟨#[]⟩, .string ⟨#[]⟩, .string ⟨#[]⟩, .string ⟨#[]⟩, .int .i64 0, .int .i64 0, .string ⟨#[]⟩, .slice none 0 0, .string ⟨#[]⟩] 26 (0, 0)) := by rw [hw]; exact setRow_heap _ _ _ _ _ _ R_b5
      clear hw
      refine tail_val rfl rfl rfl (ex_move (.inr rfl) (v := .int .i64 (siteE s : Int)) (show a24.eval (.tmp 19) = .int .i64 (siteE s : Int) from T19)) ?_
      obtain ⟨a27, ha⟩ : ∃ x : Act, x = a24.put (some 5) (.int .i64 (siteE s : Int)) := ⟨_, rfl⟩
      rw [← ha]
      replace T1 : (fun v _ => v = .string s) (a27.at 1) w26 := by rw [ha, put_other rfl]; exact T1
      replace T2 : (fun v _ => v = .pointer (some ⟨b4, 0, none⟩)) (a27.at 2) w26 := by rw [ha, put_other rfl]; exact T2
      replace T4 : (fun v _ => v = .pointer (some ⟨b5, 0, none⟩)) (a27.at 4) w26 := by rw [ha, put_other rfl]; exact T4
      replace T17 : (fun v _ => v = .agg #[.string ⟨#[]⟩, .string ⟨#[]⟩, .string ⟨#[]⟩, .string ⟨#[]⟩, .int .i64 0, .int .i64 0, .string ⟨#[]⟩, .slice none 0 0, .string ⟨#[]⟩]) (a27.at 17) w26 := by rw [ha, put_other rfl]; exact T17
      replace T19 : (fun v _ => v = .int .i64 (siteE s : Int)) (a27.at 19) w26 := by rw [ha, put_other rfl]; exact T19
      replace T5 : (fun v _ => v = .int .i64 (siteE s : Int)) (a27.at 5) w26 := by rw [ha, put_same N (by decide)]; skip
      replace N := (ha ▸ put_size _ _ _ : a27.tmps.size = _).trans N
      replace D := (ha ▸ put_defers' _ _ _ : a27.defers = _).trans D
      clear ha
      clear T17
      clear T19
      refine hK23 _ _ ?_
      refine wp_ret ?_
      -- the end
      refine ret_c1 Tryd.results19 D T4 (load_row R_b5 Tryd.underlying26 rfl (by kernel_rfl)) T5 ?_
      exact ⟨_, rfl, E, pass2 w.heap.size C12 C22⟩
    · clear T13
      refine wp_seq_k (fun K28 hK28 => ?_)
      -- region 5: ref.go:212
      show (Code.region 5 (rg Tryd.f19 5) false).wp _ _ _ _
      refine plain_list (n := 4) (N := 41) (deps := [[], [0], [], [1, 2]]) (F := [(fun v _ => v = .pointer (some ⟨b4, 7, none⟩)), (IsStrs m.hops), (fun v _ => v = .string s), (fun v _ => v = .bool (Lib.containsS m.hops s))]) (by kernel_rfl) (by kernel_rfl) rfl (by kernel_rfl) ⟨(stab_eq _), (stab_strs _), (stab_eq _), (stab_eq _), trivial⟩ N (by kernel_rfl) ⟨?_, ?_, ?_, ?_, trivial⟩ ?_
      · -- 0 ref.go:212
        rintro aa ww hE hF ⟨-⟩
        have o2 : aa.eval (.tmp 2) = .pointer (some ⟨b4, 0, none⟩) := hF.carry (fun v _ => v = .pointer (some ⟨b4, 0, none⟩)) rfl (stab_eq _) hE T2
        exact opAt rfl (ok_run rfl (run_here rfl (ex_fieldAddr rfl o2 Tryd.underlying26 rfl (fun w => ⟨_, Tryd.sizeOf24 w⟩) rfl) ( rfl)))
      · -- 1 ref.go:212
        rintro aa ww hE hF ⟨d0, -⟩
        replace d0 : aa.eval (.tmp 21) = .pointer (some ⟨b4, 7, none⟩) := d0
        exact opAt rfl (ok_run rfl (run_here rfl (ex_load rfl d0 (load_cell Tryd.isAgg24 ((cell_row (hE.row R_b4) 7).trans rfl))) ( (sm.below (E.trans hE)))))
      · -- 2 ref.go:212
        rintro aa ww hE hF ⟨-⟩
        have o1 : aa.eval (.tmp 1) = .string s := hF.carry (fun v _ => v = .string s) rfl (stab_eq _) hE T1
        exact opAt rfl (ok_run rfl (run_here rfl (ex_move (.inl rfl) o1) ( rfl)))
      · -- 3 ref.go:212
        rintro aa ww hE hF ⟨d1, d2, -⟩
        replace d1 : (IsStrs m.hops) (aa.eval (.tmp 22)) ww := d1
        replace d2 : aa.eval (.tmp 23) = .string s := d2
        exact opAt rfl (ok_run rfl (run_callR (ψ := (fun v _ => v = .bool (Lib.containsS m.hops s))) rfl Tryd.call43 (by simp only [List.map_toArray, List.map_cons, List.map_nil, d2]; exact has_e _ (by first | with_reducible assumption | omega) d1) (fun _ _ h =>  h)))
      intro a29 w30 hE hF hfac hap
      obtain ⟨f0, f1, f2, f3, -⟩ := hfac
      replace N := hF.size.trans N
      replace D := hF.defers.trans D
      replace R_b4 := hE.row R_b4
      replace R_b5 := hE.row R_b5
      replace T1 : (fun v _ => v = .string s) (a29.at 1) w30 := hF.carry (fun v _ => v = .string s) rfl (stab_eq _) hE T1
      replace T2 : (fun v _ => v = .pointer (some ⟨b4, 0, none⟩)) (a29.at 2) w30 := hF.carry (fun v _ => v = .pointer (some ⟨b4, 0, none⟩)) rfl (stab_eq _) hE T2
      replace T4 : (fun v _ => v = .pointer (some ⟨b5, 0, none⟩)) (a29.at 4) w30 := hF.carry (fun v _ => v = .pointer (some ⟨b5, 0, none⟩)) rfl (stab_eq _) hE T4
      replace T5 : (fun v _ => v = .int .i64 0) (a29.at 5) w30 := hF.carry (fun v _ => v = .int .i64 0) rfl (stab_eq _) hE T5
      have T24 : (fun v _ => v = .bool (Lib.containsS m.hops s)) (a29.at 24) w30 := f3
      replace E := E.trans hE
      clear hE hF hap
      show wpOps _ (rg Tryd.f19 5) _ [4] _ _
      refine tail_val rfl rfl rfl (ex_move (.inr rfl) (v := .bool (Lib.containsS m.hops s)) (show a29.eval (.tmp 24) = .bool (Lib.containsS m.hops s) from T24)) ?_
      obtain ⟨a31, ha⟩ : ∃ x : Act, x = a29.put (some 20) (.bool (Lib.containsS m.hops s)) := ⟨_, rfl⟩
      rw [← ha]
      replace T1 : (fun v _ => v = .string s) (a31.at 1) w30 := by rw [ha, put_other rfl]; exact T1
      replace T2 : (fun v _ => v = .pointer (some ⟨b4, 0, none⟩)) (a31.at 2) w30 := by rw [ha, put_other rfl]; exact T2
      replace T4 : (fun v _ => v = .pointer (some ⟨b5, 0, none⟩)) (a31.at 4) w30 := by rw [ha, put_other rfl]; exact T4
      replace T5 : (fun v _ => v = .int .i64 0) (a31.at 5) w30 := by rw [ha, put_other rfl]; exact T5
      replace T24 : (fun v _ => v = .bool (Lib.containsS m.hops s)) (a31.at 24) w30 := by rw [ha, put_other rfl]; exact T24
      have T20 : (fun v _ => v = .bool (Lib.containsS m.hops s)) (a31.at 20) w30 := by rw [ha, put_same N (by decide)]; skip
      replace N := (ha ▸ put_size _ _ _ : a31.tmps.size = _).trans N
      replace D := (ha ▸ put_defers' _ _ _ : a31.defers = _).trans D
      clear ha
      clear T24
      refine hK28 _ _ ?_
      refine wp_cond_split (t := Lib.containsS m.hops s) T20 (fun C32 => ?_) (fun C32 => ?_)
      · clear T20
        refine wp_seq_k (fun K33 hK33 => ?_)
        -- region 6: ref.go:213
        show (Code.region 6 (rg Tryd.f19 6) false).wp _ _ _ _
        refine plain_list (n := 1) (N := 41) (deps := [[]]) (F := [(fun v _ => v = .agg #[.string ⟨#[]⟩, .string ⟨#[]⟩, .string ⟨#[]⟩, .string ⟨#[]⟩, .int .i64 0, .int .i64 0, .string ⟨#[]⟩, .slice none 0 0, .string ⟨#[]⟩])]) (by kernel_rfl) (by kernel_rfl) rfl (by kernel_rfl) ⟨(stab_eq _), trivial⟩ N (by kernel_rfl) ⟨?_, trivial⟩ ?_
        · -- 0 ref.go:213
          rintro aa ww hE hF ⟨-⟩
          exact opAt rfl (ok_run rfl (run_here rfl (ex_build rfl (by simp [Instr.build, Tryd.zeroValue26, Tryd.runUnderlying26, Instr.fill, Value.cells, Tryd.sizeOf3, Tryd.sizeOf9, Tryd.sizeOf23, Tryd.sizeOf24])) ( rfl)))
        intro a34 w35 hE hF hfac hap
        obtain ⟨f0, -⟩ := hfac
        replace N := hF.size.trans N
        replace D := hF.defers.trans D
        replace R_b4 := hE.row R_b4
        replace R_b5 := hE.row R_b5
        replace T1 : (fun v _ => v = .string s) (a34.at 1) w35 := hF.carry (fun v _ => v = .string s) rfl (stab_eq _) hE T1
        replace T2 : (fun v _ => v = .pointer (some ⟨b4, 0, none⟩)) (a34.at 2) w35 := hF.carry (fun v _ => v = .pointer (some ⟨b4, 0, none⟩)) rfl (stab_eq _) hE T2
        replace T4 : (fun v _ => v = .pointer (some ⟨b5, 0, none⟩)) (a34.at 4) w35 := hF.carry (fun v _ => v = .pointer (some ⟨b5, 0, none⟩)) rfl (stab_eq _) hE T4
        replace T5 : (fun v _ => v = .int .i64 0) (a34.at 5) w35 := hF.carry (fun v _ => v = .int .i64 0) rfl (stab_eq _) hE T5
        have T25 : (fun v _ => v = .agg #[.string ⟨#[]⟩, .string ⟨#[]⟩, .string ⟨#[]⟩, .string ⟨#[]⟩, .int .i64 0, .int .i64 0, .string ⟨#[]⟩, .slice none 0 0, .string ⟨#[]⟩]) (a34.at 25) w35 := f0
        replace E := E.trans hE
        clear hE hF hap
        show wpOps _ (rg Tryd.f19 6) _ [1, 2] _ _
        refine tail_do rfl rfl rfl (ex_store rfl (show a34.eval (.tmp 4) = .pointer (some ⟨b5, 0, none⟩) from T4) (by rw [show a34.eval (.tmp 25) = .agg #[.string ⟨#[]⟩, .string ⟨#[]⟩, .string ⟨#[]⟩, .string ⟨#[]⟩, .int .i64 0, .int .i64 0, .string ⟨#[]⟩, .slice none 0 0, .string ⟨#[]⟩] from (show a34.eval (.tmp 25) = .agg #[.string ⟨#[]⟩, .string ⟨#[]⟩, .string ⟨#[]⟩, .string ⟨#[]⟩, .int .i64 0, .int .i64 0, .string ⟨#[]⟩, .slice none 0 0, .string ⟨#[]⟩] from T25)]; exact store_row R_b5 (by kernel_rfl) rfl (by simp [Value.oneCell']))) ?_
        obtain ⟨w36, hw⟩ : ∃ x : World, x = w35.setRow b5 #[.string ⟨#[]⟩, .string ⟨#[]⟩, .string ⟨#[]⟩, .string ⟨#[]⟩, .int .i64 0, .int .i64 0, .string ⟨#[]⟩, .slice none 0 0, .string ⟨#[]⟩] := ⟨_, rfl⟩
        rw [← hw]
        replace R_b4 := hw ▸ row_other R_b4 (by first | exact NE_b4_b5 | exact NE_b5_b4.symm)
        replace E : Ext w w36 := hw ▸ below_row E B_b5
        replace T1 : (fun v _ => v = .string s) (a34.at 1) w36 := T1
        replace T2 : (fun v _ => v = .pointer (some ⟨b4, 0, none⟩)) (a34.at 2) w36 := T2
        replace T4 : (fun v _ => v = .pointer (some ⟨b5, 0, none⟩)) (a34.at 4) w36 := T4
        replace T5 : (fun v _ => v = .int .i64 0) (a34.at 5) w36 := T5
        replace T25 : (fun v _ => v = .agg #[.string ⟨#[]⟩, .string ⟨#[]⟩, .string ⟨#[]⟩, .string ⟨#[]⟩, .int .i64 0, .int .i64 0, .string ⟨#[]⟩, .slice none 0 0, .string ⟨#[]⟩]) (a34.at 25) w36 := T25
        replace R_b5 : w36.heap[b5]? = some (.cells #[.string ⟨#[]⟩, .string ⟨#[]⟩, .string ⟨#[]⟩, .string ⟨#[]⟩, .int .i64 0, .int .i64 0, .string ⟨#[]⟩, .slice none 0 0, .string ⟨#[]⟩] 26 (0, 0)) := by rw [hw]; exact setRow_heap _ _ _ _ _ _ R_b5
        clear hw
        refine tail_val rfl rfl rfl (ex_move (.inr rfl) (v := .int .i64 24) (ev_const (v := .int .i64 24))) ?_
        obtain ⟨a37, ha⟩ : ∃ x : Act, x = a34.put (some 5) (.int .i64 24) := ⟨_, rfl⟩
        rw [← ha]
        replace T1 : (fun v _ => v = .string s) (a37.at 1) w36 := by rw [ha, put_other rfl]; exact T1
        replace T2 : (fun v _ => v = .pointer (some ⟨b4, 0, none⟩)) (a37.at 2) w36 := by rw [ha, put_other rfl]; exact T2
        replace T4 : (fun v _ => v = .pointer (some ⟨b5, 0, none⟩)) (a37.at 4) w36 := by rw [ha, put_other rfl]; exact T4
        replace T25 : (fun v _ => v = .agg #[.string ⟨#[]⟩, .string ⟨#[]⟩, .string ⟨#[]⟩, .string ⟨#[]⟩, .int .i64 0, .int .i64 0, .string ⟨#[]⟩, .slice none 0 0, .string ⟨#[]⟩]) (a37.at 25) w36 := by rw [ha, put_other rfl]; exact T25
        replace T5 : (fun v _ => v = .int .i64 24) (a37.at 5) w36 := by rw [ha, put_same N (by decide)]; skip
        replace N := (ha ▸ put_size _ _ _ : a37.tmps.size = _).trans N
        replace D := (ha ▸ put_defers' _ _ _ : a37.defers = _).trans D
        clear ha
        clear T25
        refine hK33 _ _ ?_
        refine wp_ret ?_
        -- the end
        refine ret_c1 Tryd.results19 D T4 (load_row R_b5 Tryd.underlying26 rfl (by kernel_rfl)) T5 ?_
        exact ⟨_, rfl, E, pass3 w.heap.size C12 C22 C32⟩
      · clear T20
        refine wp_seq_k (fun K38 hK38 => ?_)
        -- region 7: ref.go:214
        show (Code.region 7 (rg Tryd.f19 7) false).wp _ _ _ _
        refine plain_list (n := 4) (N := 41) (deps := [[], [0], [1], [2]]) (F := [(fun v _ => v = .pointer (some ⟨b4, 7, none⟩)), (IsStrs m.hops), (fun v _ => v = .int .i64 (m.hops.length : Int)), (fun v _ => v = .bool ((m.hops.length : Int) == (16 : Int)))]) (by kernel_rfl) (by kernel_rfl) rfl (by kernel_rfl) ⟨(stab_eq _), (stab_strs _), (stab_eq _), (stab_eq _), trivial⟩ N (by kernel_rfl) ⟨?_, ?_, ?_, ?_, trivial⟩ ?_
        · -- 0 ref.go:214
          rintro aa ww hE hF ⟨-⟩
          have o2 : aa.eval (.tmp 2) = .pointer (some ⟨b4, 0, none⟩) := hF.carry (fun v _ => v = .pointer (some ⟨b4, 0, none⟩)) rfl (stab_eq _) hE T2
          exact opAt rfl (ok_run rfl (run_here rfl (ex_fieldAddr rfl o2 Tryd.underlying26 rfl (fun w => ⟨_, Tryd.sizeOf24 w⟩) rfl) ( rfl)))
        · -- 1 ref.go:214
          rintro aa ww hE hF ⟨d0, -⟩
          replace d0 : aa.eval (.tmp 27) = .pointer (some ⟨b4, 7, none⟩) := d0
          exact opAt rfl (ok_run rfl (run_here rfl (ex_load rfl d0 (load_cell Tryd.isAgg24 ((cell_row (hE.row R_b4) 7).trans rfl))) ( (sm.below (E.trans hE)))))
        · -- 2 ref.go:214
          rintro aa ww hE hF ⟨d1, -⟩
          replace d1 : (IsStrs m.hops) (aa.eval (.tmp 28)) ww := d1
          exact opAt rfl (ok_run rfl (run_here rfl (ex_builtin rfl (fun cs => by obtain ⟨_, _, e⟩ := strs_form (d1); simp only [List.map_toArray, List.map_cons, List.map_nil, e]; exact len_slice Tryd.underlying24)) ( rfl)))
        · -- 3 ref.go:214
          rintro aa ww hE hF ⟨d2, -⟩
          replace d2 : aa.eval (.tmp 29) = .int .i64 (m.hops.length : Int) := d2
          exact opAt rfl (ok_run rfl (run_here rfl (ex_binOp rfl (by rw [show aa.eval (.tmp 29) = .int .i64 (m.hops.length : Int) from d2, show aa.eval (.const (.int .i64 16)) = .int .i64 16 from (ev_const (v := .int .i64 16))]; exact eqg_int) (by rw [show aa.eval (.tmp 29) = .int .i64 (m.hops.length : Int) from d2, show aa.eval (.const (.int .i64 16)) = .int .i64 16 from (ev_const (v := .int .i64 16))]; exact bin_eql)) ( rfl)))
        intro a39 w40 hE hF hfac hap
        obtain ⟨f0, f1, f2, f3, -⟩ := hfac
        replace N := hF.size.trans N
        replace D := hF.defers.trans D
        replace R_b4 := hE.row R_b4
        replace R_b5 := hE.row R_b5
        replace T1 : (fun v _ => v = .string s) (a39.at 1) w40 := hF.carry (fun v _ => v = .string s) rfl (stab_eq _) hE T1
        replace T2 : (fun v _ => v = .pointer (some ⟨b4, 0, none⟩)) (a39.at 2) w40 := hF.carry (fun v _ => v = .pointer (some ⟨b4, 0, none⟩)) rfl (stab_eq _) hE T2
        replace T4 : (fun v _ => v = .pointer (some ⟨b5, 0, none⟩)) (a39.at 4) w40 := hF.carry (fun v _ => v = .pointer (some ⟨b5, 0, none⟩)) rfl (stab_eq _) hE T4
        replace T5 : (fun v _ => v = .int .i64 0) (a39.at 5) w40 := hF.carry (fun v _ => v = .int .i64 0) rfl (stab_eq _) hE T5
        have T30 : (fun v _ => v = .bool ((m.hops.length : Int) == (16 : Int))) (a39.at 30) w40 := f3
        replace E := E.trans hE
        clear hE hF hap
        show wpOps _ (rg Tryd.f19 7) _ [4] _ _
        refine tail_val rfl rfl rfl (ex_move (.inr rfl) (v := .bool ((m.hops.length : Int) == (16 : Int))) (show a39.eval (.tmp 30) = .bool ((m.hops.length : Int) == (16 : Int)) from T30)) ?_
        obtain ⟨a41, ha⟩ : ∃ x : Act, x = a39.put (some 26) (.bool ((m.hops.length : Int) == (16 : Int))) := ⟨_, rfl⟩
        rw [← ha]
        replace T1 : (fun v _ => v = .string s) (a41.at 1) w40 := by rw [ha, put_other rfl]; exact T1
        replace T2 : (fun v _ => v = .pointer (some ⟨b4, 0, none⟩)) (a41.at 2) w40 := by rw [ha, put_other rfl]; exact T2
        replace T4 : (fun v _ => v = .pointer (some ⟨b5, 0, none⟩)) (a41.at 4) w40 := by rw [ha, put_other rfl]; exact T4
        replace T5 : (fun v _ => v = .int .i64 0) (a41.at 5) w40 := by rw [ha, put_other rfl]; exact T5
        replace T30 : (fun v _ => v = .bool ((m.hops.length : Int) == (16 : Int))) (a41.at 30) w40 := by rw [ha, put_other rfl]; exact T30
        have T26 : (fun v _ => v = .bool ((m.hops.length : Int) == (16 : Int))) (a41.at 26) w40 := by rw [ha, put_same N (by decide)]; skip
        replace N := (ha ▸ put_size _ _ _ : a41.tmps.size = _).trans N
        replace D := (ha ▸ put_defers' _ _ _ : a41.defers = _).trans D
        clear ha
        clear T30
        refine hK38 _ _ ?_
        refine wp_cond_split (t := (m.hops.length : Int) == (16 : Int)) T26 (fun C42 => ?_) (fun C42 => ?_)
        · clear T26
          refine wp_seq_k (fun K43 hK43 => ?_)
          -- region 8: ref.go:215
          show (Code.region 8 (rg Tryd.f19 8) false).wp _ _ _ _
          refine plain_list (n := 1) (N := 41) (deps := [[]]) (F := [(fun v _ => v = .agg #[.string ⟨#[]⟩, .string ⟨#[]⟩, .string ⟨#[]⟩, .string ⟨#[]⟩, .int .i64 0, .int .i64 0, .string ⟨#[]⟩, .slice none 0 0, .string ⟨#[]⟩])]) (by kernel_rfl) (by kernel_rfl) rfl (by kernel_rfl) ⟨(stab_eq _), trivial⟩ N (by kernel_rfl) ⟨?_, trivial⟩ ?_
          · -- 0 ref.go:215
            rintro aa ww hE hF ⟨-⟩
            exact opAt rfl (ok_run rfl (run_here rfl (ex_build rfl (by simp [Instr.build, Tryd.zeroValue26, Tryd.runUnderlying26, Instr.fill, Value.cells, Tryd.sizeOf3, Tryd.sizeOf9, Tryd.sizeOf23, Tryd.sizeOf24])) ( rfl)))
          intro a44 w45 hE hF hfac hap
          obtain ⟨f0, -⟩ := hfac
          replace N := hF.size.trans N
          replace D := hF.defers.trans D
          replace R_b4 := hE.row R_b4
          replace R_b5 := hE.row R_b5
          replace T1 : (fun v _ => v = .string s) (a44.at 1) w45 := hF.carry (fun v _ => v = .string s) rfl (stab_eq _) hE T1
          replace T2 : (fun v _ => v = .pointer (some ⟨b4, 0, none⟩)) (a44.at 2) w45 := hF.carry (fun v _ => v = .pointer (some ⟨b4, 0, none⟩)) rfl (stab_eq _) hE T2
          replace T4 : (fun v _ => v = .pointer (some ⟨b5, 0, none⟩)) (a44.at 4) w45 := hF.carry (fun v _ => v = .pointer (some ⟨b5, 0, none⟩)) rfl (stab_eq _) hE T4
          replace T5 : (fun v _ => v = .int .i64 0) (a44.at 5) w45 := hF.carry (fun v _ => v = .int .i64 0) rfl (stab_eq _) hE T5
          have T31 : (fun v _ => v = .agg #[.string ⟨#[]⟩, .string ⟨#[]⟩, .string ⟨#[]⟩, .string ⟨#[]⟩, .int .i64 0, .int .i64 0, .string ⟨#[]⟩, .slice none 0 0, .string ⟨#[]⟩]) (a44.at 31) w45 := f0
          replace E := E.trans hE
          clear hE hF hap
          show wpOps _ (rg Tryd.f19 8) _ [1, 2] _ _
          refine tail_do rfl rfl rfl (ex_store rfl (show a44.eval (.tmp 4) = .pointer (some ⟨b5, 0, none⟩) from T4) (by rw [show a44.eval (.tmp 31) = .agg #[.string ⟨#[]⟩, .string ⟨#[]⟩, .string ⟨#[]⟩, .string ⟨#[]⟩, .int .i64 0, .int .i64 0, .string ⟨#[]⟩, .slice none 0 0, .string ⟨#[]⟩] from (show a44.eval (.tmp 31) = .agg #[.string ⟨#[]⟩, .string ⟨#[]⟩, .string ⟨#[]⟩, .string ⟨#[]⟩, .int .i64 0, .int .i64 0, .string ⟨#[]⟩, .slice none 0 0, .string ⟨#[]⟩] from T31)]; exact store_row R_b5 (by kernel_rfl) rfl (by simp [Value.oneCell']))) ?_
          obtain ⟨w46, hw⟩ : ∃ x : World, x = w45.setRow b5 #[.string ⟨#[]⟩, .string ⟨#[]⟩, .string ⟨#[]⟩, .string ⟨#[]⟩, .int .i64 0, .int .i64 0, .string ⟨#[]⟩, .slice none 0 0, .string ⟨#[]⟩] := ⟨_, rfl⟩
          rw [← hw]
          replace R_b4 := hw ▸ row_other R_b4 (by first | exact NE_b4_b5 | exact NE_b5_b4.symm)
          replace E : Ext w w46 := hw ▸ below_row E B_b5
          replace T1 : (fun v _ => v = .string s) (a44.at 1) w46 := T1
          replace T2 : (fun v _ => v = .pointer (some ⟨b4, 0, none⟩)) (a44.at 2) w46 := T2
          replace T4 : (fun v _ => v = .pointer (some ⟨b5, 0, none⟩)) (a44.at 4) w46 := T4
          replace T5 : (fun v _ => v = .int .i64 0) (a44.at 5) w46 := T5
          replace T31 : (fun v _ => v = .agg #[.string ⟨#[]⟩, .string ⟨#[]⟩, .string ⟨#[]⟩, .string ⟨#[]⟩, .int .i64 0, .int .i64 0, .string ⟨#[]⟩, .slice none 0 0, .string ⟨#[]⟩]) (a44.at 31) w46 := T31
          replace R_b5 : w46.heap[b5]? = some (.cells #[.string ⟨#[]⟩, .string ⟨#[]⟩, .string ⟨#[]⟩, .string ⟨#[]⟩, .int .i64 0, .int .i64 0, .string ⟨#[]⟩, .slice none 0 0, .string ⟨#[]⟩] 26 (0, 0)) := by rw [hw]; exact setRow_heap _ _ _ _ _ _ R_b5
          clear hw
          refine tail_val rfl rfl rfl (ex_move (.inr rfl) (v := .int .i64 9) (ev_const (v := .int .i64 9))) ?_
          obtain ⟨a47, ha⟩ : ∃ x : Act, x = a44.put (some 5) (.int .i64 9) := ⟨_, rfl⟩
          rw [← ha]
          replace T1 : (fun v _ => v = .string s) (a47.at 1) w46 := by rw [ha, put_other rfl]; exact T1
          replace T2 : (fun v _ => v = .pointer (some ⟨b4, 0, none⟩)) (a47.at 2) w46 := by rw [ha, put_other rfl]; exact T2
          replace T4 : (fun v _ => v = .pointer (some ⟨b5, 0, none⟩)) (a47.at 4) w46 := by rw [ha, put_other rfl]; exact T4
          replace T31 : (fun v _ => v = .agg #[.string ⟨#[]⟩, .string ⟨#[]⟩, .string ⟨#[]⟩, .string ⟨#[]⟩, .int .i64 0, .int .i64 0, .string ⟨#[]⟩, .slice none 0 0, .string ⟨#[]⟩]) (a47.at 31) w46 := by rw [ha, put_other rfl]; exact T31
          replace T5 : (fun v _ => v = .int .i64 9) (a47.at 5) w46 := by rw [ha, put_same N (by decide)]; skip
          replace N := (ha ▸ put_size _ _ _ : a47.tmps.size = _).trans N
          replace D := (ha ▸ put_defers' _ _ _ : a47.defers = _).trans D
          clear ha
          clear T31
          refine hK43 _ _ ?_
          refine wp_ret ?_
          -- the end
          refine ret_c1 Tryd.results19 D T4 (load_row R_b5 Tryd.underlying26 rfl (by kernel_rfl)) T5 ?_
          exact ⟨_, rfl, E, pass4 w.heap.size C12 C22 C32 (rpass4 C12 C42)⟩
        · clear T26
          refine wp_skip ?_
          refine hK7 _ _ ?_
          refine wp_seq_k (fun K48 hK48 => ?_)
          -- region 9: ref.go:217
          show (Code.region 9 (rg Tryd.f19 9) false).wp _ _ _ _
          refine plain_list (n := 3) (N := 41) (deps := [[], [], [1]]) (F := [(IsOwnS w.heap.size []), (fun v _ => v = .pointer (some ⟨b4, 7, none⟩)), (IsStrs m.hops)]) (by kernel_rfl) (by kernel_rfl) rfl (by kernel_rfl) ⟨(stab_ownS _ _), (stab_eq _), (stab_strs _), trivial⟩ N (by kernel_rfl) ⟨?_, ?_, ?_, trivial⟩ ?_
          · -- 0 ref.go:217
            rintro aa ww hE hF ⟨-⟩
            exact opAt rfl (ok_run rfl (run_ok rfl (ex_buildSlice rfl (by simp only [List.map_toArray, List.map_nil]; exact bs_str0 _)) (Ext.alloc _ _) ( ((bs_run (bs_str0 _) rfl rfl (by decide)).mono (E.trans hE).size))))
          · -- 1 ref.go:217
            rintro aa ww hE hF ⟨-⟩
            have o2 : aa.eval (.tmp 2) = .pointer (some ⟨b4, 0, none⟩) := hF.carry (fun v _ => v = .pointer (some ⟨b4, 0, none⟩)) rfl (stab_eq _) hE T2
            exact opAt rfl (ok_run rfl (run_here rfl (ex_fieldAddr rfl o2 Tryd.underlying26 rfl (fun w => ⟨_, Tryd.sizeOf24 w⟩) rfl) ( rfl)))
          · -- 2 ref.go:217
            rintro aa ww hE hF ⟨d1, -⟩
            replace d1 : aa.eval (.tmp 33) = .pointer (some ⟨b4, 7, none⟩) := d1
            exact opAt rfl (ok_run rfl (run_here rfl (ex_load rfl d1 (load_cell Tryd.isAgg24 ((cell_row (hE.row R_b4) 7).trans rfl))) ( (sm.below (E.trans hE)))))
          intro a49 w50 hE hF hfac hap
          obtain ⟨f0, f1, f2, -⟩ := hfac
          replace N := hF.size.trans N
          replace D := hF.defers.trans D
          replace R_b4 := hE.row R_b4
          replace R_b5 := hE.row R_b5
          replace T1 : (fun v _ => v = .string s) (a49.at 1) w50 := hF.carry (fun v _ => v = .string s) rfl (stab_eq _) hE T1
          replace T2 : (fun v _ => v = .pointer (some ⟨b4, 0, none⟩)) (a49.at 2) w50 := hF.carry (fun v _ => v = .pointer (some ⟨b4, 0, none⟩)) rfl (stab_eq _) hE T2
          replace T4 : (fun v _ => v = .pointer (some ⟨b5, 0, none⟩)) (a49.at 4) w50 := hF.carry (fun v _ => v = .pointer (some ⟨b5, 0, none⟩)) rfl (stab_eq _) hE T4
          replace T5 : (fun v _ => v = .int .i64 0) (a49.at 5) w50 := hF.carry (fun v _ => v = .int .i64 0) rfl (stab_eq _) hE T5
          have T32 : (IsOwnS w.heap.size []) (a49.at 32) w50 := f0
          have T34 : (IsStrs m.hops) (a49.at 34) w50 := f2
          replace E := E.trans hE
          clear hE hF hap
          show wpOps _ (rg Tryd.f19 9) _ [3, 4, 5, 6, 7, 8] _ _
          obtain ⟨v51, w52, hrun, hown, hgr⟩ := app_strs 24 (show (IsOwnS w.heap.size []) (a49.eval (.tmp 32)) w50 from T32) (show (IsStrs m.hops) (a49.eval (.tmp 34)) w50 from T34) (by omega) E.size
          refine tail_val rfl rfl rfl (v := v51) (ex_builtin rfl (fun cs => by simp only [List.map_toArray, List.map_cons, List.map_nil]; exact builtin_app hrun)) ?_
          replace R_b4 := grown_row (show (IsOwnS w.heap.size []) (a49.eval (.tmp 32)) w50 from T32) hgr R_b4 rfl
          replace R_b5 := grown_row (show (IsOwnS w.heap.size []) (a49.eval (.tmp 32)) w50 from T32) hgr R_b5 rfl
          replace E : Ext w w52 := grown_ext (show (IsOwnS w.heap.size []) (a49.eval (.tmp 32)) w50 from T32) hgr E (by omega)
          clear T32
          clear T34
          replace T1 : (fun v _ => v = .string s) (a49.at 1) w52 := T1
          replace T2 : (fun v _ => v = .pointer (some ⟨b4, 0, none⟩)) (a49.at 2) w52 := T2
          replace T4 : (fun v _ => v = .pointer (some ⟨b5, 0, none⟩)) (a49.at 4) w52 := T4
          replace T5 : (fun v _ => v = .int .i64 0) (a49.at 5) w52 := T5
          obtain ⟨a53, ha⟩ : ∃ x : Act, x = a49.put (some 35) (v51) := ⟨_, rfl⟩
          rw [← ha]
          replace T1 : (fun v _ => v = .string s) (a53.at 1) w52 := by rw [ha, put_other rfl]; exact T1
          replace T2 : (fun v _ => v = .pointer (some ⟨b4, 0, none⟩)) (a53.at 2) w52 := by rw [ha, put_other rfl]; exact T2
          replace T4 : (fun v _ => v = .pointer (some ⟨b5, 0, none⟩)) (a53.at 4) w52 := by rw [ha, put_other rfl]; exact T4
          replace T5 : (fun v _ => v = .int .i64 0) (a53.at 5) w52 := by rw [ha, put_other rfl]; exact T5
          have T35 : (IsOwnS w.heap.size ([] ++ m.hops : List ByteArray)) (a53.at 35) w52 := by rw [ha, put_same N (by decide)]; exact hown
          replace N := (ha ▸ put_size _ _ _ : a53.tmps.size = _).trans N
          replace D := (ha ▸ put_defers' _ _ _ : a53.defers = _).trans D
          clear ha
          clear hrun hown hgr
          refine tail_val rfl rfl rfl (ex_move (.inl rfl) (v := .string s) (show a53.eval (.tmp 1) = .string s from T1)) ?_
          obtain ⟨a54, ha⟩ : ∃ x : Act, x = a53.put (some 36) (.string s) := ⟨_, rfl⟩
          rw [← ha]
          replace T1 : (fun v _ => v = .string s) (a54.at 1) w52 := by rw [ha, put_other rfl]; exact T1
          replace T2 : (fun v _ => v = .pointer (some ⟨b4, 0, none⟩)) (a54.at 2) w52 := by rw [ha, put_other rfl]; exact T2
          replace T4 : (fun v _ => v = .pointer (some ⟨b5, 0, none⟩)) (a54.at 4) w52 := by rw [ha, put_other rfl]; exact T4
          replace T5 : (fun v _ => v = .int .i64 0) (a54.at 5) w52 := by rw [ha, put_other rfl]; exact T5
          replace T35 : (IsOwnS w.heap.size ([] ++ m.hops : List ByteArray)) (a54.at 35) w52 := by rw [ha, put_other rfl]; exact T35
          have T36 : (fun v _ => v = .string s) (a54.at 36) w52 := by rw [ha, put_same N (by decide)]; skip
          replace N := (ha ▸ put_size _ _ _ : a54.tmps.size = _).trans N
          replace D := (ha ▸ put_defers' _ _ _ : a54.defers = _).trans D
          clear ha
          obtain ⟨v55, w56, hrun, hown, he⟩ := bs_new1 s w52 E.size
          refine tail_val rfl rfl rfl (v := v55) (ex_buildSlice rfl (by simp only [List.map_toArray, List.map_cons, List.map_nil, (show a54.eval (.tmp 36) = .string s from T36)]; exact hrun)) ?_
          replace R_b4 := he.row R_b4
          replace R_b5 := he.row R_b5
          replace T1 : (fun v _ => v = .string s) (a54.at 1) w56 := (stab_eq _) _ _ _ he T1
          replace T2 : (fun v _ => v = .pointer (some ⟨b4, 0, none⟩)) (a54.at 2) w56 := (stab_eq _) _ _ _ he T2
          replace T4 : (fun v _ => v = .pointer (some ⟨b5, 0, none⟩)) (a54.at 4) w56 := (stab_eq _) _ _ _ he T4
          replace T5 : (fun v _ => v = .int .i64 0) (a54.at 5) w56 := (stab_eq _) _ _ _ he T5
          replace T35 : (IsOwnS w.heap.size ([] ++ m.hops : List ByteArray)) (a54.at 35) w56 := (stab_ownS _ _) _ _ _ he T35
          replace T36 : (fun v _ => v = .string s) (a54.at 36) w56 := (stab_eq _) _ _ _ he T36
          replace E := E.trans he
          obtain ⟨a57, ha⟩ : ∃ x : Act, x = a54.put (some 37) (v55) := ⟨_, rfl⟩
          rw [← ha]
          replace T1 : (fun v _ => v = .string s) (a57.at 1) w56 := by rw [ha, put_other rfl]; exact T1
          replace T2 : (fun v _ => v = .pointer (some ⟨b4, 0, none⟩)) (a57.at 2) w56 := by rw [ha, put_other rfl]; exact T2
          replace T4 : (fun v _ => v = .pointer (some ⟨b5, 0, none⟩)) (a57.at 4) w56 := by rw [ha, put_other rfl]; exact T4
          replace T5 : (fun v _ => v = .int .i64 0) (a57.at 5) w56 := by rw [ha, put_other rfl]; exact T5
          replace T35 : (IsOwnS w.heap.size ([] ++ m.hops : List ByteArray)) (a57.at 35) w56 := by rw [ha, put_other rfl]; exact T35
          replace T36 : (fun v _ => v = .string s) (a57.at 36) w56 := by rw [ha, put_other rfl]; exact T36
          have T37 : (IsOwnS w.heap.size [s]) (a57.at 37) w56 := by rw [ha, put_same N (by decide)]; exact hown
          replace N := (ha ▸ put_size _ _ _ : a57.tmps.size = _).trans N
          replace D := (ha ▸ put_defers' _ _ _ : a57.defers = _).trans D
          clear ha
          clear hrun hown he
          obtain ⟨v58, w59, hrun, hown, hgr⟩ := app_strs 24 (show (IsOwnS w.heap.size ([] ++ m.hops : List ByteArray)) (a57.eval (.tmp 35)) w56 from T35) (OwnStrs.strsAt (show (IsOwnS w.heap.size [s]) (a57.eval (.tmp 37)) w56 from T37)) (by omega) E.size
          refine tail_val rfl rfl rfl (v := v58) (ex_builtin rfl (fun cs => by simp only [List.map_toArray, List.map_cons, List.map_nil]; exact builtin_app hrun)) ?_
          replace R_b4 := grown_row (show (IsOwnS w.heap.size ([] ++ m.hops : List ByteArray)) (a57.eval (.tmp 35)) w56 from T35) hgr R_b4 rfl
          replace R_b5 := grown_row (show (IsOwnS w.heap.size ([] ++ m.hops : List ByteArray)) (a57.eval (.tmp 35)) w56 from T35) hgr R_b5 rfl
          replace E : Ext w w59 := grown_ext (show (IsOwnS w.heap.size ([] ++ m.hops : List ByteArray)) (a57.eval (.tmp 35)) w56 from T35) hgr E (by omega)
          clear T35
          clear T37
          replace T1 : (fun v _ => v = .string s) (a57.at 1) w59 := T1
          replace T2 : (fun v _ => v = .pointer (some ⟨b4, 0, none⟩)) (a57.at 2) w59 := T2
          replace T4 : (fun v _ => v = .pointer (some ⟨b5, 0, none⟩)) (a57.at 4) w59 := T4
          replace T5 : (fun v _ => v = .int .i64 0) (a57.at 5) w59 := T5
          replace T36 : (fun v _ => v = .string s) (a57.at 36) w59 := T36
          obtain ⟨a60, ha⟩ : ∃ x : Act, x = a57.put (some 38) (v58) := ⟨_, rfl⟩
          rw [← ha]
          replace T1 : (fun v _ => v = .string s) (a60.at 1) w59 := by rw [ha, put_other rfl]; exact T1
          replace T2 : (fun v _ => v = .pointer (some ⟨b4, 0, none⟩)) (a60.at 2) w59 := by rw [ha, put_other rfl]; exact T2
          replace T4 : (fun v _ => v = .pointer (some ⟨b5, 0, none⟩)) (a60.at 4) w59 := by rw [ha, put_other rfl]; exact T4
          replace T5 : (fun v _ => v = .int .i64 0) (a60.at 5) w59 := by rw [ha, put_other rfl]; exact T5
          replace T36 : (fun v _ => v = .string s) (a60.at 36) w59 := by rw [ha, put_other rfl]; exact T36
          have T38 : (IsOwnS w.heap.size (([] ++ m.hops : List ByteArray) ++ [s] : List ByteArray)) (a60.at 38) w59 := by rw [ha, put_same N (by decide)]; exact hown
          replace N := (ha ▸ put_size _ _ _ : a60.tmps.size = _).trans N
          replace D := (ha ▸ put_defers' _ _ _ : a60.defers = _).trans D
          clear ha
          clear hrun hown hgr
          refine tail_val rfl rfl rfl (v := .pointer (some ⟨b4, 7, none⟩)) (ex_fieldAddr rfl (show a60.eval (.tmp 2) = .pointer (some ⟨b4, 0, none⟩) from T2) Tryd.underlying26 rfl (fun w => ⟨_, Tryd.sizeOf24 w⟩) rfl) ?_
          obtain ⟨a61, ha⟩ : ∃ x : Act, x = a60.put (some 39) (.pointer (some ⟨b4, 7, none⟩)) := ⟨_, rfl⟩
          rw [← ha]
          replace T1 : (fun v _ => v = .string s) (a61.at 1) w59 := by rw [ha, put_other rfl]; exact T1
          replace T2 : (fun v _ => v = .pointer (some ⟨b4, 0, none⟩)) (a61.at 2) w59 := by rw [ha, put_other rfl]; exact T2
          replace T4 : (fun v _ => v = .pointer (some ⟨b5, 0, none⟩)) (a61.at 4) w59 := by rw [ha, put_other rfl]; exact T4
          replace T5 : (fun v _ => v = .int .i64 0) (a61.at 5) w59 := by rw [ha, put_other rfl]; exact T5
          replace T36 : (fun v _ => v = .string s) (a61.at 36) w59 := by rw [ha, put_other rfl]; exact T36
          replace T38 : (IsOwnS w.heap.size (([] ++ m.hops : List ByteArray) ++ [s] : List ByteArray)) (a61.at 38) w59 := by rw [ha, put_other rfl]; exact T38
          have T39 : (fun v _ => v = .pointer (some ⟨b4, 7, none⟩)) (a61.at 39) w59 := by rw [ha, put_same N (by decide)]; skip
          replace N := (ha ▸ put_size _ _ _ : a61.tmps.size = _).trans N
          replace D := (ha ▸ put_defers' _ _ _ : a61.defers = _).trans D
          clear ha
          have S65 := T38
          obtain ⟨x63, c64, eS65⟩ := ownStrs_len S65
          unfold IsOwnS at S65
          rw [eS65] at S65
          replace T38 : (fun v _ => v = .slice x63 ((([] ++ m.hops : List ByteArray) ++ [s] : List ByteArray).length) c64) (a61.at 38) w59 := eS65
          clear eS65
          refine tail_do rfl rfl rfl (ex_store rfl (show a61.eval (.tmp 39) = .pointer (some ⟨b4, 7, none⟩) from T39) (by rw [show a61.eval (.tmp 38) = .slice x63 ((([] ++ m.hops : List ByteArray) ++ [s] : List ByteArray).length) c64 from (show a61.eval (.tmp 38) = .slice x63 ((([] ++ m.hops : List ByteArray) ++ [s] : List ByteArray).length) c64 from T38)]; exact store_cell R_b4 (Nat.le_of_ble_eq_true rfl) Tryd.sizeOf24 rfl rfl)) ?_
          obtain ⟨w62, hw⟩ : ∃ x : World, x = w59.setRow b4 (Array.setIfInBounds (msgC m mv) 7 (.slice x63 ((([] ++ m.hops : List ByteArray) ++ [s] : List ByteArray).length) c64)) := ⟨_, rfl⟩
          rw [← hw]
          replace R_b5 := hw ▸ row_other R_b5 (by first | exact NE_b5_b4 | exact NE_b4_b5.symm)
          replace E : Ext w w62 := hw ▸ below_row E B_b4
          replace T1 : (fun v _ => v = .string s) (a61.at 1) w62 := T1
          replace T2 : (fun v _ => v = .pointer (some ⟨b4, 0, none⟩)) (a61.at 2) w62 := T2
          replace T4 : (fun v _ => v = .pointer (some ⟨b5, 0, none⟩)) (a61.at 4) w62 := T4
          replace T5 : (fun v _ => v = .int .i64 0) (a61.at 5) w62 := T5
          replace T36 : (fun v _ => v = .string s) (a61.at 36) w62 := T36
          replace T38 : (fun v _ => v = .slice x63 ((([] ++ m.hops : List ByteArray) ++ [s] : List ByteArray).length) c64) (a61.at 38) w62 := T38
          replace T39 : (fun v _ => v = .pointer (some ⟨b4, 7, none⟩)) (a61.at 39) w62 := T39
          replace S65 : OwnStrs w.heap.size (([] ++ m.hops : List ByteArray) ++ [s] : List ByteArray) w62 (.slice x63 ((([] ++ m.hops : List ByteArray) ++ [s] : List ByteArray).length) c64) := hw ▸ S65.setRow R_b4 rfl
          replace R_b4 : w62.heap[b4]? = some (.cells (msgC ({ m with hops := m.hops ++ [s] }) (.slice x63 ((([] ++ m.hops : List ByteArray) ++ [s] : List ByteArray).length) c64)) 26 (0, 0)) := by rw [hw]; exact setRow_heap _ _ _ _ _ _ R_b4
          clear hw
          clear T1
          clear T36
          clear T38
          clear T39
          refine hK48 _ _ ?_
          refine wp_seq_k (fun K66 hK66 => ?_)
          -- region 10: ref.go:218
          show (Code.region 10 (rg Tryd.f19 10) false).wp _ _ _ _
          refine plain_list (n := 1) (N := 41) (deps := [[]]) (F := [(IsOwnB w.heap.size ({ m with hops := m.hops ++ [s] }))]) (by kernel_rfl) (by kernel_rfl) rfl (by kernel_rfl) ⟨(stab_ownB _ _), trivial⟩ N (by kernel_rfl) ⟨?_, trivial⟩ ?_
          · -- 0 ref.go:218
            rintro aa ww hE hF ⟨-⟩
            have o2 : aa.eval (.tmp 2) = .pointer (some ⟨b4, 0, none⟩) := hF.carry (fun v _ => v = .pointer (some ⟨b4, 0, none⟩)) rfl (stab_eq _) hE T2
            exact opAt rfl (ok_run rfl (run_here rfl (ex_load rfl o2 (load_row (hE.row R_b4) Tryd.underlying26 rfl (by kernel_rfl))) ( ⟨_, rfl, S65.ext hE⟩)))
          intro a67 w68 hE hF hfac hap
          obtain ⟨f0, -⟩ := hfac
          replace N := hF.size.trans N
          replace D := hF.defers.trans D
          replace R_b4 := hE.row R_b4
          replace R_b5 := hE.row R_b5
          replace S65 : OwnStrs w.heap.size (([] ++ m.hops : List ByteArray) ++ [s] : List ByteArray) w68 (.slice x63 ((([] ++ m.hops : List ByteArray) ++ [s] : List ByteArray).length) c64) := S65.ext hE
          replace T2 : (fun v _ => v = .pointer (some ⟨b4, 0, none⟩)) (a67.at 2) w68 := hF.carry (fun v _ => v = .pointer (some ⟨b4, 0, none⟩)) rfl (stab_eq _) hE T2
          replace T4 : (fun v _ => v = .pointer (some ⟨b5, 0, none⟩)) (a67.at 4) w68 := hF.carry (fun v _ => v = .pointer (some ⟨b5, 0, none⟩)) rfl (stab_eq _) hE T4
          replace T5 : (fun v _ => v = .int .i64 0) (a67.at 5) w68 := hF.carry (fun v _ => v = .int .i64 0) rfl (stab_eq _) hE T5
          have T40 : (IsOwnB w.heap.size ({ m with hops := m.hops ++ [s] })) (a67.at 40) w68 := f0
          replace E := E.trans hE
          clear hE hF hap
          obtain ⟨hv69, T40, S70⟩ := T40
          replace T40 : (fun v _ => v = .agg (msgC ({ m with hops := m.hops ++ [s] }) hv69)) (a67.at 40) w68 := T40
          show wpOps _ (rg Tryd.f19 10) _ [1, 2] _ _
          refine tail_do rfl rfl rfl (ex_store rfl (show a67.eval (.tmp 4) = .pointer (some ⟨b5, 0, none⟩) from T4) (by rw [show a67.eval (.tmp 40) = .agg (msgC ({ m with hops := m.hops ++ [s] }) hv69) from (show a67.eval (.tmp 40) = .agg (msgC ({ m with hops := m.hops ++ [s] }) hv69) from T40)]; exact store_row R_b5 (by kernel_rfl) rfl (ownB_cell S70))) ?_
          obtain ⟨w71, hw⟩ : ∃ x : World, x = w68.setRow b5 (msgC ({ m with hops := m.hops ++ [s] }) hv69) := ⟨_, rfl⟩
          rw [← hw]
          replace R_b4 := hw ▸ row_other R_b4 (by first | exact NE_b4_b5 | exact NE_b5_b4.symm)
          replace E : Ext w w71 := hw ▸ below_row E B_b5
          replace T2 : (fun v _ => v = .pointer (some ⟨b4, 0, none⟩)) (a67.at 2) w71 := T2
          replace T4 : (fun v _ => v = .pointer (some ⟨b5, 0, none⟩)) (a67.at 4) w71 := T4
          replace T5 : (fun v _ => v = .int .i64 0) (a67.at 5) w71 := T5
          replace T40 : (fun v _ => v = .agg (msgC ({ m with hops := m.hops ++ [s] }) hv69)) (a67.at 40) w71 := T40
          replace S65 : OwnStrs w.heap.size (([] ++ m.hops : List ByteArray) ++ [s] : List ByteArray) w71 (.slice x63 ((([] ++ m.hops : List ByteArray) ++ [s] : List ByteArray).length) c64) := hw ▸ S65.setRow R_b5 rfl
          replace S70 : OwnStrs w.heap.size (({ m with hops := m.hops ++ [s] }).hops) w71 hv69 := hw ▸ S70.setRow R_b5 rfl
          replace R_b5 : w71.heap[b5]? = some (.cells (msgC ({ m with hops := m.hops ++ [s] }) hv69) 26 (0, 0)) := by rw [hw]; exact setRow_heap _ _ _ _ _ _ R_b5
          clear hw
          refine tail_val rfl rfl rfl (ex_move (.inr rfl) (v := .int .i64 0) (ev_const (v := .int .i64 0))) ?_
          obtain ⟨a72, ha⟩ : ∃ x : Act, x = a67.put (some 5) (.int .i64 0) := ⟨_, rfl⟩
          rw [← ha]
          replace T2 : (fun v _ => v = .pointer (some ⟨b4, 0, none⟩)) (a72.at 2) w71 := by rw [ha, put_other rfl]; exact T2
          replace T4 : (fun v _ => v = .pointer (some ⟨b5, 0, none⟩)) (a72.at 4) w71 := by rw [ha, put_other rfl]; exact T4
          replace T40 : (fun v _ => v = .agg (msgC ({ m with hops := m.hops ++ [s] }) hv69)) (a72.at 40) w71 := by rw [ha, put_other rfl]; exact T40
          replace T5 : (fun v _ => v = .int .i64 0) (a72.at 5) w71 := by rw [ha, put_same N (by decide)]; skip
          replace N := (ha ▸ put_size _ _ _ : a72.tmps.size = _).trans N
          replace D := (ha ▸ put_defers' _ _ _ : a72.defers = _).trans D
          clear ha
          clear T2
          clear T40
          refine hK66 _ _ ?_
          refine wp_ret ?_
          -- the end
          refine ret_c1 Tryd.results19 D T4 (load_row R_b5 Tryd.underlying26 rfl (by kernel_rfl)) T5 ?_
          exact ⟨_, rfl, E, pass5 C12 C22 C32 (rpass5 C12 C42) S70⟩

end Go.Proofs.YtfcfddfjifofgaaDoor
