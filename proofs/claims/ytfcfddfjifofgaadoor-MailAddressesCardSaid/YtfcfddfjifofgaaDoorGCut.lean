/- What strings.Cut and mail.ParseAddress return. -/
import Derived.Test.YtfcfddfjifofgaaDoorEngC
import Derived.Test.YtfcfddfjifofgaaDoorAddrP
namespace Go.Proofs.YtfcfddfjifofgaaDoor
open Go.RowKit Go.Shelf
set_option maxRecDepth 100000 in
set_option maxHeartbeats 600000 in
theorem slCut_e (s : ByteArray) (c : UInt8) (w : World) (hs : s.size ≤ maxLen) : Calls Tryd.prog 71 #[.string s, .string ⟨#[c]⟩] w (Ret (fun v _ => v = .tuple #[.string (cut1 s c).1, .string (cut1 s c).2.1, .bool (cut1 s c).2.2]) w) := by
  have h1 : (⟨#[c]⟩ : ByteArray).size = 1 := rfl
  have hge := indexByte_ge s.data.toList c
  have hlt : 0 ≤ Lib.indexByte s.data.toList c → Lib.indexByte s.data.toList c < s.size := fun h => indexByte_lt h
  unfold maxLen at hs
  refine enter_fn Tryd.func71 rfl Tryd.ntmps71 (Nat.le_of_ble_eq_true rfl) (fun a0 N D hA => ?_)
  have T0 : (fun v _ => v = .string s) (a0.at 0) w := by rw [hA 0 (by simp)]; exact rfl
  have T1 : (fun v _ => v = .string ⟨#[c]⟩) (a0.at 1) w := by rw [hA 1 (by simp)]; exact rfl
  clear hA
  have E : Ext w w := Ext.refl w
  refine wp_seq_k (fun K1 hK1 => ?_)
  -- region 0: strings.go:80
  show (Code.region 0 (rg Tryd.f71 0) false).wp _ _ _ _
  refine wp_region ?_
  show wpOps _ (rg Tryd.f71 0) _ [0, 1, 2] _ _
  refine tail_val rfl rfl rfl (ex_move (.inr rfl) (v := .string ⟨#[]⟩) (ev_const (v := .string ⟨#[]⟩))) ?_
  obtain ⟨a2, ha⟩ : ∃ x : Act, x = a0.put (some 4) (.string ⟨#[]⟩) := ⟨_, rfl⟩
  rw [← ha]
  replace T0 : (fun v _ => v = .string s) (a2.at 0) w := by rw [ha, put_other rfl]; exact T0
  replace T1 : (fun v _ => v = .string ⟨#[c]⟩) (a2.at 1) w := by rw [ha, put_other rfl]; exact T1
  have T4 : (fun v _ => v = .string ⟨#[]⟩) (a2.at 4) w := by rw [ha, put_same N (by decide)]; skip
  replace N := (ha ▸ put_size _ _ _ : a2.tmps.size = _).trans N
  replace D := (ha ▸ put_defers' _ _ _ : a2.defers = _).trans D
  clear ha
  refine tail_val rfl rfl rfl (ex_move (.inr rfl) (v := .string ⟨#[]⟩) (ev_const (v := .string ⟨#[]⟩))) ?_
  obtain ⟨a3, ha⟩ : ∃ x : Act, x = a2.put (some 5) (.string ⟨#[]⟩) := ⟨_, rfl⟩
  rw [← ha]
  replace T0 : (fun v _ => v = .string s) (a3.at 0) w := by rw [ha, put_other rfl]; exact T0
  replace T1 : (fun v _ => v = .string ⟨#[c]⟩) (a3.at 1) w := by rw [ha, put_other rfl]; exact T1
  replace T4 : (fun v _ => v = .string ⟨#[]⟩) (a3.at 4) w := by rw [ha, put_other rfl]; exact T4
  have T5 : (fun v _ => v = .string ⟨#[]⟩) (a3.at 5) w := by rw [ha, put_same N (by decide)]; skip
  replace N := (ha ▸ put_size _ _ _ : a3.tmps.size = _).trans N
  replace D := (ha ▸ put_defers' _ _ _ : a3.defers = _).trans D
  clear ha
  refine tail_val rfl rfl rfl (ex_move (.inr rfl) (v := .bool false) (ev_const (v := .bool false))) ?_
  obtain ⟨a4, ha⟩ : ∃ x : Act, x = a3.put (some 6) (.bool false) := ⟨_, rfl⟩
  rw [← ha]
  replace T0 : (fun v _ => v = .string s) (a4.at 0) w := by rw [ha, put_other rfl]; exact T0
  replace T1 : (fun v _ => v = .string ⟨#[c]⟩) (a4.at 1) w := by rw [ha, put_other rfl]; exact T1
  replace T4 : (fun v _ => v = .string ⟨#[]⟩) (a4.at 4) w := by rw [ha, put_other rfl]; exact T4
  replace T5 : (fun v _ => v = .string ⟨#[]⟩) (a4.at 5) w := by rw [ha, put_other rfl]; exact T5
  have T6 : (fun v _ => v = .bool false) (a4.at 6) w := by rw [ha, put_same N (by decide)]; skip
  replace N := (ha ▸ put_size _ _ _ : a4.tmps.size = _).trans N
  replace D := (ha ▸ put_defers' _ _ _ : a4.defers = _).trans D
  clear ha
  refine hK1 _ _ ?_
  refine wp_seq_k (fun K5 hK5 => ?_)
  refine wp_seq_k (fun K6 hK6 => ?_)
  -- region 1: strings.go:81
  show (Code.region 1 (rg Tryd.f71 1) false).wp _ _ _ _
  refine plain_list (n := 3) (N := 23) (deps := [[], [], [0, 1]]) (F := [(fun v _ => v = .string s), (fun v _ => v = .string ⟨#[c]⟩), (fun v _ => v = .int .i64 (Lib.indexByte s.data.toList c))]) (by kernel_rfl) (by kernel_rfl) rfl (by kernel_rfl) ⟨(stab_eq _), (stab_eq _), (stab_eq _), trivial⟩ N (by kernel_rfl) ⟨?_, ?_, ?_, trivial⟩ ?_
  · -- 0 strings.go:81
    rintro aa ww hE hF ⟨-⟩
    have o0 : aa.eval (.tmp 0) = .string s := hF.carry (fun v _ => v = .string s) rfl (stab_eq _) hE T0
    exact opAt rfl (ok_run rfl (run_here rfl (ex_move (.inl rfl) o0) ( rfl)))
  · -- 1 strings.go:81
    rintro aa ww hE hF ⟨-⟩
    have o1 : aa.eval (.tmp 1) = .string ⟨#[c]⟩ := hF.carry (fun v _ => v = .string ⟨#[c]⟩) rfl (stab_eq _) hE T1
    exact opAt rfl (ok_run rfl (run_here rfl (ex_move (.inl rfl) o1) ( rfl)))
  · -- 2 strings.go:81
    rintro aa ww hE hF ⟨d0, d1, -⟩
    replace d0 : aa.eval (.tmp 8) = .string s := d0
    replace d1 : aa.eval (.tmp 9) = .string ⟨#[c]⟩ := d1
    exact opAt rfl (ok_run rfl (run_callR (ψ := (fun v _ => v = .int .i64 (Lib.indexByte s.data.toList c))) rfl Tryd.call91 (by
      simp only [List.map_toArray, List.map_cons, List.map_nil, d0, d1]
      exact ret_same' (Tryd.stringslite_Index_one s c _)) (fun _ _ h =>  h)))
  intro a7 w8 hE hF hfac hap
  obtain ⟨f0, f1, f2, -⟩ := hfac
  replace N := hF.size.trans N
  replace D := hF.defers.trans D
  replace T0 : (fun v _ => v = .string s) (a7.at 0) w8 := hF.carry (fun v _ => v = .string s) rfl (stab_eq _) hE T0
  replace T1 : (fun v _ => v = .string ⟨#[c]⟩) (a7.at 1) w8 := hF.carry (fun v _ => v = .string ⟨#[c]⟩) rfl (stab_eq _) hE T1
  replace T4 : (fun v _ => v = .string ⟨#[]⟩) (a7.at 4) w8 := hF.carry (fun v _ => v = .string ⟨#[]⟩) rfl (stab_eq _) hE T4
  replace T5 : (fun v _ => v = .string ⟨#[]⟩) (a7.at 5) w8 := hF.carry (fun v _ => v = .string ⟨#[]⟩) rfl (stab_eq _) hE T5
  replace T6 : (fun v _ => v = .bool false) (a7.at 6) w8 := hF.carry (fun v _ => v = .bool false) rfl (stab_eq _) hE T6
  have T10 : (fun v _ => v = .int .i64 (Lib.indexByte s.data.toList c)) (a7.at 10) w8 := f2
  replace E := E.trans hE
  clear hE hF hap
  show wpOps _ (rg Tryd.f71 1) _ [3] _ _
  refine tail_val rfl rfl rfl (ex_move (.inr rfl) (v := .int .i64 (Lib.indexByte s.data.toList c)) (show a7.eval (.tmp 10) = .int .i64 (Lib.indexByte s.data.toList c) from T10)) ?_
  obtain ⟨a9, ha⟩ : ∃ x : Act, x = a7.put (some 7) (.int .i64 (Lib.indexByte s.data.toList c)) := ⟨_, rfl⟩
  rw [← ha]
  replace T0 : (fun v _ => v = .string s) (a9.at 0) w8 := by rw [ha, put_other rfl]; exact T0
  replace T1 : (fun v _ => v = .string ⟨#[c]⟩) (a9.at 1) w8 := by rw [ha, put_other rfl]; exact T1
  replace T4 : (fun v _ => v = .string ⟨#[]⟩) (a9.at 4) w8 := by rw [ha, put_other rfl]; exact T4
  replace T5 : (fun v _ => v = .string ⟨#[]⟩) (a9.at 5) w8 := by rw [ha, put_other rfl]; exact T5
  replace T6 : (fun v _ => v = .bool false) (a9.at 6) w8 := by rw [ha, put_other rfl]; exact T6
  replace T10 : (fun v _ => v = .int .i64 (Lib.indexByte s.data.toList c)) (a9.at 10) w8 := by rw [ha, put_other rfl]; exact T10
  have T7 : (fun v _ => v = .int .i64 (Lib.indexByte s.data.toList c)) (a9.at 7) w8 := by rw [ha, put_same N (by decide)]; skip
  replace N := (ha ▸ put_size _ _ _ : a9.tmps.size = _).trans N
  replace D := (ha ▸ put_defers' _ _ _ : a9.defers = _).trans D
  clear ha
  clear T10
  refine hK6 _ _ ?_
  refine wp_seq_k (fun K10 hK10 => ?_)
  -- region 2: strings.go:81
  show (Code.region 2 (rg Tryd.f71 2) false).wp _ _ _ _
  refine plain_list (n := 2) (N := 23) (deps := [[], [0]]) (F := [(fun v _ => v = .int .i64 (Lib.indexByte s.data.toList c)), (fun v _ => v = .bool (decide ((0 : Int) ≤ (Lib.indexByte s.data.toList c))))]) (by kernel_rfl) (by kernel_rfl) rfl (by kernel_rfl) ⟨(stab_eq _), (stab_eq _), trivial⟩ N (by kernel_rfl) ⟨?_, ?_, trivial⟩ ?_
  · -- 0 strings.go:81
    rintro aa ww hE hF ⟨-⟩
    have o7 : aa.eval (.tmp 7) = .int .i64 (Lib.indexByte s.data.toList c) := hF.carry (fun v _ => v = .int .i64 (Lib.indexByte s.data.toList c)) rfl (stab_eq _) hE T7
    exact opAt rfl (ok_run rfl (run_here rfl (ex_move (.inl rfl) o7) ( rfl)))
  · -- 1 strings.go:81
    rintro aa ww hE hF ⟨d0, -⟩
    replace d0 : aa.eval (.tmp 11) = .int .i64 (Lib.indexByte s.data.toList c) := d0
    exact opAt rfl (ok_run rfl (run_here rfl (ex_binOp rfl (by rw [show aa.eval (.tmp 11) = .int .i64 (Lib.indexByte s.data.toList c) from d0, show aa.eval (.const (.int .i64 0)) = .int .i64 0 from (ev_const (v := .int .i64 0))]; exact eqg_int) (by rw [show aa.eval (.tmp 11) = .int .i64 (Lib.indexByte s.data.toList c) from d0, show aa.eval (.const (.int .i64 0)) = .int .i64 0 from (ev_const (v := .int .i64 0))]; exact bin_geq)) ( rfl)))
  intro a11 w12 hE hF hfac hap
  obtain ⟨f0, f1, -⟩ := hfac
  replace N := hF.size.trans N
  replace D := hF.defers.trans D
  replace T0 : (fun v _ => v = .string s) (a11.at 0) w12 := hF.carry (fun v _ => v = .string s) rfl (stab_eq _) hE T0
  replace T1 : (fun v _ => v = .string ⟨#[c]⟩) (a11.at 1) w12 := hF.carry (fun v _ => v = .string ⟨#[c]⟩) rfl (stab_eq _) hE T1
  replace T4 : (fun v _ => v = .string ⟨#[]⟩) (a11.at 4) w12 := hF.carry (fun v _ => v = .string ⟨#[]⟩) rfl (stab_eq _) hE T4
  replace T5 : (fun v _ => v = .string ⟨#[]⟩) (a11.at 5) w12 := hF.carry (fun v _ => v = .string ⟨#[]⟩) rfl (stab_eq _) hE T5
  replace T6 : (fun v _ => v = .bool false) (a11.at 6) w12 := hF.carry (fun v _ => v = .bool false) rfl (stab_eq _) hE T6
  replace T7 : (fun v _ => v = .int .i64 (Lib.indexByte s.data.toList c)) (a11.at 7) w12 := hF.carry (fun v _ => v = .int .i64 (Lib.indexByte s.data.toList c)) rfl (stab_eq _) hE T7
  have T12 : (fun v _ => v = .bool (decide ((0 : Int) ≤ (Lib.indexByte s.data.toList c)))) (a11.at 12) w12 := f1
  replace E := E.trans hE
  clear hE hF hap
  show wpOps _ (rg Tryd.f71 2) _ [] _ _
  refine hK10 _ _ ?_
  refine wp_cond_split (t := decide ((0 : Int) ≤ (Lib.indexByte s.data.toList c))) T12 (fun C13 => ?_) (fun C13 => ?_)
  · clear T12
    have hx : 0 ≤ Lib.indexByte s.data.toList c := of_decide_eq_true C13
    have hy := hlt hx
    refine wp_seq_k (fun K14 hK14 => ?_)
    -- region 3 (drawn): strings.go:82
    show (Code.region 3 (rg Tryd.f71 3) true).wp _ _ _ _
    refine draw_list (n := 10) (N := 23) (deps := [[], [], [0, 1], [], [], [], [5], [4, 5, 6], [3, 4, 5, 6, 7], [0, 1, 2], [0, 1, 2, 3, 4, 5, 6, 7, 8, 9], [0, 1, 2, 3, 4, 5, 6, 7, 8, 9, 10]]) (F := [(fun v _ => v = .string s), (fun v _ => v = .int .i64 (Lib.indexByte s.data.toList c)), (fun v _ => v = .string (s.extract 0 ((Lib.indexByte s.data.toList c)).toNat)), (fun v _ => v = .string s), (fun v _ => v = .int .i64 (Lib.indexByte s.data.toList c)), (fun v _ => v = .string ⟨#[c]⟩), (fun v _ => v = .int .i64 ((⟨#[c]⟩ : ByteArray).size : Int)), (fun v _ => v = .int .i64 ((Lib.indexByte s.data.toList c) + ((⟨#[c]⟩ : ByteArray).size : Int))), (fun v _ => v = .string (s.extract (((Lib.indexByte s.data.toList c) + ((⟨#[c]⟩ : ByteArray).size : Int))).toNat s.size)), (fun v _ => v = .string (s.extract 0 ((Lib.indexByte s.data.toList c)).toNat))]) (E := []) Trydmixed ⟨by kernel_rfl, by kernel_rfl, by kernel_rfl, by kernel_rfl, by kernel_rfl, by kernel_rfl, Nat.le_of_ble_eq_true (by kernel_rfl)⟩ rfl (by kernel_rfl) ⟨(stab_eq _), (stab_eq _), (stab_eq _), (stab_eq _), (stab_eq _), (stab_eq _), (stab_eq _), (stab_eq _), (stab_eq _), (stab_eq _), trivial⟩ N ⟨?_, ?_, ?_, ?_, ?_, ?_, ?_, ?_, ?_, ?_, trivial⟩ trivial ?_
    · -- 0 strings.go:82
      rintro aa ww hE hF ⟨-⟩
      have o0 : aa.eval (.tmp 0) = .string s := hF.carry (fun v _ => v = .string s) rfl (stab_eq _) hE T0
      exact opAt rfl (ok_run rfl (run_here rfl (ex_move (.inl rfl) o0) ( rfl)))
    · -- 1 strings.go:82
      rintro aa ww hE hF ⟨-⟩
      have o7 : aa.eval (.tmp 7) = .int .i64 (Lib.indexByte s.data.toList c) := hF.carry (fun v _ => v = .int .i64 (Lib.indexByte s.data.toList c)) rfl (stab_eq _) hE T7
      exact opAt rfl (ok_run rfl (run_here rfl (ex_move (.inl rfl) o7) ( rfl)))
    · -- 2 strings.go:82
      rintro aa ww hE hF ⟨d0, d1, -⟩
      replace d0 : aa.eval (.tmp 13) = .string s := d0
      replace d1 : aa.eval (.tmp 14) = .int .i64 (Lib.indexByte s.data.toList c) := d1
      exact opAt rfl (ok_run rfl (run_here rfl (ex_slice rfl (by simp only [Option.map_some, Option.map_none, show aa.eval (.tmp 13) = .string s from d0, show aa.eval (.tmp 14) = .int .i64 (Lib.indexByte s.data.toList c) from d1]; exact slice_hi Tryd.underlying9 (by omega) (by omega))) ( rfl)))
    · -- 3 strings.go:82
      rintro aa ww hE hF ⟨-⟩
      have o0 : aa.eval (.tmp 0) = .string s := hF.carry (fun v _ => v = .string s) rfl (stab_eq _) hE T0
      exact opAt rfl (ok_run rfl (run_here rfl (ex_move (.inl rfl) o0) ( rfl)))
    · -- 4 strings.go:82
      rintro aa ww hE hF ⟨-⟩
      have o7 : aa.eval (.tmp 7) = .int .i64 (Lib.indexByte s.data.toList c) := hF.carry (fun v _ => v = .int .i64 (Lib.indexByte s.data.toList c)) rfl (stab_eq _) hE T7
      exact opAt rfl (ok_run rfl (run_here rfl (ex_move (.inl rfl) o7) ( rfl)))
    · -- 5 strings.go:82
      rintro aa ww hE hF ⟨-⟩
      have o1 : aa.eval (.tmp 1) = .string ⟨#[c]⟩ := hF.carry (fun v _ => v = .string ⟨#[c]⟩) rfl (stab_eq _) hE T1
      exact opAt rfl (ok_run rfl (run_here rfl (ex_move (.inl rfl) o1) ( rfl)))
    · -- 6 strings.go:82
      rintro aa ww hE hF ⟨d5, -⟩
      replace d5 : aa.eval (.tmp 18) = .string ⟨#[c]⟩ := d5
      exact opAt rfl (ok_run rfl (run_here rfl (ex_builtin rfl (fun cs => by simp only [List.map_toArray, List.map_cons, List.map_nil, show aa.eval (.tmp 18) = .string ⟨#[c]⟩ from d5]; exact len_str Tryd.underlying9)) ( rfl)))
    · -- 7 strings.go:82
      rintro aa ww hE hF ⟨d4, -, d6, -⟩
      replace d4 : aa.eval (.tmp 17) = .int .i64 (Lib.indexByte s.data.toList c) := d4
      replace d6 : aa.eval (.tmp 19) = .int .i64 ((⟨#[c]⟩ : ByteArray).size : Int) := d6
      exact opAt rfl (ok_run rfl (run_here rfl (ex_binOp rfl (by rw [show aa.eval (.tmp 17) = .int .i64 (Lib.indexByte s.data.toList c) from d4, show aa.eval (.tmp 19) = .int .i64 ((⟨#[c]⟩ : ByteArray).size : Int) from d6]; exact eqg_int) (by rw [show aa.eval (.tmp 17) = .int .i64 (Lib.indexByte s.data.toList c) from d4, show aa.eval (.tmp 19) = .int .i64 ((⟨#[c]⟩ : ByteArray).size : Int) from d6]; exact bin_addN (by omega) (by omega))) ( rfl)))
    · -- 8 strings.go:82
      rintro aa ww hE hF ⟨d3, -, -, -, d7, -⟩
      replace d3 : aa.eval (.tmp 16) = .string s := d3
      replace d7 : aa.eval (.tmp 20) = .int .i64 ((Lib.indexByte s.data.toList c) + ((⟨#[c]⟩ : ByteArray).size : Int)) := d7
      exact opAt rfl (ok_run rfl (run_here rfl (ex_slice rfl (by simp only [Option.map_some, Option.map_none, show aa.eval (.tmp 16) = .string s from d3, show aa.eval (.tmp 20) = .int .i64 ((Lib.indexByte s.data.toList c) + ((⟨#[c]⟩ : ByteArray).size : Int)) from d7]; exact slice_lo Tryd.underlying9 (by omega) (by omega))) ( rfl)))
    · -- 9 strings.go:82
      rintro aa ww hE hF ⟨-, -, d2, -⟩
      replace d2 : aa.eval (.tmp 15) = .string (s.extract 0 ((Lib.indexByte s.data.toList c)).toNat) := d2
      exact opAt rfl (ok_run rfl (run_here rfl (ex_move (.inr rfl) d2) ( rfl)))
    intro a15 w16 hE hF hfac hap
    obtain ⟨f0, f1, f2, f3, f4, f5, f6, f7, f8, f9, -⟩ := hfac
    replace N := hF.size.trans N
    replace D := hF.defers.trans D
    replace T0 : (fun v _ => v = .string s) (a15.at 0) w16 := hF.carry (fun v _ => v = .string s) rfl (stab_eq _) hE T0
    replace T1 : (fun v _ => v = .string ⟨#[c]⟩) (a15.at 1) w16 := hF.carry (fun v _ => v = .string ⟨#[c]⟩) rfl (stab_eq _) hE T1
    replace T5 : (fun v _ => v = .string ⟨#[]⟩) (a15.at 5) w16 := hF.carry (fun v _ => v = .string ⟨#[]⟩) rfl (stab_eq _) hE T5
    replace T6 : (fun v _ => v = .bool false) (a15.at 6) w16 := hF.carry (fun v _ => v = .bool false) rfl (stab_eq _) hE T6
    replace T7 : (fun v _ => v = .int .i64 (Lib.indexByte s.data.toList c)) (a15.at 7) w16 := hF.carry (fun v _ => v = .int .i64 (Lib.indexByte s.data.toList c)) rfl (stab_eq _) hE T7
    have T4 : (fun v _ => v = .string (s.extract 0 ((Lib.indexByte s.data.toList c)).toNat)) (a15.at 4) w16 := f9
    have T21 : (fun v _ => v = .string (s.extract (((Lib.indexByte s.data.toList c) + ((⟨#[c]⟩ : ByteArray).size : Int))).toNat s.size)) (a15.at 21) w16 := f8
    replace E := E.trans hE
    clear hE hF hap
    show wpOps _ (rg Tryd.f71 3) _ [10, 11] _ _
    refine tail_val rfl rfl rfl (ex_move (.inr rfl) (v := .string (s.extract (((Lib.indexByte s.data.toList c) + ((⟨#[c]⟩ : ByteArray).size : Int))).toNat s.size)) (show a15.eval (.tmp 21) = .string (s.extract (((Lib.indexByte s.data.toList c) + ((⟨#[c]⟩ : ByteArray).size : Int))).toNat s.size) from T21)) ?_
    obtain ⟨a17, ha⟩ : ∃ x : Act, x = a15.put (some 5) (.string (s.extract (((Lib.indexByte s.data.toList c) + ((⟨#[c]⟩ : ByteArray).size : Int))).toNat s.size)) := ⟨_, rfl⟩
    rw [← ha]
    replace T0 : (fun v _ => v = .string s) (a17.at 0) w16 := by rw [ha, put_other rfl]; exact T0
    replace T1 : (fun v _ => v = .string ⟨#[c]⟩) (a17.at 1) w16 := by rw [ha, put_other rfl]; exact T1
    replace T6 : (fun v _ => v = .bool false) (a17.at 6) w16 := by rw [ha, put_other rfl]; exact T6
    replace T7 : (fun v _ => v = .int .i64 (Lib.indexByte s.data.toList c)) (a17.at 7) w16 := by rw [ha, put_other rfl]; exact T7
    replace T4 : (fun v _ => v = .string (s.extract 0 ((Lib.indexByte s.data.toList c)).toNat)) (a17.at 4) w16 := by rw [ha, put_other rfl]; exact T4
    replace T21 : (fun v _ => v = .string (s.extract (((Lib.indexByte s.data.toList c) + ((⟨#[c]⟩ : ByteArray).size : Int))).toNat s.size)) (a17.at 21) w16 := by rw [ha, put_other rfl]; exact T21
    replace T5 : (fun v _ => v = .string (s.extract (((Lib.indexByte s.data.toList c) + ((⟨#[c]⟩ : ByteArray).size : Int))).toNat s.size)) (a17.at 5) w16 := by rw [ha, put_same N (by decide)]; skip
    replace N := (ha ▸ put_size _ _ _ : a17.tmps.size = _).trans N
    replace D := (ha ▸ put_defers' _ _ _ : a17.defers = _).trans D
    clear ha
    refine tail_val rfl rfl rfl (ex_move (.inr rfl) (v := .bool true) (ev_const (v := .bool true))) ?_
    obtain ⟨a18, ha⟩ : ∃ x : Act, x = a17.put (some 6) (.bool true) := ⟨_, rfl⟩
    rw [← ha]
    replace T0 : (fun v _ => v = .string s) (a18.at 0) w16 := by rw [ha, put_other rfl]; exact T0
    replace T1 : (fun v _ => v = .string ⟨#[c]⟩) (a18.at 1) w16 := by rw [ha, put_other rfl]; exact T1
    replace T5 : (fun v _ => v = .string (s.extract (((Lib.indexByte s.data.toList c) + ((⟨#[c]⟩ : ByteArray).size : Int))).toNat s.size)) (a18.at 5) w16 := by rw [ha, put_other rfl]; exact T5
    replace T7 : (fun v _ => v = .int .i64 (Lib.indexByte s.data.toList c)) (a18.at 7) w16 := by rw [ha, put_other rfl]; exact T7
    replace T4 : (fun v _ => v = .string (s.extract 0 ((Lib.indexByte s.data.toList c)).toNat)) (a18.at 4) w16 := by rw [ha, put_other rfl]; exact T4
    replace T21 : (fun v _ => v = .string (s.extract (((Lib.indexByte s.data.toList c) + ((⟨#[c]⟩ : ByteArray).size : Int))).toNat s.size)) (a18.at 21) w16 := by rw [ha, put_other rfl]; exact T21
    replace T6 : (fun v _ => v = .bool true) (a18.at 6) w16 := by rw [ha, put_same N (by decide)]; skip
    replace N := (ha ▸ put_size _ _ _ : a18.tmps.size = _).trans N
    replace D := (ha ▸ put_defers' _ _ _ : a18.defers = _).trans D
    clear ha
    clear T1
    clear T7
    clear T21
    refine hK14 _ _ ?_
    refine wp_ret ?_
    -- the end
    refine ret_3 Tryd.results71 D T4 T5 T6 ?_
    exact ⟨_, rfl, E, by rw [cut1_t hx]; rfl⟩
  · clear T12
    have hx : ¬ 0 ≤ Lib.indexByte s.data.toList c := of_decide_eq_false C13
    refine wp_skip ?_
    refine hK5 _ _ ?_
    refine wp_seq_k (fun K19 hK19 => ?_)
    -- region 4: strings.go:84
    show (Code.region 4 (rg Tryd.f71 4) false).wp _ _ _ _
    refine plain_list (n := 1) (N := 23) (deps := [[]]) (F := [(fun v _ => v = .string s)]) (by kernel_rfl) (by kernel_rfl) rfl (by kernel_rfl) ⟨(stab_eq _), trivial⟩ N (by kernel_rfl) ⟨?_, trivial⟩ ?_
    · -- 0 strings.go:84
      rintro aa ww hE hF ⟨-⟩
      have o0 : aa.eval (.tmp 0) = .string s := hF.carry (fun v _ => v = .string s) rfl (stab_eq _) hE T0
      exact opAt rfl (ok_run rfl (run_here rfl (ex_move (.inl rfl) o0) ( rfl)))
    intro a20 w21 hE hF hfac hap
    obtain ⟨f0, -⟩ := hfac
    replace N := hF.size.trans N
    replace D := hF.defers.trans D
    replace T0 : (fun v _ => v = .string s) (a20.at 0) w21 := hF.carry (fun v _ => v = .string s) rfl (stab_eq _) hE T0
    clear T1
    replace T4 : (fun v _ => v = .string ⟨#[]⟩) (a20.at 4) w21 := hF.carry (fun v _ => v = .string ⟨#[]⟩) rfl (stab_eq _) hE T4
    replace T5 : (fun v _ => v = .string ⟨#[]⟩) (a20.at 5) w21 := hF.carry (fun v _ => v = .string ⟨#[]⟩) rfl (stab_eq _) hE T5
    replace T6 : (fun v _ => v = .bool false) (a20.at 6) w21 := hF.carry (fun v _ => v = .bool false) rfl (stab_eq _) hE T6
    clear T7
    have T22 : (fun v _ => v = .string s) (a20.at 22) w21 := f0
    replace E := E.trans hE
    clear hE hF hap
    show wpOps _ (rg Tryd.f71 4) _ [1, 2, 3] _ _
    refine tail_val rfl rfl rfl (ex_move (.inr rfl) (v := .string s) (show a20.eval (.tmp 22) = .string s from T22)) ?_
    obtain ⟨a22, ha⟩ : ∃ x : Act, x = a20.put (some 4) (.string s) := ⟨_, rfl⟩
    rw [← ha]
    replace T0 : (fun v _ => v = .string s) (a22.at 0) w21 := by rw [ha, put_other rfl]; exact T0
    replace T5 : (fun v _ => v = .string ⟨#[]⟩) (a22.at 5) w21 := by rw [ha, put_other rfl]; exact T5
    replace T6 : (fun v _ => v = .bool false) (a22.at 6) w21 := by rw [ha, put_other rfl]; exact T6
    replace T22 : (fun v _ => v = .string s) (a22.at 22) w21 := by rw [ha, put_other rfl]; exact T22
    replace T4 : (fun v _ => v = .string s) (a22.at 4) w21 := by rw [ha, put_same N (by decide)]; skip
    replace N := (ha ▸ put_size _ _ _ : a22.tmps.size = _).trans N
    replace D := (ha ▸ put_defers' _ _ _ : a22.defers = _).trans D
    clear ha
    refine tail_val rfl rfl rfl (ex_move (.inr rfl) (v := .string ⟨#[]⟩) (ev_const (v := .string ⟨#[]⟩))) ?_
    obtain ⟨a23, ha⟩ : ∃ x : Act, x = a22.put (some 5) (.string ⟨#[]⟩) := ⟨_, rfl⟩
    rw [← ha]
    replace T0 : (fun v _ => v = .string s) (a23.at 0) w21 := by rw [ha, put_other rfl]; exact T0
    replace T4 : (fun v _ => v = .string s) (a23.at 4) w21 := by rw [ha, put_other rfl]; exact T4
    replace T6 : (fun v _ => v = .bool false) (a23.at 6) w21 := by rw [ha, put_other rfl]; exact T6
    replace T22 : (fun v _ => v = .string s) (a23.at 22) w21 := by rw [ha, put_other rfl]; exact T22
    replace T5 : (fun v _ => v = .string ⟨#[]⟩) (a23.at 5) w21 := by rw [ha, put_same N (by decide)]; skip
    replace N := (ha ▸ put_size _ _ _ : a23.tmps.size = _).trans N
    replace D := (ha ▸ put_defers' _ _ _ : a23.defers = _).trans D
    clear ha
    refine tail_val rfl rfl rfl (ex_move (.inr rfl) (v := .bool false) (ev_const (v := .bool false))) ?_
    obtain ⟨a24, ha⟩ : ∃ x : Act, x = a23.put (some 6) (.bool false) := ⟨_, rfl⟩
    rw [← ha]
    replace T0 : (fun v _ => v = .string s) (a24.at 0) w21 := by rw [ha, put_other rfl]; exact T0
    replace T4 : (fun v _ => v = .string s) (a24.at 4) w21 := by rw [ha, put_other rfl]; exact T4
    replace T5 : (fun v _ => v = .string ⟨#[]⟩) (a24.at 5) w21 := by rw [ha, put_other rfl]; exact T5
    replace T22 : (fun v _ => v = .string s) (a24.at 22) w21 := by rw [ha, put_other rfl]; exact T22
    replace T6 : (fun v _ => v = .bool false) (a24.at 6) w21 := by rw [ha, put_same N (by decide)]; skip
    replace N := (ha ▸ put_size _ _ _ : a24.tmps.size = _).trans N
    replace D := (ha ▸ put_defers' _ _ _ : a24.defers = _).trans D
    clear ha
    clear T0
    clear T22
    refine hK19 _ _ ?_
    refine wp_ret ?_
    -- the end
    refine ret_3 Tryd.results71 D T4 T5 T6 ?_
    exact ⟨_, rfl, E, by rw [cut1_f hx]⟩

set_option maxRecDepth 100000 in
set_option maxHeartbeats 600000 in
theorem cut_e (s : ByteArray) (c : UInt8) (w : World) (hs : s.size ≤ maxLen) : Calls Tryd.prog 46 #[.string s, .string ⟨#[c]⟩] w (Ret (fun v _ => v = .tuple #[.string (cut1 s c).1, .string (cut1 s c).2.1, .bool (cut1 s c).2.2]) w) := by
  refine enter_fn Tryd.func46 rfl Tryd.ntmps46 (Nat.le_of_ble_eq_true rfl) (fun a0 N D hA => ?_)
  have T0 : (fun v _ => v = .string s) (a0.at 0) w := by rw [hA 0 (by simp)]; exact rfl
  have T1 : (fun v _ => v = .string ⟨#[c]⟩) (a0.at 1) w := by rw [hA 1 (by simp)]; exact rfl
  clear hA
  have E : Ext w w := Ext.refl w
  refine wp_seq_k (fun K1 hK1 => ?_)
  -- region 0: strings.go:1271
  show (Code.region 0 (rg Tryd.f46 0) false).wp _ _ _ _
  refine wp_region ?_
  show wpOps _ (rg Tryd.f46 0) _ [0, 1, 2] _ _
  refine tail_val rfl rfl rfl (ex_move (.inr rfl) (v := .string ⟨#[]⟩) (ev_const (v := .string ⟨#[]⟩))) ?_
  obtain ⟨a2, ha⟩ : ∃ x : Act, x = a0.put (some 4) (.string ⟨#[]⟩) := ⟨_, rfl⟩
  rw [← ha]
  replace T0 : (fun v _ => v = .string s) (a2.at 0) w := by rw [ha, put_other rfl]; exact T0
  replace T1 : (fun v _ => v = .string ⟨#[c]⟩) (a2.at 1) w := by rw [ha, put_other rfl]; exact T1
  have T4 : (fun v _ => v = .string ⟨#[]⟩) (a2.at 4) w := by rw [ha, put_same N (by decide)]; skip
  replace N := (ha ▸ put_size _ _ _ : a2.tmps.size = _).trans N
  replace D := (ha ▸ put_defers' _ _ _ : a2.defers = _).trans D
  clear ha
  refine tail_val rfl rfl rfl (ex_move (.inr rfl) (v := .string ⟨#[]⟩) (ev_const (v := .string ⟨#[]⟩))) ?_
  obtain ⟨a3, ha⟩ : ∃ x : Act, x = a2.put (some 5) (.string ⟨#[]⟩) := ⟨_, rfl⟩
  rw [← ha]
  replace T0 : (fun v _ => v = .string s) (a3.at 0) w := by rw [ha, put_other rfl]; exact T0
  replace T1 : (fun v _ => v = .string ⟨#[c]⟩) (a3.at 1) w := by rw [ha, put_other rfl]; exact T1
  replace T4 : (fun v _ => v = .string ⟨#[]⟩) (a3.at 4) w := by rw [ha, put_other rfl]; exact T4
  have T5 : (fun v _ => v = .string ⟨#[]⟩) (a3.at 5) w := by rw [ha, put_same N (by decide)]; skip
  replace N := (ha ▸ put_size _ _ _ : a3.tmps.size = _).trans N
  replace D := (ha ▸ put_defers' _ _ _ : a3.defers = _).trans D
  clear ha
  refine tail_val rfl rfl rfl (ex_move (.inr rfl) (v := .bool false) (ev_const (v := .bool false))) ?_
  obtain ⟨a4, ha⟩ : ∃ x : Act, x = a3.put (some 6) (.bool false) := ⟨_, rfl⟩
  rw [← ha]
  replace T0 : (fun v _ => v = .string s) (a4.at 0) w := by rw [ha, put_other rfl]; exact T0
  replace T1 : (fun v _ => v = .string ⟨#[c]⟩) (a4.at 1) w := by rw [ha, put_other rfl]; exact T1
  replace T4 : (fun v _ => v = .string ⟨#[]⟩) (a4.at 4) w := by rw [ha, put_other rfl]; exact T4
  replace T5 : (fun v _ => v = .string ⟨#[]⟩) (a4.at 5) w := by rw [ha, put_other rfl]; exact T5
  have T6 : (fun v _ => v = .bool false) (a4.at 6) w := by rw [ha, put_same N (by decide)]; skip
  replace N := (ha ▸ put_size _ _ _ : a4.tmps.size = _).trans N
  replace D := (ha ▸ put_defers' _ _ _ : a4.defers = _).trans D
  clear ha
  refine hK1 _ _ ?_
  refine wp_seq_k (fun K5 hK5 => ?_)
  -- region 1: strings.go:1272
  show (Code.region 1 (rg Tryd.f46 1) false).wp _ _ _ _
  refine plain_list (n := 6) (N := 13) (deps := [[], [], [0, 1], [2], [2], [2]]) (F := [(fun v _ => v = .string s), (fun v _ => v = .string ⟨#[c]⟩), (fun v _ => v = .tuple #[.string ((cut1 s c).1), .string ((cut1 s c).2.1), .bool ((cut1 s c).2.2)]), (fun v _ => v = .string ((cut1 s c).1)), (fun v _ => v = .string ((cut1 s c).2.1)), (fun v _ => v = .bool ((cut1 s c).2.2))]) (by kernel_rfl) (by kernel_rfl) rfl (by kernel_rfl) ⟨(stab_eq _), (stab_eq _), (stab_eq _), (stab_eq _), (stab_eq _), (stab_eq _), trivial⟩ N (by kernel_rfl) ⟨?_, ?_, ?_, ?_, ?_, ?_, trivial⟩ ?_
  · -- 0 strings.go:1272
    rintro aa ww hE hF ⟨-⟩
    have o0 : aa.eval (.tmp 0) = .string s := hF.carry (fun v _ => v = .string s) rfl (stab_eq _) hE T0
    exact opAt rfl (ok_run rfl (run_here rfl (ex_move (.inl rfl) o0) ( rfl)))
  · -- 1 strings.go:1272
    rintro aa ww hE hF ⟨-⟩
    have o1 : aa.eval (.tmp 1) = .string ⟨#[c]⟩ := hF.carry (fun v _ => v = .string ⟨#[c]⟩) rfl (stab_eq _) hE T1
    exact opAt rfl (ok_run rfl (run_here rfl (ex_move (.inl rfl) o1) ( rfl)))
  · -- 2 strings.go:1272
    rintro aa ww hE hF ⟨d0, d1, -⟩
    replace d0 : aa.eval (.tmp 7) = .string s := d0
    replace d1 : aa.eval (.tmp 8) = .string ⟨#[c]⟩ := d1
    exact opAt rfl (ok_run rfl (run_callR (ψ := (fun v _ => v = .tuple #[.string ((cut1 s c).1), .string ((cut1 s c).2.1), .bool ((cut1 s c).2.2)])) rfl Tryd.call71 (by
      simp only [List.map_toArray, List.map_cons, List.map_nil, d0, d1]
      exact id (slCut_e s c _ hs)) (fun _ _ h =>  h)))
  · -- 3 strings.go:1272
    rintro aa ww hE hF ⟨d2, -⟩
    replace d2 : aa.eval (.tmp 9) = .tuple #[.string ((cut1 s c).1), .string ((cut1 s c).2.1), .bool ((cut1 s c).2.2)] := d2
    exact opAt rfl (ok_run rfl (run_here rfl (ex_extract rfl d2 rfl) ( rfl)))
  · -- 4 strings.go:1272
    rintro aa ww hE hF ⟨d2, -⟩
    replace d2 : aa.eval (.tmp 9) = .tuple #[.string ((cut1 s c).1), .string ((cut1 s c).2.1), .bool ((cut1 s c).2.2)] := d2
    exact opAt rfl (ok_run rfl (run_here rfl (ex_extract rfl d2 rfl) ( rfl)))
  · -- 5 strings.go:1272
    rintro aa ww hE hF ⟨d2, -⟩
    replace d2 : aa.eval (.tmp 9) = .tuple #[.string ((cut1 s c).1), .string ((cut1 s c).2.1), .bool ((cut1 s c).2.2)] := d2
    exact opAt rfl (ok_run rfl (run_here rfl (ex_extract rfl d2 rfl) ( rfl)))
  intro a6 w7 hE hF hfac hap
  obtain ⟨f0, f1, f2, f3, f4, f5, -⟩ := hfac
  replace N := hF.size.trans N
  replace D := hF.defers.trans D
  replace T0 : (fun v _ => v = .string s) (a6.at 0) w7 := hF.carry (fun v _ => v = .string s) rfl (stab_eq _) hE T0
  replace T1 : (fun v _ => v = .string ⟨#[c]⟩) (a6.at 1) w7 := hF.carry (fun v _ => v = .string ⟨#[c]⟩) rfl (stab_eq _) hE T1
  replace T4 : (fun v _ => v = .string ⟨#[]⟩) (a6.at 4) w7 := hF.carry (fun v _ => v = .string ⟨#[]⟩) rfl (stab_eq _) hE T4
  replace T5 : (fun v _ => v = .string ⟨#[]⟩) (a6.at 5) w7 := hF.carry (fun v _ => v = .string ⟨#[]⟩) rfl (stab_eq _) hE T5
  replace T6 : (fun v _ => v = .bool false) (a6.at 6) w7 := hF.carry (fun v _ => v = .bool false) rfl (stab_eq _) hE T6
  have T10 : (fun v _ => v = .string ((cut1 s c).1)) (a6.at 10) w7 := f3
  have T11 : (fun v _ => v = .string ((cut1 s c).2.1)) (a6.at 11) w7 := f4
  have T12 : (fun v _ => v = .bool ((cut1 s c).2.2)) (a6.at 12) w7 := f5
  replace E := E.trans hE
  clear hE hF hap
  show wpOps _ (rg Tryd.f46 1) _ [6, 7, 8] _ _
  refine tail_val rfl rfl rfl (ex_move (.inr rfl) (v := .string ((cut1 s c).1)) (show a6.eval (.tmp 10) = .string ((cut1 s c).1) from T10)) ?_
  obtain ⟨a8, ha⟩ : ∃ x : Act, x = a6.put (some 4) (.string ((cut1 s c).1)) := ⟨_, rfl⟩
  rw [← ha]
  replace T0 : (fun v _ => v = .string s) (a8.at 0) w7 := by rw [ha, put_other rfl]; exact T0
  replace T1 : (fun v _ => v = .string ⟨#[c]⟩) (a8.at 1) w7 := by rw [ha, put_other rfl]; exact T1
  replace T5 : (fun v _ => v = .string ⟨#[]⟩) (a8.at 5) w7 := by rw [ha, put_other rfl]; exact T5
  replace T6 : (fun v _ => v = .bool false) (a8.at 6) w7 := by rw [ha, put_other rfl]; exact T6
  replace T10 : (fun v _ => v = .string ((cut1 s c).1)) (a8.at 10) w7 := by rw [ha, put_other rfl]; exact T10
  replace T11 : (fun v _ => v = .string ((cut1 s c).2.1)) (a8.at 11) w7 := by rw [ha, put_other rfl]; exact T11
  replace T12 : (fun v _ => v = .bool ((cut1 s c).2.2)) (a8.at 12) w7 := by rw [ha, put_other rfl]; exact T12
  replace T4 : (fun v _ => v = .string ((cut1 s c).1)) (a8.at 4) w7 := by rw [ha, put_same N (by decide)]; skip
  replace N := (ha ▸ put_size _ _ _ : a8.tmps.size = _).trans N
  replace D := (ha ▸ put_defers' _ _ _ : a8.defers = _).trans D
  clear ha
  refine tail_val rfl rfl rfl (ex_move (.inr rfl) (v := .string ((cut1 s c).2.1)) (show a8.eval (.tmp 11) = .string ((cut1 s c).2.1) from T11)) ?_
  obtain ⟨a9, ha⟩ : ∃ x : Act, x = a8.put (some 5) (.string ((cut1 s c).2.1)) := ⟨_, rfl⟩
  rw [← ha]
  replace T0 : (fun v _ => v = .string s) (a9.at 0) w7 := by rw [ha, put_other rfl]; exact T0
  replace T1 : (fun v _ => v = .string ⟨#[c]⟩) (a9.at 1) w7 := by rw [ha, put_other rfl]; exact T1
  replace T4 : (fun v _ => v = .string ((cut1 s c).1)) (a9.at 4) w7 := by rw [ha, put_other rfl]; exact T4
  replace T6 : (fun v _ => v = .bool false) (a9.at 6) w7 := by rw [ha, put_other rfl]; exact T6
  replace T10 : (fun v _ => v = .string ((cut1 s c).1)) (a9.at 10) w7 := by rw [ha, put_other rfl]; exact T10
  replace T11 : (fun v _ => v = .string ((cut1 s c).2.1)) (a9.at 11) w7 := by rw [ha, put_other rfl]; exact T11
  replace T12 : (fun v _ => v = .bool ((cut1 s c).2.2)) (a9.at 12) w7 := by rw [ha, put_other rfl]; exact T12
  replace T5 : (fun v _ => v = .string ((cut1 s c).2.1)) (a9.at 5) w7 := by rw [ha, put_same N (by decide)]; skip
  replace N := (ha ▸ put_size _ _ _ : a9.tmps.size = _).trans N
  replace D := (ha ▸ put_defers' _ _ _ : a9.defers = _).trans D
  clear ha
  refine tail_val rfl rfl rfl (ex_move (.inr rfl) (v := .bool ((cut1 s c).2.2)) (show a9.eval (.tmp 12) = .bool ((cut1 s c).2.2) from T12)) ?_
  obtain ⟨a10, ha⟩ : ∃ x : Act, x = a9.put (some 6) (.bool ((cut1 s c).2.2)) := ⟨_, rfl⟩
  rw [← ha]
  replace T0 : (fun v _ => v = .string s) (a10.at 0) w7 := by rw [ha, put_other rfl]; exact T0
  replace T1 : (fun v _ => v = .string ⟨#[c]⟩) (a10.at 1) w7 := by rw [ha, put_other rfl]; exact T1
  replace T4 : (fun v _ => v = .string ((cut1 s c).1)) (a10.at 4) w7 := by rw [ha, put_other rfl]; exact T4
  replace T5 : (fun v _ => v = .string ((cut1 s c).2.1)) (a10.at 5) w7 := by rw [ha, put_other rfl]; exact T5
  replace T10 : (fun v _ => v = .string ((cut1 s c).1)) (a10.at 10) w7 := by rw [ha, put_other rfl]; exact T10
  replace T11 : (fun v _ => v = .string ((cut1 s c).2.1)) (a10.at 11) w7 := by rw [ha, put_other rfl]; exact T11
  replace T12 : (fun v _ => v = .bool ((cut1 s c).2.2)) (a10.at 12) w7 := by rw [ha, put_other rfl]; exact T12
  replace T6 : (fun v _ => v = .bool ((cut1 s c).2.2)) (a10.at 6) w7 := by rw [ha, put_same N (by decide)]; skip
  replace N := (ha ▸ put_size _ _ _ : a10.tmps.size = _).trans N
  replace D := (ha ▸ put_defers' _ _ _ : a10.defers = _).trans D
  clear ha
  clear T0
  clear T1
  clear T10
  clear T11
  clear T12
  refine hK5 _ _ ?_
  refine wp_ret ?_
  -- the end
  refine ret_3 Tryd.results46 D T4 T5 T6 ?_
  exact ⟨_, rfl, E, rfl⟩

end Go.Proofs.YtfcfddfjifofgaaDoor
