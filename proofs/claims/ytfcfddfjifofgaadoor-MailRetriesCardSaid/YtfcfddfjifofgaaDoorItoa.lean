/- What ascii.Digits and the reference's Digits return: the decimal numeral. -/
import Derived.Test.YtfcfddfjifofgaaDoorTo
import Derived.Lib.LaidTab
import Derived.Test.YtfcfddfjifofgaaDoorShelf
import Derived.Deep.RegionLaw
import Derived.Lib.ItoaLen
import Derived.Lib.ItoaMem
namespace Go.Proofs.YtfcfddfjifofgaaDoor
open Go.RowKit Go.Shelf Go.Sort

/-- The numeral of a number. -/
def itoaB (n : Int) : ByteArray := ⟨(Lib.itoa n).toArray⟩
theorem gPow : Tryd.prog.globalNamed "internal/strconv.uint64pow10" = some 1 := by kernel_rfl
/-- The library's table of powers of ten is as it was laid. -/
structure PowT (w : World) : Prop where
  tab : Lib.TabIs Tryd.prog w "internal/strconv.uint64pow10" .u64 Lib.pow10Tab
  lt : 1 < w.heap.size
theorem PowT.below {w w' : World} (h : PowT w) (hb : Below w.heap.size w w') : PowT w' :=
  ⟨var?_below hb gPow h.lt h.tab, Nat.lt_of_lt_of_le h.lt hb.size⟩
theorem PowT.alloc {w : World} (h : PowT w) (o : Obj) : PowT (w.alloc o) := h.below ((Below.refl _ w).alloc (Nat.le_refl _) o)
theorem PowT.drew {w : World} (h : PowT w) : PowT w.drew := h.below (Below.refl _ w).drew
theorem below_grow (w : World) (k : Nat) (os : Array Obj) : Below w.heap.size w (grow (w.drewN k) os) :=
  ⟨rfl, rfl, rfl, by simp [grow], fun i hi => by
    show (w.heap ++ os)[i]? = _
    rw [Array.getElem?_append_left hi]⟩

def DigitsPost (n : Int) (w : World) (e : Ending) (w' : World) : Prop := e = .returned (.string (itoaB n)) ∧ Below w.heap.size w w'
set_option maxHeartbeats 400000 in
theorem digits_c (n : Int) (h0 : -9223372036854775808 ≤ n) (h1 : n ≤ 9223372036854775807) (w : World) (hp : PowT w) :
    Calls Tryd.prog 31 #[.int .i64 n] w (DigitsPost n w) := by
  have H0 := Lib.hid h0
  have H1 := Lib.hid h1
  have HP := Lib.hid hp
  clear h0 h1 hp
  go_enter Tryd.func31, Tryd.ntmps31
  go_wp2_with fail
  refine (Tryd.strconv_Itoa n H0.out H1.out w HP.out.tab).mono ?_
  rintro e w1 ⟨rfl, k, os, rfl⟩
  go_wp2_with fail
  go_ret
  exact ⟨rfl, below_grow w k os⟩

def PlainPost (u : Nat) (w : World) (e : Ending) (w' : World) : Prop := e = .returned (.string ⟨(Lib.decDigits u).toArray⟩) ∧ Below w.heap.size w w'
theorem conv_one (W : World) (b : Nat) (n : Int) (h : W.cell? ⟨b, 0, none⟩ = some (.int .u8 n)) :
    (convert 116 9 (.slice (some ⟨b, 0, none⟩) 1 1)).run Tryd.prog W = .ok (.string ⟨#[UInt8.ofNat n.toNat]⟩) W := by
  rw [run_convert_bytes_string W 116 9 5 _ _ _ Tryd.underlying116 Tryd.underlying5 Tryd.underlying9]
  rw [run_bytesToString W ⟨b, 0, none⟩ 1 1 [n] (run_loadCells_list (P := Tryd.prog) W ⟨b, 0, none⟩ [.int .u8 n] (fun j v hv => by
    cases j with
    | zero => simp at hv; subst hv; exact h
    | succ j => simp at hv))]
  rfl
set_option maxRecDepth 100000 in
set_option maxHeartbeats 1000000 in
theorem rPlain_one (u : Nat) (w : World) (h : u < 10) :
    Calls Tryd.prog 57 #[.int .u64 u] w (PlainPost u w) := by
  have kc := conv_one (w.alloc (.cells #[.int .u8 (48 + (u : Int))] 5)) w.heap.size (48 + (u : Int)) (World.cell?_alloc_new _ _ _ 0)
  go_enter Tryd.func57, Tryd.ntmps57
  go_wp2
  go_ret
  refine ⟨?_, (Below.refl _ w).alloc (Nat.le_refl _) _⟩
  rw [Lib.decDigits_one h]; rfl
theorem decDigits_ten (u : Nat) (h : ¬ u < 10) : Lib.decDigits u = Lib.decDigits (u / 10) ++ [UInt8.ofNat (48 + u % 10)] := by
  rw [Lib.decDigits, dif_neg h]
theorem ten_val (u : Nat) (h : ¬ u < 10) : (⟨(Lib.decDigits (u / 10)).toArray⟩ : ByteArray) ++ ⟨#[UInt8.ofNat (48 + (u : Int) % 10).toNat]⟩ = ⟨(Lib.decDigits u).toArray⟩ := by
  refine bytes_ext ?_
  rw [decDigits_ten u h, ByteArray.data_append, Array.toList_append, show (48 + (u : Int) % 10).toNat = 48 + u % 10 by omega]
set_option maxRecDepth 100000 in
set_option maxHeartbeats 1000000 in
theorem rPlain_c (d : Nat) : ∀ (u : Nat) (w : World), u < 10 ^ (d + 1) → u < 18446744073709551616 →
    Calls Tryd.prog 57 #[.int .u64 u] w (PlainPost u w) := by
  induction d with
  | zero => exact fun u w hu _ => rPlain_one u w (by simpa using hu)
  | succ d ih =>
    intro u w hu hm
    by_cases h10 : u < 10
    · exact rPlain_one u w h10
    · have hd : u / 10 < 10 ^ (d + 1) := by rw [Nat.pow_succ] at hu; omega
      have hc : ∀ w, Calls Tryd.prog 57 #[.int .u64 ((u / 10 : Nat) : Int)] w (PlainPost (u / 10) w) := fun w => ih (u / 10) w hd (by omega)
      have HC := Lib.hid hc
      have c0 : (u : Int) / 10 = ((u / 10 : Nat) : Int) := by omega
      have hc2 : ∀ w, Calls Tryd.prog 57 #[.int .u64 ((u : Int) / 10)] w (PlainPost (u / 10) w) := fun w => by rw [c0]; exact hc w
      have HC2 := Lib.hid hc2
      have kc := fun (W : World) (b : Nat) => conv_one W b (48 + (u : Int) % 10)
      have e1 : IntKind.u64.wrap ((u : Int) / 10) = (u : Int) / 10 := by simp [IntKind.wrap, IntKind.bits, IntKind.signed]; omega
      have e2 : (u : Int).tmod 10 = (u : Int) % 10 := Int.tmod_eq_emod_of_nonneg (by omega)
      have e3 : IntKind.u64.wrap (48 + (u : Int) % 10) = 48 + (u : Int) % 10 := by simp [IntKind.wrap, IntKind.bits, IntKind.signed]; omega
      have e4 : IntKind.u8.wrap (48 + (u : Int) % 10) = 48 + (u : Int) % 10 := by simp [IntKind.wrap, IntKind.bits, IntKind.signed]; omega
      have hl : ¬ 9223372036854775807 < (Lib.decDigits (u / 10)).length + 1 := by
        have := Lib.nDigits_le20 (u / 10) (by omega)
        rw [Lib.decDigits_length]; omega
      clear ih hu hd hc hc2 c0
      have hm2 : (u : Int) ≤ 18446744073709551615 := by omega
      have HM := Lib.hid hm
      clear hm
      go_enter Tryd.func57, Tryd.ntmps57
      go_wp2_with fail
      go_region_law (first | (go_simp; go_at_call 57; refine (HC2.out _).mono ?_; rintro e w1 ⟨rfl, hb⟩; have hcc := fun h => hb.cell (p := ⟨w.heap.size, 0, none⟩) h; have HB := Lib.hid hb; clear hb))
      all_goals
        go_wp2
        go_ret
        refine ⟨?_, ?_⟩
        · rw [← ten_val u h10]; rfl
        · first
            | exact ((Below.refl w.heap.size w).drew.trans HB.out).alloc (by have := HB.out.size; simp at this; omega) _
            | exact (((Below.refl w.heap.size w).alloc (Nat.le_refl _) _).drew.trans (HB.out.mono (by simp)))
theorem rPlain_all (u : Nat) (w : World) (h : u < 18446744073709551616) : Calls Tryd.prog 57 #[.int .u64 u] w (PlainPost u w) :=
  rPlain_c 19 u w (by omega) h
set_option maxRecDepth 100000 in
set_option maxHeartbeats 400000 in
theorem rDigits_c (n : Int) (h0 : -9223372036854775808 ≤ n) (h1 : n ≤ 9223372036854775807) (w : World) :
    Calls Tryd.prog 35 #[.int .i64 n] w (DigitsPost n w) := by
  by_cases h : n < 0
  · obtain ⟨u, hu⟩ : ∃ u : Nat, (u : Int) = -n := ⟨n.natAbs, by omega⟩
    have HC := Lib.hid (rPlain_all u w (by omega))
    have hl : ¬ 9223372036854775807 < 1 + (Lib.decDigits u).length := by
      have := Lib.nDigits_le20 u (by omega)
      rw [Lib.decDigits_length]; omega
    have HU := Lib.hid hu
    clear hu
    go_enter Tryd.func35, Tryd.ntmps35
    go_wp2_with fail
    rw [show -(n + 1) + 1 = (u : Int) from by have := HU.out; omega]
    refine HC.out.mono ?_
    rintro e w1 ⟨rfl, hb⟩
    have HB := Lib.hid hb
    clear hb
    go_wp2
    go_ret
    refine ⟨?_, HB.out⟩
    have e : itoaB n = (⟨#[45]⟩ : ByteArray) ++ ⟨(Lib.decDigits u).toArray⟩ := by
      refine bytes_ext ?_
      have := HU.out
      unfold itoaB
      rw [show n = -(u : Int) by omega, Lib.itoa_neg u (by omega), ByteArray.data_append, Array.toList_append]
      rfl
    rw [e]; rfl
  · obtain ⟨u, rfl⟩ : ∃ u : Nat, n = (u : Int) := ⟨n.toNat, by omega⟩
    have HC := Lib.hid (rPlain_all u w (by omega))
    go_enter Tryd.func35, Tryd.ntmps35
    go_wp2_with fail
    refine HC.out.mono ?_
    rintro e w1 ⟨rfl, hb⟩
    have HB := Lib.hid hb
    clear hb
    go_wp2
    go_ret
    exact ⟨by unfold itoaB; rw [Lib.itoa_nonneg]; rfl, HB.out⟩
end Go.Proofs.YtfcfddfjifofgaaDoor
