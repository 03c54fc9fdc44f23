/- What the law MailBounces returns: true. -/
import Derived.Test.YtfcfddfjifofgaaDoorBPlain
import Derived.Test.YtfcfddfjifofgaaDoorKnown
import Derived.Test.YtfcfddfjifofgaaDoorTo
import Derived.Test.YtfcfddfjifofgaaDoorOf
namespace Go.Proofs.YtfcfddfjifofgaaDoor
open Go.RowKit Go.Shelf

theorem sameM_refl (m : Msg) : sameM m m = true := by simp [sameM]
def cut60 (s : ByteArray) : ByteArray := s.extract 0 (min (s.size : Int) 60).toNat
def TruePost (w : World) (e : Ending) (w' : World) : Prop := e = .returned (.bool true) ∧ Below w.heap.size w w'
/-- A message of the law's own lies in a box; its hops read; the table stands. -/
structure LB (x : Msg) (hx : Value) (bx : Nat) (w0 w : World) : Prop where
  row : w.heap[bx]? = some (.cells (msgC x hx) 29 (0, 0))
  str : StrsAt w hx x.hops
  pow : PowT w
  bel : Below w0.heap.size w0 w
theorem LB.next {x : Msg} {hx : Value} {bx : Nat} {w0 w w' : World} (h : LB x hx bx w0 w) (hb : Below w.heap.size w w') : LB x hx bx w0 w' :=
  ⟨(hb.block bx (lt_of_block h.row)).trans h.row, h.str.below hb, h.pow.below hb, h.bel.trans (hb.mono h.bel.size)⟩
theorem LB.alloc {x : Msg} {hx : Value} {bx : Nat} {w0 w : World} (h : LB x hx bx w0 w) (o : Obj) : LB x hx bx w0 (w.alloc o) := h.next ((Below.refl _ w).alloc (Nat.le_refl _) o)
theorem LB.mk1 {x : Msg} {hx : Value} {w0 w : World} (hs : StrsAt w hx x.hops) (hp : PowT w) (hb : Below w0.heap.size w0 w) : LB x hx w.heap.size w0 (w.alloc (.cells (msgC x hx) 29)) :=
  ⟨heap_alloc_new _ _, hs.alloc _, hp.alloc _, hb.alloc hb.size _⟩
def Keep1 (y : Msg) (hy : Value) (b : Nat) (w' : World) : Prop := w'.cell? ⟨b, 0, none⟩ = some (.string y.fu) ∧ w'.cell? ⟨b, 1, none⟩ = some (.string y.fs) ∧ w'.cell? ⟨b, 2, none⟩ = some (.string y.tu) ∧ w'.cell? ⟨b, 3, none⟩ = some (.string y.ts) ∧ w'.cell? ⟨b, 4, none⟩ = some (.int .i64 y.num) ∧ w'.cell? ⟨b, 5, none⟩ = some (.int .i64 y.date) ∧ w'.cell? ⟨b, 6, none⟩ = some (.string y.sj) ∧ w'.cell? ⟨b, 7, none⟩ = some (hy) ∧ w'.cell? ⟨b, 8, none⟩ = some (.string y.body)
theorem keep1 {y : Msg} {hy : Value} {b : Nat} {w' : World} {t : TypeId} (h : w'.heap[b]? = some (.cells (msgC y hy) t (0, 0))) : Keep1 y hy b w' := ⟨cell_at h 0, cell_at h 1, cell_at h 2, cell_at h 3, cell_at h 4, cell_at h 5, cell_at h 6, cell_at h 7, cell_at h 8⟩
def Keep2 (y : Msg) (hy : Value) (b c : Nat) (w' : World) : Prop := w'.cell? ⟨b, 0, none⟩ = some (.string y.fu) ∧ w'.cell? ⟨b, 1, none⟩ = some (.string y.fs) ∧ w'.cell? ⟨b, 2, none⟩ = some (.string y.tu) ∧ w'.cell? ⟨b, 3, none⟩ = some (.string y.ts) ∧ w'.cell? ⟨b, 4, none⟩ = some (.int .i64 y.num) ∧ w'.cell? ⟨b, 5, none⟩ = some (.int .i64 y.date) ∧ w'.cell? ⟨b, 6, none⟩ = some (.string y.sj) ∧ w'.cell? ⟨b, 7, none⟩ = some (hy) ∧ w'.cell? ⟨b, 8, none⟩ = some (.string y.body) ∧ w'.cell? ⟨c, 0, none⟩ = some (.string y.fu) ∧ w'.cell? ⟨c, 1, none⟩ = some (.string y.fs) ∧ w'.cell? ⟨c, 2, none⟩ = some (.string y.tu) ∧ w'.cell? ⟨c, 3, none⟩ = some (.string y.ts) ∧ w'.cell? ⟨c, 4, none⟩ = some (.int .i64 y.num) ∧ w'.cell? ⟨c, 5, none⟩ = some (.int .i64 y.date) ∧ w'.cell? ⟨c, 6, none⟩ = some (.string y.sj) ∧ w'.cell? ⟨c, 7, none⟩ = some (hy) ∧ w'.cell? ⟨c, 8, none⟩ = some (.string y.body)
theorem keep2 {y : Msg} {hy : Value} {b c : Nat} {w' : World} {t u : TypeId} (h : w'.heap[b]? = some (.cells (msgC y hy) t (0, 0))) (k : w'.heap[c]? = some (.cells (msgC y hy) u (0, 0))) : Keep2 y hy b c w' := ⟨cell_at h 0, cell_at h 1, cell_at h 2, cell_at h 3, cell_at h 4, cell_at h 5, cell_at h 6, cell_at h 7, cell_at h 8, cell_at k 0, cell_at k 1, cell_at k 2, cell_at k 3, cell_at k 4, cell_at k 5, cell_at k 6, cell_at k 7, cell_at k 8⟩
set_option maxRecDepth 100000 in
set_option maxHeartbeats 4000000 in
theorem mailBounces_c (m : Msg) (hv : Value) (site : ByteArray) (code now : Int) (w : World) (hf : m.Fits) (hh : StrsAt w hv m.hops) (hs : site.size ≤ maxLen) (h0 : -9223372036854775808 ≤ code) (h1 : code ≤ 9223372036854775807) (hp : PowT w) :
    Calls Tryd.prog 3 #[.agg (msgC m hv), .string site, .int .i64 code, .int .i64 now] w (TruePost w) := by
  have HF := Lib.hid hf
  have HH := Lib.hid hh
  have HP := Lib.hid hp
  have H0 := Lib.hid h0
  have H1 := Lib.hid h1
  unfold maxLen at hs
  clear hf hh hp h0 h1
  unfold msgC
  go_enter Tryd.func3, Tryd.ntmps3
  go_upto_region 3 with (go_at_call 9; refine (to_c m hv _ HF.out (HH.out.alloc _)).mono ?_; rintro e w1 ⟨v, rfl, ho, hb1⟩; obtain ⟨a1, c1, hv1⟩ := ownStrs_len ho; subst hv1; dsimp only [msgC]; have HO1 := Lib.hid ho; have HB1 := Lib.hid hb1; clear ho hb1)
  have hsc : (cut60 site).size ≤ maxLen := by unfold cut60 maxLen; rw [ByteArray.size_extract]; omega
  have HSC := Lib.hid hsc
  have HFX := Lib.hid (toM_fits HF.out)
  have hp1 : PowT w1 := (HP.out.alloc _).below HB1.out
  have hb01 : Below w.heap.size w w1 := ((Below.refl _ w).alloc (Nat.le_refl _) _).trans (HB1.out.mono (by simp))
  have HB01 := Lib.hid hb01
  have HS1 := Lib.hid HO1.out.strsAt
  have hx20 : (toM m).hops.length ≤ 20 := by show (m.hops.take 20).length ≤ 20; simp; omega
  generalize hx : toM m = x at *
  clear hx
  have HC2 := Lib.hid (bounce_c x (.slice a1 x.hops.length c1) (cut60 site) code now (w1.alloc (.cells (msgC x (.slice a1 x.hops.length c1)) 29)) HFX.out (HS1.out.alloc _) HSC.out H0.out H1.out (hp1.alloc _))
  have HP1 := Lib.hid hp1
  clear hp1 hb01 hsc
  unfold msgC at HC2
  go_upto_region 4 with (go_at_call 10; refine HC2.out.mono ?_; rintro e w2 ⟨rfl, hb2⟩; dsimp only [msgC]; have HB2 := Lib.hid hb2; clear hb2)
  have HL1 := Lib.hid (LB.mk1 HS1.out HP1.out HB01.out)
  have HL2 := Lib.hid (HL1.out.next HB2.out)
  have HLB := Lib.hid (LB.mk1 (x := bounceR x (cut60 site) code now) (hx := .slice none 0 0) (.inl ⟨bounce_hops _ _ _ _, none, 0, rfl⟩) HL2.out.pow HL2.out.bel)
  have HL3 := Lib.hid (HL2.out.alloc (.cells (msgC (bounceR x (cut60 site) code now) (.slice none 0 0)) 29))
  have hbb : w2.heap.size < (w2.alloc (.cells (msgC (bounceR x (cut60 site) code now) (.slice none 0 0)) 29)).heap.size := by simp
  unfold msgC at HLB HL3 hbb
  generalize hW : w2.alloc (.cells #[.string (bounceR x (cut60 site) code now).fu, .string (bounceR x (cut60 site) code now).fs, .string (bounceR x (cut60 site) code now).tu, .string (bounceR x (cut60 site) code now).ts, .int .i64 (bounceR x (cut60 site) code now).num, .int .i64 (bounceR x (cut60 site) code now).date, .string (bounceR x (cut60 site) code now).sj, .slice none 0 0, .string (bounceR x (cut60 site) code now).body] 29) = w3 at *
  clear hW
  have HRX := Lib.hid HL3.out.row
  unfold msgC at HRX
  have HC3 := Lib.hid (of_c x (.slice a1 x.hops.length c1) w3 HFX.out HL3.out.str (by omega))
  unfold msgC at HC3
  go_upto_region 5 with (first | (with_reducible refine wpList_load_row rfl 29 (.tmp 9) rfl _ rfl _ _ _ _ HRX.out Tryd.underlying29 rfl (by kernel_rfl) ?_) | (go_at_call 12; refine HC3.out.mono ?_; rintro e w4 ⟨v4, rfl, ho4, hb4⟩; obtain ⟨a4, c4, hv4⟩ := ownStrs_len ho4; subst hv4; dsimp only [msgC]; have HO4 := Lib.hid ho4; have HL4 := Lib.hid (HL3.out.next hb4); have HLB4 := Lib.hid (HLB.out.next hb4); have HC4 := Lib.hid (rBounce_c x (.slice a4 x.hops.length c4) (cut60 site) code now w4 HFX.out ho4.strsAt HSC.out H0.out H1.out HL4.out.pow); unfold msgC at HC4; clear ho4 hb4) | (go_at_call 11; refine HC4.out.mono ?_; rintro e w5 ⟨rfl, hb5⟩; dsimp only [msgC]; have HL5 := Lib.hid (HL4.out.next hb5); have HLB5 := Lib.hid (HLB4.out.next hb5); clear hb5))
  have HL6 := Lib.hid (HL5.out.alloc (.cells #[.string (bounceR x (cut60 site) code now).fu, .string (bounceR x (cut60 site) code now).fs, .string (bounceR x (cut60 site) code now).tu, .string (bounceR x (cut60 site) code now).ts, .int .i64 (bounceR x (cut60 site) code now).num, .int .i64 (bounceR x (cut60 site) code now).date, .string (bounceR x (cut60 site) code now).sj, .slice none 0 0, .string (bounceR x (cut60 site) code now).body] 26))
  have HLB6 := Lib.hid (HLB5.out.alloc (.cells #[.string (bounceR x (cut60 site) code now).fu, .string (bounceR x (cut60 site) code now).fs, .string (bounceR x (cut60 site) code now).tu, .string (bounceR x (cut60 site) code now).ts, .int .i64 (bounceR x (cut60 site) code now).num, .int .i64 (bounceR x (cut60 site) code now).date, .string (bounceR x (cut60 site) code now).sj, .slice none 0 0, .string (bounceR x (cut60 site) code now).body] 26))
  have hrw := heap_alloc_new w5 (.cells (msgC (bounceR x (cut60 site) code now) (.slice none 0 0)) 26)
  have hsz6 : w5.heap.size < (w5.alloc (.cells #[.string (bounceR x (cut60 site) code now).fu, .string (bounceR x (cut60 site) code now).fs, .string (bounceR x (cut60 site) code now).tu, .string (bounceR x (cut60 site) code now).ts, .int .i64 (bounceR x (cut60 site) code now).num, .int .i64 (bounceR x (cut60 site) code now).date, .string (bounceR x (cut60 site) code now).sj, .slice none 0 0, .string (bounceR x (cut60 site) code now).body] 26)).heap.size := by simp
  unfold msgC at hrw
  generalize hW6 : w5.alloc (.cells #[.string (bounceR x (cut60 site) code now).fu, .string (bounceR x (cut60 site) code now).fs, .string (bounceR x (cut60 site) code now).tu, .string (bounceR x (cut60 site) code now).ts, .int .i64 (bounceR x (cut60 site) code now).num, .int .i64 (bounceR x (cut60 site) code now).date, .string (bounceR x (cut60 site) code now).sj, .slice none 0 0, .string (bounceR x (cut60 site) code now).body] 26) = w6 at *
  clear hW6
  have HRW := Lib.hid hrw
  clear hrw
  have HYF := Lib.hid (bounceR_fits (m := x) (site := cut60 site) (now := now) H0.out H1.out)
  have hy0 : (bounceR x (cut60 site) code now).hops = [] := bounce_hops _ _ _ _
  have HC6 := Lib.hid (of_c (bounceR x (cut60 site) code now) (.slice none 0 0) w6.drew HYF.out (.inl ⟨hy0, none, 0, rfl⟩) (by rw [hy0]; exact Nat.zero_le _))
  unfold msgC at HC6
  have HKW := Lib.hid (keep2 (w' := w6.drew) HLB6.out.row HRW.out)
  unfold Keep2 at HKW
  have HY0 := Lib.hid hy0
  clear hy0
  go_region_held3 (fun w' => w'.cell? ⟨w2.heap.size, 0, none⟩ = some (.string (bounceR x (cut60 site) code now).fu) ∧ w'.cell? ⟨w2.heap.size, 1, none⟩ = some (.string (bounceR x (cut60 site) code now).fs) ∧ w'.cell? ⟨w2.heap.size, 2, none⟩ = some (.string (bounceR x (cut60 site) code now).tu) ∧ w'.cell? ⟨w2.heap.size, 3, none⟩ = some (.string (bounceR x (cut60 site) code now).ts) ∧ w'.cell? ⟨w2.heap.size, 4, none⟩ = some (.int .i64 (bounceR x (cut60 site) code now).num) ∧ w'.cell? ⟨w2.heap.size, 5, none⟩ = some (.int .i64 (bounceR x (cut60 site) code now).date) ∧ w'.cell? ⟨w2.heap.size, 6, none⟩ = some (.string (bounceR x (cut60 site) code now).sj) ∧ w'.cell? ⟨w2.heap.size, 7, none⟩ = some (.slice none 0 0) ∧ w'.cell? ⟨w2.heap.size, 8, none⟩ = some (.string (bounceR x (cut60 site) code now).body) ∧ w'.cell? ⟨w5.heap.size, 0, none⟩ = some (.string (bounceR x (cut60 site) code now).fu) ∧ w'.cell? ⟨w5.heap.size, 1, none⟩ = some (.string (bounceR x (cut60 site) code now).fs) ∧ w'.cell? ⟨w5.heap.size, 2, none⟩ = some (.string (bounceR x (cut60 site) code now).tu) ∧ w'.cell? ⟨w5.heap.size, 3, none⟩ = some (.string (bounceR x (cut60 site) code now).ts) ∧ w'.cell? ⟨w5.heap.size, 4, none⟩ = some (.int .i64 (bounceR x (cut60 site) code now).num) ∧ w'.cell? ⟨w5.heap.size, 5, none⟩ = some (.int .i64 (bounceR x (cut60 site) code now).date) ∧ w'.cell? ⟨w5.heap.size, 6, none⟩ = some (.string (bounceR x (cut60 site) code now).sj) ∧ w'.cell? ⟨w5.heap.size, 7, none⟩ = some (.slice none 0 0) ∧ w'.cell? ⟨w5.heap.size, 8, none⟩ = some (.string (bounceR x (cut60 site) code now).body)) (first | (with_reducible exact HKW.out) | fail) (first | (go_at_call 12; (with_reducible refine HC6.out.mono ?_); rintro e w7 ⟨v7, rfl, ho7, hb7⟩; obtain ⟨a7, c7, hv7⟩ := ownStrs_len ho7; subst hv7; dsimp only [msgC]; have hrw7 := (hb7.block w5.heap.size (lt_of_block HRW.out)).trans HRW.out; have HRW7 := Lib.hid hrw7; have HL7 := Lib.hid ((HL6.out.next (Below.refl _ w6).drew).next hb7); have HLB7 := Lib.hid ((HLB6.out.next (Below.refl _ w6).drew).next hb7); have HKW := Lib.hid (keep2 HLB7.out.row hrw7); unfold Keep2 at HKW; have HC7 := Lib.hid (rSame_c (bounceR x (cut60 site) code now) (bounceR x (cut60 site) code now) (.slice a7 (bounceR x (cut60 site) code now).hops.length c7) (.slice none 0 0) w7 HYF.out HYF.out ho7.strsAt (.inl ⟨HY0.out, none, 0, rfl⟩)); unfold msgC at HC7; clear ho7 hb7 hrw7) | (go_at_call 13; (with_reducible refine HC7.out.mono ?_); rintro e w8 ⟨rfl, hb8⟩; have HL8 := Lib.hid (HL7.out.next hb8); have HLB8 := Lib.hid (HLB7.out.next hb8); have HKW := Lib.hid (keep2 HLB8.out.row ((hb8.block w5.heap.size (lt_of_block HRW7.out)).trans HRW7.out)); unfold Keep2 at HKW; clear hb8))
  have hsm : sameM (bounceR x (cut60 site) code now) (bounceR x (cut60 site) code now) = true := sameM_refl _
  rw [hsm]
  have HR8 := Lib.hid HLB8.out.row
  unfold msgC at HR8
  have HC8 := Lib.hid (bounce_c (bounceR x (cut60 site) code now) (.slice none 0 0) (cut60 site) code now w8 HYF.out (.inl ⟨HY0.out, none, 0, rfl⟩) HSC.out H0.out H1.out HLB8.out.pow)
  unfold BouncePost at HC8
  rw [bounce_none] at HC8
  unfold msgC at HC8
  go_upto_region 8 with (first | (with_reducible refine wpList_load_row rfl 29 (.tmp 10) rfl _ rfl _ _ _ _ HR8.out Tryd.underlying29 rfl (by kernel_rfl) ?_) | (go_at_call 10; refine HC8.out.mono ?_; rintro e w9 ⟨rfl, hb9⟩; dsimp only [msgC]; have HLB9 := Lib.hid (HLB8.out.next hb9); clear hb9))
  have HLB10 := Lib.hid (HLB9.out.alloc (.cells #[.string (bounceR (bounceR x (cut60 site) code now) (cut60 site) code now).fu, .string (bounceR (bounceR x (cut60 site) code now) (cut60 site) code now).fs, .string (bounceR (bounceR x (cut60 site) code now) (cut60 site) code now).tu, .string (bounceR (bounceR x (cut60 site) code now) (cut60 site) code now).ts, .int .i64 (bounceR (bounceR x (cut60 site) code now) (cut60 site) code now).num, .int .i64 (bounceR (bounceR x (cut60 site) code now) (cut60 site) code now).date, .string (bounceR (bounceR x (cut60 site) code now) (cut60 site) code now).sj, .slice none 0 0, .string (bounceR (bounceR x (cut60 site) code now) (cut60 site) code now).body] 29))
  generalize hW10 : w9.alloc (.cells #[.string (bounceR (bounceR x (cut60 site) code now) (cut60 site) code now).fu, .string (bounceR (bounceR x (cut60 site) code now) (cut60 site) code now).fs, .string (bounceR (bounceR x (cut60 site) code now) (cut60 site) code now).tu, .string (bounceR (bounceR x (cut60 site) code now) (cut60 site) code now).ts, .int .i64 (bounceR (bounceR x (cut60 site) code now) (cut60 site) code now).num, .int .i64 (bounceR (bounceR x (cut60 site) code now) (cut60 site) code now).date, .string (bounceR (bounceR x (cut60 site) code now) (cut60 site) code now).sj, .slice none 0 0, .string (bounceR (bounceR x (cut60 site) code now) (cut60 site) code now).body] 29) = w10 at *
  clear hW10
  have HC10 := Lib.hid (known_c w10 HLB10.out.pow)
  have hval : bouncesB x (cut60 site) now = true → checkE (bounceR x (cut60 site) code now) = 0 := fun h => bounce_valid h H0.out H1.out
  have HVL := Lib.hid hval
  clear hval
  cases hbo : bouncesB x (cut60 site) now
  all_goals
    have HBO := Lib.hid hbo
    clear hbo
    go_wp2_with (first | (go_at_call 14; (with_reducible refine HC10.out.mono ?_); rintro e w11 ⟨rfl, hb11⟩; have HL11 := Lib.hid (HLB10.out.next hb11); obtain ⟨k0, k1, k2, k3, k4, k5, k6, k7, k8⟩ := keep1 HL11.out.row; have HC11 := Lib.hid (check_c (bounceR x (cut60 site) code now) (.slice none 0 0) w11 HYF.out (.inl ⟨HY0.out, none, 0, rfl⟩)); unfold msgC at HC11; clear hb11) | (go_at_call 15; (with_reducible refine HC11.out.mono ?_); rintro e w12 ⟨rfl, hb12⟩; have HL12 := Lib.hid (HL11.out.next hb12); rw [HVL.out HBO.out]; clear hb12))
  · go_ret
    exact ⟨rfl, HL11.out.bel⟩
  · go_ret
    exact ⟨rfl, HL12.out.bel⟩
end Go.Proofs.YtfcfddfjifofgaaDoor
