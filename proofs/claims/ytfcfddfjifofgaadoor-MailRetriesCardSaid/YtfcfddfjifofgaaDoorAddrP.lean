/- Which texts are addresses, plainly. -/
import Derived.Test.YtfcfddfjifofgaaDoorBounce
namespace Go.Proofs.YtfcfddfjifofgaaDoor
open Go.RowKit Go.Shelf

theorem indexByte_lt {l : List UInt8} {c : UInt8} (h : 0 ≤ Lib.indexByte l c) : Lib.indexByte l c < l.length := by
  induction l with
  | nil => simp [Lib.indexByte] at h
  | cons b l ih =>
    unfold Lib.indexByte at h ⊢
    by_cases e : b = c
    · simp [e]
    · rcases indexByte_neg l c with ⟨h1, _⟩ | ⟨h1, _⟩
      · simp [e, h1] at h
      · have h2 := ih h1
        have h3 : ¬ Lib.indexByte l c = -1 := by omega
        simp [e, h3]; omega
theorem indexByte_ge (l : List UInt8) (c : UInt8) : -1 ≤ Lib.indexByte l c := by
  rcases indexByte_neg l c with h | h <;> omega
/-- strings.Cut at one byte. -/
def cut1 (s : ByteArray) (c : UInt8) : ByteArray × ByteArray × Bool :=
  if 0 ≤ Lib.indexByte s.data.toList c then (s.extract 0 (Lib.indexByte s.data.toList c).toNat, s.extract (Lib.indexByte s.data.toList c + 1).toNat s.size, true) else (s, ⟨#[]⟩, false)
theorem cut1_t {s : ByteArray} {c : UInt8} (h : 0 ≤ Lib.indexByte s.data.toList c) : cut1 s c = (s.extract 0 (Lib.indexByte s.data.toList c).toNat, s.extract (Lib.indexByte s.data.toList c + 1).toNat s.size, true) := if_pos h
theorem cut1_f {s : ByteArray} {c : UInt8} (h : ¬ 0 ≤ Lib.indexByte s.data.toList c) : cut1 s c = (s, ⟨#[]⟩, false) := if_neg h
/-- ParseAddress: the user and the site of a text, and the error. -/
def addrR (s : ByteArray) : (ByteArray × ByteArray) × Nat :=
  if (!(cut1 s 64).2.2 || decide (0 ≤ Lib.indexByte (cut1 s 64).2.1.data.toList 64)) = true then ((⟨#[]⟩, ⟨#[]⟩), 3) else
  if userB (cut1 s 64).1 = false then ((⟨#[]⟩, ⟨#[]⟩), 12) else
  if siteE (cut1 s 64).2.1 ≠ 0 then ((⟨#[]⟩, ⟨#[]⟩), siteE (cut1 s 64).2.1) else (((cut1 s 64).1, (cut1 s 64).2.1), 0)
theorem addr1 {s : ByteArray} (h : (!(cut1 s 64).2.2 || decide (0 ≤ Lib.indexByte (cut1 s 64).2.1.data.toList 64)) = true) : addrR s = ((⟨#[]⟩, ⟨#[]⟩), 3) := if_pos h
theorem addr2 {s : ByteArray} (h : (!(cut1 s 64).2.2 || decide (0 ≤ Lib.indexByte (cut1 s 64).2.1.data.toList 64)) = false) (h2 : (!userB (cut1 s 64).1) = true) : addrR s = ((⟨#[]⟩, ⟨#[]⟩), 12) := by
  rw [addrR, if_neg (by rw [h]; decide), if_pos (not_t h2)]
theorem addr3 {s : ByteArray} (h : (!(cut1 s 64).2.2 || decide (0 ≤ Lib.indexByte (cut1 s 64).2.1.data.toList 64)) = false) (h2 : (!userB (cut1 s 64).1) = false) (h3 : ((siteE (cut1 s 64).2.1 : Int) != 0) = true) : addrR s = ((⟨#[]⟩, ⟨#[]⟩), siteE (cut1 s 64).2.1) := by
  rw [addrR, if_neg (by rw [h]; decide), if_neg (by rw [not_f h2]; decide), if_pos (bne_t h3)]
theorem addr4 {s : ByteArray} (h : (!(cut1 s 64).2.2 || decide (0 ≤ Lib.indexByte (cut1 s 64).2.1.data.toList 64)) = false) (h2 : (!userB (cut1 s 64).1) = false) (h3 : ((siteE (cut1 s 64).2.1 : Int) != 0) = false) : addrR s = (((cut1 s 64).1, (cut1 s 64).2.1), 0) := by
  rw [addrR, if_neg (by rw [h]; decide), if_neg (by rw [not_f h2]; decide), if_neg (by simpa using bne_f h3)]
theorem cut1_size (s : ByteArray) (c : UInt8) : (cut1 s c).1.size ≤ s.size ∧ (cut1 s c).2.1.size ≤ s.size := by
  unfold cut1
  split
  · simp only [ByteArray.size_extract]; omega
  · exact ⟨Nat.le_refl _, Nat.zero_le _⟩
/-! The reference counts. -/
def cntB (l : List UInt8) (c : UInt8) : Nat := l.countP (· == c)
theorem cnt_snoc (l : List UInt8) (x c : UInt8) : cntB (l ++ [x]) c = cntB l c + if x = c then 1 else 0 := by
  unfold cntB
  rw [List.countP_append, List.countP_cons, List.countP_nil]
  by_cases h : x = c <;> simp [h]
theorem cnt_none {l : List UInt8} {c : UInt8} (h : cntB l c = 0) : c ∉ l := by
  unfold cntB at h
  rw [List.countP_eq_zero] at h
  intro hm
  exact h c hm (by simp)
theorem indexByte_at {a b : List UInt8} {c : UInt8} (h : c ∉ a) : Lib.indexByte (a ++ c :: b) c = a.length := by
  induction a with
  | nil => simp [Lib.indexByte]
  | cons x a ih =>
    have hx : ¬ x = c := fun e => h (by simp [e])
    have ha : c ∉ a := fun e => h (by simp [e])
    rw [List.cons_append, Lib.indexByte]
    rw [ih ha]
    have h3 : ¬ (a.length : Int) = -1 := by omega
    simp [hx, h3]
theorem indexByte_no {l : List UInt8} {c : UInt8} (h : c ∉ l) : Lib.indexByte l c = -1 := by
  rcases indexByte_neg l c with h1 | h1
  · exact h1.1
  · exact absurd h1.2 h
/-- One byte c, at position p: what cut1 says. -/
theorem cut1_one {s : ByteArray} {c : UInt8} {p : Nat} (hc : cntB (by' s) c = 1) (hp : (by' s)[p]? = some c) :
    cut1 s c = (s.extract 0 p, s.extract (p + 1) s.size, true) ∧ ¬ 0 ≤ Lib.indexByte (cut1 s c).2.1.data.toList c := by
  have hlt : p < (by' s).length := (List.getElem?_eq_some_iff.1 hp).1
  have hsp : by' s = (by' s).take p ++ c :: (by' s).drop (p + 1) := by
    have hx := (List.getElem?_eq_some_iff.1 hp).2
    conv => lhs; rw [← List.take_append_drop p (by' s), List.drop_eq_getElem_cons hlt, hx]
  have hcnt : cntB ((by' s).take p) c + (1 + cntB ((by' s).drop (p + 1)) c) = 1 := by
    have h2 := hc
    rw [hsp] at h2
    unfold cntB at h2 ⊢
    rw [List.countP_append, List.countP_cons] at h2
    simp at h2 ⊢
    omega
  have ha := cnt_none (show cntB ((by' s).take p) c = 0 by omega)
  have hb := cnt_none (show cntB ((by' s).drop (p + 1)) c = 0 by omega)
  have hi : Lib.indexByte (by' s) c = (p : Int) := by
    rw [hsp, indexByte_at ha, List.length_take]
    have : p ≤ (by' s).length := by omega
    omega
  have hcut : cut1 s c = (s.extract 0 p, s.extract (p + 1) s.size, true) := by
    have hi' : Lib.indexByte s.data.toList c = (p : Int) := hi
    rw [cut1_t (by rw [hi']; omega), hi']
    have e : ((p : Int) + 1).toNat = p + 1 := by omega
    rw [e, Int.toNat_natCast]
  refine ⟨hcut, ?_⟩
  rw [hcut]
  show ¬ 0 ≤ Lib.indexByte (s.extract (p + 1) s.size).data.toList c
  have e : (s.extract (p + 1) s.size).data.toList = (by' s).drop (p + 1) := by
    rw [Lib.extract_data]
    exact List.take_of_length_le (by rw [List.length_drop]; exact Nat.le_refl _)
  rw [e, indexByte_no hb]
  decide
theorem indexByte_split {l : List UInt8} {c : UInt8} (h : c ∈ l) : ∃ a b, l = a ++ c :: b ∧ c ∉ a := by
  induction l with
  | nil => cases h
  | cons x l ih =>
    by_cases e : x = c
    · subst e; exact ⟨[], l, rfl, by simp⟩
    · have hm : c ∈ l := by
        rcases List.mem_cons.1 h with h1 | h1
        · exact absurd h1.symm e
        · exact h1
      obtain ⟨a, b, h1, h2⟩ := ih hm
      refine ⟨x :: a, b, by rw [h1]; rfl, fun hx => ?_⟩
      rcases List.mem_cons.1 hx with h3 | h3
      · exact e h3.symm
      · exact h2 h3
/-- Not one such byte: what cut1 says. -/
theorem cut1_not {s : ByteArray} {c : UInt8} (hc : cntB (by' s) c ≠ 1) : (!(cut1 s c).2.2 || decide (0 ≤ Lib.indexByte (cut1 s c).2.1.data.toList c)) = true := by
  rcases indexByte_neg (by' s) c with ⟨h1, h2⟩ | ⟨h1, h2⟩
  · have : cut1 s c = (s, ⟨#[]⟩, false) := cut1_f (by show ¬ 0 ≤ Lib.indexByte (by' s) c; rw [h1]; decide)
    rw [this]; rfl
  · obtain ⟨a, b, hab, ha⟩ := indexByte_split h2
    have hi : Lib.indexByte (by' s) c = (a.length : Int) := by rw [hab, indexByte_at ha]
    have hb : c ∈ b := by
      apply Classical.byContradiction
      intro hb
      apply hc
      rw [hab]
      unfold cntB
      rw [List.countP_append, List.countP_cons]
      have h3 : List.countP (· == c) a = 0 := List.countP_eq_zero.2 fun x hx => by
        simp; intro e; subst e; exact ha hx
      have h4 : List.countP (· == c) b = 0 := List.countP_eq_zero.2 fun x hx => by
        simp; intro e; subst e; exact hb hx
      simp [h3, h4]
    have hi' : Lib.indexByte s.data.toList c = (a.length : Int) := hi
    have hcut : cut1 s c = (s.extract 0 a.length, s.extract (a.length + 1) s.size, true) := by
      rw [cut1_t (by rw [hi']; omega), hi']
      have e : ((a.length : Int) + 1).toNat = a.length + 1 := by omega
      rw [e, Int.toNat_natCast]
    rw [hcut]
    have e : (s.extract (a.length + 1) s.size).data.toList = b := by
      rw [Lib.extract_data, List.take_of_length_le (by rw [List.length_drop]; exact Nat.le_refl _)]
      show (by' s).drop (a.length + 1) = b
      rw [hab]
      simp [List.drop_append]
    have hx : 0 ≤ Lib.indexByte b c := by
      rcases indexByte_neg b c with h5 | h5
      · exact absurd hb h5.2
      · exact h5.1
    simp only [e, hx, decide_true, Bool.or_true]
theorem addr_ref1 {s : ByteArray} {c : Nat} (hcc : cntB (by' s) 64 = c) (h : ((c : Int) != 1) = true) : addrR s = ((⟨#[]⟩, ⟨#[]⟩), 3) :=
  addr1 (cut1_not (by rw [hcc]; intro e; subst e; simp at h))
theorem addr_refn {s : ByteArray} {c p : Nat} (hcc : cntB (by' s) 64 = c) (hc1 : c = 1) (hp : (by' s)[p]? = some 64) :
    (cut1 s 64).1 = s.extract 0 (p : Int).toNat ∧ (cut1 s 64).2.1 = s.extract ((p : Int) + 1).toNat s.size ∧ (!(cut1 s 64).2.2 || decide (0 ≤ Lib.indexByte (cut1 s 64).2.1.data.toList 64)) = false := by
  obtain ⟨h1, h2⟩ := cut1_one (hcc.trans hc1) hp
  have e : ((p : Int) + 1).toNat = p + 1 := by omega
  rw [e, Int.toNat_natCast]
  have h3 := decide_eq_false h2
  refine ⟨by rw [h1], by rw [h1], ?_⟩
  rw [h3, h1]; rfl
theorem addr_ref2 {s : ByteArray} {c p : Nat} (hcc : cntB (by' s) 64 = c) (hc1 : c = 1) (hp : (by' s)[p]? = some 64) (_h0 : ((c : Int) != 1) = false) (h : (!userB (s.extract 0 (p : Int).toNat)) = true) : addrR s = ((⟨#[]⟩, ⟨#[]⟩), 12) := by
  obtain ⟨h1, h2, h3⟩ := addr_refn hcc hc1 hp
  exact addr2 h3 (by rw [h1]; exact h)
theorem addr_ref3 {s : ByteArray} {c p : Nat} (hcc : cntB (by' s) 64 = c) (hc1 : c = 1) (hp : (by' s)[p]? = some 64) (_h0 : ((c : Int) != 1) = false) (h : (!userB (s.extract 0 (p : Int).toNat)) = false) (h4 : ((siteE (s.extract ((p : Int) + 1).toNat s.size) : Int) != 0) = true) : addrR s = ((⟨#[]⟩, ⟨#[]⟩), siteE (s.extract ((p : Int) + 1).toNat s.size)) := by
  obtain ⟨h1, h2, h3⟩ := addr_refn hcc hc1 hp
  rw [addr3 h3 (by rw [h1]; exact h) (by rw [h2]; exact h4), h2]
theorem addr_ref4 {s : ByteArray} {c p : Nat} (hcc : cntB (by' s) 64 = c) (hc1 : c = 1) (hp : (by' s)[p]? = some 64) (_h0 : ((c : Int) != 1) = false) (h : (!userB (s.extract 0 (p : Int).toNat)) = false) (h4 : ((siteE (s.extract ((p : Int) + 1).toNat s.size) : Int) != 0) = false) : addrR s = ((s.extract 0 (p : Int).toNat, s.extract ((p : Int) + 1).toNat s.size), 0) := by
  obtain ⟨h1, h2, h3⟩ := addr_refn hcc hc1 hp
  rw [addr4 h3 (by rw [h1]; exact h) (by rw [h2]; exact h4), h1, h2]
def AddrRel (s : ByteArray) (p c k : Nat) : Prop := (k ≤ s.size ∧ p ≤ k ∧ c ≤ k) ∧ c = cntB ((by' s).take k) 64 ∧ (1 ≤ c → p < k ∧ (by' s)[p]? = some 64)
theorem addr_hit {s : ByteArray} {p c k : Nat} (hlt : k < s.size) (h : AddrRel s p c k) (hb : ((s[k].toNat : Int) == 64) = true) : AddrRel s k (c + 1) (k + 1) := by
  obtain ⟨⟨h1, h2, h3⟩, h4, h5⟩ := h
  have hx : s[k] = 64 := by
    rw [beq_iff_eq] at hb
    apply UInt8.toNat_inj.1
    have : (64 : UInt8).toNat = 64 := rfl
    omega
  refine ⟨⟨by omega, by omega, by omega⟩, ?_, fun _ => ⟨by omega, ?_⟩⟩
  · rw [take_snoc s k hlt, cnt_snoc, ← h4, if_pos hx]
  · rw [List.getElem?_eq_getElem (by simpa using hlt)]
    exact congrArg some hx
theorem addr_miss {s : ByteArray} {p c k : Nat} (hlt : k < s.size) (h : AddrRel s p c k) (hb : ((s[k].toNat : Int) == 64) = false) : AddrRel s p c (k + 1) := by
  obtain ⟨⟨h1, h2, h3⟩, h4, h5⟩ := h
  have hx : ¬ s[k] = 64 := fun e => by
    rw [e] at hb
    exact absurd hb (by decide)
  refine ⟨⟨by omega, by omega, by omega⟩, ?_, fun hc => ⟨by have := (h5 hc).1; omega, (h5 hc).2⟩⟩
  rw [take_snoc s k hlt, cnt_snoc, ← h4, if_neg hx]; rfl
theorem le_max {n : Nat} (h : n ≤ 1099511627776) : n ≤ maxLen := by unfold maxLen; omega
theorem addrR_size (s : ByteArray) : (addrR s).1.1.size ≤ s.size ∧ (addrR s).1.2.size ≤ s.size := by
  have h := cut1_size s 64
  unfold addrR
  split
  · exact ⟨Nat.zero_le _, Nat.zero_le _⟩
  · split
    · exact ⟨Nat.zero_le _, Nat.zero_le _⟩
    · split
      · exact ⟨Nat.zero_le _, Nat.zero_le _⟩
      · exact h
theorem cut1_text {s : ByteArray} {c : UInt8} (h : (cut1 s c).2.2 = true) : (cut1 s c).1 ++ ⟨#[c]⟩ ++ (cut1 s c).2.1 = s := by
  rcases indexByte_neg (by' s) c with ⟨h1, _⟩ | ⟨h1, h2⟩
  · rw [cut1_f (by show ¬ 0 ≤ Lib.indexByte (by' s) c; rw [h1]; decide)] at h
    cases h
  · obtain ⟨a, b, hab, ha⟩ := indexByte_split h2
    have hi : Lib.indexByte s.data.toList c = (a.length : Int) := by
      show Lib.indexByte (by' s) c = _
      rw [hab, indexByte_at ha]
    have e : ((a.length : Int) + 1).toNat = a.length + 1 := by omega
    rw [cut1_t (by rw [hi]; omega), hi, e, Int.toNat_natCast]
    have hx : ∀ x y : ByteArray, x.data.toList = y.data.toList → x = y := fun x y h => by
      cases x; cases y; simp at h; simp [h]
    apply hx
    simp only [ByteArray.data_append, Array.toList_append, Lib.extract_data]
    have hs : s.data.toList = a ++ c :: b := hab
    have hl : s.size = a.length + 1 + b.length := by
      show s.data.size = _
      rw [← Array.length_toList, hs]; simp; omega
    rw [hs, hl]
    simp [List.drop_append, List.take_append]
theorem addr_text (s : ByteArray) : ((((addrR s).2 : Int) != 0) || decide (textA (addrR s).1.1 (addrR s).1.2 = s)) = true := by
  by_cases h1 : (!(cut1 s 64).2.2 || decide (0 ≤ Lib.indexByte (cut1 s 64).2.1.data.toList 64)) = true
  · rw [addr1 h1]; rfl
  have h1' : (!(cut1 s 64).2.2 || decide (0 ≤ Lib.indexByte (cut1 s 64).2.1.data.toList 64)) = false := by simpa using h1
  by_cases h2 : (!userB (cut1 s 64).1) = true
  · rw [addr2 h1' h2]; rfl
  have h2' : (!userB (cut1 s 64).1) = false := by simpa using h2
  by_cases h3 : ((siteE (cut1 s 64).2.1 : Int) != 0) = true
  · rw [addr3 h1' h2' h3]
    simp only [h3, Bool.true_or]
  have h3' : ((siteE (cut1 s 64).2.1 : Int) != 0) = false := by simpa using h3
  rw [addr4 h1' h2' h3']
  have h4 : (cut1 s 64).2.2 = true := by
    cases hb : (cut1 s 64).2.2 with
    | true => rfl
    | false => rw [hb] at h1'; simp at h1'
  have h5 : textA (cut1 s 64).1 (cut1 s 64).2.1 = s := cut1_text h4
  simp [h5]
end Go.Proofs.YtfcfddfjifofgaaDoor
