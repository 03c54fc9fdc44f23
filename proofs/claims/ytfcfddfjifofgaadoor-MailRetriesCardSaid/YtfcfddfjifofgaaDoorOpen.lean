/- Opening the arguments of the laws: lists of strings and messages that came in. -/
import Derived.Test.YtfcfddfjifofgaaDoorMsg
import Derived.Test.YtfcfddfjifofgaaDoorItoa
import Derived.ProofKit
import Derived.Deep.Slices
namespace Go.Proofs.YtfcfddfjifofgaaDoor
open Go.ChangeShapes Go.WideShapes Go.ChangeAt Go.RowKit Go.Deep

variable {H : Type} {enc : TypeId × Value → H} {W : World} {base : Nat} {spare : Nat → Bool} {held : Bool}
/-- A slice of strings that came in. -/
theorem open_strsL {fuel : Nat} {cs : List Value} {x : DataW H × List MemPlace} (h : DataW.trod enc Tryd.prog W base spare held fuel 24 cs = some x) :
    ∃ hv l, cs = [hv] ∧ StrsAt W hv l ∧ l.length ≤ maxLen ∧ ∀ s ∈ l, s.size ≤ maxLen := by
  rcases open_slice1 Tryd.underlying24 (by kernel_rfl) h with ⟨rfl, _⟩ | ⟨a, len, cap, m, n, V, D, Pl, rfl, _, hl, hm, hmm, _, hx⟩
  · exact ⟨_, [], rfl, .inl ⟨rfl, none, 0, rfl⟩, Nat.zero_le _, fun s hs => by cases hs⟩
  have hlm : len ≤ m := by rw [hmm]; split <;> omega
  obtain ⟨S, hS⟩ := choose_lt (α := ByteArray) (n := m) (p := fun i s => V i = .string s ∧ s.size ≤ maxLen) (fun i hi => by
    obtain ⟨s, h1, _, h2⟩ := DataW.trod_string Tryd.underlying9 (hx i hi).2
    exact ⟨s, by simpa using h1, h2⟩)
  by_cases h0 : len = 0
  · subst h0
    exact ⟨_, [], rfl, .inl ⟨rfl, _, _, rfl⟩, Nat.zero_le _, fun s hs => by cases hs⟩
  obtain ⟨b, off, spot⟩ := a
  have hc := (hx 0 (by omega)).1
  have hspot : spot = none := by simpa [Addr.add] using World.cell?_spot hc
  subst hspot
  have hb : b < W.heap.size := by
    rcases Nat.lt_or_ge b W.heap.size with h' | h'
    · exact h'
    · simp [World.cell?, Addr.add, Array.getElem?_eq_none h'] at hc
  refine ⟨_, (List.range len).map S, rfl, .inr ⟨b, off, cap, by simp, by simpa using hl, hb, fun j s hj => ?_⟩, by simp; omega, fun s hs => ?_⟩
  · rw [List.getElem?_map] at hj
    obtain ⟨i, hi, rfl⟩ := Option.map_eq_some_iff.1 hj
    have hlt : j < len := by
      rcases Nat.lt_or_ge j len with h' | h'
      · exact h'
      · rw [List.getElem?_eq_none (by simpa using h')] at hi; cases hi
    rw [List.getElem?_range hlt] at hi
    cases hi
    have := (hx j (by omega)).1
    rw [(hS j (by omega)).1] at this
    have e : (⟨b, off, none⟩ : Addr).add j = ⟨b, off + j, none⟩ := by
      unfold Addr.add; split
      · subst_vars; rfl
      · rfl
    rwa [e] at this
  · obtain ⟨i, hi, rfl⟩ := List.mem_map.1 hs
    exact (hS i (by have := List.mem_range.1 hi; omega)).2
set_option maxRecDepth 100000 in
theorem open_two {fuel : Nat} {cs : List Value} {x : DataW H × List MemPlace} (h : DataW.trod enc Tryd.prog W base spare held fuel 23 cs = some x) :
    ∃ u s : ByteArray, cs = [.string u, .string s] ∧ u.size ≤ maxLen ∧ s.size ≤ maxLen := by
  obtain ⟨y0, y1, n, _, hl, h0, h1⟩ := trod_struct2 Tryd.underlying23 h
  have e : Tryd.prog.cellsOf 23 = 2 := by kernel_rfl
  have e1 : Tryd.prog.cellsOf 9 = 1 := by kernel_rfl
  rw [e] at hl
  match cs, hl with
  | [c0, c1], _ =>
    obtain ⟨u, e2, _, z1⟩ := DataW.trod_string Tryd.underlying9 h0
    obtain ⟨s, e3, _, z2⟩ := DataW.trod_string Tryd.underlying9 h1
    simp [e1] at e2 e3
    exact ⟨u, s, by simp [e2, e3], z1, z2⟩
/-- The bounds of a message's numbers. -/
def Msg.Nums (m : Msg) : Prop := (-9223372036854775808 ≤ m.num ∧ m.num ≤ 9223372036854775807) ∧ (-9223372036854775808 ≤ m.date ∧ m.date ≤ 9223372036854775807)
theorem wf_bounds {n : Int} (h : (Lit.int .i64 n).wf = true) : -9223372036854775808 ≤ n ∧ n ≤ 9223372036854775807 := by
  simp [Lit.wf, IntKind.min, IntKind.max, IntKind.bits, IntKind.signed] at h
  omega
set_option maxRecDepth 100000 in
/-- A message of the reference that came in. -/
theorem open_msgL {fuel : Nat} {cs : List Value} {x : DataW H × List MemPlace} (h : DataW.trod enc Tryd.prog W base spare held fuel 26 cs = some x) :
    ∃ m hv, cs = (msgC m hv).toList ∧ m.Fits ∧ StrsAt W hv m.hops ∧ m.Nums := by
  obtain ⟨xs, n, _, _, hl, hlen, hf⟩ := DataW.trod_struct Tryd.underlying26 h
  have e9 : Tryd.prog.cellsOf 26 = 9 := by kernel_rfl
  have e2 : Tryd.prog.cellsOf 23 = 2 := by kernel_rfl
  have e1 : Tryd.prog.cellsOf 9 = 1 := by kernel_rfl
  have e3 : Tryd.prog.cellsOf 3 = 1 := by kernel_rfl
  have e4 : Tryd.prog.cellsOf 24 = 1 := by kernel_rfl
  rw [e9] at hl
  match cs, hl with
  | [c0, c1, c2, c3, c4, c5, c6, c7, c8], _ =>
    match xs, hlen with
    | [y0, y1, y2, y3, y4, y5, y6], _ =>
      have f0 := hf 0 _ rfl
      have f1 := hf 1 _ rfl
      have f2 := hf 2 _ rfl
      have f3 := hf 3 _ rfl
      have f4 := hf 4 _ rfl
      have f5 := hf 5 _ rfl
      have f6 := hf 6 _ rfl
      simp [e1, e2, e3, e4] at f0 f1 f2 f3 f4 f5 f6
      obtain ⟨u, s, q0, z0, z1⟩ := open_two f0
      obtain ⟨u', s', q1, z2, z3⟩ := open_two f1
      obtain ⟨num, q2, _, w2⟩ := DataW.trod_int Tryd.underlying3 f2
      obtain ⟨date, q3, _, w3⟩ := DataW.trod_int Tryd.underlying3 f3
      obtain ⟨sj, q4, _, z4⟩ := DataW.trod_string Tryd.underlying9 f4
      obtain ⟨hv, l, q5, hst, z5, z6⟩ := open_strsL f5
      obtain ⟨body, q6, _, z7⟩ := DataW.trod_string Tryd.underlying9 f6
      simp at q0 q1 q2 q3 q4 q5 q6
      obtain ⟨rfl, rfl⟩ := q0
      obtain ⟨rfl, rfl⟩ := q1
      subst q2 q3 q4 q5 q6
      exact ⟨⟨u, s, u', s', num, date, sj, l, body⟩, _, rfl, ⟨z0, z1, z2, z3, z4, z7, z5, z6⟩, hst, wf_bounds w2, wf_bounds w3⟩
set_option maxRecDepth 100000 in
theorem open_msg {v : Value} {d : DataW H} {p : List MemPlace} {r : Reach} (hv : Value.okWide Tryd.prog W r base 26 v) (h : DataW.Trod enc Tryd.prog W 0 spare held 26 v d p) :
    ∃ m hv, v = .agg (msgC m hv) ∧ m.Fits ∧ StrsAt W hv m.hops ∧ m.Nums := by
  obtain ⟨cs, rfl, _⟩ := okWide_struct Tryd.underlying26 hv
  obtain ⟨fuel, hf⟩ := h
  obtain ⟨m, hv, e, h1, h2, h3⟩ := open_msgL hf
  exact ⟨m, hv, by rw [Value.cells] at e; rw [← Array.toList_inj.1 e], h1, h2, h3⟩
end Go.Proofs.YtfcfddfjifofgaaDoor
