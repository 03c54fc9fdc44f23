/- A function's own slices of strings: what is written into them, and where they lie. -/
import Derived.Test.YtfcfddfjifofgaaDoorEngD
namespace Go.Proofs.YtfcfddfjifofgaaDoor
open Go.RowKit Go.Shelf
theorem own_lt {B : Nat} {l : List ByteArray} {w : World} {v : Value} (h : OwnStrs B l w v) : ∀ g, v.ownBlock = some g → g < w.heap.size := by
  intro g hg
  rcases ownStrs_cases h with ⟨rfl, _⟩ | ⟨g', cap, rfl, _, _, h3, _⟩
  · rcases h.2 with ⟨h1, _⟩ | ⟨g', cap, cur, h1, h2, h3, _⟩
    · rw [h1] at hg; simp [Value.ownBlock] at hg
    · rw [h1] at hg
      simp only [Value.ownBlock, Option.some.injEq] at hg
      subst hg
      exact lt_of_block h3
  · simp only [Value.ownBlock, Option.some.injEq] at hg
    omega
theorem own_get {B g n c k : Nat} {x : Option Addr} {l : List ByteArray} {w : World} {s : ByteArray} (h : OwnStrs B l w (.slice x n c)) (hx : x = some ⟨g, 0, none⟩) (hk : l[k]? = some s) : w.cell? ⟨g, 0 + k * 1, none⟩ = some (.string s) := by
  subst hx
  rcases ownStrs_cases h with ⟨rfl, _⟩ | ⟨g', cap, e, _, _, _, hc⟩
  · simp at hk
  · simp only [Value.slice.injEq, Option.some.injEq, Addr.mk.injEq] at e
    obtain ⟨⟨rfl, _⟩, _⟩ := e
    rw [Nat.mul_one]
    exact hc k s hk
theorem own_some {B n c : Nat} {x : Option Addr} {l : List ByteArray} {w : World} (h : OwnStrs B l w (.slice x n c)) (hl : 0 < l.length) : ∃ g, x = some ⟨g, 0, none⟩ := by
  obtain ⟨g, cap, e, _⟩ := ownStrs_at h hl
  simp only [Value.slice.injEq] at e
  exact ⟨g, e.1⟩
theorem own_put {B g n c k : Nat} {x : Option Addr} {l : List ByteArray} {w : World} (s : ByteArray) (h : OwnStrs B l w (.slice x n c)) (hx : x = some ⟨g, 0, none⟩) (hk : k < l.length) :
    ∃ w', (storeVar 9 ⟨g, 0 + k * 1, none⟩ (.string s)).run Tryd.prog w = .ok () w' ∧ OwnStrs B (l.set k s) w' (.slice x n c) ∧
      (∀ (b : Nat) (cs : Array Value) (t : TypeId), w.heap[b]? = some (.cells cs t (0, 0)) → (t == 9) = false → w'.heap[b]? = some (.cells cs t (0, 0))) ∧
      (∀ w0, Ext w0 w → w0.heap.size ≤ B → Ext w0 w') ∧ (∀ B2 l2 v2, OwnStrs B2 l2 w v2 → (∀ g', v2.ownBlock = some g' → g' ≠ g) → OwnStrs B2 l2 w' v2) := by
  subst hx
  rcases h.2 with ⟨h1, h2⟩ | ⟨g', cap, cur, h1, h2, h3, h4, h5, h6, h7⟩
  · simp at h1
  · simp only [Value.slice.injEq, Option.some.injEq, Addr.mk.injEq] at h1
    obtain ⟨⟨rfl, -⟩, rfl, rfl⟩ := h1
    have hsz : k < cur.size := by omega
    have hst : (storeVar 9 ⟨g, 0 + k * 1, none⟩ (.string s)).run Tryd.prog w = .ok () (w.setRow g (cur.setIfInBounds k (.string s))) := by
      have e : 0 + k * 1 = k := by omega
      rw [e]
      exact store_cell h3 hsz Tryd.sizeOf9 rfl rfl
    refine ⟨_, hst, ?_, ?_, ?_, ?_⟩
    · refine ⟨by simp [strs], .inr ⟨g, c, cur.setIfInBounds k (.string s), by simp, h2, setRow_heap _ _ _ _ _ _ h3, by simpa using h4, h5, by simpa using h6, ?_⟩⟩
      rw [Array.toList_setIfInBounds, List.take_set, List.length_set, h7]
      simp [strs]
    · intro b cs t hb ht
      refine row_other hb fun e => ?_
      subst e
      rw [hb] at h3
      simp only [Option.some.injEq, Obj.cells.injEq] at h3
      rw [h3.2.1] at ht
      simp at ht
    · intro w0 he hB
      exact below_row he (Nat.le_trans hB h2)
    · intro B2 l2 v2 h' hne
      refine ⟨h'.1, h'.2.imp id ?_⟩
      rintro ⟨g2, cap2, cur2, e1, e2, e3, e4⟩
      exact ⟨g2, cap2, cur2, e1, e2, row_other e3 (hne g2 (by rw [e1]; rfl)), e4⟩
/-- The first k strings changed. -/
def chg (l : List ByteArray) : Nat → List ByteArray
  | 0 => l
  | k + 1 => (chg l k).set k ⟨#[99, 104, 97, 110, 103, 101, 100]⟩
theorem chg_len (l : List ByteArray) (k : Nat) : (chg l k).length = l.length := by
  induction k with
  | zero => rfl
  | succ k ih => rw [chg, List.length_set, ih]
theorem chg_at (l : List ByteArray) (k j : Nat) (h : k ≤ j) : (chg l k)[j]? = l[j]? := by
  induction k with
  | zero => rfl
  | succ k ih => rw [chg, List.getElem?_set_ne (by omega), ih (by omega)]
theorem IsOwnE.mono {B B' n : Nat} {m : Msg} {v : Value} {w : World} (h : IsOwnE B m n v w) (hb : B' ≤ B) : IsOwnE B' m n v w := by
  obtain ⟨hv, e, o⟩ := h
  exact ⟨hv, e, o.mono hb⟩
theorem own_ge {B : Nat} {l : List ByteArray} {w : World} {v : Value} (h : OwnStrs B l w v) : ∀ g, v.ownBlock = some g → B ≤ g := by
  intro g hg
  rcases h.2 with ⟨h1, _⟩ | ⟨g', cap, cur, h1, h2, h3, _⟩
  · rw [h1] at hg; simp [Value.ownBlock] at hg
  · rw [h1] at hg
    simp only [Value.ownBlock, Option.some.injEq] at hg
    omega
theorem passR_len (m : Msg) (s : ByteArray) : (passR m s).1.hops.length ≤ m.hops.length + 1 := by
  unfold passR
  repeat' split
  all_goals simp [zeroM]
theorem passR_fits {m : Msg} {s : ByteArray} (f : m.Fits) (hs : s.size ≤ maxLen) (hl : m.hops.length + 1 ≤ maxLen) : (passR m s).1.Fits := by
  have z : zeroM.Fits := ⟨Nat.zero_le _, Nat.zero_le _, Nat.zero_le _, Nat.zero_le _, Nat.zero_le _, Nat.zero_le _, Nat.zero_le _, fun _ h => by cases h⟩
  unfold passR
  repeat' split
  all_goals first | exact z | skip
  refine ⟨f.fu, f.fs, f.tu, f.ts, f.sj, f.body, by simpa using hl, fun x hx => ?_⟩
  simp only [List.mem_append, List.mem_singleton] at hx
  rcases hx with hx | rfl
  · exact f.hops x hx
  · exact hs
theorem fits_nil {m : Msg} (f : m.Fits) : ({ m with hops := [] } : Msg).Fits := ⟨f.fu, f.fs, f.tu, f.ts, f.sj, f.body, Nat.zero_le _, fun _ h => by cases h⟩
theorem strs_nil (w : World) (x : Option Addr) (c : Nat) : StrsAt w (.slice x 0 c) [] := .inl ⟨rfl, x, c, rfl⟩
theorem get_lt {l : List ByteArray} {k : Nat} (h : k < l.length) : l[k]? = some l[k] := List.getElem?_eq_getElem h
end Go.Proofs.YtfcfddfjifofgaaDoor
