/- Maps from strings in printed walks; the plain law of MailLoops. -/
import Derived.Test.YtfcfddfjifofgaaDoorEngE
import Derived.Test.YtfcfddfjifofgaaDoorMaps
import Derived.Test.YtfcfddfjifofgaaDoorRefC
namespace Go.Proofs.YtfcfddfjifofgaaDoor
open Go.RowKit Go.Shelf
abbrev sKey : ByteArray → Value := fun n => Value.string n
def IsMapS (B : Nat) (l : List (ByteArray × Value)) (v : Value) (w : World) : Prop := ∃ mb, v = .map (some mb) ∧ B ≤ mb ∧ MapIs sKey w mb l
theorem MapIs.ext {α : Type} {K : α → Value} {w w' : World} {mb : Nat} {l : List (α × Value)} (h : MapIs K w mb l) (he : Ext w w') : MapIs K w' mb l :=
  h.kept (he.block mb h.lt)
theorem stab_mapS (B : Nat) (l : List (ByteArray × Value)) : Stab (IsMapS B l) := fun _ _ _ h ⟨mb, e, b, m⟩ => ⟨mb, e, b, m.ext h⟩
theorem MapIs.setRow {α : Type} {K : α → Value} {w : World} {mb b : Nat} {l : List (α × Value)} {old cs : Array Value} {t : TypeId} {c : Bool} (h : MapIs K w mb l) (hr : w.heap[b]? = some (.cells old t (0, 0))) (_ : c = false) : MapIs K (w.setRow b cs) mb l :=
  h.kept (setRow_other w b mb cs (fun e => by
    subst e
    obtain ⟨arr, clock, h1, _⟩ := h
    rw [hr] at h1
    cases h1))
theorem new_map {w0 w : World} (h : w0.heap.size ≤ w.heap.size) : IsMapS w0.heap.size [] (.map (some w.heap.size)) (w.alloc (.map #[] 0)) := ⟨_, rfl, h, mapIs_new w⟩
theorem row_setBlk {α : Type} {K : α → Value} {w : World} {mb b : Nat} {l : List (α × Value)} {cs : Array Value} {t : TypeId} (h : MapIs K w mb l) (hr : w.heap[b]? = some (.cells cs t (0, 0))) (o : Obj) : (setBlk w mb o).heap[b]? = some (.cells cs t (0, 0)) :=
  (setBlk_other w mb o b (fun e => by
    subst e
    obtain ⟨arr, clock, h1, _⟩ := h
    rw [hr] at h1
    cases h1)).trans hr
theorem own_setBlk {α : Type} {K : α → Value} {w : World} {mb B : Nat} {l : List (α × Value)} {ls : List ByteArray} {v : Value} (h : MapIs K w mb l) (hs : OwnStrs B ls w v) (o : Obj) : OwnStrs B ls (setBlk w mb o) v := by
  refine ⟨hs.1, hs.2.imp id ?_⟩
  rintro ⟨g, cap, cur, e1, e2, e3, e4⟩
  exact ⟨g, cap, cur, e1, e2, row_setBlk h e3 o, e4⟩
section
variable {P : Program} {kt mt et : TypeId} {d : TypeDesc} {w : World} {mb : Nat} {l : List (ByteArray × Value)}
theorem look1 (F : KeyFn P kt sKey d) (hm : P.underlying mt = some (.map kt et)) (h : MapIs sKey w mb l) (s : ByteArray) {z : Value} (hz : (zeroValue et).run P w = .ok z w) : (Instr.lookup mt (.map (some mb)) (.string s) false).run P w = .ok (valOf l s z) w := by
  have := run_lookup_is F hm h s hz false
  simpa using this
theorem upd1 (F : KeyFn P kt sKey d) (hm : P.underlying mt = some (.map kt et)) (h : MapIs sKey w mb l) (s : ByteArray) (v : Value) : ∃ o, (Instr.mapUpdate mt (.map (some mb)) (.string s) v).run P w = .ok () (setBlk w mb o) ∧ MapIs sKey (setBlk w mb o) mb (setK l s v) := run_update_is F hm h s v
end
theorem posOf_append {β : Type} (l : List (ByteArray × β)) (a x : ByteArray) (v : β) (i : Nat) (h : a ≠ x) : posOf (l ++ [(x, v)]) a i = posOf l a i := by
  induction l generalizing i with
  | nil => simp [posOf, h]
  | cons y r ih => simp only [List.cons_append, posOf]; rw [ih]
theorem posOf_modify {β : Type} (l : List (ByteArray × β)) (a x : ByteArray) (v : β) (i j k : Nat) (h : a ≠ x) (hp : ∃ y, posOf l x k = some (j + k, y)) : posOf (l.modify j (fun _ => (x, v))) a i = posOf l a i := by
  induction l generalizing i j k with
  | nil => simp [posOf]
  | cons y r ih =>
    obtain ⟨u, hp⟩ := hp
    cases j with
    | zero =>
      simp only [List.modify_zero_cons, posOf]
      by_cases hx : x = y.1
      · rw [← hx]
        simp [h]
      · exfalso
        simp only [posOf, hx, if_false] at hp
        obtain ⟨q, hq, _⟩ := posOf_at r x (k + 1) _ hp
        simp only at hq
        omega
    | succ j =>
      simp only [List.modify_succ_cons, posOf]
      split
      · rfl
      · refine ih (i + 1) j (k + 1) ⟨u, ?_⟩
        simp only [posOf] at hp
        split at hp
        · simp at hp
        · rw [hp, show j + 1 + k = j + (k + 1) by omega]
theorem valOf_setK {β : Type} (l : List (ByteArray × β)) (a x : ByteArray) (v z : β) (h : a ≠ x) : valOf (setK l x v) a z = valOf l a z := by
  unfold valOf setK
  cases hp : posOf l x 0 with
  | none => simp only; rw [posOf_append _ _ _ _ _ h]
  | some p =>
    simp only
    obtain ⟨j, hj, _⟩ := posOf_at l x 0 p hp
    rw [posOf_modify l a x v 0 p.1 0 h ⟨p.2, hp⟩]
/-! ### The plain law -/
theorem hopsE_all {l : List ByteArray} (h : hopsE l = 0) : NoneTo (fun i => hopErr l i != 0) l.length := by
  intro j hj
  cases hq : (hopErr l j != 0) with
  | false => exact hq
  | true =>
    exfalso
    unfold hopsE at h
    cases hf : firstAt (fun i => hopErr l i != 0) l.length with
    | none =>
      unfold firstAt at hf
      rw [List.find?_eq_none] at hf
      exact hf j (List.mem_range.2 hj) hq
    | some i =>
      rw [hf] at h
      unfold firstAt at hf
      have := List.find?_some hf
      simp only [h] at this
      simp at this
theorem hopErr_app {l : List ByteArray} {s : ByteArray} {j : Nat} (hj : j < l.length) : hopErr (l ++ [s]) j = hopErr l j := by
  unfold hopErr
  have e : (l ++ [s]).getD j ⟨#[]⟩ = l.getD j ⟨#[]⟩ := by simp [List.getD_eq_getElem?_getD, List.getElem?_append_left hj]
  rw [e, List.take_append_of_le_length (by omega)]
theorem hopsE_app {l : List ByteArray} {s : ByteArray} (h : hopsE l = 0) (hs : siteE s = 0) (hc : Lib.containsS l s = false) : hopsE (l ++ [s]) = 0 := by
  have h0 := hopsE_all h
  refine hopsE_none (k := l.length + 1) (NoneTo.succ (fun j hj => ?_) ?_) (by simp)
  · have := h0 j hj
    simp only at this ⊢
    rw [hopErr_app hj]
    exact this
  · have e : hopErr (l ++ [s]) l.length = 0 := hop_ok (x := s) (by simp) hs (by rw [List.take_left']; exact hc; rfl)
    simp only [e]
    rfl
theorem checkE_of {m : Msg} (hh : HeadOk m) (h1 : m.hops.length ≤ 16) (h2 : hopsE m.hops = 0) (h3 : m.body.size ≤ 32768) : checkE m = 0 := by
  rw [checkE_head hh, if_neg (by omega), if_neg (by omega), if_neg (by omega)]
theorem checkE_hops {m : Msg} {l : List ByteArray} (h : checkE m = 0) (h1 : l.length ≤ 16) (h2 : hopsE l = 0) : checkE { m with hops := l } = 0 := by
  obtain ⟨hh, _, _, h3⟩ := checkE_ok h
  exact checkE_of ⟨hh.1, hh.2, hh.3, hh.4, hh.5, hh.6, hh.7, hh.8⟩ h1 h2 h3
/-- What a Pass that went well gives. -/
theorem pass_went {X : Msg} {s : ByteArray} (hX : checkE X = 0) (h : (((passR X s).2 : Int) != 0) = false) : (passR X s).1.hops = X.hops ++ [s] ∧ s ∉ X.hops ∧ checkE (passR X s).1 = 0 := by
  have h0 : (passR X s).2 = 0 := bne_f h
  unfold passR at h0 ⊢
  rw [if_neg (by omega)] at h0 ⊢
  split at h0
  · rename_i h1; exact absurd h0 h1
  rename_i h1
  rw [if_neg h1]
  split at h0
  · simp at h0
  rename_i h2
  rw [if_neg h2]
  split at h0
  · simp at h0
  rename_i h3
  rw [if_neg h3]
  refine ⟨rfl, fun hm => h2 ((Lib.containsS_iff _ _).2 hm), checkE_hops hX (by simp; omega) (hopsE_app (checkE_ok hX).2.2.1 (by omega) (by simpa using h2))⟩
theorem str_some {l : List ByteArray} {x : Option Addr} {n c k : Nat} {w : World} (h : StrsAt w (.slice x n c) l) (hk : k < l.length) : ∃ g o, x = some ⟨g, o, none⟩ := by
  rcases h with ⟨rfl, _⟩ | ⟨b, off, cap, e, _⟩
  · simp at hk
  · simp only [Value.slice.injEq] at e
    exact ⟨b, off, e.1⟩
theorem str_get {l : List ByteArray} {x : Option Addr} {n c k g o : Nat} {w : World} {s : ByteArray} (h : StrsAt w (.slice x n c) l) (hx : x = some ⟨g, o, none⟩) (hk : l[k]? = some s) : w.cell? ⟨g, o + k * 1, none⟩ = some (.string s) := by
  subst hx
  rcases h with ⟨rfl, _⟩ | ⟨b, off, cap, e, _, _, hc⟩
  · simp at hk
  · simp only [Value.slice.injEq, Option.some.injEq, Addr.mk.injEq] at e
    obtain ⟨⟨rfl, rfl, _⟩, _⟩ := e
    rw [Nat.mul_one]
    exact hc k s hk
end Go.Proofs.YtfcfddfjifofgaaDoor
