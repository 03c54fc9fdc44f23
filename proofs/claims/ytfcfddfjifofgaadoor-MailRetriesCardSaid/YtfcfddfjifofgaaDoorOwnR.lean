/- A range over a map of the queue's: what has come so far, in whatever order. -/
import Derived.Test.YtfcfddfjifofgaaDoorEngD
import Derived.Test.YtfcfddfjifofgaaDoorQueue
import Derived.Maps.RangeRun
import Derived.Test.YtfcfddfjifofgaaDoorEngM
namespace Go.Proofs.YtfcfddfjifofgaaDoor
open Go.RowKit Go.Shelf
/-- Entries still to come. -/
def stillZ (z : List ((Int × QEnt) × MapEntry)) (seen : Array Nat) : List ((Int × QEnt) × MapEntry) := z.filter (fun p => !seen.contains p.2.born)
/-- Block r goes over map mb, whose entries are l; H has come. -/
def RangeAt (r mb : Nat) (l : List (Int × QEnt)) (H : List QEnt) (w : World) : Prop :=
  ∃ arr clock since seen c0, w.heap[mb]? = some (.map arr clock) ∧ arr.toList.map (fun e => (e.key, e.val)) = (qv l).map (fun x => (intK x.1, x.2)) ∧ Stamps arr.toList clock ∧
    w.heap[r]? = some (.mapIter (some mb) since seen c0) ∧ (∀ x ∈ arr.toList, x.born < since) ∧ since ≤ c0 ∧ since ≤ clock ∧
    (H ++ (stillZ (l.zip arr.toList) seen).map (·.1.2)).Perm (l.map (·.2))
/-- The entry that came last. -/
def EntAt (r : Nat) (x : QEnt) (w : World) : Prop :=
  ∃ (mb : Nat) (arr : Array MapEntry) (clock since : Nat) (seen : Array Nat) (e : MapEntry), w.heap[mb]? = some (.map arr clock) ∧ w.heap[r]? = some (.mapIter (some mb) since (seen.push e.born) clock) ∧ e ∈ arr.toList ∧ (arr.toList.map (·.born)).Nodup ∧ e.val = .agg (wC x)
theorem RangeAt.ext {r mb : Nat} {l : List (Int × QEnt)} {H : List QEnt} {w w' : World} (h : RangeAt r mb l H w) (he : Ext w w') : RangeAt r mb l H w' := by
  obtain ⟨arr, clock, since, seen, c0, h1, h2, h3, h4, h5⟩ := h
  exact ⟨arr, clock, since, seen, c0, he.row h1, h2, h3, he.row h4, h5⟩
theorem EntAt.ext {r : Nat} {x : QEnt} {w w' : World} (h : EntAt r x w) (he : Ext w w') : EntAt r x w' := by
  obtain ⟨mb, arr, clock, since, seen, e, h1, h2, h3⟩ := h
  exact ⟨mb, arr, clock, since, seen, e, he.row h1, he.row h2, h3⟩
theorem RangeAt.kept {r mb : Nat} {l : List (Int × QEnt)} {H : List QEnt} {w w' : World} (h : RangeAt r mb l H w) (h1 : w'.heap[mb]? = w.heap[mb]?) (h2 : w'.heap[r]? = w.heap[r]?) : RangeAt r mb l H w' := by
  obtain ⟨arr, clock, since, seen, c0, q1, q2, q3, q4, q5⟩ := h
  exact ⟨arr, clock, since, seen, c0, h1.trans q1, q2, q3, h2.trans q4, q5⟩
/-- A row of cells is neither the map nor the iterator. -/
theorem RangeAt.ne {r mb b : Nat} {l : List (Int × QEnt)} {H : List QEnt} {w : World} {cs : Array Value} {t : TypeId} (h : RangeAt r mb l H w) (hr : w.heap[b]? = some (.cells cs t (0, 0))) : mb ≠ b ∧ r ≠ b := by
  obtain ⟨arr, clock, since, seen, c0, q1, q2, q3, q4, q5⟩ := h
  refine ⟨fun e => ?_, fun e => ?_⟩
  · rw [e, hr] at q1; cases q1
  · rw [e, hr] at q4; cases q4
theorem RangeAt.setRow {r mb b : Nat} {l : List (Int × QEnt)} {H : List QEnt} {w : World} {old cs : Array Value} {t : TypeId} {c : Bool} (h : RangeAt r mb l H w) (hr : w.heap[b]? = some (.cells old t (0, 0))) (_ : c = false) : RangeAt r mb l H (w.setRow b cs) :=
  h.kept (setRow_other w b mb cs (h.ne hr).1) (setRow_other w b r cs (h.ne hr).2)
theorem EntAt.kept {r : Nat} {x : QEnt} {w w' : World} (h : EntAt r x w) (hk : ∀ (k : Nat) (o : Obj), w.heap[k]? = some o → (∀ (cs : Array Value) (t : TypeId), o ≠ .cells cs t (0, 0)) → w'.heap[k]? = some o) : EntAt r x w' := by
  obtain ⟨mb, arr, clock, since, seen, e, h1, h2, h3⟩ := h
  exact ⟨mb, arr, clock, since, seen, e, hk _ _ h1 (fun _ _ => by simp), hk _ _ h2 (fun _ _ => by simp), h3⟩
theorem EntAt.setRow {r b : Nat} {x : QEnt} {w : World} {old cs : Array Value} {t : TypeId} {c : Bool} (h : EntAt r x w) (hr : w.heap[b]? = some (.cells old t (0, 0))) (_ : c = false) : EntAt r x (w.setRow b cs) :=
  h.kept fun k o hk ho => (setRow_other w b k cs (fun e => by subst e; rw [hr] at hk; cases hk; exact ho _ _ rfl)).trans hk
theorem entry_run {r : Nat} {x : QEnt} {w : World} (h : EntAt r x w) : ∃ key, (Instr.entry (.pointer (some ⟨r, 0, none⟩))).run Tryd.prog w = .ok (.tuple #[key, .agg (wC x)]) w := by
  obtain ⟨mb, arr, clock, since, seen, e, h1, h2, h3, h4, h5⟩ := h
  exact ⟨e.key, by rw [← h5]; exact run_entry_at w r mb since seen arr clock e h2 h1 h3 h4⟩
theorem range_run {mb : Nat} {l : List (Int × QEnt)} {w : World} (h : MapIs intK w mb (qv l)) : ∃ o, (Instr.range 82 (.map (some mb))).run Tryd.prog w = .ok (.pointer (some ⟨w.heap.size, 0, none⟩)) (w.alloc o) ∧ RangeAt w.heap.size mb l [] (w.alloc o) := by
  have hlt := h.lt
  obtain ⟨arr, clock, h1, h2, h3⟩ := h
  refine ⟨.mapIter (some mb) clock #[] clock, run_range_map w _ _ _ mb arr clock Tryd.underlying82 h1, arr, clock, clock, #[], clock, ?_, h2, h3, heap_alloc_new _ _, h3.1, Nat.le_refl _, Nat.le_refl _, ?_⟩
  · exact ((Ext.alloc w _).row h1)
  · have hl : arr.toList.length = l.length := by have := congrArg List.length h2; simpa [mapV] using this
    have : (stillZ (l.zip arr.toList) #[]).map (·.1.2) = l.map (·.2) := by
      unfold stillZ
      rw [List.filter_eq_self.2 (fun p _ => by simp)]
      have h8 : (l.zip arr.toList).map Prod.fst = l := List.map_fst_zip (by omega)
      have h9 := congrArg (List.map (fun x : Int × QEnt => x.2)) h8
      rw [List.map_map] at h9
      exact h9
    rw [List.nil_append, this]
/-- One that was still to come has come. -/
theorem still_step (z : List ((Int × QEnt) × MapEntry)) (seen : Array Nat) (p : (Int × QEnt) × MapEntry) (hp : p ∈ stillZ z seen) (hn : (z.map (·.2.born)).Nodup) : (stillZ z seen).Perm (p :: stillZ z (seen.push p.2.born)) := by
  induction z with
  | nil => simp [stillZ] at hp
  | cons y z ih =>
    rw [List.map_cons, List.nodup_cons] at hn
    have hpp : (!seen.contains p.2.born) = true := (List.mem_filter.1 hp).2
    by_cases hy : y.2.born = p.2.born
    · -- this is it
      have hyp : y = p := by
        rcases List.mem_cons.1 (List.mem_filter.1 hp).1 with e | e
        · exact e.symm
        · exact absurd (hy ▸ List.mem_map_of_mem (f := fun q : (Int × QEnt) × MapEntry => q.2.born) e) hn.1
      subst hyp
      have e1 : stillZ (y :: z) seen = y :: stillZ z seen := by unfold stillZ; simp only [List.filter_cons, hpp, if_true]
      have e2 : stillZ (y :: z) (seen.push y.2.born) = stillZ z seen := by
        unfold stillZ
        rw [List.filter_cons_of_neg (by simp)]
        apply List.filter_congr
        intro q hq
        have : q.2.born ≠ y.2.born := fun e => hn.1 (e ▸ List.mem_map_of_mem (f := fun q : (Int × QEnt) × MapEntry => q.2.born) hq)
        simp [this]
      rw [e1, e2]
    · have hpz : p ∈ stillZ z seen := by
        rcases List.mem_cons.1 (List.mem_filter.1 hp).1 with e | e
        · exact absurd (by rw [e]) hy
        · exact List.mem_filter.2 ⟨e, hpp⟩
      have h := ih hpz hn.2
      have hc : (seen.push p.2.born).contains y.2.born = seen.contains y.2.born := by
        simp [hy]
      unfold stillZ at h ⊢
      by_cases hs : (!seen.contains y.2.born) = true
      · rw [List.filter_cons_of_pos (by exact hs), List.filter_cons_of_pos (by simp only [hc]; exact hs)]
        exact (h.cons y).trans (List.Perm.swap _ _ _)
      · rw [List.filter_cons_of_neg (by exact hs), List.filter_cons_of_neg (by simp only [hc]; exact hs)]
        exact h
/-- The step: nothing is left, or one comes. -/
theorem next_run {r mb : Nat} {l : List (Int × QEnt)} {H : List QEnt} {w : World} (h : RangeAt r mb l H w) (ty : TypeId) :
    ∃ (more : Bool) (v : Value) (w' : World), (Instr.next (.pointer (some ⟨r, 0, none⟩)) false ty).run Tryd.prog w = .ok v w' ∧ (∃ rest : Array Value, v = .tuple (#[.bool more] ++ rest)) ∧ (more = false → H.Perm (l.map (·.2))) ∧
      (more = true → ∃ x, H.length < l.length ∧ RangeAt r mb l (H ++ [x]) w' ∧ EntAt r x w') ∧ (more = false → RangeAt r mb l H w') ∧
      (∀ (b : Nat) (cs : Array Value) (t : TypeId), w.heap[b]? = some (.cells cs t (0, 0)) → w'.heap[b]? = some (.cells cs t (0, 0))) ∧ (∀ w0, Ext w0 w → w0.heap.size ≤ r → Ext w0 w') := by
  obtain ⟨arr, clock, since, seen, c0, h1, h2, h3, h4, h5, h6, hsince, h7⟩ := h
  have hl : arr.toList.length = l.length := by have := congrArg List.length h2; simpa [mapV] using this
  have hz2 : (l.zip arr.toList).map (·.2) = arr.toList := List.map_snd_zip (by omega)
  have hleft : (leftOf arr seen).toList = ((l.zip arr.toList).filter (fun p => !seen.contains p.2.born)).map (·.2) := by
    unfold leftOf
    rw [Array.toList_filter]
    conv => lhs; rw [← hz2]
    rw [List.filter_map]
    rfl
  rcases run_next_at (P := Tryd.prog) w ty r mb since c0 seen arr clock h4 h1 h5 h6 with ⟨h0, hrun⟩ | ⟨e, he, w1, hal, hrun⟩
  · have hs : stillZ (l.zip arr.toList) seen = [] := by
      have : (leftOf arr seen).toList.length = 0 := by simpa using h0
      rw [hleft, List.length_map] at this
      exact List.eq_nil_of_length_eq_zero this
    refine ⟨false, _, w, hrun, ⟨#[], rfl⟩, fun _ => ?_, (fun h => by cases h), fun _ => ⟨arr, clock, since, seen, c0, h1, h2, h3, h4, h5, h6, hsince, h7⟩, fun _ _ _ h => h, fun _ h _ => h⟩
    rw [hs] at h7
    simpa using h7
  · rw [hleft] at he
    obtain ⟨p, hp, rfl⟩ := List.mem_map.1 he
    have hpz : p ∈ stillZ (l.zip arr.toList) seen := hp
    have hpm : p ∈ l.zip arr.toList := (List.mem_filter.1 hp).1
    have hst := still_step (l.zip arr.toList) seen p hpz (by
      have : (l.zip arr.toList).map (·.2.born) = arr.toList.map (·.born) := by rw [← hz2, List.map_map]; simp [hz2]
      rw [this]; exact h3.2)
    have hval : p.2.val = .agg (wC p.1.2) := by
      obtain ⟨i, hi⟩ := List.mem_iff_getElem?.1 hpm
      rw [List.getElem?_zip_eq_some] at hi
      have hk := congrArg (fun t => t[i]?) h2
      simp only [List.getElem?_map, mapV, hi.1, hi.2, Option.map_some, Option.some.injEq, Prod.mk.injEq] at hk
      exact hk.2
    have hnb : mb ≠ r := fun e => by rw [e, h4] at h1; cases h1
    have hw1 : ∀ k : Nat, w1.heap[k]? = w.heap[k]? := by rcases hal with rfl | rfl <;> exact fun _ => rfl
    have hsb : ∀ k : Nat, k ≠ r → (ChangeMaps.setBlock w1 r (.mapIter (some mb) since (seen.push p.2.born) clock)).heap[k]? = w.heap[k]? := fun k hk => by
      rw [← hw1]
      show (w1.heap.setIfInBounds r _)[k]? = _
      simp [Ne.symm hk]
    have hsr : (ChangeMaps.setBlock w1 r (.mapIter (some mb) since (seen.push p.2.born) clock)).heap[r]? = some (.mapIter (some mb) since (seen.push p.2.born) clock) := by
      have hr : r < w1.heap.size := row_lt ((hw1 r).trans h4)
      show (w1.heap.setIfInBounds r _)[r]? = _
      simp [hr]
    have hperm : ((H ++ [p.1.2]) ++ (stillZ (l.zip arr.toList) (seen.push p.2.born)).map (·.1.2)).Perm (l.map (·.2)) := by
      refine List.Perm.trans ?_ h7
      rw [List.append_assoc]
      refine List.Perm.append_left H ?_
      have := (hst.map (fun q : (Int × QEnt) × MapEntry => q.1.2)).symm
      simpa using this
    refine ⟨true, _, _, hrun, ⟨#[p.2.key, p.2.val], rfl⟩, (fun h => by cases h), fun _ => ⟨p.1.2, ?_, ?_, ?_⟩, (fun h => by cases h), ?_, ?_⟩
    · have := hperm.length_eq
      simp at this
      omega
    · exact ⟨arr, clock, since, seen.push p.2.born, clock, (hsb mb hnb).trans h1, h2, h3, hsr, h5, hsince, hsince, hperm⟩
    · exact ⟨mb, arr, clock, since, seen, p.2, (hsb mb hnb).trans h1, hsr, by rw [← hz2]; exact List.mem_map_of_mem hpm, h3.2, hval⟩
    · intro b cs t hb
      rw [hsb b (fun e => by rw [e, h4] at hb; cases hb)]
      exact hb
    · intro w0 hE hr
      have hsz : (ChangeMaps.setBlock w1 r (.mapIter (some mb) since (seen.push p.2.born) clock)).heap.size = w.heap.size := by
        rcases hal with rfl | rfl <;> simp [ChangeMaps.setBlock]
      have hos : (ChangeMaps.setBlock w1 r (.mapIter (some mb) since (seen.push p.2.born) clock)).os = w.os ∧ (ChangeMaps.setBlock w1 r (.mapIter (some mb) since (seen.push p.2.born) clock)).tape = w.tape ∧ (ChangeMaps.setBlock w1 r (.mapIter (some mb) since (seen.push p.2.born) clock)).output = w.output := by
        rcases hal with rfl | rfl <;> exact ⟨rfl, rfl, rfl⟩
      exact Below.trans hE ⟨hos.1, hos.2.1, hos.2.2, by rw [hsz]; exact Nat.le_refl _, fun k hk => hsb k (by omega)⟩
end Go.Proofs.YtfcfddfjifofgaaDoor
/- Slices of a function's own whose elements are ints or waiting messages; rules for pointers, ranges and entries. -/
namespace Go.Proofs.YtfcfddfjifofgaaDoor
open Go.RowKit Go.Shelf
def OwnR {α : Type} (e : TypeId) (k : Nat) (enc : α → List Value) (B : Nat) (l : List α) (w : World) (v : Value) : Prop := w.ownsRow B e k v l.length (l.flatMap enc)
section
variable {α : Type} {e : TypeId} {k : Nat} {enc : α → List Value} {B : Nat} {l : List α} {w w' : World} {v : Value}
theorem OwnR.nil : OwnR e k enc B ([] : List α) w (.slice none 0 0) := ⟨by simp, .inl ⟨rfl, rfl⟩⟩
theorem OwnR.kept (h : OwnR e k enc B l w v) (hk : ∀ (b : Nat) (cs : Array Value) (t : TypeId), w.heap[b]? = some (.cells cs t (0, 0)) → w'.heap[b]? = some (.cells cs t (0, 0))) : OwnR e k enc B l w' v := by
  refine ⟨h.1, h.2.imp id ?_⟩
  rintro ⟨g, cap, cur, e1, e2, e3, e4⟩
  exact ⟨g, cap, cur, e1, e2, hk _ _ _ e3, e4⟩
theorem OwnR.ext (h : OwnR e k enc B l w v) (he : Ext w w') : OwnR e k enc B l w' v := h.kept fun _ _ _ hb => he.row hb
theorem OwnR.mono {B' : Nat} (h : OwnR e k enc B l w v) (hb : B' ≤ B) : OwnR e k enc B' l w v := by
  refine ⟨h.1, h.2.imp id ?_⟩
  rintro ⟨g, cap, cur, e1, e2, e3⟩
  exact ⟨g, cap, cur, e1, Nat.le_trans hb e2, e3⟩
theorem OwnR.ne {b : Nat} {cs : Array Value} {t : TypeId} (h : OwnR e k enc B l w v) (hr : w.heap[b]? = some (.cells cs t (0, 0))) (ht : (t == e) = false) : some b ≠ v.ownBlock := by
  intro hb
  rcases h.2 with ⟨h1, _⟩ | ⟨g, cap, cur, h1, _, h3, _⟩
  · rw [h1] at hb; simp [Value.ownBlock] at hb
  · rw [h1] at hb
    simp only [Value.ownBlock, Option.some.injEq] at hb
    subst hb
    rw [hr] at h3
    simp only [Option.some.injEq, Obj.cells.injEq] at h3
    rw [h3.2.1] at ht
    simp at ht
theorem OwnR.setRow {b : Nat} {old cs : Array Value} {t : TypeId} (h : OwnR e k enc B l w v) (hr : w.heap[b]? = some (.cells old t (0, 0))) (ht : (t == e) = false) : OwnR e k enc B l (w.setRow b cs) v := by
  have hne := h.ne hr ht
  refine ⟨h.1, h.2.imp id ?_⟩
  rintro ⟨g, cap, cur, e1, e2, e3, e4⟩
  exact ⟨g, cap, cur, e1, e2, row_other e3 (fun x => hne (by rw [e1, ← x]; rfl)), e4⟩
theorem OwnR.setRowNe {b : Nat} {cs : Array Value} (h : OwnR e k enc B l w v) (hn : ∀ g, v.ownBlock = some g → g ≠ b) : OwnR e k enc B l (w.setRow b cs) v := by
  refine ⟨h.1, h.2.imp id ?_⟩
  rintro ⟨g, cap, cur, e1, e2, e3, e4⟩
  exact ⟨g, cap, cur, e1, e2, row_other e3 (hn g (by rw [e1]; rfl)), e4⟩
theorem OwnR.len (h : OwnR e k enc B l w v) : ∃ a c, v = .slice a l.length c := by
  rcases h.2 with ⟨h1, h2⟩ | ⟨g, cap, cur, h1, _⟩
  · exact ⟨none, 0, by rw [h1, h2]⟩
  · exact ⟨_, _, h1⟩
theorem OwnR.at0 {n c : Nat} {x : Option Addr} (h : OwnR e k enc B l w (.slice x n c)) (hl : 0 < l.length) : ∃ g, x = some ⟨g, 0, none⟩ := by
  rcases h.2 with ⟨h1, h2⟩ | ⟨g, cap, cur, h1, _⟩
  · omega
  · simp only [Value.slice.injEq] at h1
    exact ⟨g, h1.1⟩
theorem OwnR.lt (h : OwnR e k enc B l w v) : ∀ g, v.ownBlock = some g → g < w.heap.size ∧ B ≤ g := by
  intro g hg
  rcases h.2 with ⟨h1, _⟩ | ⟨g', cap, cur, h1, h2, h3, _⟩
  · rw [h1] at hg; simp [Value.ownBlock] at hg
  · rw [h1] at hg
    simp only [Value.ownBlock, Option.some.injEq] at hg
    subst hg
    exact ⟨row_lt h3, h2⟩
theorem OwnR.grown_row {b : Nat} {cs : Array Value} {t : TypeId} (h : OwnR e k enc B l w v) (hg : w.grownBy w' v.ownBlock) (hr : w.heap[b]? = some (.cells cs t (0, 0))) (ht : (t == e) = false) : w'.heap[b]? = some (.cells cs t (0, 0)) :=
  (hg.block b (row_lt hr) (h.ne hr ht)).trans hr
theorem OwnR.grown_ext {w0 : World} (h : OwnR e k enc B l w v) (hg : w.grownBy w' v.ownBlock) (hE : Ext w0 w) (hB : w0.heap.size ≤ B) : Ext w0 w' :=
  Below.grown hE hg hE.size (fun j hj => by have := (h.lt j hj).2; omega)
theorem OwnR.grown_range {r mb : Nat} {L : List (Int × QEnt)} {H : List QEnt} (h : OwnR e k enc B l w v) (hg : w.grownBy w' v.ownBlock) (hr : RangeAt r mb L H w) : RangeAt r mb L H w' := by
  have hn : ∀ (b : Nat), (∃ cs t, w.heap[b]? = Option.some (Obj.cells cs t (0, 0))) ∨ some b ≠ v.ownBlock := by
    intro b
    rcases h.2 with ⟨h1, _⟩ | ⟨g, cap, cur, h1, _, h3, _⟩
    · right; rw [h1]; simp [Value.ownBlock]
    · by_cases hb : b = g
      · left; subst hb; exact ⟨_, _, h3⟩
      · right; rw [h1]; simp [Value.ownBlock, hb]
  obtain ⟨arr, clock, since, seen, c0, q1, q2, q3, q4, q5⟩ := hr
  refine ⟨arr, clock, since, seen, c0, ?_, q2, q3, ?_, q5⟩
  · rcases hn mb with ⟨cs, t, hx⟩ | hx
    · rw [q1] at hx; cases hx
    · exact (hg.block mb (row_lt q1) hx).trans q1
  · rcases hn r with ⟨cs, t, hx⟩ | hx
    · rw [q4] at hx; cases hx
    · exact (hg.block r (row_lt q4) hx).trans q4
theorem OwnR.grown_own {β : Type} {e2 : TypeId} {k2 : Nat} {enc2 : β → List Value} {B2 : Nat} {l2 : List β} {v2 : Value} (h : OwnR e k enc B l w v) (hg : w.grownBy w' v.ownBlock) (h2 : OwnR e2 k2 enc2 B2 l2 w v2) (ht : (e2 == e) = false) : OwnR e2 k2 enc2 B2 l2 w' v2 := by
  refine ⟨h2.1, h2.2.imp id ?_⟩
  rintro ⟨g, cap, cur, e1, e2, e3, e4⟩
  exact ⟨g, cap, cur, e1, e2, h.grown_row hg e3 ht, e4⟩
set_option maxRecDepth 100000 in
/-- One element appended. -/
theorem app_one {t ty : TypeId} {i : TypeInfo} {z : Value} {bytes nb : Nat} {x : α} (ht : Tryd.prog.underlying t = some (.slice e)) (hi : Tryd.prog.info? e = Option.some i) (hz : i.zero = Option.some z) (hs : i.size = k) (hby : i.bytes = bytes) (hzs : z.cells.size = k) (hk0 : 0 < k) (hb1 : bytes ≤ 1024)
    (hk : ∀ x, (enc x).length = k) (h1 : ∀ v ∈ enc x, v.oneCell' = true) (h : OwnR e k enc B l w v) (hx : w.heap[nb]? = some (.cells (enc x).toArray e (0, 0))) (hl : l.length ≤ 1000000) (hB : B ≤ w.heap.size) :
    ∃ v' w', (Builtin.append_ #[t, t] ty #[v, .slice (some ⟨nb, 0, none⟩) 1 1]).run Tryd.prog w = .ok v' w' ∧ OwnR e k enc B (l ++ [x]) w' v' ∧ w.grownBy w' v.ownBlock := by
  obtain ⟨v', w', hr, ho, hg, _⟩ := run_append_own (P := Tryd.prog) w B t ty e i z k bytes ht hi hz hs hby hzs hk0 v l.length (l.flatMap enc) h ⟨nb, 0, none⟩ 1 1 (enc x) (by rw [hk, Nat.one_mul]) (fun j u hu => by
    have e0 : (⟨nb, 0, none⟩ : Addr).add j = ⟨nb, j, none⟩ := by
      unfold Addr.add; split
      · subst_vars; rfl
      · simp
    rw [e0, cell_row hx]
    simpa using hu) h1 (by unfold maxLen; omega) (by
      have : (l.length + 1) * bytes ≤ 1000001 * 1024 := Nat.mul_le_mul (by omega) hb1
      omega) hB
  refine ⟨v', w', hr, ?_, hg⟩
  unfold OwnR
  rw [List.length_append, List.flatMap_append]
  simpa using ho
/-- An element's cells. -/
theorem flatMap_part (hk : ∀ x, (enc x).length = k) (l : List α) (j : Nat) (x : α) (hx : l[j]? = some x) : ((l.flatMap enc).drop (j * k)).take k = enc x := by
  induction l generalizing j with
  | nil => simp at hx
  | cons y r ih =>
    cases j with
    | zero =>
      simp only [List.getElem?_cons_zero, Option.some.injEq] at hx
      subst hx
      simp only [Nat.zero_mul, List.drop_zero, List.flatMap_cons]
      rw [List.take_append_of_le_length (by rw [hk]; exact Nat.le_refl _), List.take_of_length_le (by rw [hk]; exact Nat.le_refl _)]
    | succ j =>
      simp only [List.getElem?_cons_succ] at hx
      have e1 : (j + 1) * k = (enc y).length + j * k := by rw [hk, Nat.succ_mul]; omega
      rw [List.flatMap_cons, e1, List.drop_append, List.drop_eq_nil_of_le (by omega), List.nil_append, Nat.add_sub_cancel_left]
      exact ih j hx
set_option maxRecDepth 100000 in
theorem OwnR.load {g n c j : Nat} {x : Option Addr} {y : α} {t : TypeDesc} (hk : ∀ x, (enc x).length = k) (h : OwnR e k enc B l w (.slice x n c)) (hx : x = some ⟨g, 0, none⟩) (hj : l[j]? = some y)
    (hu : Tryd.prog.underlying e = some t) (hd : t.isRow = true) (hi : (Tryd.prog.info? e).map (·.size) = some k) : (loadVar e ⟨g, 0 + j * k, none⟩).run Tryd.prog w = .ok (.agg (enc y).toArray) w := by
  subst hx
  rcases h.2 with ⟨h1, _⟩ | ⟨g', cap, cur, h1, h2, h3, h4, h5, h6, h7⟩
  · simp at h1
  simp only [Value.slice.injEq, Option.some.injEq, Addr.mk.injEq] at h1
  obtain ⟨⟨rfl, _⟩, _⟩ := h1
  rw [Nat.zero_add]
  have hjl : j < l.length := (List.getElem?_eq_some_iff.1 hj).1
  have hle : j * k + k ≤ l.length * k := by rw [← Nat.succ_mul]; exact Nat.mul_le_mul_right k hjl
  refine load_part (n := k) h3 (part := (enc y).toArray) ?_ (by simpa using hk y) hu hd hi
  have hf := flatMap_part hk l j y hj
  rw [← h7] at hf
  apply Array.toList_inj.1
  rw [Array.toList_extract, List.extract_eq_take_drop]
  simp only [Nat.add_sub_cancel_left]
  rw [← hf, List.drop_take, List.take_take]
  congr 1
  omega
end
abbrev encI : Int → List Value := fun n => [.int .i64 n]
abbrev encW : QEnt → List Value := fun x => (wC x).toList
abbrev OwnI (B : Nat) (l : List Int) (w : World) (v : Value) : Prop := OwnR 3 1 encI B l w v
abbrev OwnW (B : Nat) (l : List QEnt) (w : World) (v : Value) : Prop := OwnR 87 12 encW B l w v
theorem encW_len (x : QEnt) : (encW x).length = 12 := rfl
theorem infoInt : (Tryd.prog.info? 3).map (fun i => (i.zero, i.size, i.bytes)) = some (some (.int .i64 0), 1, 8) := by kernel_rfl
theorem infoWait : (Tryd.prog.info? 87).map (fun i => (i.zero, i.size, i.bytes)) = some (some (.agg #[.string ⟨#[]⟩, .string ⟨#[]⟩, .string ⟨#[]⟩, .string ⟨#[]⟩, .int .i64 0, .int .i64 0, .string ⟨#[]⟩, .slice none 0 0, .string ⟨#[]⟩, .int .i64 0, .int .i64 0, .int .i64 0]), 12, 160) := by kernel_rfl
set_option maxRecDepth 100000 in
theorem app_int {B : Nat} {l : List Int} {w : World} {v : Value} {nb : Nat} {x : Int} (ty : TypeId) (h : OwnI B l w v) (hx : w.heap[nb]? = some (.cells #[.int .i64 x] 3 (0, 0))) (hl : l.length ≤ 1000000) (hB : B ≤ w.heap.size) :
    ∃ v' w', (Builtin.append_ #[66, 66] ty #[v, .slice (some ⟨nb, 0, none⟩) 1 1]).run Tryd.prog w = .ok v' w' ∧ OwnI B (l ++ [x]) w' v' ∧ w.grownBy w' v.ownBlock := by
  obtain ⟨i0, hi, hz0, hz1, hz2⟩ := info_parts infoInt
  exact app_one Tryd.underlying66 hi hz0 hz1 hz2 rfl (by decide) (by decide) (fun _ => rfl) (fun v hv => by simp at hv; rw [hv]; rfl) h hx hl hB
set_option maxRecDepth 100000 in
theorem app_wait {B : Nat} {l : List QEnt} {w : World} {v : Value} {nb : Nat} {x : QEnt} (ty : TypeId) (hone : x.hv.oneCell' = true) (h : OwnW B l w v) (hx : w.heap[nb]? = some (.cells (wC x) 87 (0, 0))) (hl : l.length ≤ 1000000) (hB : B ≤ w.heap.size) :
    ∃ v' w', (Builtin.append_ #[90, 90] ty #[v, .slice (some ⟨nb, 0, none⟩) 1 1]).run Tryd.prog w = .ok v' w' ∧ OwnW B (l ++ [x]) w' v' ∧ w.grownBy w' v.ownBlock := by
  obtain ⟨i0, hi, hz0, hz1, hz2⟩ := info_parts infoWait
  exact app_one Tryd.underlying90 hi hz0 hz1 hz2 rfl (by decide) (by decide) encW_len (fun v hv => by simp [encW, wC] at hv; rcases hv with rfl | rfl | rfl | rfl | rfl | rfl | rfl | rfl | rfl | rfl | rfl | rfl <;> first | rfl | exact hone) h hx hl hB
def IsOneI (x : Int) (v : Value) (w : World) : Prop := ∃ b, v = .slice (some ⟨b, 0, none⟩) 1 1 ∧ w.heap[b]? = some (.cells #[.int .i64 x] 3 (0, 0))
def IsOneW (x : QEnt) (v : Value) (w : World) : Prop := ∃ b, v = .slice (some ⟨b, 0, none⟩) 1 1 ∧ w.heap[b]? = some (.cells (wC x) 87 (0, 0))
theorem stab_oneI (x : Int) : Stab (IsOneI x) := fun _ _ _ h ⟨b, e, r⟩ => ⟨b, e, h.row r⟩
theorem stab_oneW (x : QEnt) : Stab (IsOneW x) := fun _ _ _ h ⟨b, e, r⟩ => ⟨b, e, h.row r⟩
theorem bs_int1 (x : Int) (w : World) : (Instr.buildSlice 66 1 #[(0, .int .i64 x)]).run Tryd.prog w = .ok (.slice (some ⟨w.heap.size, 0, none⟩) 1 1) (w.alloc (.cells #[.int .i64 x] 3)) := by
  simp [Instr.buildSlice, Tryd.runUnderlying66, Tryd.sizeOf3, Instr.fill, Value.cells, newRow, go_sem]
theorem bs_wait1 (x : QEnt) (w : World) : (Instr.buildSlice 90 1 #[(0, .agg (wC x))]).run Tryd.prog w = .ok (.slice (some ⟨w.heap.size, 0, none⟩) 1 1) (w.alloc (.cells (wC x) 87)) := by
  simp [Instr.buildSlice, Tryd.runUnderlying90, Tryd.sizeOf87, Instr.fill, Value.cells, newRow, go_sem, wC]
theorem new_oneI (x : Int) (w : World) : IsOneI x (.slice (some ⟨w.heap.size, 0, none⟩) 1 1) (w.alloc (.cells #[.int .i64 x] 3)) := ⟨_, rfl, heap_alloc_new _ _⟩
theorem new_oneW (x : QEnt) (w : World) : IsOneW x (.slice (some ⟨w.heap.size, 0, none⟩) 1 1) (w.alloc (.cells (wC x) 87)) := ⟨_, rfl, heap_alloc_new _ _⟩
/-! ### Rules -/
section
variable {P : Program} {o : Oper} {a : Act} {w : World}
theorem ex_nilCheck {x : Operand} (ho : o.op = .nilCheck x) {p : Addr} (hx : a.eval x = .pointer (some p)) : (execOp a.eval o).run P w = .ok (.value (.pointer (some p))) w := by
  unfold execOp
  simp [ho, hx]
theorem ex_next {x : Operand} {b : Bool} (ho : o.op = .next x b) {v : Value} {w' : World} (h : (Instr.next (a.eval x) b o.type).run P w = .ok v w') : (execOp a.eval o).run P w = .ok (.value v) w' := by
  unfold execOp
  simp [ho, h]
theorem ex_range {t : TypeId} {x : Operand} (ho : o.op = .range t x) {v : Value} {w' : World} (h : (Instr.range t (a.eval x)).run P w = .ok v w') : (execOp a.eval o).run P w = .ok (.value v) w' := by
  unfold execOp
  simp [ho, h]
theorem ex_entry {x : Operand} (ho : o.op = .entry x) {v : Value} {w' : World} (h : (Instr.entry (a.eval x)).run P w = .ok v w') : (execOp a.eval o).run P w = .ok (.value v) w' := by
  unfold execOp
  simp [ho, h]
end
def IsEnt (x : QEnt) (v : Value) (_ : World) : Prop := ∃ key, v = .tuple #[key, .agg (wC x)]
theorem stab_ent (x : QEnt) : Stab (IsEnt x) := fun _ _ _ _ h => h
theorem ex_ent1 {P : Program} {o : Oper} {a : Act} {w w' : World} {x : Operand} {e : QEnt} (h : IsEnt e (a.eval x) w) (ho : o.op = .extract x 1) : (execOp a.eval o).run P w' = .ok (.value (.agg (wC e))) w' := by
  obtain ⟨key, hk⟩ := h
  exact ex_extract ho hk rfl
theorem ex_tup0 {P : Program} {o : Oper} {a : Act} {w' : World} {x : Operand} {b : Bool} {r : Array Value} (h : a.eval x = .tuple (#[.bool b] ++ r)) (ho : o.op = .extract x 0) : (execOp a.eval o).run P w' = .ok (.value (.bool b)) w' :=
  ex_extract (vs := #[Value.bool b] ++ r) ho h (by rw [Array.getElem?_append_left (Nat.zero_lt_one)]; rfl)
def IsIter (B mb : Nat) (l : List (Int × QEnt)) (v : Value) (w : World) : Prop := ∃ r, v = .pointer (some ⟨r, 0, none⟩) ∧ B ≤ r ∧ RangeAt r mb l [] w
theorem stab_iter (B mb : Nat) (l : List (Int × QEnt)) : Stab (IsIter B mb l) := fun _ _ _ h ⟨r, e, b, i⟩ => ⟨r, e, b, i.ext h⟩
theorem run_iter {o : Oper} {a : Act} {w0 w : World} {x : Operand} {mb : Nat} {l : List (Int × QEnt)} {φ : Value → World → Prop} (ho : o.op = .range 82 x) (hx : a.eval x = .map (some mb)) (h : MapIs intK w mb (qv l)) (hs : w0.heap.size ≤ w.heap.size) (hφ : ∀ v w, IsIter w0.heap.size mb l v w → φ v w) : OpRun Tryd.prog o a w φ := by
  obtain ⟨ob, h1, h2⟩ := range_run h
  exact run_ok (by rw [ho]; rfl) (ex_range ho (by rw [hx]; exact h1)) (Ext.alloc _ _) (hφ _ _ ⟨_, rfl, hs, h2⟩)
theorem RangeAt.mem {r mb : Nat} {l : List (Int × QEnt)} {H : List QEnt} {w : World} (h : RangeAt r mb l H w) : ∀ x ∈ H, ∃ y ∈ l, y.2 = x := by
  obtain ⟨arr, clock, since, seen, c0, q1, q2, q3, q4, q5, q6, q7, q8⟩ := h
  intro x hx
  have := q8.mem_iff.1 (List.mem_append_left _ hx)
  obtain ⟨y, hy, e⟩ := List.mem_map.1 this
  exact ⟨y, hy, e⟩
theorem own_one {B : Nat} {l : List ByteArray} {w : World} {v : Value} (h : OwnStrs B l w v) : v.oneCell' = true := by
  obtain ⟨a, c, rfl⟩ := ownStrs_len h
  rfl
end Go.Proofs.YtfcfddfjifofgaaDoor
/- The order of waiting messages: what the closure of Due compares. -/
namespace Go.Proofs.YtfcfddfjifofgaaDoor
open Go.RowKit Go.Shelf
/-- cmp.Or of two. -/
def orI (x y : Int) : Int := if x ≠ 0 then x else y
def pr2 (x y : Int) (k : Nat) : Int := if k = 0 then x else y
def OrRel (x y : Int) (k : Nat) : Prop := k = 0 ∨ k = 1 ∧ x = 0 ∨ k = 2 ∧ x = 0 ∧ y = 0
def IsPair (x y : Int) (v : Value) (w : World) : Prop := ∃ b, v = .slice (some ⟨b, 0, none⟩) 2 2 ∧ w.heap[b]? = some (.cells #[.int .i64 x, .int .i64 y] 3 (0, 0))
def cmpW (a b : QEnt) : Int := orI (Lib.compareInt a.due b.due) (Lib.compareInt a.num b.num)
namespace Mono
theorem stab_pair (x y : Int) : Stab (IsPair x y) := fun _ _ _ h ⟨b, e, r⟩ => ⟨b, e, h.row r⟩
theorem run_pair (x y : Int) (w : World) : (Instr.buildSlice 66 2 #[(0, .int .i64 x), (1, .int .i64 y)]).run Tryd.prog w = .ok (.slice (some ⟨w.heap.size, 0, none⟩) 2 2) (w.alloc (.cells #[.int .i64 x, .int .i64 y] 3)) := by
  simp [Instr.buildSlice, Tryd.runUnderlying66, Tryd.sizeOf3, Instr.fill, Value.cells, newRow, go_sem]
theorem new_pair (x y : Int) (w : World) : IsPair x y (.slice (some ⟨w.heap.size, 0, none⟩) 2 2) (w.alloc (.cells #[.int .i64 x, .int .i64 y] 3)) := ⟨_, rfl, heap_alloc_new _ _⟩
theorem pair_get {x y : Int} {b k : Nat} {w : World} (hr : w.heap[b]? = some (.cells #[.int .i64 x, .int .i64 y] 3 (0, 0))) (h : k < 2) : w.cell? ⟨b, 0 + k * 1, none⟩ = some (.int .i64 (pr2 x y k)) := by
  rw [cell_row hr]
  rcases (by omega : k = 0 ∨ k = 1) with rfl | rfl <;> rfl
theorem or_hit {x y : Int} {k : Nat} (h : OrRel x y k) (hk : k < 2) (hc : (pr2 x y k != 0) = true) : pr2 x y k = orI x y := by
  rcases h with rfl | ⟨rfl, rfl⟩ | ⟨rfl, _⟩
  · have : x ≠ 0 := by simpa [pr2] using hc
    simp [pr2, orI, this]
  · simp [pr2, orI]
  · omega
theorem or_next {x y : Int} {k : Nat} (h : OrRel x y k) (hk : k < 2) (hc : (pr2 x y k != 0) = false) : OrRel x y (k + 1) := by
  rcases h with rfl | ⟨rfl, rfl⟩ | ⟨rfl, _⟩
  · have : x = 0 := by simpa [pr2] using hc
    exact .inr (.inl ⟨rfl, this⟩)
  · have : y = 0 := by simpa [pr2] using hc
    exact .inr (.inr ⟨rfl, rfl, this⟩)
  · omega
theorem or_none {x y : Int} {k : Nat} (h : OrRel x y k) (hk : ¬ k < 2) : (0 : Int) = orI x y := by
  rcases h with rfl | ⟨rfl, rfl⟩ | ⟨rfl, rfl, rfl⟩
  · omega
  · omega
  · simp [orI]
theorem ret_same' {P : Program} {f : FuncId} {args : Array Value} {w : World} {v : Value} (h : Calls P f args w fun e w' => e = .returned v ∧ w' = w) : Calls P f args w (Ret (fun x _ => x = v) w) :=
  h.mono fun _ _ ⟨e, e2⟩ => ⟨v, e, e2 ▸ Ext.refl w, rfl⟩
end Mono
end Go.Proofs.YtfcfddfjifofgaaDoor
