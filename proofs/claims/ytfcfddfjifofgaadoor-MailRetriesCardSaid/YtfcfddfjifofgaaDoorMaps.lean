/- A map in a block known whole, with keys that compare at once and whatever elements. -/
import Derived.MapKept
import Derived.WalkKit
import Derived.WideLaws
import Derived.Below
namespace Go.Proofs.YtfcfddfjifofgaaDoor
open Go.RowKit

structure KeyFn (P : Program) (kt : TypeId) {α : Type} [DecidableEq α] (K : α → Value) (d : TypeDesc) : Prop where
  hd : P.underlying kt = some d
  same : ∀ a b, Instr.sameNow d (K a) (K b) = some (decide (a = b))
  isKey : ∀ a, MapKept.IsKey d (K a)
  bits : ∀ a, Instr.sameBits 10000 (K a) (K a) = true
theorem intKey {P : Program} {kt : TypeId} (h : P.underlying kt = some (.int .i64)) : KeyFn P kt (fun n : Int => Value.int .i64 n) (.int .i64) :=
  ⟨h, fun a b => by simp [Instr.sameNow, BEq.beq], fun a => rfl, fun a => by simp [Instr.sameBits]⟩
theorem strKey {P : Program} {kt : TypeId} (h : P.underlying kt = some .string) : KeyFn P kt (fun n : ByteArray => Value.string n) .string :=
  ⟨h, fun a b => by
    simp only [Instr.sameNow, Option.some.injEq]
    rw [Bool.eq_iff_iff, MapKept.bytes_beq]; simp, fun a => trivial, fun a => by
    simp only [Instr.sameBits]
    exact (MapKept.bytes_beq a a).2 rfl⟩

section
variable {α : Type} [DecidableEq α] {K : α → Value}
/-- The entries' stamps: no two alike, all below the clock. -/
def Stamps (l : List MapEntry) (clock : Nat) : Prop := (∀ x ∈ l, x.born < clock) ∧ (l.map (·.born)).Nodup
theorem Stamps.push {l : List MapEntry} {clock : Nat} (h : Stamps l clock) (k v : Value) : Stamps (l ++ [{ key := k, val := v, born := clock }]) (clock + 1) := by
  refine ⟨fun x hx => ?_, ?_⟩
  · simp only [List.mem_append, List.mem_singleton] at hx
    rcases hx with hx | rfl
    · have := h.1 x hx; omega
    · exact Nat.lt_succ_self _
  · rw [List.map_append, List.nodup_append]
    refine ⟨h.2, by simp, fun a ha b hb => ?_⟩
    obtain ⟨x, hx, rfl⟩ := List.mem_map.1 ha
    simp only [List.map_cons, List.map_nil, List.mem_singleton] at hb
    have := h.1 x hx
    omega
theorem Stamps.modify {l : List MapEntry} {clock : Nat} (h : Stamps l clock) (i : Nat) (k v : Value) : Stamps (l.modify i fun e => { e with key := k, val := v }) clock := by
  have e : (l.modify i fun e => { e with key := k, val := v }).map (·.born) = l.map (·.born) := by
    apply List.ext_getElem?
    intro j
    simp only [List.getElem?_map, List.getElem?_modify]
    cases l[j]? with
    | none => simp
    | some x => by_cases hij : i = j <;> simp [hij]
  refine ⟨fun x hx => ?_, by rw [e]; exact h.2⟩
  have hm : x.born ∈ (l.modify i fun e => { e with key := k, val := v }).map (·.born) := List.mem_map_of_mem hx
  rw [e] at hm
  obtain ⟨y, hy, hxy⟩ := List.mem_map.1 hm
  rw [← hxy]
  exact h.1 y hy
theorem Stamps.erase {l : List MapEntry} {clock : Nat} (h : Stamps l clock) (i : Nat) : Stamps (l.eraseIdx i) clock :=
  ⟨fun x hx => h.1 x (List.mem_of_mem_eraseIdx hx), ((List.eraseIdx_sublist l i).map _).nodup h.2⟩
/-- The block holds a map with these entries. -/
def MapIs (K : α → Value) (w : World) (mb : Nat) (l : List (α × Value)) : Prop :=
  ∃ arr clock, w.heap[mb]? = some (.map arr clock) ∧ arr.toList.map (fun e => (e.key, e.val)) = l.map (fun x => (K x.1, x.2)) ∧ Stamps arr.toList clock
def posOf {β : Type} : List (α × β) → α → Nat → Option (Nat × β)
  | [], _, _ => none
  | x :: r, a, i => if a = x.1 then some (i, x.2) else posOf r a (i + 1)
def valOf {β : Type} (l : List (α × β)) (a : α) (z : β) : β := match posOf l a 0 with | some p => p.2 | none => z
def hasK {β : Type} (l : List (α × β)) (a : α) : Bool := (posOf l a 0).isSome
def setK {β : Type} (l : List (α × β)) (a : α) (v : β) : List (α × β) := match posOf l a 0 with | some p => l.modify p.1 (fun _ => (a, v)) | none => l ++ [(a, v)]
def delK {β : Type} (l : List (α × β)) (a : α) : List (α × β) := match posOf l a 0 with | some p => l.eraseIdx p.1 | none => l
/-- The world with another object in a block. -/
def setBlk (w : World) (r : Nat) (o : Obj) : World := { w with heap := w.heap.setIfInBounds r o }
theorem setBlk_size (w : World) (r : Nat) (o : Obj) : (setBlk w r o).heap.size = w.heap.size := by simp [setBlk]
theorem setBlk_other (w : World) (r : Nat) (o : Obj) (k : Nat) (h : k ≠ r) : (setBlk w r o).heap[k]? = w.heap[k]? := by
  show (w.heap.setIfInBounds r o)[k]? = _
  simp [Ne.symm h]
theorem setBlk_same (w : World) (r : Nat) (o : Obj) (h : r < w.heap.size) : (setBlk w r o).heap[r]? = some o := by
  show (w.heap.setIfInBounds r o)[r]? = _
  simp [h]
theorem below_setBlk {B : Nat} {w0 w : World} (h : Below B w0 w) {r : Nat} (hr : B ≤ r) (o : Obj) : Below B w0 (setBlk w r o) :=
  ⟨h.os, h.tape, h.output, by rw [setBlk_size]; exact h.size, fun k hk => (setBlk_other w r o k (by omega)).trans (h.block k hk)⟩
omit [DecidableEq α] in
theorem MapIs.kept {w w' : World} {mb : Nat} {l : List (α × Value)} (h : MapIs K w mb l) (hb : w'.heap[mb]? = w.heap[mb]?) : MapIs K w' mb l := by
  obtain ⟨arr, clock, h1, h2⟩ := h
  exact ⟨arr, clock, hb.trans h1, h2⟩
omit [DecidableEq α] in
theorem MapIs.lt {w : World} {mb : Nat} {l : List (α × Value)} (h : MapIs K w mb l) : mb < w.heap.size := by
  obtain ⟨arr, clock, h1, _⟩ := h
  exact (Array.getElem?_eq_some_iff.1 h1).1
omit [DecidableEq α] in
theorem MapIs.len {w : World} {mb : Nat} {l : List (α × Value)} (h : MapIs K w mb l) : ∃ arr clock, w.heap[mb]? = some (.map arr clock) ∧ arr.size = l.length := by
  obtain ⟨arr, clock, h1, h2, _⟩ := h
  exact ⟨arr, clock, h1, by have := congrArg List.length h2; simpa using this⟩
omit [DecidableEq α] in
theorem mapIs_new (w : World) : MapIs K (w.alloc (.map #[] 0)) w.heap.size [] :=
  ⟨#[], 0, by show (w.heap.push _)[w.heap.size]? = _; simp, rfl, fun _ hx => by simp at hx, List.nodup_nil⟩

variable {P : Program} {kt mt et : TypeId} {d : TypeDesc}
theorem findNow_is (F : KeyFn P kt K d) (es : List MapEntry) (l : List (α × Value)) (h : es.map (fun e => (e.key, e.val)) = l.map (fun x => (K x.1, x.2))) (a : α) (i : Nat) :
    Instr.findNow d (K a) es i = some (posOf l a i) := by
  induction l generalizing es i with
  | nil =>
    cases es with
    | nil => rfl
    | cons e r => simp at h
  | cons x r ih =>
    cases es with
    | nil => simp at h
    | cons e es =>
      simp only [List.map_cons, List.cons.injEq, Prod.mk.injEq] at h
      obtain ⟨⟨h1, h2⟩, h3⟩ := h
      simp only [Instr.findNow, posOf, h1, F.same]
      by_cases hx : a = x.1
      · simp [hx, h2]
      · simp [hx, ih es h3]
theorem run_lookup_is (F : KeyFn P kt K d) (hm : P.underlying mt = some (.map kt et)) {w : World} {mb : Nat} {l : List (α × Value)} (h : MapIs K w mb l) (a : α) {z : Value} (hz : (zeroValue et).run P w = .ok z w) (c : Bool) :
    (Instr.lookup mt (.map (some mb)) (K a) c).run P w = .ok (if c then .tuple #[valOf l a z, .bool (hasK l a)] else valOf l a z) w := by
  obtain ⟨arr, clock, h1, h2, _⟩ := h
  have hf := MapKept.run_findKey (w := w) F.hd (findNow_is F arr.toList l h2 a 0)
  have hc : (Instr.checkKey arr.isEmpty 10000 kt (K a)).run P w = .ok () w := MapKept.run_checkKey F.hd (F.isKey a) _ 9999
  have hg := run_getObj_map (P := P) w mb arr clock h1
  cases hp : posOf l a 0 with
  | none =>
    rw [hp] at hf
    have e1 : valOf l a z = z := by simp [valOf, hp]
    have e2 : hasK l a = false := by simp [hasK, hp]
    cases c <;> simp [Instr.lookup, run_underlying hm, hg, hc, hf, hz, e1, e2, Result.andThen]
  | some p =>
    rw [hp] at hf
    have e1 : valOf l a z = p.2 := by simp [valOf, hp]
    have e2 : hasK l a = true := by simp [hasK, hp]
    obtain ⟨i, v⟩ := p
    cases c <;> simp [Instr.lookup, run_underlying hm, hg, hc, hf, e1, e2, Result.andThen]
theorem posOf_at {β : Type} (l : List (α × β)) (a : α) (i : Nat) (p : Nat × β) (h : posOf l a i = some p) : ∃ j, p.1 = i + j ∧ l[j]? = some (a, p.2) := by
  induction l generalizing i with
  | nil => cases h
  | cons x r ih =>
    unfold posOf at h
    split at h
    · rename_i hx
      cases h
      exact ⟨0, rfl, by rw [hx]; rfl⟩
    · obtain ⟨j, h1, h2⟩ := ih (i + 1) h
      exact ⟨j + 1, by omega, by simpa using h2⟩
omit [DecidableEq α] in
theorem map_erase {β γ : Type} (f : β → γ) (l : List β) (i : Nat) : (l.eraseIdx i).map f = (l.map f).eraseIdx i := by
  induction l generalizing i with
  | nil => rfl
  | cons x r ih =>
    cases i with
    | zero => rfl
    | succ i => simp [ih]
/-- Keys kept, elements turned. -/
def mapV {β γ : Type} (f : β → γ) (l : List (α × β)) : List (α × γ) := l.map (fun x => (x.1, f x.2))
theorem posOf_mapV {β γ : Type} (f : β → γ) (l : List (α × β)) (a : α) (i : Nat) : posOf (mapV f l) a i = (posOf l a i).map (fun p => (p.1, f p.2)) := by
  induction l generalizing i with
  | nil => rfl
  | cons x r ih =>
    show (if a = x.1 then some (i, f x.2) else posOf (mapV f r) a (i + 1)) = (if a = x.1 then some (i, x.2) else posOf r a (i + 1)).map _
    split
    · rfl
    · exact ih (i + 1)
theorem valOf_mapV {β γ : Type} (f : β → γ) (l : List (α × β)) (a : α) (z : β) : valOf (mapV f l) a (f z) = f (valOf l a z) := by
  unfold valOf
  rw [posOf_mapV]
  cases posOf l a 0 <;> rfl
theorem hasK_mapV {β γ : Type} (f : β → γ) (l : List (α × β)) (a : α) : hasK (mapV f l) a = hasK l a := by
  unfold hasK
  rw [posOf_mapV]
  cases posOf l a 0 <;> rfl
theorem setK_mapV {β γ : Type} (f : β → γ) (l : List (α × β)) (a : α) (v : β) : setK (mapV f l) a (f v) = mapV f (setK l a v) := by
  unfold setK
  rw [posOf_mapV]
  cases posOf l a 0 with
  | none => simp [mapV]
  | some p =>
    simp only [Option.map_some, mapV]
    apply List.ext_getElem?
    intro k
    simp only [List.getElem?_modify, List.getElem?_map]
    cases l[k]? <;> simp
    split <;> simp_all
theorem delK_mapV {β γ : Type} (f : β → γ) (l : List (α × β)) (a : α) : delK (mapV f l) a = mapV f (delK l a) := by
  unfold delK
  rw [posOf_mapV]
  cases posOf l a 0 with
  | none => rfl
  | some p =>
    simp only [Option.map_some, mapV]
    rw [map_erase]
theorem setK_mem {β : Type} {l : List (α × β)} {a : α} {v : β} {x : α × β} (h : x ∈ setK l a v) : x = (a, v) ∨ x ∈ l := by
  unfold setK at h
  split at h
  · obtain ⟨k, hk⟩ := List.mem_iff_getElem?.1 h
    rw [List.getElem?_modify] at hk
    cases hl : l[k]? with
    | none => simp [hl] at hk
    | some y =>
      rw [hl] at hk
      simp only [Option.map_eq_map, Option.map_some, Option.some.injEq] at hk
      split at hk
      · exact .inl hk.symm
      · exact .inr (hk ▸ List.mem_of_getElem? hl)
  · rcases List.mem_append.1 h with h | h
    · exact .inr h
    · exact .inl (by simpa using h)
theorem delK_mem {β : Type} {l : List (α × β)} {a : α} {x : α × β} (h : x ∈ delK l a) : x ∈ l := by
  unfold delK at h
  split at h
  · exact List.mem_of_mem_eraseIdx h
  · exact h
theorem valOf_mem {β : Type} {l : List (α × β)} {a : α} {z : β} (h : hasK l a = true) : (a, valOf l a z) ∈ l := by
  unfold hasK at h
  obtain ⟨p, hp⟩ := Option.isSome_iff_exists.1 h
  obtain ⟨j, _, hj⟩ := posOf_at l a 0 p hp
  have e : valOf l a z = p.2 := by simp [valOf, hp]
  rw [e]
  exact List.mem_of_getElem? hj
theorem run_update_is (F : KeyFn P kt K d) (hm : P.underlying mt = some (.map kt et)) {w : World} {mb : Nat} {l : List (α × Value)} (h : MapIs K w mb l) (a : α) (v : Value) :
    ∃ o, (Instr.mapUpdate mt (.map (some mb)) (K a) v).run P w = .ok () (setBlk w mb o) ∧ MapIs K (setBlk w mb o) mb (setK l a v) := by
  have hlt := h.lt
  obtain ⟨arr, clock, h1, h2, hst⟩ := h
  have hf := MapKept.run_findKey (w := w) F.hd (findNow_is F arr.toList l h2 a 0)
  have hc : (Instr.checkKey false 10000 kt (K a)).run P w = .ok () w := MapKept.run_checkKey F.hd (F.isKey a) _ 9999
  have hg := run_getObj_map (P := P) w mb arr clock h1
  cases hp : posOf l a 0 with
  | none =>
    rw [hp] at hf
    refine ⟨.map (arr.push { key := K a, val := v, born := clock }) (clock + 1), ?_, arr.push { key := K a, val := v, born := clock }, clock + 1, setBlk_same _ _ _ hlt, ?_, by rw [Array.toList_push]; exact hst.push _ _⟩
    · simp [Instr.mapUpdate, run_underlying hm, hg, hc, hf, Result.andThen, MapKept.run_setObj_map _ h1, setBlk]
    · simp [setK, hp, h2]
  | some p =>
    rw [hp] at hf
    obtain ⟨i, u⟩ := p
    obtain ⟨j, hj, hl⟩ := posOf_at l a 0 _ hp
    simp only [Nat.zero_add] at hj
    subst hj
    have hla : (arr.toList.map (fun e => (e.key, e.val)))[i]? = some (K a, u) := by rw [h2, List.getElem?_map, hl]; rfl
    rw [List.getElem?_map] at hla
    obtain ⟨e0, he0, hee⟩ := Option.map_eq_some_iff.1 hla
    simp only [Prod.mk.injEq] at hee
    have hek : (arr[i]?.map (·.key)).getD (K a) = K a := by
      rw [Array.getElem?_toList] at he0
      rw [he0]; simp [hee.1]
    have hks : (Instr.keyThatStays (K a) (K a)).run P w = .ok (K a) w := by simp [Instr.keyThatStays, F.bits]
    refine ⟨.map (arr.modify i fun e => { e with key := K a, val := v }) clock, ?_, arr.modify i fun e => { e with key := K a, val := v }, clock, setBlk_same _ _ _ hlt, ?_, by rw [Array.toList_modify]; exact hst.modify _ _ _⟩
    · simp [Instr.mapUpdate, run_underlying hm, hg, hc, hf, Result.andThen, hek, hks, MapKept.run_setObj_map _ h1, setBlk]
    · simp only [setK, hp]
      rw [Array.toList_modify]
      apply List.ext_getElem?
      intro k
      have hk := congrArg (fun t => t[k]?) h2
      simp only [List.getElem?_map, Array.getElem?_toList] at hk
      simp only [List.getElem?_map, List.getElem?_modify]
      by_cases hik : i = k
      · subst hik
        simp [he0, hl]
      · simp [hik, hk]
theorem run_delete_is (F : KeyFn P kt K d) (hm : P.underlying mt = some (.map kt et)) {w : World} {mb : Nat} {l : List (α × Value)} (h : MapIs K w mb l) (a : α) (ty kt' : TypeId) :
    ∃ o, (Builtin.delete_ #[mt, kt'] ty #[.map (some mb), K a]).run P w = .ok (.tuple #[]) (setBlk w mb o) ∧ MapIs K (setBlk w mb o) mb (delK l a) := by
  have hlt := h.lt
  obtain ⟨arr, clock, h1, h2, hst⟩ := h
  have hf := MapKept.run_findKey (w := w) F.hd (findNow_is F arr.toList l h2 a 0)
  have hc : (Instr.checkKey arr.isEmpty 10000 kt (K a)).run P w = .ok () w := MapKept.run_checkKey F.hd (F.isKey a) _ 9999
  have hg := run_getObj_map (P := P) w mb arr clock h1
  cases hp : posOf l a 0 with
  | none =>
    rw [hp] at hf
    refine ⟨.map arr clock, ?_, arr, clock, setBlk_same _ _ _ hlt, ?_, hst⟩
    · simp [Builtin.delete_, run_underlying hm, hg, hc, hf, Result.andThen, MapKept.run_setObj_map _ h1, setBlk]
    · simp [delK, hp, h2]
  | some p =>
    rw [hp] at hf
    obtain ⟨i, u⟩ := p
    refine ⟨.map (arr.eraseIdxIfInBounds i) clock, ?_, arr.eraseIdxIfInBounds i, clock, setBlk_same _ _ _ hlt, ?_, by rw [Array.toList_eraseIdxIfInBounds]; exact hst.erase _⟩
    · simp [Builtin.delete_, run_underlying hm, hg, hc, hf, Result.andThen, MapKept.run_setObj_map _ h1, setBlk]
    · simp only [delK, hp]
      rw [Array.toList_eraseIdxIfInBounds, map_erase, h2, ← map_erase]
end

section
variable {α : Type} [DecidableEq α] {K : α → Value} {P : Program} {kt mt et : TypeId} {d : TypeDesc} {ops : Array Oper} {rest : List Oper} {o : Oper} {a : Act} {w : World} {Q : Exit → Act → World → Prop}
theorem wpList_lookup_is (hg : o.guard = none) (m x : Operand) (hop : o.op = Op.lookup mt m x true) (F : KeyFn P kt K d) (hm : P.underlying mt = some (.map kt et)) {z : Value} (hz : (zeroValue et).run P w = .ok z w)
    {mb : Nat} {l : List (α × Value)} (h : MapIs K w mb l) (y : α) (em : a.eval m = .map (some mb)) (ex : a.eval x = K y)
    (hK : wpList P ops Q rest (a.put o.dst (.tuple #[valOf l y z, .bool (hasK l y)])) w) : wpList P ops Q (o :: rest) a w := by
  refine wpList_plain hg fun K' hK' => ?_
  have hrun := run_lookup_is F hm h y hz true
  unfold Oper.wp
  simp [execOp, hop, em, ex, hrun, Result.andThen]
  exact hK' _ _ hK
theorem wpList_lookup1_is (hg : o.guard = none) (m x : Operand) (hop : o.op = Op.lookup mt m x false) (F : KeyFn P kt K d) (hm : P.underlying mt = some (.map kt et)) {z : Value} (hz : (zeroValue et).run P w = .ok z w)
    {mb : Nat} {l : List (α × Value)} (h : MapIs K w mb l) (y : α) (em : a.eval m = .map (some mb)) (ex : a.eval x = K y)
    (hK : wpList P ops Q rest (a.put o.dst (valOf l y z)) w) : wpList P ops Q (o :: rest) a w := by
  refine wpList_plain hg fun K' hK' => ?_
  have hrun := run_lookup_is F hm h y hz false
  unfold Oper.wp
  simp [execOp, hop, em, ex, hrun, Result.andThen]
  exact hK' _ _ hK
theorem wpList_update_is (hg : o.guard = none) (m x v : Operand) (hop : o.op = Op.mapUpdate mt m x v) (F : KeyFn P kt K d) (hm : P.underlying mt = some (.map kt et))
    {mb : Nat} {l : List (α × Value)} (h : MapIs K w mb l) (y : α) (u : Value) (em : a.eval m = .map (some mb)) (ex : a.eval x = K y) (ev : a.eval v = u)
    (hK : ∀ ob, MapIs K (setBlk w mb ob) mb (setK l y u) → wpList P ops Q rest (a.put o.dst undef) (setBlk w mb ob)) : wpList P ops Q (o :: rest) a w := by
  refine wpList_plain hg fun K' hK' => ?_
  obtain ⟨ob, hrun, hi⟩ := run_update_is F hm h y u
  unfold Oper.wp
  simp [execOp, hop, em, ex, ev, hrun, Result.andThen]
  exact hK' _ _ (hK ob hi)
theorem wpList_delete_is (hg : o.guard = none) (m x : Operand) (kt' : TypeId) (hop : o.op = Op.call { callee := Callee.builtin Builtin.delete, args := #[m, x], argTypes := #[mt, kt'] }) (F : KeyFn P kt K d) (hm : P.underlying mt = some (.map kt et))
    {mb : Nat} {l : List (α × Value)} (h : MapIs K w mb l) (y : α) (em : a.eval m = .map (some mb)) (ex : a.eval x = K y)
    (hK : ∀ ob, MapIs K (setBlk w mb ob) mb (delK l y) → wpList P ops Q rest (a.put o.dst (.tuple #[])) (setBlk w mb ob)) : wpList P ops Q (o :: rest) a w := by
  refine wpList_plain hg fun K' hK' => ?_
  obtain ⟨ob, hrun, hi⟩ := run_delete_is F hm h y o.type kt'
  unfold Oper.wp
  simp [execOp, hop, resolve, invoke, builtin, em, ex, hrun, Result.andThen]
  exact hK' _ _ (hK ob hi)
end
end Go.Proofs.YtfcfddfjifofgaaDoor
