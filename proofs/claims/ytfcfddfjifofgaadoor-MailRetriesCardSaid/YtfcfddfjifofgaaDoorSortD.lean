/- What slices.SortFunc does to Due's slice. -/
import Derived.Test.YtfcfddfjifofgaaDoorGSortC
import Derived.Test.YtfcfddfjifofgaaDoorOwnR
import Derived.Shelf.SlSortCmp.NoneTotal
import Derived.Test.YtfcfddfjifofgaaDoorSortLay
import Derived.Sort.OwnSorted
namespace Go.Proofs.YtfcfddfjifofgaaDoor
open Go.RowKit Go.Shelf Go.Sort Go.Proofs
theorem mono_grow {w w' : World} (h : Mono.Ext w w') : ∃ q os', w' = grow (w.drewN q) os' := by
  obtain ⟨⟨h1, h2, h3, h4, h5⟩, h6⟩ := h
  refine ⟨w'.drawn - w.drawn, w'.heap.extract w.heap.size w'.heap.size, ?_⟩
  cases w with
  | mk hp tp dr os out =>
  cases w' with
  | mk hp' tp' dr' os' out' =>
  simp only at h1 h2 h3 h4 h5 h6
  subst h1 h2 h3
  simp only [grow, World.drewN, World.mk.injEq, true_and, and_true]
  refine ⟨?_, by omega⟩
  apply Array.ext_getElem?
  intro i
  rw [Array.getElem?_append]
  split
  · rename_i hi; exact h5 i hi
  · rename_i hi
    rw [Array.getElem?_extract]
    split
    · congr 1; omega
    · exact Array.getElem?_eq_none (by omega)
theorem ltW (x y : QEnt) : ltOf cmpW x y = decide (x.due < y.due ∨ x.due = y.due ∧ x.num < y.num) := by
  unfold ltOf cmpW orI Lib.compareInt
  repeat' split
  all_goals simp_all
  all_goals omega
theorem swoW : SWO (ltOf cmpW) where
  irrefl x := by rw [ltW]; simp
  trans x y z h1 h2 := by rw [ltW] at *; simp at *; omega
  ntrans x y z h1 h2 := by rw [ltW] at *; simp at *; omega
instance : Inhabited QEnt := ⟨zeroQ⟩
/-- The cells of a waiting message, one cell each whatever its slice. -/
def oneW (x : QEnt) : QEnt := { x with hv := if x.hv.oneCell' = true then x.hv else .slice none 0 0 }
abbrev encO : QEnt → List Value := fun x => encW (oneW x)
theorem oneW_same {x : QEnt} (h : x.hv.oneCell' = true) : oneW x = x := by rw [oneW, if_pos h]
theorem oneW_one (x : QEnt) : (oneW x).hv.oneCell' = true := by
  unfold oneW
  by_cases h : x.hv.oneCell' = true
  · simp [h]
  · simp only [h]; rfl
theorem encO_one (x : QEnt) : ∀ v ∈ encO x, v.oneCell' = true := by
  intro v hv
  have ho := oneW_one x
  simp only [encO, encW, wC, List.mem_cons, List.not_mem_nil, or_false] at hv
  rcases hv with rfl | rfl | rfl | rfl | rfl | rfl | rfl | rfl | rfl | rfl | rfl | rfl <;> first | rfl | exact ho
theorem flat_one (ds : List QEnt) (h : ∀ x ∈ ds, x.hv.oneCell' = true) : ds.flatMap encO = ds.flatMap encW := by
  induction ds with
  | nil => rfl
  | cons y r ih => rw [List.flatMap_cons, List.flatMap_cons, ih (fun x hx => h x (List.mem_cons_of_mem _ hx)), encO, oneW_same (h y (List.mem_cons_self ..))]
theorem cmpLaysW (blk off size : Nat) (w : World) : CmpLays Tryd.prog 51 #[] encO 12 cmpW blk off size w :=
  fun _ _ _ _ x y => (Mono.cmp_e (oneW x) (oneW y) _).mono fun _ _ ⟨_, he, hx, hv⟩ => ⟨by rw [he, hv]; rfl, mono_grow hx⟩
theorem flatK_eq (ds : List QEnt) : (flatK encO 12 ds.toArray).toList = ds.flatMap encO := by
  have hlen : ∀ l : List QEnt, (l.flatMap encO).length = l.length * 12 := fun l => by
    induction l with
    | nil => rfl
    | cons y r ih => rw [List.flatMap_cons, List.length_append, ih, List.length_cons, show (encO y).length = 12 from rfl]; omega
  apply List.ext_getElem
  · simp [hlen]
  · intro j h1 h2
    have hj : j < ds.length * 12 := by simpa [flatK] using h1
    have hd : j / 12 < ds.length := by omega
    have hp := flatMap_part (enc := encO) (k := 12) (fun x => encW_len (oneW x)) ds (j / 12) ds[j / 12] (List.getElem?_eq_getElem hd)
    have hg := get_flatK encO 12 ds.toArray j (by simpa using hj)
    have hs : j < (flatK encO 12 ds.toArray).size := by simpa using hj
    rw [getElem!_pos _ j hs] at hg
    rw [Array.getElem_toList, hg]
    have e1 : ds.toArray[j / 12]! = ds[j / 12] := by rw [getElem!_pos _ _ (by simpa using hd)]; simp
    have e2 : (encO ds[j / 12])[j % 12]? = some (ds.flatMap encO)[j] := by
      rw [← hp, List.getElem?_take_of_lt (by omega), List.getElem?_drop, show j / 12 * 12 + j % 12 = j by omega, List.getElem?_eq_getElem h2]
    rw [e1]
    have h3 : j % 12 < (encO ds[j / 12]).length := Nat.mod_lt j (by decide : 0 < 12)
    rw [getElem!_pos (encO ds[j / 12]) (j % 12) h3]
    rw [List.getElem?_eq_getElem h3] at e2
    exact Option.some.inj e2
def SortPost (B : Nat) (ds : List QEnt) (v : Value) (w : World) (e : Ending) (w' : World) : Prop :=
  e = .returned (.tuple #[]) ∧ ∃ ds', ds'.Perm ds ∧ ds'.Pairwise (fun x y => ltOf cmpW y x = false) ∧ OwnW B ds' w' v ∧ (∀ (b : Nat) (cs : Array Value) (t : TypeId), w.heap[b]? = some (.cells cs t (0, 0)) → (t == 87) = false → w'.heap[b]? = some (.cells cs t (0, 0))) ∧ (∀ w0, Ext w0 w → w0.heap.size ≤ B → Ext w0 w')
set_option maxRecDepth 100000 in
theorem sort_e {B : Nat} {ds : List QEnt} {v : Value} {w : World} (hone : ∀ x ∈ ds, x.hv.oneCell' = true) (h : OwnW B ds w v) (hl : ds.length ≤ 1000000) :
    Calls Tryd.prog 50 #[v, .func (.func 51) #[] #[]] w (SortPost B ds v w) := by
  rcases h.2 with ⟨rfl, h0⟩ | ⟨g, cap, cur, rfl, hg, hb, h4, h5, h6, h7⟩
  · obtain rfl : ds = [] := List.eq_nil_of_length_eq_zero h0
    have := AnyF.slices_SortFunc_none Tryd.sortW none 0 (.func (.func 51) #[] #[]) w
    exact Calls.mono this fun e w' ⟨he, hw⟩ => ⟨he, [], List.Perm.refl _, List.Pairwise.nil, hw ▸ h, fun _ _ _ hr _ => hw ▸ hr, fun _ hE _ => hw ▸ hE⟩
  · have hgl : g < w.heap.size := row_lt hb
    have hfl := flatK_eq ds
    have hH : HoldsK encO 12 w g 0 ds.toArray := by
      intro j hj
      have hj2 : j < (flatK encO 12 ds.toArray).toList.length := by simpa using hj
      refine ⟨?_, by simp [World.frozen?, hb]⟩
      rw [cell_row hb, Nat.zero_add, getElem!_pos (flatK encO 12 ds.toArray) j hj]
      have e1 : (flatK encO 12 ds.toArray).toList[j]? = cur.toList[j]? := by
        rw [hfl, flat_one ds hone, ← h7, List.getElem?_take_of_lt (by simpa [flatK] using hj)]
      rw [← Array.getElem?_toList, ← e1, List.getElem?_eq_getElem hj2]
      rfl
    have hcon := AnyQ.slices_SortFunc Tryd.sortW 12 Tryd.isAgg87 Tryd.sizeOf87 encO (fun _ => rfl) encO_one cmpW swoW 51 #[] g 0 cap ds.toArray w (enters_of Tryd.func51 (by kernel_rfl) rfl) (cmpLaysW g 0 ds.toArray.size w) hH hgl (by simp; omega)
    refine Calls.mono hcon fun e w' ⟨he, d', n, os, hp, hs, hw⟩ => ⟨he, d'.toList, ?_, ?_, ?_, ?_, ?_⟩
    · have h9 := hp.2.2
      have hsz : d'.size = ds.length := by simpa using hp.1
      rw [Array.toList_extract, List.extract_eq_take_drop] at h9
      simp at h9
      rwa [List.take_of_length_le (by simp [hsz])] at h9
    · rw [List.pairwise_iff_getElem]
      intro i j hi hj hij
      have := hs i j (Nat.zero_le _) hij (by simpa [hp.1] using hj)
      rw [getElem!_pos _ j (by simpa using hj), getElem!_pos _ i (by simpa using hi)] at this
      simpa using this
    · have hsz : d'.size = ds.length := by simpa using hp.1
      have hone' : ∀ x ∈ d'.toList, x.hv.oneCell' = true := by
        intro x hx
        have h9 := hp.2.2
        rw [Array.toList_extract, List.extract_eq_take_drop] at h9
        simp at h9
        rw [List.take_of_length_le (by simp [hsz])] at h9
        exact hone x (h9.mem_iff.1 hx)
      refine ⟨?_, .inr ⟨g, cap, putCells id 0 (flatK encO 12 d') cur, ?_, hg, ?_, ?_, h5, ?_, ?_⟩⟩
      · have : (flatK encO 12 d').toList = d'.toList.flatMap encO := by rw [← flatK_eq]
        rw [← flat_one _ hone', ← this]
        simp
      · simp [hsz]
      · rw [hw]
        unfold sortWorldK putRowK
        rw [heap_grow_old _ _ (by simpa [putRow, mapBlock, Sort.ahead] using hgl)]
        simp [putRow, mapBlock, Sort.ahead, Array.getElem?_modify, hb, onCells]
      · simpa [hsz] using h4
      · simpa [putCells] using h6
      · have e2 : (flatK encO 12 d').toList = d'.toList.flatMap encW := by rw [← flat_one _ hone', ← flatK_eq]
        rw [← e2]
        apply List.ext_getElem?
        intro j
        have hcs : cur.size = cap * 12 := h6
        by_cases hj : j < d'.size * 12
        · rw [List.getElem?_take_of_lt (by simpa using hj), Array.getElem?_toList, Array.getElem?_toList]
          have hjc : j < cur.size := by rw [hcs]; exact Nat.lt_of_lt_of_le hj (Nat.mul_le_mul_right 12 (by rw [hsz]; exact h4))
          simp [putCells, hj, hjc]
        · rw [List.getElem?_take_eq_none (by simpa using hj), List.getElem?_eq_none (by simpa using hj)]
    · intro b cs t hr ht
      have hne : g ≠ b := fun e => by
        subst e
        rw [hb] at hr
        simp only [Option.some.injEq, Obj.cells.injEq] at hr
        rw [← hr.2.1] at ht
        simp at ht
      rw [hw]
      unfold sortWorldK putRowK
      rw [heap_grow_old _ _ (by simpa [putRow, mapBlock, Sort.ahead] using row_lt hr)]
      simpa [putRow, mapBlock, Sort.ahead, Array.getElem?_modify, hne] using hr
    · intro w0 hE hB
      refine Below.trans hE ?_
      rw [hw]
      refine ⟨rfl, rfl, rfl, by simp [sortWorldK, putRowK, putRow, mapBlock, Sort.ahead, grow], fun k hk => ?_⟩
      have hkw : k < w.heap.size := Nat.lt_of_lt_of_le hk hE.size
      unfold sortWorldK putRowK
      rw [heap_grow_old _ _ (by simpa [putRow, mapBlock, Sort.ahead] using hkw)]
      have hne : g ≠ k := by omega
      simp [putRow, mapBlock, Sort.ahead, Array.getElem?_modify, hne]
theorem wC_one {x : QEnt} (h : x.hv.oneCell' = true) : ((wC x).all (·.oneCell')) = true := by
  rw [Array.all_eq_true_iff_forall_mem]
  intro v hv
  simp only [wC, List.mem_toArray, List.mem_cons, List.not_mem_nil, or_false] at hv
  rcases hv with rfl | rfl | rfl | rfl | rfl | rfl | rfl | rfl | rfl | rfl | rfl | rfl <;> first | rfl | exact h
/-- What Due returns: the numbers of those that are due, by minute and number. -/
def DueIs (l : List (Int × QEnt)) (now : Int) (ns : List Int) : Prop := ∃ ds : List QEnt, ds.Perm ((l.map (·.2)).filter (fun x => decide (x.due ≤ now))) ∧ ds.Pairwise (fun x y => ltOf cmpW y x = false) ∧ ns = ds.map (·.num)
def IsDue (B : Nat) (l : List (Int × QEnt)) (now : Int) (v : Value) (w : World) : Prop := ∃ ns, DueIs l now ns ∧ OwnI B ns w v
theorem stab_due (B : Nat) (l : List (Int × QEnt)) (now : Int) : Stab (IsDue B l now) := fun _ _ _ h ⟨ns, d, o⟩ => ⟨ns, d, o.ext h⟩
abbrev dueB (now : Int) (x : QEnt) : Bool := decide (x.due ≤ now)
theorem filter_snocT {now : Int} {H : List QEnt} {x : QEnt} (h : decide (x.due ≤ now) = true) : H.filter (dueB now) ++ [x] = (H ++ [x]).filter (dueB now) := by
  rw [List.filter_append, List.filter_cons_of_pos (by exact h)]; rfl
theorem filter_snocF {now : Int} {H : List QEnt} {x : QEnt} (h : decide (x.due ≤ now) = false) : H.filter (dueB now) = (H ++ [x]).filter (dueB now) := by
  rw [List.filter_append, List.filter_cons_of_neg (by simpa using h)]; simp
theorem take_snocQ {ds : List QEnt} {k : Nat} (h : k < ds.length) : (ds.take k).map (·.num) ++ [(ds[k]'h).num] = (ds.take (k + 1)).map (·.num) := by
  rw [List.take_add_one, List.getElem?_eq_getElem h, List.map_append]; rfl
end Go.Proofs.YtfcfddfjifofgaaDoor
