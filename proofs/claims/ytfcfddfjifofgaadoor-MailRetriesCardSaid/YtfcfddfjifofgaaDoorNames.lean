/- What mail.names returns; appending a field. -/
import Derived.Test.YtfcfddfjifofgaaDoorFPrint
import Derived.Test.YtfcfddfjifofgaaDoorWords
import Derived.Laws.ResultCell
import Derived.Deep.DeepCutAuto
namespace Go.Proofs.YtfcfddfjifofgaaDoor
open Go.RowKit Go.Shelf

def nFrom : ByteArray := ⟨#[70, 114, 111, 109]⟩
def nTo : ByteArray := ⟨#[84, 111]⟩
def nNumber : ByteArray := ⟨#[78, 117, 109, 98, 101, 114]⟩
def nDate : ByteArray := ⟨#[68, 97, 116, 101]⟩
def nHops : ByteArray := ⟨#[72, 111, 112, 115]⟩
def nSubject : ByteArray := ⟨#[83, 117, 98, 106, 101, 99, 116]⟩
set_option maxHeartbeats 400000 in
theorem names_c (w : World) : Calls Tryd.prog 59 #[] w fun e w' => e = .returned (.agg #[.string nFrom, .string nTo, .string nNumber, .string nDate, .string nHops, .string nSubject]) ∧ Below w.heap.size w w' := by
  go_enter Tryd.func59, Tryd.ntmps59
  go_wp2
  exact bodyPost_ret (results_cell_row Tryd.results59 _ _ _ _ _ _ _ rfl (heap_alloc_new w _) Tryd.underlying102 rfl (by kernel_rfl)) rfl ⟨rfl, (Below.refl _ w).alloc (Nat.le_refl _) _⟩

def fcells (l : List (ByteArray × ByteArray)) : List Value := l.flatMap (fun f => [.string f.1, .string f.2])
def OwnFields (B : Nat) (l : List (ByteArray × ByteArray)) (w : World) (v : Value) : Prop := w.ownsRow B 105 2 v l.length (fcells l)
theorem fcells_at (l : List (ByteArray × ByteArray)) (j : Nat) (x : ByteArray × ByteArray) (h : l[j]? = some x) : (fcells l)[j * 2]? = some (.string x.1) ∧ (fcells l)[j * 2 + 1]? = some (.string x.2) := by
  induction l generalizing j with
  | nil => cases h
  | cons y r ih =>
    cases j with
    | zero => simp at h; subst h; simp [fcells]
    | succ j =>
      have h1 := ih j (by simpa using h)
      have e : fcells (y :: r) = .string y.1 :: .string y.2 :: fcells r := by simp [fcells]
      rw [e]
      have e1 : (j + 1) * 2 = j * 2 + 1 + 1 := by omega
      rw [e1]
      simpa using h1
theorem OwnFields.at {B : Nat} {l : List (ByteArray × ByteArray)} {w : World} {v : Value} (h : OwnFields B l w v) : FieldsAt w v l := by
  rcases h.2 with ⟨h1, h2⟩ | ⟨g, cap, cur, h1, h2, h3, h4, h5, h6, h7⟩
  · exact .inl ⟨List.eq_nil_of_length_eq_zero h2, none, 0, by rw [h1]⟩
  · refine .inr ⟨g, cap, h1, h4, lt_of_block h3, fun j x hx => ?_⟩
    have key : ∀ i u, (fcells l)[i]? = some u → w.cell? ⟨g, i, none⟩ = some u := fun i u hu => by
      rw [← h7] at hu
      rw [World.cell?, h3]
      simp only [Option.isSome_none, Bool.false_eq_true, if_false]
      rw [List.getElem?_take] at hu
      split at hu
      · rw [← Array.getElem?_toList]; exact hu
      · cases hu
    obtain ⟨q1, q2⟩ := fcells_at l j x hx
    exact ⟨key _ _ q1, key _ _ q2⟩
theorem infoField : (Tryd.prog.info? 105).map (fun i => (i.zero, i.size, i.bytes)) = some (some (.agg #[.string ⟨#[]⟩, .string ⟨#[]⟩]), 2, 32) := by kernel_rfl
theorem wpList_append_field {ops : Array Oper} {rest : List Oper} {o : Oper} {a : Act} {Q : Exit → Act → World → Prop} (hgd : o.guard = none) (s x : Operand)
    (ho : o.op = .call { callee := .builtin .append, args := #[s, x], argTypes := #[100, 100] })
    (B : Nat) (l : List (ByteArray × ByteArray)) (v : Value) (y : ByteArray × ByteArray) (wr : World) (hs : a.eval s = v) (hx : a.eval x = .slice (some ⟨wr.heap.size, 0, none⟩) 1 1)
    (h : OwnFields B l wr v) (hl : l.length ≤ 1099511627776) (hB : B ≤ wr.heap.size)
    (next : ∀ v' w', OwnFields B (l ++ [y]) w' v' → (wr.alloc (.cells #[.string y.1, .string y.2] 105)).grownBy w' v.ownBlock → (∃ g cap, v' = .slice (some ⟨g, 0, none⟩) (l.length + 1) cap) → wpList Tryd.prog ops Q rest (a.put o.dst v') w') :
    wpList Tryd.prog ops Q (o :: rest) a (wr.alloc (.cells #[.string y.1, .string y.2] 105)) := by
  obtain ⟨i0, hi, hz0, hz1, hz2⟩ := info_parts infoField
  refine wpList_append_own _ hgd _ _ 100 ho B 105 i0 (.agg #[.string ⟨#[]⟩, .string ⟨#[]⟩]) 2 32 Tryd.underlying100 hi hz0 hz1 hz2 rfl (by decide) v _ _ hs (h.alloc _) ⟨wr.heap.size, 0, none⟩ 1 1 [.string y.1, .string y.2] hx rfl ?c1 ?c2 ?c3 ?c4 ?c5 ?_
  case c1 =>
    intro j u hu
    match j, hu with
    | 0, hu => simp at hu; subst hu; exact World.cell?_alloc_new _ _ _ 0
    | 1, hu => simp at hu; subst hu; exact World.cell?_alloc_new _ _ _ 1
  case c2 => intro u hu; simp at hu; rcases hu with rfl | rfl <;> rfl
  case c3 => unfold maxLen; omega
  case c4 => omega
  case c5 => simp; omega
  intro v' w' hown hg hne
  have hex : ∃ g cap, v' = .slice (some ⟨g, 0, none⟩) (l.length + 1) cap := by
    rcases hown.2 with ⟨h1, h2⟩ | ⟨g, cap, cur, h1, h2⟩
    · omega
    · exact ⟨g, cap, h1⟩
  refine next v' w' ?_ hg hex
  unfold OwnFields
  rw [List.length_append]
  have e : fcells (l ++ [y]) = fcells l ++ [.string y.1, .string y.2] := by simp [fcells]
  rw [e]; exact hown
/-- What such an append leaves of the world below B. -/
theorem below_append_f {B b : Nat} {l : List (ByteArray × ByteArray)} {w0 wr w' : World} {v : Value} {o : Obj} (h : OwnFields B l wr v) (hb : Below b w0 wr) (hbB : b ≤ B) (hB : b ≤ wr.heap.size) (hg : (wr.alloc o).grownBy w' v.ownBlock) : Below b w0 w' :=
  Below.grown (hb.alloc hB _) hg (by simp; omega) (fun k hk => by have := h.lt k hk; omega)
end Go.Proofs.YtfcfddfjifofgaaDoor
