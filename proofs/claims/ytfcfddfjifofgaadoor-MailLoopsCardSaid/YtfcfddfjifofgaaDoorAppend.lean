/- Appending one string to a []string of the call's own. -/
import Derived.Test.YtfcfddfjifofgaaDoorSqueeze
import Derived.Deep.AppendLies
namespace Go.Proofs.YtfcfddfjifofgaaDoor
open Go.RowKit Go.Shelf

theorem wpList_append_str {ops : Array Oper} {rest : List Oper} {o : Oper} {a : Act} {Q : Exit → Act → World → Prop} (hgd : o.guard = none) (s x : Operand)
    (ho : o.op = .call { callee := .builtin .append, args := #[s, x], argTypes := #[24, 24] })
    (B : Nat) (l : List ByteArray) (v : Value) (y : ByteArray) (wr : World) (hs : a.eval s = v) (hx : a.eval x = .slice (some ⟨wr.heap.size, 0, none⟩) 1 1)
    (h : OwnStrs B l wr v) (hl : l.length ≤ 1099511627776) (hB : B ≤ wr.heap.size)
    (next : ∀ v' w', OwnStrs B (l ++ [y]) w' v' → (wr.alloc (.cells #[.string y] 9)).grownBy w' v.ownBlock → (∃ g cap, v' = .slice (some ⟨g, 0, none⟩) (l.length + 1) cap) → wpList Tryd.prog ops Q rest (a.put o.dst v') w') :
    wpList Tryd.prog ops Q (o :: rest) a (wr.alloc (.cells #[.string y] 9)) := by
  obtain ⟨i0, hi, hz0, hz1, hz2⟩ := info_parts infoString
  refine wpList_append_own _ hgd _ _ 24 ho B 9 i0 (.string ⟨#[]⟩) 1 16 Tryd.underlying24 hi hz0 hz1 hz2 rfl (by decide) v _ _ hs (h.alloc _) ⟨wr.heap.size, 0, none⟩ 1 1 [.string y] hx rfl ?c1 ?c2 ?c3 ?c4 ?c5 ?_
  case c1 =>
    intro j u hu
    cases j with
    | zero => simp at hu; subst hu; exact World.cell?_alloc_new _ _ _ 0
    | succ j => simp at hu
  case c2 => intro u hu; simp at hu; subst hu; rfl
  case c3 => unfold maxLen; omega
  case c4 => omega
  case c5 => simp; omega
  intro v' w' hown hg hne
  have hex : ∃ g cap, v' = .slice (some ⟨g, 0, none⟩) (l.length + 1) cap := by
    rcases hown.2 with ⟨h1, h2⟩ | ⟨g, cap, cur, h1, h2⟩
    · omega
    · exact ⟨g, cap, h1⟩
  refine next v' w' ?_ hg hex
  unfold OwnStrs
  rw [List.length_append]
  have e : strs (l ++ [y]) = strs l ++ [.string y] := by simp [strs]
  rw [e]; exact hown
/-- What such an append leaves of the world below B. -/
theorem below_append {B b : Nat} {l : List ByteArray} {w0 wr w' : World} {v : Value} {o : Obj} (h : OwnStrs B l wr v) (hb : Below b w0 wr) (hbB : b ≤ B) (hB : b ≤ wr.heap.size) (hg : (wr.alloc o).grownBy w' v.ownBlock) : Below b w0 w' :=
  Below.grown (hb.alloc hB _) hg (by simp; omega) (fun k hk => by have := h.lt k hk; omega)
/-- The same inside a region that draws its order. -/
theorem step_append_str {ops : Array Oper} {o : Oper} {a : Act} {K : Act → World → Prop} {Q : Exit → Act → World → Prop} {E : Prop} (hgd : o.guard = none) (s x : Operand)
    (ho : o.op = .call { callee := .builtin .append, args := #[s, x], argTypes := #[24, 24] })
    (B : Nat) (l : List ByteArray) (v : Value) (y : ByteArray) (w2 : World) (bn : Nat) (hs : a.eval s = v) (hx : a.eval x = .slice (some ⟨bn, 0, none⟩) 1 1) (hbn : w2.heap[bn]? = some (.cells #[.string y] 9 (0, 0)))
    (h : OwnStrs B l w2 v) (hl : l.length ≤ 1099511627776) (hB : B ≤ w2.heap.size)
    (next : ∀ g cap w', OwnStrs B (l ++ [y]) w' (.slice (some ⟨g, 0, none⟩) (l.length + 1) cap) → w2.grownBy w' v.ownBlock → K (a.put o.dst (.slice (some ⟨g, 0, none⟩) (l.length + 1) cap)) w') :
    if Region.wanted o (yielded ops a.tmps) = true then Oper.wp Tryd.prog o a w2 K Q else E := by
  obtain ⟨i0, hi, hz0, hz1, hz2⟩ := info_parts infoString
  refine step_append_lies w2 hgd s x 24 ho B 9 i0 (.string ⟨#[]⟩) 1 16 Tryd.underlying24 hi hz0 hz1 hz2 rfl (by decide) v _ _ hs h ⟨bn, 0, none⟩ 1 1 [.string y] hx rfl ?c1 ?c2 (by omega) ?c3 ?c4 hB _ rfl ?_
  case c1 =>
    intro j u hu
    cases j with
    | zero => simp at hu; subst hu; exact cell_of_one hbn
    | succ j => simp at hu
  case c2 => intro u hu; simp at hu; subst hu; rfl
  case c3 => unfold maxLen; omega
  case c4 => omega
  intro g cap w' hown hg _ _
  refine next g cap w' ?_ hg
  unfold OwnStrs
  rw [List.length_append]
  have e : strs (l ++ [y]) = strs l ++ [.string y] := by simp [strs]
  rw [e]; exact hown
end Go.Proofs.YtfcfddfjifofgaaDoor
