/- Loading and storing a whole struct that lies in a block of its own. -/
import Derived.Test.YtfcfddfjifofgaaDoorProg
import Derived.WalkKit
import Derived.WalkSpells
namespace Go.Proofs.YtfcfddfjifofgaaDoor
open Go.RowKit

theorem wpList_store_row {P : Program} {ops : Array Oper} {rest : List Oper} {o : Oper} {a : Act} {w : World} {Q : Exit → Act → World → Prop} (hgd : o.guard = none) (ty : TypeId) (p x : Operand) (ho : o.op = .store ty p x)
    (g : Nat) (hp : a.eval p = .pointer (some ⟨g, 0, none⟩)) (t : TypeId) (old cs : Array Value) (hx : a.eval x = .agg cs) (hg : w.heap[g]? = some (.cells old t (0, 0)))
    (hi : (P.info? ty).map (·.size) = some cs.size) (hs : old.size = cs.size) (h1 : cs.all (·.oneCell') = true)
    (h : wpList P ops Q rest (a.put o.dst undef) (w.setRow g cs)) : wpList P ops Q (o :: rest) a w := by
  refine wpList_plain hgd fun K hK => ?_
  unfold Oper.wp execOp
  simp only [ho, hp, hx, Instr.storeAt, Instr.sureAddr, Sem.run_bind, Sem.run_pure, Result.andThen_ok, run_storeVar_row w g t ty old cs hg hi hs h1]
  exact hK _ _ h
end Go.Proofs.YtfcfddfjifofgaaDoor
