/- Contracts in the form that the printed walks take. -/
import Derived.Test.YtfcfddfjifofgaaDoorEngOp
import Derived.Test.YtfcfddfjifofgaaDoorMsg
import Derived.Test.YtfcfddfjifofgaaDoorTo
namespace Go.Proofs.YtfcfddfjifofgaaDoor
open Go.RowKit Go.Shelf
section
variable {P : Program} {f : FuncId} {args : Array Value} {w : World} {V : Value}
theorem ret_same (h : Calls P f args w fun e w' => e = .returned V ∧ w = w') : Calls P f args w (Ret (fun v _ => v = V) w) := h.mono fun _ _ ⟨e, hw⟩ => ⟨_, e, hw ▸ Ext.refl w, rfl⟩
theorem ret_same' (h : Calls P f args w fun e w' => e = .returned V ∧ w' = w) : Calls P f args w (Ret (fun v _ => v = V) w) := h.mono fun _ _ ⟨e, hw⟩ => ⟨_, e, hw ▸ Ext.refl w, rfl⟩
theorem ret_below (h : Calls P f args w fun e w' => e = .returned V ∧ Below w.heap.size w w') : Calls P f args w (Ret (fun v _ => v = V) w) := h.mono fun _ _ ⟨e, hw⟩ => ⟨_, e, hw, rfl⟩
theorem ret_drew (h : Calls P f args w fun e w' => e = .returned V ∧ ∃ n, w' = w.drewN n) : Calls P f args w (Ret (fun v _ => v = V) w) := h.mono fun _ _ ⟨e, _, hw⟩ => ⟨_, e, hw ▸ ⟨rfl, rfl, rfl, Nat.le_refl _, fun _ _ => rfl⟩, rfl⟩
theorem ret_true (h : Calls P f args w (Ret (fun v _ => v = .bool true) w)) : Calls P f args w fun e w' => e = .returned (.bool true) ∧ Below w.heap.size w w' := h.mono fun _ _ ⟨_, e, x, k⟩ => ⟨k ▸ e, x⟩
end
/-- A message by value. -/
def IsMsg (m : Msg) (v : Value) (w : World) : Prop := ∃ hv, v = .agg (msgC m hv) ∧ StrsAt w hv m.hops
theorem stab_msg (m : Msg) : Stab (IsMsg m) := fun _ _ _ h ⟨hv, e, s⟩ => ⟨hv, e, s.below h⟩
def IsStrs (l : List ByteArray) (v : Value) (w : World) : Prop := StrsAt w v l
theorem stab_strs (l : List ByteArray) : Stab (IsStrs l) := fun _ _ _ h s => StrsAt.below s h
end Go.Proofs.YtfcfddfjifofgaaDoor
