/- Contracts in the form that the printed walks take. -/
import Derived.Test.YtfcfddfjifofgaaDoorEngOp
import Derived.Test.YtfcfddfjifofgaaDoorMsg
import Derived.Test.YtfcfddfjifofgaaDoorTo
import Derived.Test.YtfcfddfjifofgaaDoorWords
import Derived.Test.YtfcfddfjifofgaaDoorCopied
import Derived.Test.YtfcfddfjifofgaaDoorBounce
namespace Go.Proofs.YtfcfddfjifofgaaDoor
open Go.RowKit Go.Shelf
section
variable {P : Program} {f : FuncId} {args : Array Value} {w : World} {V : Value}
theorem ret_same (h : Calls P f args w fun e w' => e = .returned V ∧ w = w') : Calls P f args w (Ret (fun v _ => v = V) w) := h.mono fun _ _ ⟨e, hw⟩ => ⟨_, e, hw ▸ Ext.refl w, rfl⟩
theorem ret_same' (h : Calls P f args w fun e w' => e = .returned V ∧ w' = w) : Calls P f args w (Ret (fun v _ => v = V) w) := h.mono fun _ _ ⟨e, hw⟩ => ⟨_, e, hw ▸ Ext.refl w, rfl⟩
theorem ret_below (h : Calls P f args w fun e w' => e = .returned V ∧ Below w.heap.size w w') : Calls P f args w (Ret (fun v _ => v = V) w) := h.mono fun _ _ ⟨e, hw⟩ => ⟨_, e, hw, rfl⟩
theorem ret_drew (h : Calls P f args w fun e w' => e = .returned V ∧ ∃ n, w' = w.drewN n) : Calls P f args w (Ret (fun v _ => v = V) w) := h.mono fun _ _ ⟨e, _, hw⟩ => ⟨_, e, hw ▸ ⟨rfl, rfl, rfl, Nat.le_refl _, fun _ _ => rfl⟩, rfl⟩
theorem ret_true (h : Calls P f args w (Ret (fun v _ => v = .bool true) w)) : Calls P f args w fun e w' => e = .returned (.bool true) ∧ Below w.heap.size w w' := h.mono fun _ _ ⟨_, e, x, k⟩ => ⟨k ▸ e, x⟩
end
theorem both_t {c : Bool} {want : Bool} {p q : Prop} (hc : c = want) (h : p) : (c = want → p) ∧ (c = (!want) → q) := ⟨fun _ => h, fun hf => by subst hc; cases c <;> cases hf⟩
theorem both_f {c : Bool} {want : Bool} {p q : Prop} (hn : c ≠ want) (h : q) : (c = want → p) ∧ (c = (!want) → q) := ⟨fun hc => absurd hc hn, fun _ => h⟩
theorem stab_both {c d : Prop} {φ : Value → World → Prop} {p : Value → Prop} (h : Stab φ) : Stab (fun v w => (c → φ v w) ∧ (d → p v)) := fun v w w' e k => ⟨fun hc => h v w w' e (k.1 hc), k.2⟩
theorem nT (c : Bool) : c = true ↔ c = true := Iff.rfl
theorem nF (c : Bool) : (!c) = true ↔ c = false := by cases c <;> simp
theorem ok_guard2 {P : Program} {o : Oper} {a : Act} {w : World} {φ : Value → World → Prop} {ops : Array Oper} {j : Nat} {want c c0 w0 n0 n1 : Bool} (hg : o.guard = some (j, want)) (hj : (c0 = w0 → dstV ops a j = .bool c) ∧ (c0 = (!w0) → dstV ops a j = undef)) (hn0 : n0 = true ↔ c0 = w0) (hn1 : n1 = true ↔ c = want)
    (h1 : (n0 && n1) = true → OpRun P o a w φ) (h2 : (n0 && n1) ≠ true → φ undef w) : OpOK P ops o a w φ := by
  by_cases e0 : c0 = w0
  · refine ok_guard hg (hj.1 e0) (fun e => h1 (by rw [hn0.2 e0, hn1.2 e]; rfl)) (fun e => h2 (fun h => e (hn1.1 (and_r h))))
  · have e1 : c0 = (!w0) := by cases c0 <;> cases w0 <;> simp_all
    have hu := hj.2 e1
    refine .inr ⟨?_, h2 (fun h => e0 (hn0.1 (and_l h)))⟩
    have hy : yielded ops a.tmps j = none := by
      unfold dstV at hu
      unfold yielded
      cases hd : (ops[j]?).bind (·.dst) with
      | none => rfl
      | some d =>
        rw [hd] at hu
        simp only [Act.at, Array.getD_eq_getD_getElem?] at hu
        simp only [Option.bind_some]
        cases ht : a.tmps[d]? with
        | none => rfl
        | some v => rw [ht] at hu; simp at hu; rw [hu]; rfl
    simp [Region.wanted, hg, hy]
theorem OwnStrs.ext {B : Nat} {l : List ByteArray} {w w' : World} {v : Value} (h : OwnStrs B l w v) (he : Ext w w') : OwnStrs B l w' v := by
  refine ⟨h.1, h.2.imp id ?_⟩
  rintro ⟨g, cap, cur, e1, e2, e3, e4⟩
  exact ⟨g, cap, cur, e1, e2, he.row e3, e4⟩
theorem OwnStrs.lower {B : Nat} {l : List ByteArray} {w : World} {v : Value} (h : OwnStrs B l w v) : OwnStrs 0 l w v := by
  refine ⟨h.1, h.2.imp id ?_⟩
  rintro ⟨g, cap, cur, e1, e2, e3, e4⟩
  exact ⟨g, cap, cur, e1, Nat.zero_le _, e3, e4⟩
theorem OwnStrs.setRow {B b : Nat} {l : List ByteArray} {w : World} {v : Value} {old cs : Array Value} {t : TypeId} (h : OwnStrs B l w v) (hr : w.heap[b]? = some (.cells old t (0, 0))) (ht : (t == 9) = false) : OwnStrs B l (w.setRow b cs) v := by
  refine ⟨h.1, h.2.imp id ?_⟩
  rintro ⟨g, cap, cur, e1, e2, e3, e4⟩
  refine ⟨g, cap, cur, e1, e2, row_other e3 (fun e => ?_), e4⟩
  subst e
  rw [hr] at e3
  simp only [Option.some.injEq, Obj.cells.injEq] at e3
  rw [e3.2.1] at ht
  simp at ht
/-- A message by value. -/
def IsMsg (m : Msg) (v : Value) (w : World) : Prop := ∃ hv, v = .agg (msgC m hv) ∧ StrsAt w hv m.hops
theorem stab_msg (m : Msg) : Stab (IsMsg m) := fun _ _ _ h ⟨hv, e, s⟩ => ⟨hv, e, s.below h⟩
/-- .. with hops of the call's own. -/
def IsOwn (m : Msg) (v : Value) (w : World) : Prop := ∃ hv, v = .agg (msgC m hv) ∧ OwnStrs 0 m.hops w hv
theorem stab_own (m : Msg) : Stab (IsOwn m) := fun _ _ _ h ⟨hv, e, s⟩ => ⟨hv, e, s.ext h⟩
theorem IsOwn.msg {m : Msg} {v : Value} {w : World} (h : IsOwn m v w) : IsMsg m v w := by
  obtain ⟨hv, e, s⟩ := h
  exact ⟨hv, e, s.strsAt⟩
def IsStrs (l : List ByteArray) (v : Value) (w : World) : Prop := StrsAt w v l
theorem stab_strs (l : List ByteArray) : Stab (IsStrs l) := fun _ _ _ h s => StrsAt.below s h
theorem own_cell {m : Msg} {hv : Value} {w : World} (h : OwnStrs 0 m.hops w hv) : ((msgC m hv).all (·.oneCell')) = true := by
  obtain ⟨a, c, rfl⟩ := ownStrs_len h
  simp [msgC, Value.oneCell']
theorem strs_cell {m : Msg} {hv : Value} {w : World} (h : StrsAt w hv m.hops) : ((msgC m hv).all (·.oneCell')) = true := by
  obtain ⟨a, c, h⟩ := h.slice
  have : hv = .slice a m.hops.length c := by rcases h with h | h <;> exact h.1
  subst this
  simp [msgC, Value.oneCell']
theorem to_e {m : Msg} {v : Value} {w : World} (hf : m.Fits) (h : IsMsg m v w) : Calls Tryd.prog 9 #[v] w (Ret (IsOwn (toM m)) w) := by
  obtain ⟨hv, rfl, s⟩ := h
  exact (to_c m hv w hf s).mono fun _ _ ⟨_, e, o, b⟩ => ⟨_, e, b, _, rfl, o.lower⟩
end Go.Proofs.YtfcfddfjifofgaaDoor
