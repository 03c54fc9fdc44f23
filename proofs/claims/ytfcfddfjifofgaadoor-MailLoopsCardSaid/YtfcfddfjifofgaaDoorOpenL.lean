/- Opening a list of strings that came in. -/
import Derived.Test.YtfcfddfjifofgaaDoorOpen
import Derived.OpenShut
import Derived.LaidMore
namespace Go.Proofs.YtfcfddfjifofgaaDoor
open Go.ChangeShapes Go.WideShapes Go.ChangeAt Go.WideMaps Go.WideElems Go.RowKit Go.Deep
variable {H : Type} {enc : TypeId × Value → H} {W : World} {base : Nat} {spare : Nat → Bool} {held : Bool}
set_option maxRecDepth 100000 in
theorem open_strsV {v : Value} {d : DataW H} {p : List MemPlace} {r : Reach} (hv : Value.okWide Tryd.prog W r base 24 v) (h : DataW.Trod enc Tryd.prog W 0 spare held 24 v d p) :
    ∃ l, StrsAt W v l ∧ l.length ≤ maxLen ∧ ∀ s ∈ l, s.size ≤ maxLen := by
  obtain ⟨a, len, cap, rfl⟩ := okWide_slice Tryd.underlying24 hv
  obtain ⟨fuel, hf⟩ := h
  obtain ⟨hv', l, e, h1, h2, h3⟩ := open_strsL hf
  simp [Value.cells] at e
  subst e
  exact ⟨l, h1, h2, h3⟩
end Go.Proofs.YtfcfddfjifofgaaDoor
