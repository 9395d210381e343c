/-
  What all rows of this seat lean on: the listed table, met where a call starts, and what it says of the cells.
-/
import Derived.Test.YtfjomnhdmkbkiaaDoorRows
import Derived.Test.YtfjomnhdmkbkiaaDoorChecked
import Derived.ProofKit
import Derived.Test.YtfjomnhdmkbkiaaDoorDgO
namespace Go.Proofs.YtfjomnhdmkbkiaaDoor.Im
open Go.ChangeShapes Go.WideShapes Go.ChangeAt Go.RowKit

theorem seatOwn : ownKnob Tryd.prog.godebug = none := by kernel_rfl
theorem seatLaid : laidOutB Tryd.prog = true := by kernel_rfl
abbrev laidL : List (String × DataW Unit) := [("math/bits.deBruijn64tab", Rows.laid_math_bits_deBruijn64tab)]
theorem gTab : Tryd.prog.globalNamed "math/bits.deBruijn64tab" = some 0 := by kernel_rfl
theorem tTab : (Tryd.prog.globals[0]?).map (·.type) = some 132 := by kernel_rfl
theorem tabD : (Rows.laid_math_bits_deBruijn64tab : DataW Unit) = .agg (Go.Lib.deBruijn64tab.map fun (n : Nat) => .lit (.int .u8 (n : Int))) := by rfl
theorem door_met (os : Os) (args : Array Value) : laidMetH Tryd.prog laidL ((World.doorLaid Tryd.prog 400 os).forCall (fun _ _ => 0) ⟨#[], args, []⟩).memory :=
  laidMetH_of_parts3 (fuel := 8) (laidMet_of_run' 8 (by kernel_rfl) (by kernel_rfl)) (by kernel_rfl) (by kernel_rfl)
theorem of_laid {W : World} (h : laidMetH Tryd.prog laidL W) : Tab W := by
  rw [MakeChecks.laidMetH_plain _ _ _ (by kernel_rfl)] at h
  obtain ⟨ps, ⟨g0, t0, cs0, f0, p0, q0, hg0, ht0, hv0, hd0, _, _⟩, _, _⟩ := h
  obtain rfl := Option.some.inj (gTab.symm.trans hg0)
  obtain rfl := Option.some.inj (tTab.symm.trans ht0)
  rw [tabD] at hd0
  have hc := tab_cells Go.Lib.deBruijn64tab (by decide) hd0
  intro j hj
  have h1 := hc j hj
  have h2 := World.var?_cell hg0 hv0 j
  rw [h2, ← h1]
  simp
end Go.Proofs.YtfjomnhdmkbkiaaDoor.Im
