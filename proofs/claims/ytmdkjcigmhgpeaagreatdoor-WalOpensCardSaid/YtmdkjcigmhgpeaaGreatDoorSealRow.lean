/- What the tied rows of this seat give the walks: the table of four bits. -/
import Derived.Test.YtmdkjcigmhgpeaaGreatDoorRow
import Derived.Test.YtmdkjcigmhgpeaaGreatDoorSealAdd
namespace Go.Proofs.YtmdkjcigmhgpeaaGreatDoor
open Go.ChangeShapes Go.WideShapes Go.ChangeAt Go.RowKit SealMath

theorem gNibbles : Tryz.prog.globalNamed "afflux/seal.nibbles" = some 0 := by kernel_rfl
theorem tNibbles : (Tryz.prog.globals[0]?).map (·.type) = some 219 := by kernel_rfl
def nibNums : List Int := [0, 9051005139383707209, 18102010278767414418, 9704381199536204507, 7257036000092981153, 1814259000023245288, 11493583972846619443, 16292555063049989498, 14514072000185962306, 13040162471224305931, 3628518000046490576, 5746791986423309721, 12527462061959317731, 15006518869663149738, 6263731030979658865, 3131865515489829432]
theorem nibNums_at (i : Nat) (h : i < 16) : nibNums.getD i 0 = (nib i : Int) := by
  have all : ∀ i : Fin 16, nibNums.getD i.val 0 = (nib i.val : Int) := by decide +kernel
  exact all ⟨i, h⟩
abbrev laidNib : List (String × DataW Unit) := [("afflux/seal.nibbles", Rows.laid_afflux_seal_nibbles)]
theorem nibs_of_laid {W : World} (h : laidMetH Tryz.prog laidNib W) : Nibs W := by
  rw [MakeChecks.laidMetH_plain _ _ _ (by kernel_rfl)] at h
  have ht := Lib.tabIs_of_head (k := .u64) (zs := nibNums) gNibbles tNibbles Tryz.underlying219 Tryz.underlying163 (by kernel_rfl) (by kernel_rfl) h
  intro i hi
  rw [ht.cell gNibbles i (by exact hi), nibNums_at i hi]
theorem door_met (os : Os) (args : Array Value) : laidMetH Tryz.prog laidNib ((World.doorLaid Tryz.prog 400 os).forCall (fun _ _ => 0) ⟨#[], args, []⟩).memory :=
  laidMetH_of_parts3 (fuel := 8) (laidMet_of_run' 8 (by kernel_rfl) (by kernel_rfl)) (by kernel_rfl) (by kernel_rfl)
end Go.Proofs.YtmdkjcigmhgpeaaGreatDoor
