/- What the tied rows of the log's laws give the walks: the table of four bits, out of three tables. -/
import Derived.Test.YtmdkjcigmhgpeaaGreatDoorSealRow
import Derived.LaidSub
import Derived.Lay
namespace Go.Proofs.YtmdkjcigmhgpeaaGreatDoor
open Go.ChangeShapes Go.WideShapes Go.ChangeAt Go.RowKit SealMath

abbrev laidWal : List (String × DataW Unit) := [("unicode/utf8.acceptRanges", Rows.laid_unicode_utf8_acceptRanges), ("afflux/seal.nibbles", Rows.laid_afflux_seal_nibbles), ("unicode/utf8.first", Rows.laid_unicode_utf8_first)]
theorem nibs_of_laidw {W : World} (h : laidMetH Tryz.prog laidWal W) : Nibs W := by
  rw [MakeChecks.laidMetH_plain _ _ _ (by kernel_rfl)] at h
  have h2 : laidMet Tryz.prog (laidWal.filter (fun x => x.1 == "afflux/seal.nibbles")) W := laidMet.filter _ h
  have e : laidWal.filter (fun x => x.1 == "afflux/seal.nibbles") = laidNib := by kernel_rfl
  rw [e] at h2
  refine nibs_of_laid ?_
  rw [MakeChecks.laidMetH_plain _ _ _ (by kernel_rfl)]
  exact h2
end Go.Proofs.YtmdkjcigmhgpeaaGreatDoor
