/-
  DERIVED. GIVEN WITH THE SEED: THE CARDS: each row of YtmdkjcigmhgpeaaGreatDoorRows.lean that lists a variable, with what it lists TIED to the program's text (the seventh form; the later family's looks); each row that meets fmt, with fmt's text TOLD by the authors' own Lean function (tested against real Go, not proved from fmt's source: count such statements apart). THE CARD IS WHAT COUNTS. Prove the row's statement (the work); the ties are given (YtmdkjcigmhgpeaaGreatDoorTie.lean); close each card by the builder's one call (the guide's Derived/Test/ToyasCard.lean, 'card_holds'). Laid BY PROGRAM, IN A SANDBOX (cutbox-door.mjs). By AI agents, Wed Nov 11 2026. No macro, syntax, notation, axiom, sorry.
-/
import Derived.Test.YtmdkjcigmhgpeaaGreatDoorRows
import GoSem.ClaimSeven
namespace Go.Proofs.YtmdkjcigmhgpeaaGreatDoor
namespace Rows

/-- THE TIED CARD OF 'affluxlaw26.SnapLong'. -/
def snapLongCard : Claim7 := { stood := { row := snapLongRow, standIns := [], harness := (true, "7f60f649f3fd0ac5f00429f7e23897299af536c09a805f7cacd1317e45bee9ee"), looks := false }, kinds := [], alts := [], laidByText := true, laidKinds := [.data], laidTests := true, laidLooks := .later }
def SnapLongCardSaid : Prop := Claim7.holds Tryz.pinned (.plain (OpenSpec.ofChange snapLongSpec)) snapLongCard

/-- THE TIED CARD OF 'affluxlaw26.SnapNone'. -/
def snapNoneCard : Claim7 := { stood := { row := snapNoneRow, standIns := [], harness := (true, "7f60f649f3fd0ac5f00429f7e23897299af536c09a805f7cacd1317e45bee9ee"), looks := false }, kinds := [], alts := [], laidByText := true, laidKinds := [.data], laidTests := true, laidLooks := .later }
def SnapNoneCardSaid : Prop := Claim7.holds Tryz.pinned (.plain (OpenSpec.ofChange snapNoneSpec)) snapNoneCard

/-- THE TIED CARD OF 'affluxlaw26.SnapLoads'. -/
def snapLoadsCard : Claim7 := { stood := { row := snapLoadsRow, standIns := [], harness := (true, "7f60f649f3fd0ac5f00429f7e23897299af536c09a805f7cacd1317e45bee9ee"), looks := false }, kinds := [], alts := [], laidByText := true, laidKinds := [.data], laidTests := true, laidLooks := .later }
def SnapLoadsCardSaid : Prop := Claim7.holds Tryz.pinned (.plain (OpenSpec.ofChange snapLoadsSpec)) snapLoadsCard

/-- THE TIED CARD OF 'affluxlaw26.SnapCrashes'. -/
def snapCrashesCard : Claim7 := { stood := { row := snapCrashesRow, standIns := [], harness := (true, "7f60f649f3fd0ac5f00429f7e23897299af536c09a805f7cacd1317e45bee9ee"), looks := false }, kinds := [], alts := [], laidByText := true, laidKinds := [.data], laidTests := true, laidLooks := .later }
def SnapCrashesCardSaid : Prop := Claim7.holds Tryz.pinned (.plain (OpenSpec.ofChange snapCrashesSpec)) snapCrashesCard

/-- THE TIED CARD OF 'affluxlaw07.WalFull'. -/
def walFullCard : Claim7 := { stood := { row := walFullRow, standIns := [], harness := (true, "7f60f649f3fd0ac5f00429f7e23897299af536c09a805f7cacd1317e45bee9ee"), looks := false }, kinds := [], alts := [], laidByText := true, laidKinds := [.data, .data, .pinned], laidTests := true, laidLooks := .later }
def WalFullCardSaid : Prop := Claim7.holds Tryz.pinned (.plain (OpenSpec.ofChange walFullSpec)) walFullCard

/-- THE TIED CARD OF 'affluxlaw07.WalLong'. -/
def walLongCard : Claim7 := { stood := { row := walLongRow, standIns := [], harness := (true, "7f60f649f3fd0ac5f00429f7e23897299af536c09a805f7cacd1317e45bee9ee"), looks := false }, kinds := [], alts := [], laidByText := true, laidKinds := [.data, .data, .pinned], laidTests := true, laidLooks := .later }
def WalLongCardSaid : Prop := Claim7.holds Tryz.pinned (.plain (OpenSpec.ofChange walLongSpec)) walLongCard

/-- THE TIED CARD OF 'affluxlaw07.WalOpens'. -/
def walOpensCard : Claim7 := { stood := { row := walOpensRow, standIns := [], harness := (true, "7f60f649f3fd0ac5f00429f7e23897299af536c09a805f7cacd1317e45bee9ee"), looks := false }, kinds := [], alts := [], laidByText := true, laidKinds := [.data, .data, .pinned], laidTests := true, laidLooks := .later }
def WalOpensCardSaid : Prop := Claim7.holds Tryz.pinned (.plain (OpenSpec.ofChange walOpensSpec)) walOpensCard

/-- THE TIED CARD OF 'affluxlaw07.WalPlays'. -/
def walPlaysCard : Claim7 := { stood := { row := walPlaysRow, standIns := [], harness := (true, "7f60f649f3fd0ac5f00429f7e23897299af536c09a805f7cacd1317e45bee9ee"), looks := false }, kinds := [], alts := [], laidByText := true, laidKinds := [.data, .data, .pinned], laidTests := true, laidLooks := .later }
def WalPlaysCardSaid : Prop := Claim7.holds Tryz.pinned (.plain (OpenSpec.ofChange walPlaysSpec)) walPlaysCard

/-- THE TIED CARD OF 'affluxlaw07.WalCrashes'. -/
def walCrashesCard : Claim7 := { stood := { row := walCrashesRow, standIns := [], harness := (true, "7f60f649f3fd0ac5f00429f7e23897299af536c09a805f7cacd1317e45bee9ee"), looks := false }, kinds := [], alts := [], laidByText := true, laidKinds := [.data, .data, .pinned], laidTests := true, laidLooks := .later }
def WalCrashesCardSaid : Prop := Claim7.holds Tryz.pinned (.plain (OpenSpec.ofChange walCrashesSpec)) walCrashesCard

/-- THE TIED CARD OF 'affluxlaw07.WalNone'. -/
def walNoneCard : Claim7 := { stood := { row := walNoneRow, standIns := [], harness := (true, "7f60f649f3fd0ac5f00429f7e23897299af536c09a805f7cacd1317e45bee9ee"), looks := false }, kinds := [], alts := [], laidByText := true, laidKinds := [.data, .data, .pinned], laidTests := true, laidLooks := .later }
def WalNoneCardSaid : Prop := Claim7.holds Tryz.pinned (.plain (OpenSpec.ofChange walNoneSpec)) walNoneCard

/-- THE SECOND FORM's CARD OF 'affluxlaw26.SnapLong'. -/
def snapLongUptoCard : Claim7 := { stood := { row := snapLongUptoRow, standIns := [], harness := (true, "7f60f649f3fd0ac5f00429f7e23897299af536c09a805f7cacd1317e45bee9ee"), looks := false }, kinds := [], alts := [], laidByText := true, laidKinds := [.data], laidTests := true, laidLooks := .later }
def SnapLongUptoCardSaid : Prop := Claim7.holds Tryz.pinned (.plain (OpenSpec.upto snapLongSpec)) snapLongUptoCard

/-- THE SECOND FORM's CARD OF 'affluxlaw26.SnapNone'. -/
def snapNoneUptoCard : Claim7 := { stood := { row := snapNoneUptoRow, standIns := [], harness := (true, "7f60f649f3fd0ac5f00429f7e23897299af536c09a805f7cacd1317e45bee9ee"), looks := false }, kinds := [], alts := [], laidByText := true, laidKinds := [.data], laidTests := true, laidLooks := .later }
def SnapNoneUptoCardSaid : Prop := Claim7.holds Tryz.pinned (.plain (OpenSpec.upto snapNoneSpec)) snapNoneUptoCard

/-- THE SECOND FORM's CARD OF 'affluxlaw26.SnapLoads'. -/
def snapLoadsUptoCard : Claim7 := { stood := { row := snapLoadsUptoRow, standIns := [], harness := (true, "7f60f649f3fd0ac5f00429f7e23897299af536c09a805f7cacd1317e45bee9ee"), looks := false }, kinds := [], alts := [], laidByText := true, laidKinds := [.data], laidTests := true, laidLooks := .later }
def SnapLoadsUptoCardSaid : Prop := Claim7.holds Tryz.pinned (.plain (OpenSpec.upto snapLoadsSpec)) snapLoadsUptoCard

/-- THE SECOND FORM's CARD OF 'affluxlaw26.SnapCrashes'. -/
def snapCrashesUptoCard : Claim7 := { stood := { row := snapCrashesUptoRow, standIns := [], harness := (true, "7f60f649f3fd0ac5f00429f7e23897299af536c09a805f7cacd1317e45bee9ee"), looks := false }, kinds := [], alts := [], laidByText := true, laidKinds := [.data], laidTests := true, laidLooks := .later }
def SnapCrashesUptoCardSaid : Prop := Claim7.holds Tryz.pinned (.plain (OpenSpec.upto snapCrashesSpec)) snapCrashesUptoCard

/-- THE SECOND FORM's CARD OF 'affluxlaw07.WalFull'. -/
def walFullUptoCard : Claim7 := { stood := { row := walFullUptoRow, standIns := [], harness := (true, "7f60f649f3fd0ac5f00429f7e23897299af536c09a805f7cacd1317e45bee9ee"), looks := false }, kinds := [], alts := [], laidByText := true, laidKinds := [.data, .data, .pinned], laidTests := true, laidLooks := .later }
def WalFullUptoCardSaid : Prop := Claim7.holds Tryz.pinned (.plain (OpenSpec.upto walFullSpec)) walFullUptoCard

/-- THE SECOND FORM's CARD OF 'affluxlaw07.WalLong'. -/
def walLongUptoCard : Claim7 := { stood := { row := walLongUptoRow, standIns := [], harness := (true, "7f60f649f3fd0ac5f00429f7e23897299af536c09a805f7cacd1317e45bee9ee"), looks := false }, kinds := [], alts := [], laidByText := true, laidKinds := [.data, .data, .pinned], laidTests := true, laidLooks := .later }
def WalLongUptoCardSaid : Prop := Claim7.holds Tryz.pinned (.plain (OpenSpec.upto walLongSpec)) walLongUptoCard

/-- THE SECOND FORM's CARD OF 'affluxlaw07.WalOpens'. -/
def walOpensUptoCard : Claim7 := { stood := { row := walOpensUptoRow, standIns := [], harness := (true, "7f60f649f3fd0ac5f00429f7e23897299af536c09a805f7cacd1317e45bee9ee"), looks := false }, kinds := [], alts := [], laidByText := true, laidKinds := [.data, .data, .pinned], laidTests := true, laidLooks := .later }
def WalOpensUptoCardSaid : Prop := Claim7.holds Tryz.pinned (.plain (OpenSpec.upto walOpensSpec)) walOpensUptoCard

/-- THE SECOND FORM's CARD OF 'affluxlaw07.WalPlays'. -/
def walPlaysUptoCard : Claim7 := { stood := { row := walPlaysUptoRow, standIns := [], harness := (true, "7f60f649f3fd0ac5f00429f7e23897299af536c09a805f7cacd1317e45bee9ee"), looks := false }, kinds := [], alts := [], laidByText := true, laidKinds := [.data, .data, .pinned], laidTests := true, laidLooks := .later }
def WalPlaysUptoCardSaid : Prop := Claim7.holds Tryz.pinned (.plain (OpenSpec.upto walPlaysSpec)) walPlaysUptoCard

/-- THE SECOND FORM's CARD OF 'affluxlaw07.WalCrashes'. -/
def walCrashesUptoCard : Claim7 := { stood := { row := walCrashesUptoRow, standIns := [], harness := (true, "7f60f649f3fd0ac5f00429f7e23897299af536c09a805f7cacd1317e45bee9ee"), looks := false }, kinds := [], alts := [], laidByText := true, laidKinds := [.data, .data, .pinned], laidTests := true, laidLooks := .later }
def WalCrashesUptoCardSaid : Prop := Claim7.holds Tryz.pinned (.plain (OpenSpec.upto walCrashesSpec)) walCrashesUptoCard

/-- THE SECOND FORM's CARD OF 'affluxlaw07.WalNone'. -/
def walNoneUptoCard : Claim7 := { stood := { row := walNoneUptoRow, standIns := [], harness := (true, "7f60f649f3fd0ac5f00429f7e23897299af536c09a805f7cacd1317e45bee9ee"), looks := false }, kinds := [], alts := [], laidByText := true, laidKinds := [.data, .data, .pinned], laidTests := true, laidLooks := .later }
def WalNoneUptoCardSaid : Prop := Claim7.holds Tryz.pinned (.plain (OpenSpec.upto walNoneSpec)) walNoneUptoCard
end Rows
end Go.Proofs.YtmdkjcigmhgpeaaGreatDoor
