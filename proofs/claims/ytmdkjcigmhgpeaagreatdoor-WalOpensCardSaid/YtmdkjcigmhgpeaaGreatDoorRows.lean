/-
  NARROWER THAN 'FOR EVERY INPUT', by the rows' own cells (each row's printed sentence says how): SnapLong: laid · SnapNone: laid · SnapLoads: laid · SnapCrashes: laid · WalFull: laid · WalLong: laid · WalOpens: laid · WalPlays: laid · WalCrashes: laid · WalNone: laid.
  DERIVED. THE GIVEN ROWS OF THIS SEAT. 10 by the template 'for every input the law returns true; each argument reads behind the call as it read before'; 0 by the template 'total and deterministic' (their statements: YtmdkjcigmhgpeaaGreatDoorTotals.lean).
  GIVEN WITH THE SEED: the statements are not yours to turn. If you find one false, say at which input.
  Laid BY PROGRAM, IN A SANDBOX (cutbox-rows.mjs): the forced cells as the released guide's own fill.sh prints them over the translation 93fc02a8858f39f4… (all of the seat's roots in one cut). By AI agents, Wed Nov 11 2026. No macro, syntax, notation, axiom, sorry.
-/
import Derived.Test.YtmdkjcigmhgpeaaGreatDoorChecked
import GoSem.PinnedTables
import GoSem.Claim
import GoSem.ClaimJoined
import GoSem.ClaimMapViews
import Derived.JoinedTies
import Derived.KernelRfl
namespace Go.Proofs.YtmdkjcigmhgpeaaGreatDoor
/- THE CELL 'sum', in the pinned program and in every row, IS THE sha256 OF THE DUMP (.gsa) THAT YtmdkjcigmhgpeaaGreatDoorProg.lean LOADS. Nothing in Lean hashes anything: it is a label: what it is worth is what the hold of that sum in a sandbox is worth. -/
noncomputable def Tryz.pinned : Pinned := { name := "ytmdkjcigmhgpeaagreatdoor", sum := "93fc02a8858f39f48223ff1b3663146b27fc7f3e84a14a12581011a3c462e55a", checked := Tryz.checked }
namespace Rows
def none {H : Type} : Left H := { results := [], args := [] }

/- WHAT THE LISTED PACKAGE-LEVEL VARIABLES READ AS WHEN THE CALL BEGINS. Each datum BY PROGRAM (the guide's laid-datum.mjs) off the statement by which the dump's own 'gosem.cut.vars' lays the variable. In a bare row this is a premise. The card (YtmdkjcigmhgpeaaGreatDoorCards.lean) ties it to the program's text. -/
def laid_afflux_seal_nibbles {H : Type} : DataW H := .agg [.lit (.int .u64 0), .lit (.int .u64 9051005139383707209), .lit (.int .u64 18102010278767414418), .lit (.int .u64 9704381199536204507), .lit (.int .u64 7257036000092981153), .lit (.int .u64 1814259000023245288), .lit (.int .u64 11493583972846619443), .lit (.int .u64 16292555063049989498), .lit (.int .u64 14514072000185962306), .lit (.int .u64 13040162471224305931), .lit (.int .u64 3628518000046490576), .lit (.int .u64 5746791986423309721), .lit (.int .u64 12527462061959317731), .lit (.int .u64 15006518869663149738), .lit (.int .u64 6263731030979658865), .lit (.int .u64 3131865515489829432)]
def laid_unicode_utf8_acceptRanges {H : Type} : DataW H := .agg [.agg [.lit (.int .u8 128), .lit (.int .u8 191)], .agg [.lit (.int .u8 160), .lit (.int .u8 191)], .agg [.lit (.int .u8 128), .lit (.int .u8 159)], .agg [.lit (.int .u8 144), .lit (.int .u8 191)], .agg [.lit (.int .u8 128), .lit (.int .u8 143)], .agg [.lit (.int .u8 0), .lit (.int .u8 0)], .agg [.lit (.int .u8 0), .lit (.int .u8 0)], .agg [.lit (.int .u8 0), .lit (.int .u8 0)], .agg [.lit (.int .u8 0), .lit (.int .u8 0)], .agg [.lit (.int .u8 0), .lit (.int .u8 0)], .agg [.lit (.int .u8 0), .lit (.int .u8 0)], .agg [.lit (.int .u8 0), .lit (.int .u8 0)], .agg [.lit (.int .u8 0), .lit (.int .u8 0)], .agg [.lit (.int .u8 0), .lit (.int .u8 0)], .agg [.lit (.int .u8 0), .lit (.int .u8 0)], .agg [.lit (.int .u8 0), .lit (.int .u8 0)]]
/-- One of Go's own tables, pinned by name: the form's constant. -/
def laid_unicode_utf8_first : DataW Unit := Go.Pinned.utf8First

/-- 'affluxlaw26.SnapLong': WHATEVER THE INPUT: true; the input reads as it did. -/
def snapLongSpec : ChangeSpec := { name := "snapLong", fn := fun _ => fun
  | [d] => { results := [.lit (.bool true)], args := [d] }
  | _ => none }
def snapLongRow : OpenClaim := { program := "ytmdkjcigmhgpeaagreatdoor", sum := "93fc02a8858f39f48223ff1b3663146b27fc7f3e84a14a12581011a3c462e55a", func := "afflux/affluxlaw26.SnapLong", spec := "snapLong", inPlace := ["internal/abi.NoEscape", "internal/bytealg.MakeNoZero"], unfollowed := true, recurses := true, named := ["afflux/seal.nibbles"], apart := false, laid := [("afflux/seal.nibbles", laid_afflux_seal_nibbles)] }
def SnapLongSaid : Prop := snapLongRow.holds Tryz.pinned (OpenSpec.ofChange snapLongSpec)

/-- ITS FALSE NEIGHBOUR: 'it returns false'. Refute it at one input. -/
def snapLongWrong : ChangeSpec := { name := "snapLong", fn := fun _ => fun
  | [d] => { results := [.lit (.bool false)], args := [d] }
  | _ => none }
def SnapLongWrongFalsely : Prop := snapLongRow.holds Tryz.pinned (OpenSpec.ofChange snapLongWrong)

/-- 'affluxlaw26.SnapNone': WHATEVER THE INPUT: true; the input reads as it did. -/
def snapNoneSpec : ChangeSpec := { name := "snapNone", fn := fun _ => fun
  | [d1, d2] => { results := [.lit (.bool true)], args := [d1, d2] }
  | _ => none }
def snapNoneRow : OpenClaim := { program := "ytmdkjcigmhgpeaagreatdoor", sum := "93fc02a8858f39f48223ff1b3663146b27fc7f3e84a14a12581011a3c462e55a", func := "afflux/affluxlaw26.SnapNone", spec := "snapNone", inPlace := ["internal/abi.NoEscape", "internal/bytealg.MakeNoZero"], unfollowed := true, recurses := true, named := ["afflux/seal.nibbles"], apart := false, laid := [("afflux/seal.nibbles", laid_afflux_seal_nibbles)] }
def SnapNoneSaid : Prop := snapNoneRow.holds Tryz.pinned (OpenSpec.ofChange snapNoneSpec)

/-- ITS FALSE NEIGHBOUR: 'it returns false'. Refute it at one input. -/
def snapNoneWrong : ChangeSpec := { name := "snapNone", fn := fun _ => fun
  | [d1, d2] => { results := [.lit (.bool false)], args := [d1, d2] }
  | _ => none }
def SnapNoneWrongFalsely : Prop := snapNoneRow.holds Tryz.pinned (OpenSpec.ofChange snapNoneWrong)

/-- 'affluxlaw26.SnapLoads': WHATEVER THE INPUT: true; the input reads as it did. -/
def snapLoadsSpec : ChangeSpec := { name := "snapLoads", fn := fun _ => fun
  | [d1, d2, d3, d4, d5] => { results := [.lit (.bool true)], args := [d1, d2, d3, d4, d5] }
  | _ => none }
def snapLoadsRow : OpenClaim := { program := "ytmdkjcigmhgpeaagreatdoor", sum := "93fc02a8858f39f48223ff1b3663146b27fc7f3e84a14a12581011a3c462e55a", func := "afflux/affluxlaw26.SnapLoads", spec := "snapLoads", inPlace := ["internal/abi.NoEscape", "internal/bytealg.MakeNoZero"], unfollowed := true, recurses := true, named := ["afflux/seal.nibbles"], apart := false, laid := [("afflux/seal.nibbles", laid_afflux_seal_nibbles)] }
def SnapLoadsSaid : Prop := snapLoadsRow.holds Tryz.pinned (OpenSpec.ofChange snapLoadsSpec)

/-- ITS FALSE NEIGHBOUR: 'it returns false'. Refute it at one input. -/
def snapLoadsWrong : ChangeSpec := { name := "snapLoads", fn := fun _ => fun
  | [d1, d2, d3, d4, d5] => { results := [.lit (.bool false)], args := [d1, d2, d3, d4, d5] }
  | _ => none }
def SnapLoadsWrongFalsely : Prop := snapLoadsRow.holds Tryz.pinned (OpenSpec.ofChange snapLoadsWrong)

/-- 'affluxlaw26.SnapCrashes': WHATEVER THE INPUT: true; the input reads as it did. -/
def snapCrashesSpec : ChangeSpec := { name := "snapCrashes", fn := fun _ => fun
  | [d1, d2, d3, d4] => { results := [.lit (.bool true)], args := [d1, d2, d3, d4] }
  | _ => none }
def snapCrashesRow : OpenClaim := { program := "ytmdkjcigmhgpeaagreatdoor", sum := "93fc02a8858f39f48223ff1b3663146b27fc7f3e84a14a12581011a3c462e55a", func := "afflux/affluxlaw26.SnapCrashes", spec := "snapCrashes", inPlace := ["internal/abi.NoEscape", "internal/bytealg.MakeNoZero"], unfollowed := true, recurses := true, named := ["afflux/seal.nibbles"], apart := false, laid := [("afflux/seal.nibbles", laid_afflux_seal_nibbles)] }
def SnapCrashesSaid : Prop := snapCrashesRow.holds Tryz.pinned (OpenSpec.ofChange snapCrashesSpec)

/-- ITS FALSE NEIGHBOUR: 'it returns false'. Refute it at one input. -/
def snapCrashesWrong : ChangeSpec := { name := "snapCrashes", fn := fun _ => fun
  | [d1, d2, d3, d4] => { results := [.lit (.bool false)], args := [d1, d2, d3, d4] }
  | _ => none }
def SnapCrashesWrongFalsely : Prop := snapCrashesRow.holds Tryz.pinned (OpenSpec.ofChange snapCrashesWrong)

/-- 'affluxlaw07.WalFull': WHATEVER THE INPUT: true; the input reads as it did. -/
def walFullSpec : ChangeSpec := { name := "walFull", fn := fun _ => fun
  | [d1, d2] => { results := [.lit (.bool true)], args := [d1, d2] }
  | _ => none }
def walFullRow : OpenClaim := { program := "ytmdkjcigmhgpeaagreatdoor", sum := "93fc02a8858f39f48223ff1b3663146b27fc7f3e84a14a12581011a3c462e55a", func := "afflux/affluxlaw07.WalFull", spec := "walFull", inPlace := ["internal/bytealg.IndexByteString", "internal/bytealg.IndexString", "math/bits.Add64", "internal/abi.NoEscape", "internal/bytealg.MakeNoZero"], unfollowed := true, recurses := true, named := ["unicode/utf8.first", "unicode/utf8.acceptRanges", "afflux/seal.nibbles", "internal/bytealg.MaxLen"], apart := false, laid := [("unicode/utf8.acceptRanges", laid_unicode_utf8_acceptRanges), ("afflux/seal.nibbles", laid_afflux_seal_nibbles), ("unicode/utf8.first", laid_unicode_utf8_first)] }
def WalFullSaid : Prop := walFullRow.holds Tryz.pinned (OpenSpec.ofChange walFullSpec)

/-- ITS FALSE NEIGHBOUR: 'it returns false'. Refute it at one input. -/
def walFullWrong : ChangeSpec := { name := "walFull", fn := fun _ => fun
  | [d1, d2] => { results := [.lit (.bool false)], args := [d1, d2] }
  | _ => none }
def WalFullWrongFalsely : Prop := walFullRow.holds Tryz.pinned (OpenSpec.ofChange walFullWrong)

/-- 'affluxlaw07.WalLong': WHATEVER THE INPUT: true; the input reads as it did. -/
def walLongSpec : ChangeSpec := { name := "walLong", fn := fun _ => fun
  | [d1, d2] => { results := [.lit (.bool true)], args := [d1, d2] }
  | _ => none }
def walLongRow : OpenClaim := { program := "ytmdkjcigmhgpeaagreatdoor", sum := "93fc02a8858f39f48223ff1b3663146b27fc7f3e84a14a12581011a3c462e55a", func := "afflux/affluxlaw07.WalLong", spec := "walLong", inPlace := ["internal/bytealg.IndexByteString", "internal/bytealg.IndexString", "math/bits.Add64", "internal/abi.NoEscape", "internal/bytealg.MakeNoZero"], unfollowed := true, recurses := true, named := ["unicode/utf8.first", "unicode/utf8.acceptRanges", "afflux/seal.nibbles", "internal/bytealg.MaxLen"], apart := false, laid := [("unicode/utf8.acceptRanges", laid_unicode_utf8_acceptRanges), ("afflux/seal.nibbles", laid_afflux_seal_nibbles), ("unicode/utf8.first", laid_unicode_utf8_first)] }
def WalLongSaid : Prop := walLongRow.holds Tryz.pinned (OpenSpec.ofChange walLongSpec)

/-- ITS FALSE NEIGHBOUR: 'it returns false'. Refute it at one input. -/
def walLongWrong : ChangeSpec := { name := "walLong", fn := fun _ => fun
  | [d1, d2] => { results := [.lit (.bool false)], args := [d1, d2] }
  | _ => none }
def WalLongWrongFalsely : Prop := walLongRow.holds Tryz.pinned (OpenSpec.ofChange walLongWrong)

/-- 'affluxlaw07.WalOpens': WHATEVER THE INPUT: true; the input reads as it did. -/
def walOpensSpec : ChangeSpec := { name := "walOpens", fn := fun _ => fun
  | [d1, d2] => { results := [.lit (.bool true)], args := [d1, d2] }
  | _ => none }
def walOpensRow : OpenClaim := { program := "ytmdkjcigmhgpeaagreatdoor", sum := "93fc02a8858f39f48223ff1b3663146b27fc7f3e84a14a12581011a3c462e55a", func := "afflux/affluxlaw07.WalOpens", spec := "walOpens", inPlace := ["internal/bytealg.IndexByteString", "internal/bytealg.IndexString", "math/bits.Add64", "internal/abi.NoEscape", "internal/bytealg.MakeNoZero"], unfollowed := true, recurses := true, named := ["unicode/utf8.first", "unicode/utf8.acceptRanges", "afflux/seal.nibbles", "internal/bytealg.MaxLen"], apart := false, laid := [("unicode/utf8.acceptRanges", laid_unicode_utf8_acceptRanges), ("afflux/seal.nibbles", laid_afflux_seal_nibbles), ("unicode/utf8.first", laid_unicode_utf8_first)] }
def WalOpensSaid : Prop := walOpensRow.holds Tryz.pinned (OpenSpec.ofChange walOpensSpec)

/-- ITS FALSE NEIGHBOUR: 'it returns false'. Refute it at one input. -/
def walOpensWrong : ChangeSpec := { name := "walOpens", fn := fun _ => fun
  | [d1, d2] => { results := [.lit (.bool false)], args := [d1, d2] }
  | _ => none }
def WalOpensWrongFalsely : Prop := walOpensRow.holds Tryz.pinned (OpenSpec.ofChange walOpensWrong)

/-- 'affluxlaw07.WalPlays': WHATEVER THE INPUT: true; the input reads as it did. -/
def walPlaysSpec : ChangeSpec := { name := "walPlays", fn := fun _ => fun
  | [d] => { results := [.lit (.bool true)], args := [d] }
  | _ => none }
def walPlaysRow : OpenClaim := { program := "ytmdkjcigmhgpeaagreatdoor", sum := "93fc02a8858f39f48223ff1b3663146b27fc7f3e84a14a12581011a3c462e55a", func := "afflux/affluxlaw07.WalPlays", spec := "walPlays", inPlace := ["internal/bytealg.IndexByteString", "internal/bytealg.IndexString", "math/bits.Add64", "internal/abi.NoEscape", "internal/bytealg.MakeNoZero"], unfollowed := true, recurses := true, named := ["unicode/utf8.first", "unicode/utf8.acceptRanges", "afflux/seal.nibbles", "internal/bytealg.MaxLen"], apart := false, laid := [("unicode/utf8.acceptRanges", laid_unicode_utf8_acceptRanges), ("afflux/seal.nibbles", laid_afflux_seal_nibbles), ("unicode/utf8.first", laid_unicode_utf8_first)] }
def WalPlaysSaid : Prop := walPlaysRow.holds Tryz.pinned (OpenSpec.ofChange walPlaysSpec)

/-- ITS FALSE NEIGHBOUR: 'it returns false'. Refute it at one input. -/
def walPlaysWrong : ChangeSpec := { name := "walPlays", fn := fun _ => fun
  | [d] => { results := [.lit (.bool false)], args := [d] }
  | _ => none }
def WalPlaysWrongFalsely : Prop := walPlaysRow.holds Tryz.pinned (OpenSpec.ofChange walPlaysWrong)

/-- 'affluxlaw07.WalCrashes': WHATEVER THE INPUT: true; the input reads as it did. -/
def walCrashesSpec : ChangeSpec := { name := "walCrashes", fn := fun _ => fun
  | [d1, d2, d3] => { results := [.lit (.bool true)], args := [d1, d2, d3] }
  | _ => none }
def walCrashesRow : OpenClaim := { program := "ytmdkjcigmhgpeaagreatdoor", sum := "93fc02a8858f39f48223ff1b3663146b27fc7f3e84a14a12581011a3c462e55a", func := "afflux/affluxlaw07.WalCrashes", spec := "walCrashes", inPlace := ["internal/bytealg.IndexByteString", "internal/bytealg.IndexString", "math/bits.Add64", "internal/abi.NoEscape", "internal/bytealg.MakeNoZero"], unfollowed := true, recurses := true, named := ["unicode/utf8.first", "unicode/utf8.acceptRanges", "afflux/seal.nibbles", "internal/bytealg.MaxLen"], apart := false, laid := [("unicode/utf8.acceptRanges", laid_unicode_utf8_acceptRanges), ("afflux/seal.nibbles", laid_afflux_seal_nibbles), ("unicode/utf8.first", laid_unicode_utf8_first)] }
def WalCrashesSaid : Prop := walCrashesRow.holds Tryz.pinned (OpenSpec.ofChange walCrashesSpec)

/-- ITS FALSE NEIGHBOUR: 'it returns false'. Refute it at one input. -/
def walCrashesWrong : ChangeSpec := { name := "walCrashes", fn := fun _ => fun
  | [d1, d2, d3] => { results := [.lit (.bool false)], args := [d1, d2, d3] }
  | _ => none }
def WalCrashesWrongFalsely : Prop := walCrashesRow.holds Tryz.pinned (OpenSpec.ofChange walCrashesWrong)

/-- 'affluxlaw07.WalNone': WHATEVER THE INPUT: true; the input reads as it did. -/
def walNoneSpec : ChangeSpec := { name := "walNone", fn := fun _ => fun
  | [d1, d2] => { results := [.lit (.bool true)], args := [d1, d2] }
  | _ => none }
def walNoneRow : OpenClaim := { program := "ytmdkjcigmhgpeaagreatdoor", sum := "93fc02a8858f39f48223ff1b3663146b27fc7f3e84a14a12581011a3c462e55a", func := "afflux/affluxlaw07.WalNone", spec := "walNone", inPlace := ["internal/bytealg.IndexByteString", "internal/bytealg.IndexString", "math/bits.Add64", "internal/abi.NoEscape", "internal/bytealg.MakeNoZero"], unfollowed := true, recurses := true, named := ["unicode/utf8.first", "unicode/utf8.acceptRanges", "afflux/seal.nibbles", "internal/bytealg.MaxLen"], apart := false, laid := [("unicode/utf8.acceptRanges", laid_unicode_utf8_acceptRanges), ("afflux/seal.nibbles", laid_afflux_seal_nibbles), ("unicode/utf8.first", laid_unicode_utf8_first)] }
def WalNoneSaid : Prop := walNoneRow.holds Tryz.pinned (OpenSpec.ofChange walNoneSpec)

/-- ITS FALSE NEIGHBOUR: 'it returns false'. Refute it at one input. -/
def walNoneWrong : ChangeSpec := { name := "walNone", fn := fun _ => fun
  | [d1, d2] => { results := [.lit (.bool false)], args := [d1, d2] }
  | _ => none }
def WalNoneWrongFalsely : Prop := walNoneRow.holds Tryz.pinned (OpenSpec.ofChange walNoneWrong)

/- THE SECOND FORM. 'bulk': how many values and letters a reading holds, each counted each time it is reached (what is shared counts as often as it is met; a slice's spare places count too). A statement '..UptoSaid' is the law's where the arguments, and the package variables that the reading takes, are together of bulk at most 1048576: NARROWER than '..Said'. Prove '..Said' where nothing that the law and all that it calls make is longer than what came in: it says more and counts as full. Else prove '..UptoSaid'. A law counts once. -/
mutual
def uptoBulk {H : Type} : DataW H → Nat
  | .lit (.string bytes) => bytes.length + 1
  | .lit _ => 1
  | .nil => 1
  | .ptr d => uptoBulk d + 1
  | .slice elems spare => uptoBulkAll elems + uptoBulkAll spare + 1
  | .agg parts => uptoBulkAll parts + 1
  | .iface _ d => uptoBulk d + 1
  | .map entries => uptoBulkEntries entries + 1
  | .held _ => 1
def uptoBulkAll {H : Type} : List (DataW H) → Nat
  | [] => 0
  | d :: r => uptoBulk d + uptoBulkAll r
def uptoBulkEntries {H : Type} : List (Lit × DataW H) → Nat
  | [] => 0
  | x :: r => uptoBulkEntry x + uptoBulkEntries r
def uptoBulkEntry {H : Type} : Lit × DataW H → Nat
  | (.string bytes, d) => bytes.length + uptoBulk d + 1
  | (_, d) => uptoBulk d + 1
 end
def uptoSmall : (H : Type) → List (DataW H) → Bool := fun _ ds => decide (uptoBulkAll ds ≤ 1048576)
def OpenSpec.upto (s : _root_.Go.ChangeSpec) : _root_.Go.OpenSpec := { _root_.Go.OpenSpec.ofChange s with cond := some uptoSmall }

/-- 'affluxlaw26.SnapLong', WHERE WHAT IT READS IS OF BULK AT MOST 1048576: true; the input reads as it did. -/
def snapLongUptoRow : OpenClaim := { program := "ytmdkjcigmhgpeaagreatdoor", sum := "93fc02a8858f39f48223ff1b3663146b27fc7f3e84a14a12581011a3c462e55a", func := "afflux/affluxlaw26.SnapLong", spec := "snapLong", inPlace := ["internal/abi.NoEscape", "internal/bytealg.MakeNoZero"], unfollowed := true, recurses := true, named := ["afflux/seal.nibbles"], apart := false, laid := [("afflux/seal.nibbles", laid_afflux_seal_nibbles)], narrowed := true }
def SnapLongUptoSaid : Prop := snapLongUptoRow.holds Tryz.pinned (OpenSpec.upto snapLongSpec)

/-- 'affluxlaw26.SnapNone', WHERE WHAT IT READS IS OF BULK AT MOST 1048576: true; the input reads as it did. -/
def snapNoneUptoRow : OpenClaim := { program := "ytmdkjcigmhgpeaagreatdoor", sum := "93fc02a8858f39f48223ff1b3663146b27fc7f3e84a14a12581011a3c462e55a", func := "afflux/affluxlaw26.SnapNone", spec := "snapNone", inPlace := ["internal/abi.NoEscape", "internal/bytealg.MakeNoZero"], unfollowed := true, recurses := true, named := ["afflux/seal.nibbles"], apart := false, laid := [("afflux/seal.nibbles", laid_afflux_seal_nibbles)], narrowed := true }
def SnapNoneUptoSaid : Prop := snapNoneUptoRow.holds Tryz.pinned (OpenSpec.upto snapNoneSpec)

/-- 'affluxlaw26.SnapLoads', WHERE WHAT IT READS IS OF BULK AT MOST 1048576: true; the input reads as it did. -/
def snapLoadsUptoRow : OpenClaim := { program := "ytmdkjcigmhgpeaagreatdoor", sum := "93fc02a8858f39f48223ff1b3663146b27fc7f3e84a14a12581011a3c462e55a", func := "afflux/affluxlaw26.SnapLoads", spec := "snapLoads", inPlace := ["internal/abi.NoEscape", "internal/bytealg.MakeNoZero"], unfollowed := true, recurses := true, named := ["afflux/seal.nibbles"], apart := false, laid := [("afflux/seal.nibbles", laid_afflux_seal_nibbles)], narrowed := true }
def SnapLoadsUptoSaid : Prop := snapLoadsUptoRow.holds Tryz.pinned (OpenSpec.upto snapLoadsSpec)

/-- 'affluxlaw26.SnapCrashes', WHERE WHAT IT READS IS OF BULK AT MOST 1048576: true; the input reads as it did. -/
def snapCrashesUptoRow : OpenClaim := { program := "ytmdkjcigmhgpeaagreatdoor", sum := "93fc02a8858f39f48223ff1b3663146b27fc7f3e84a14a12581011a3c462e55a", func := "afflux/affluxlaw26.SnapCrashes", spec := "snapCrashes", inPlace := ["internal/abi.NoEscape", "internal/bytealg.MakeNoZero"], unfollowed := true, recurses := true, named := ["afflux/seal.nibbles"], apart := false, laid := [("afflux/seal.nibbles", laid_afflux_seal_nibbles)], narrowed := true }
def SnapCrashesUptoSaid : Prop := snapCrashesUptoRow.holds Tryz.pinned (OpenSpec.upto snapCrashesSpec)

/-- 'affluxlaw07.WalFull', WHERE WHAT IT READS IS OF BULK AT MOST 1048576: true; the input reads as it did. -/
def walFullUptoRow : OpenClaim := { program := "ytmdkjcigmhgpeaagreatdoor", sum := "93fc02a8858f39f48223ff1b3663146b27fc7f3e84a14a12581011a3c462e55a", func := "afflux/affluxlaw07.WalFull", spec := "walFull", inPlace := ["internal/bytealg.IndexByteString", "internal/bytealg.IndexString", "math/bits.Add64", "internal/abi.NoEscape", "internal/bytealg.MakeNoZero"], unfollowed := true, recurses := true, named := ["unicode/utf8.first", "unicode/utf8.acceptRanges", "afflux/seal.nibbles", "internal/bytealg.MaxLen"], apart := false, laid := [("unicode/utf8.acceptRanges", laid_unicode_utf8_acceptRanges), ("afflux/seal.nibbles", laid_afflux_seal_nibbles), ("unicode/utf8.first", laid_unicode_utf8_first)], narrowed := true }
def WalFullUptoSaid : Prop := walFullUptoRow.holds Tryz.pinned (OpenSpec.upto walFullSpec)

/-- 'affluxlaw07.WalLong', WHERE WHAT IT READS IS OF BULK AT MOST 1048576: true; the input reads as it did. -/
def walLongUptoRow : OpenClaim := { program := "ytmdkjcigmhgpeaagreatdoor", sum := "93fc02a8858f39f48223ff1b3663146b27fc7f3e84a14a12581011a3c462e55a", func := "afflux/affluxlaw07.WalLong", spec := "walLong", inPlace := ["internal/bytealg.IndexByteString", "internal/bytealg.IndexString", "math/bits.Add64", "internal/abi.NoEscape", "internal/bytealg.MakeNoZero"], unfollowed := true, recurses := true, named := ["unicode/utf8.first", "unicode/utf8.acceptRanges", "afflux/seal.nibbles", "internal/bytealg.MaxLen"], apart := false, laid := [("unicode/utf8.acceptRanges", laid_unicode_utf8_acceptRanges), ("afflux/seal.nibbles", laid_afflux_seal_nibbles), ("unicode/utf8.first", laid_unicode_utf8_first)], narrowed := true }
def WalLongUptoSaid : Prop := walLongUptoRow.holds Tryz.pinned (OpenSpec.upto walLongSpec)

/-- 'affluxlaw07.WalOpens', WHERE WHAT IT READS IS OF BULK AT MOST 1048576: true; the input reads as it did. -/
def walOpensUptoRow : OpenClaim := { program := "ytmdkjcigmhgpeaagreatdoor", sum := "93fc02a8858f39f48223ff1b3663146b27fc7f3e84a14a12581011a3c462e55a", func := "afflux/affluxlaw07.WalOpens", spec := "walOpens", inPlace := ["internal/bytealg.IndexByteString", "internal/bytealg.IndexString", "math/bits.Add64", "internal/abi.NoEscape", "internal/bytealg.MakeNoZero"], unfollowed := true, recurses := true, named := ["unicode/utf8.first", "unicode/utf8.acceptRanges", "afflux/seal.nibbles", "internal/bytealg.MaxLen"], apart := false, laid := [("unicode/utf8.acceptRanges", laid_unicode_utf8_acceptRanges), ("afflux/seal.nibbles", laid_afflux_seal_nibbles), ("unicode/utf8.first", laid_unicode_utf8_first)], narrowed := true }
def WalOpensUptoSaid : Prop := walOpensUptoRow.holds Tryz.pinned (OpenSpec.upto walOpensSpec)

/-- 'affluxlaw07.WalPlays', WHERE WHAT IT READS IS OF BULK AT MOST 1048576: true; the input reads as it did. -/
def walPlaysUptoRow : OpenClaim := { program := "ytmdkjcigmhgpeaagreatdoor", sum := "93fc02a8858f39f48223ff1b3663146b27fc7f3e84a14a12581011a3c462e55a", func := "afflux/affluxlaw07.WalPlays", spec := "walPlays", inPlace := ["internal/bytealg.IndexByteString", "internal/bytealg.IndexString", "math/bits.Add64", "internal/abi.NoEscape", "internal/bytealg.MakeNoZero"], unfollowed := true, recurses := true, named := ["unicode/utf8.first", "unicode/utf8.acceptRanges", "afflux/seal.nibbles", "internal/bytealg.MaxLen"], apart := false, laid := [("unicode/utf8.acceptRanges", laid_unicode_utf8_acceptRanges), ("afflux/seal.nibbles", laid_afflux_seal_nibbles), ("unicode/utf8.first", laid_unicode_utf8_first)], narrowed := true }
def WalPlaysUptoSaid : Prop := walPlaysUptoRow.holds Tryz.pinned (OpenSpec.upto walPlaysSpec)

/-- 'affluxlaw07.WalCrashes', WHERE WHAT IT READS IS OF BULK AT MOST 1048576: true; the input reads as it did. -/
def walCrashesUptoRow : OpenClaim := { program := "ytmdkjcigmhgpeaagreatdoor", sum := "93fc02a8858f39f48223ff1b3663146b27fc7f3e84a14a12581011a3c462e55a", func := "afflux/affluxlaw07.WalCrashes", spec := "walCrashes", inPlace := ["internal/bytealg.IndexByteString", "internal/bytealg.IndexString", "math/bits.Add64", "internal/abi.NoEscape", "internal/bytealg.MakeNoZero"], unfollowed := true, recurses := true, named := ["unicode/utf8.first", "unicode/utf8.acceptRanges", "afflux/seal.nibbles", "internal/bytealg.MaxLen"], apart := false, laid := [("unicode/utf8.acceptRanges", laid_unicode_utf8_acceptRanges), ("afflux/seal.nibbles", laid_afflux_seal_nibbles), ("unicode/utf8.first", laid_unicode_utf8_first)], narrowed := true }
def WalCrashesUptoSaid : Prop := walCrashesUptoRow.holds Tryz.pinned (OpenSpec.upto walCrashesSpec)

/-- 'affluxlaw07.WalNone', WHERE WHAT IT READS IS OF BULK AT MOST 1048576: true; the input reads as it did. -/
def walNoneUptoRow : OpenClaim := { program := "ytmdkjcigmhgpeaagreatdoor", sum := "93fc02a8858f39f48223ff1b3663146b27fc7f3e84a14a12581011a3c462e55a", func := "afflux/affluxlaw07.WalNone", spec := "walNone", inPlace := ["internal/bytealg.IndexByteString", "internal/bytealg.IndexString", "math/bits.Add64", "internal/abi.NoEscape", "internal/bytealg.MakeNoZero"], unfollowed := true, recurses := true, named := ["unicode/utf8.first", "unicode/utf8.acceptRanges", "afflux/seal.nibbles", "internal/bytealg.MaxLen"], apart := false, laid := [("unicode/utf8.acceptRanges", laid_unicode_utf8_acceptRanges), ("afflux/seal.nibbles", laid_afflux_seal_nibbles), ("unicode/utf8.first", laid_unicode_utf8_first)], narrowed := true }
def WalNoneUptoSaid : Prop := walNoneUptoRow.holds Tryz.pinned (OpenSpec.upto walNoneSpec)

end Rows
end Go.Proofs.YtmdkjcigmhgpeaaGreatDoor
