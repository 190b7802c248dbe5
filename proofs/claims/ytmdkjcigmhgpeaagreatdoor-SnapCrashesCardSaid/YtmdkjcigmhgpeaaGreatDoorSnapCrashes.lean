/- The walk of SnapCrashes, its three ways together. -/
import Derived.Test.YtmdkjcigmhgpeaaGreatDoorSnapCrA
import Derived.Test.YtmdkjcigmhgpeaaGreatDoorSnapCrB
import Derived.Test.YtmdkjcigmhgpeaaGreatDoorSnapCrC
namespace Go.Proofs.YtmdkjcigmhgpeaaGreatDoor
open Go.RowKit Snp SealMath Dsk

theorem snapcrashes_any (a : Option Addr) (c : Nat) (xs : List AS) (hN : xs.length ≤ 140737488355328) (hok : ∀ x ∈ xs, ASok x) (x : AS) (ad : Option Addr) (cd : Nat) (hxk : ASok x) (m : Nat) (hm : m < 256) (ak : Option Addr) (ck : Nat) (ks : List Int) (hkN : ks.length ≤ 140737488355328) (hkb : ∀ k ∈ ks, I64 k)
    (w : World) (hnb : Nibs w) (hs : ActsSAt w a xs) (hx : ActSV w x ad cd) (hks : IntsAt w ak ks) :
    Calls Tryz.prog 6 #[.slice a xs.length c, .agg #[.int .i64 x.n, .slice ad x.data.length cd], .int .u8 (m : Nat), .slice ak ks.length ck] w fun e w' => e = .returned (.bool true) ∧ Ext w w' := by
  by_cases hA : WayA xs x m ks
  · exact snapcra_any a c xs hN hok x ad cd hxk m hm ak ck ks hkN hkb w hnb hs hx hks hA
  by_cases hB : WayB xs
  · exact snapcrb_any a c xs hN hok x ad cd hxk m hm ak ck ks hkN hkb w hnb hs hx hks ⟨hA, hB⟩
  · exact snapcrc_any a c xs hN hok x ad cd hxk m hm ak ck ks hkN hkb w hnb hs hx hks ⟨hA, hB⟩
end Go.Proofs.YtmdkjcigmhgpeaaGreatDoor
