/- A disk of the call's own: what a law holds of it from use to use. -/
import Derived.Test.YtmdkjcigmhgpeaaGreatDoorDiskCrash
import Derived.Test.YtmdkjcigmhgpeaaGreatDoorDiskAppend
namespace Go.Proofs.YtmdkjcigmhgpeaaGreatDoor
open Go.RowKit Go.Maps Dsk

/-- The blocks from B on that there are. -/
abbrev Mine (B : Nat) (w : World) (b : Nat) : Prop := B ≤ b ∧ b < w.heap.size
/-- A disk in blocks from B on. -/
def Held (B : Nat) (w : World) (d : Nat) (S : DS) : Prop := DiskAt w d S (Mine B w)
theorem Held.of {B : Nat} {w : World} {d : Nat} {S : DS} {F : Nat → Prop} (h : DiskAt w d S F) (hF : ∀ b, F b → B ≤ b) : Held B w d S := h.mono (fun b hb k => ⟨hF b k, hb⟩)
theorem Held.at {B : Nat} {w w' : World} {d : Nat} {S : DS} (h : Held B w d S) (k : Ext w w') : DiskAt w' d S (Mine B w) := DiskAt.ext h k
theorem Held.ext {B : Nat} {w w' : World} {d : Nat} {S : DS} (h : Held B w d S) (k : Ext w w') : Held B w' d S := (DiskAt.ext h k).mono (fun _ hb kk => ⟨kk.1, hb⟩)
theorem Held.left {B : Nat} {w0 w w' : World} {d : Nat} {S : DS} (h : Left (Mine B w0) d w S w') (hB : B ≤ w.heap.size) : Held B w' d S ∧ Below B w w' :=
  ⟨Held.of h.1 (fun b hb => by rcases hb with hb | hb; exact hb.1; omega), h.2.below hB (fun _ hb => hb.1)⟩
theorem Held.moved {B : Nat} {w0 w w' : World} {d : Nat} {S : DS} (h : DiskAt w' d S (Mine B w0)) (ho : Only (Mine B w0) w w') (hB : B ≤ w.heap.size) : Held B w' d S ∧ Below B w w' :=
  ⟨Held.of h (fun _ hb => hb.1), ho.below hB (fun _ hb => hb.1)⟩
theorem new_held (r : Nat) (hr : r ≤ 16777216) (w : World) :
    Calls Tryz.prog 13 #[.int .i64 (r : Nat)] w fun e w' => ∃ d, e = .returned (.pointer (some ⟨d, 0, none⟩)) ∧ Held w.heap.size w' d (new r) ∧ Ext w w' := by
  refine (new_any r hr w).mono ?_
  rintro e w' ⟨d, rfl, hd, hx⟩
  exact ⟨d, rfl, Held.of hd (fun _ hb => hb), hx⟩
/-- Append of texts that lie in a new row. -/
theorem append_held (B d : Nat) (S : DS) (n : ByteArray) (cs : Array Value) (t : TypeId) (xs : List ByteArray) (hn : n.size ≤ 140737488355328) (hN : xs.length ≤ 140737488355328) (hM : ∀ x ∈ xs, x.size ≤ 140737488355328) (hu : S.uses < 4611686018427387904)
    (w : World) (h : Held B w d S) (hB : B ≤ w.heap.size) (hcs : StrsAt (w.alloc (.cells cs t)) (some ⟨w.heap.size, 0, none⟩) xs) :
    Calls Tryz.prog 59 #[.pointer (some ⟨d, 0, none⟩), .string n, .slice (some ⟨w.heap.size, 0, none⟩) xs.length xs.length] (w.alloc (.cells cs t)) fun e w' => e = .returned (.int .i64 ((append S n xs).1 : Nat)) ∧ Held B w' d (append S n xs).2 ∧ Below B w w' := by
  refine (append_any d S (Mine B w) n _ xs.length xs hn hN (Nat.le_refl _) hM hu _ (h.at ((Ext.refl w).alloc _)) hcs (fun bk o e hb => ?_)).mono ?_
  · injection e with e; injection e with e1 _; have := hb.2; omega
  · rintro e w' ⟨rfl, hl⟩
    have := Held.left hl (by simp; omega)
    exact ⟨rfl, this.1, Below.trans (Below.mono ((Ext.refl w).alloc _) hB) this.2⟩
theorem sync_held (B d : Nat) (S : DS) (cs : Array Value) (t : TypeId) (xs : List ByteArray) (hN : xs.length ≤ 140737488355328) (hM : ∀ x ∈ xs, x.size ≤ 140737488355328) (hu : S.uses < 4611686018427387904)
    (w : World) (h : Held B w d S) (hB : B ≤ w.heap.size) (hcs : StrsAt (w.alloc (.cells cs t)) (some ⟨w.heap.size, 0, none⟩) xs) :
    Calls Tryz.prog 20 #[.pointer (some ⟨d, 0, none⟩), .slice (some ⟨w.heap.size, 0, none⟩) xs.length xs.length] (w.alloc (.cells cs t)) fun e w' => e = .returned (.int .i64 ((sync S xs).1 : Nat)) ∧ Held B w' d (sync S xs).2 ∧ Below B w w' := by
  refine (sync_any d S (Mine B w) _ xs.length xs hN hM hu _ (h.at ((Ext.refl w).alloc _)) hcs (fun bk o e hb => ?_)).mono ?_
  · injection e with e; injection e with e1 _; have := hb.2; omega
  · rintro e w' ⟨rfl, h1, h2⟩
    have := Held.moved h1 h2 (by simp; omega)
    exact ⟨rfl, this.1, Below.trans (Below.mono ((Ext.refl w).alloc _) hB) this.2⟩
theorem crash_held (B d : Nat) (S : DS) (k : Int) (hk : -9223372036854775808 ≤ k ∧ k ≤ 9223372036854775807) (t : TypeId) (w : World) (h : Held B w d S) (hB : B ≤ w.heap.size) :
    Calls Tryz.prog 30 #[.pointer (some ⟨d, 0, none⟩), .slice (some ⟨w.heap.size, 0, none⟩) 1 1] (w.alloc (.cells #[.int .i64 k] t)) fun e w' => e = .returned (.tuple #[]) ∧ Held B w' d (crash S [k]) ∧ Below B w w' := by
  refine (crash_any d S (Mine B w) _ 1 [k] (by simp) (fun x hx => by simp at hx; subst hx; exact hk) _ (h.at ((Ext.refl w).alloc _)) (IntsAt.one w k t) (fun bk o e hb => ?_)).mono ?_
  · injection e with e; injection e with e1 _; have := hb.2; omega
  · rintro e w' ⟨rfl, h1, h2⟩
    have := Held.moved h1 h2 (by simp; omega)
    exact ⟨rfl, this.1, Below.trans (Below.mono ((Ext.refl w).alloc _) hB) this.2⟩
theorem rename_held (B d : Nat) (S : DS) (n m : ByteArray) (hn : n.size ≤ 140737488355328) (hm : m.size ≤ 140737488355328) (hu : S.uses < 4611686018427387904) (w : World) (h : Held B w d S) (hB : B ≤ w.heap.size) :
    Calls Tryz.prog 67 #[.pointer (some ⟨d, 0, none⟩), .string n, .string m] w fun e w' => e = .returned (.int .i64 ((rename S n m).1 : Nat)) ∧ Held B w' d (rename S n m).2 ∧ Below B w w' := by
  refine (rename_any d S (Mine B w) n m hn hm hu w h).mono ?_
  rintro e w' ⟨rfl, hl⟩
  exact ⟨rfl, Held.left hl hB⟩

/-! ### the document's example -/
def nA : ByteArray := ⟨#[97]⟩
def aw1 : DS := (append (new 100) nA [⟨#[120]⟩, ⟨#[121]⟩]).2
def aw2 : DS := (sync aw1 [nA]).2
def aw3 : DS := (append aw2 nA [⟨#[122, 119]⟩]).2
def aw4 : DS := crash aw3 [1]
theorem aw1_ok : (append (new 100) nA [⟨#[120]⟩, ⟨#[121]⟩]).1 = 0 := by decide +kernel
theorem aw2_ok : (sync aw1 [nA]).1 = 0 := by decide +kernel
theorem aw3_ok : (append aw2 nA [⟨#[122, 119]⟩]).1 = 0 := by decide +kernel
theorem aw_uses : (new 100).uses = 0 ∧ aw1.uses = 1 ∧ aw2.uses = 2 ∧ aw4.uses = 3 := by decide +kernel
theorem aw_read : (Dsk.read aw4 nA).2 = 0 := by decide +kernel
theorem aw_text : lst (Dsk.read aw4 nA).1 = [120, 121, 122] := by decide +kernel
theorem aw_kept : keptOf aw4 nA = 3 := by decide +kernel
theorem aw_free : free aw4 = 97 := by decide +kernel
end Go.Proofs.YtmdkjcigmhgpeaaGreatDoor
