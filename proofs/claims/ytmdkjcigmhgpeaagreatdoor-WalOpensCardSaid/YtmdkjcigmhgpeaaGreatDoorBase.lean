/- Words that all walks of this seat use: texts in a slice; what stays behind new memory. -/
import Derived.Test.YtmdkjcigmhgpeaaGreatDoorProg
import Derived.WalkKit
import Derived.WalkSpells
import Derived.WalkLawsBesides
import Derived.Deep.LoopGhost
import Derived.Deep.Light
import Derived.Lib.Hide
import Derived.BigQuiet
import Derived.BigRegion
import Derived.Deep.QuietTactic
import Derived.Deep.RegionHeld3
import Derived.Deep.DeepCutAuto
import Derived.Maps.AppendAt
namespace Go.Proofs.YtmdkjcigmhgpeaaGreatDoor
open Go.RowKit

theorem cell_new (w : World) (cs : Array Value) (t : TypeId) (i : Nat) : (w.alloc (.cells cs t)).cell? ⟨w.heap.size, i, none⟩ = cs[i]? := cell_of_row _ _ _ _ _ _ (heap_alloc_new w _)
theorem frozen_row {w : World} {b : Nat} {cs : Array Value} {t : TypeId} (h : w.heap[b]? = some (.cells cs t (0, 0))) (i : Nat) : w.frozen? ⟨b, i, none⟩ = false := by
  simp [World.frozen?, h]
theorem frozen_new (w : World) (cs : Array Value) (t : TypeId) (i : Nat) : (w.alloc (.cells cs t)).frozen? ⟨w.heap.size, i, none⟩ = false := frozen_row (heap_alloc_new w _) i
/-- The slice at a holds these texts. -/
def StrsAt (w : World) (a : Option Addr) (xs : List ByteArray) : Prop :=
  ∀ (j : Nat) x, xs[j]? = some x → ∃ bk o, a = some ⟨bk, o, none⟩ ∧ bk < w.heap.size ∧ w.cell? ⟨bk, o + j, none⟩ = some (.string x)
/-- Only new memory. -/
abbrev Ext (w w' : World) : Prop := Below w.heap.size w w'

theorem Ext.refl (w : World) : Ext w w := Below.refl _ _
theorem Ext.trans {a b c : World} (h : Ext a b) (k : Ext b c) : Ext a c := Below.trans h (Below.mono k h.size)
theorem Ext.alloc {a w : World} (h : Ext a w) (o : Obj) : Ext a (w.alloc o) := Below.alloc h h.size o
theorem Ext.drew {a w : World} (h : Ext a w) : Ext a w.drew := Below.drew h
theorem Ext.drewN {a w : World} (h : Ext a w) (n : Nat) : Ext a (w.drewN n) := ⟨h.os, h.tape, h.output, h.size, h.block⟩
theorem cell_lt {w : World} {b o : Nat} {v : Value} (h : w.cell? ⟨b, o, none⟩ = some v) : b < w.heap.size := World.block_lt_of_cell? w _ h
theorem Ext.cell {w w' : World} (h : Ext w w') {b o : Nat} {v : Value} (hc : w.cell? ⟨b, o, none⟩ = some v) : w'.cell? ⟨b, o, none⟩ = some v :=
  (Below.cell h (p := ⟨b, o, none⟩) (cell_lt hc)).trans hc
theorem StrsAt.ext {w w' : World} {a : Option Addr} {xs : List ByteArray} (h : StrsAt w a xs) (k : Ext w w') : StrsAt w' a xs := by
  intro j x hj
  obtain ⟨bk, o, rfl, hl, hc⟩ := h j x hj
  exact ⟨bk, o, rfl, Nat.lt_of_lt_of_le hl k.size, k.cell hc⟩
theorem StrsAt.below {B : Nat} {w w' : World} {a : Option Addr} {xs : List ByteArray} (h : StrsAt w a xs) (k : Below B w w') (hB : ∀ bk o, a = some ⟨bk, o, none⟩ → bk < B) : StrsAt w' a xs := by
  intro j x hj
  obtain ⟨bk, o, rfl, hl, hc⟩ := h j x hj
  exact ⟨bk, o, rfl, Nat.lt_of_lt_of_le hl k.size, (Below.cell k (p := ⟨bk, o + j, none⟩) (hB _ _ rfl)).trans hc⟩
theorem StrsAt.nil (w : World) (a : Option Addr) : StrsAt w a [] := by intro j x h; simp at h
theorem StrsAt.take {w : World} {a : Option Addr} {xs : List ByteArray} (h : StrsAt w a xs) (n : Nat) : StrsAt w a (xs.take n) := by
  intro j x hj
  refine h j x ?_
  rw [List.getElem?_take] at hj
  split at hj
  · exact hj
  · cases hj

theorem StrsAt.one (w : World) (x : ByteArray) (t : TypeId) : StrsAt (w.alloc (.cells #[.string x] t)) (some ⟨w.heap.size, 0, none⟩) [x] := by
  intro j y hj
  match j, hj with
  | 0, hj =>
    simp at hj; subst hj
    exact ⟨_, _, rfl, by simp, by rw [cell_new]; rfl⟩
theorem StrsAt.two (w : World) (x y : ByteArray) (t : TypeId) : StrsAt (w.alloc (.cells #[.string x, .string y] t)) (some ⟨w.heap.size, 0, none⟩) [x, y] := by
  intro j z hj
  match j, hj with
  | 0, hj =>
    simp at hj; subst hj
    exact ⟨_, _, rfl, by simp, by rw [cell_new]; rfl⟩
  | 1, hj =>
    simp at hj; subst hj
    exact ⟨_, _, rfl, by simp, by rw [cell_new]; rfl⟩

theorem Ext.grownBy {w w' : World} (h : Ext w w') : w.grownBy w' none := ⟨h.os, h.tape, h.output, h.size, fun k hk _ => h.block k hk⟩
theorem ownsRow_ext {w w' : World} {base : Nat} {e : TypeId} {size : Nat} {v : Value} {n : Nat} {xs : List Value} (h : w.ownsRow base e size v n xs) (k : Ext w w') : w'.ownsRow base e size v n xs :=
  h.kept k.grownBy (by cases v.ownBlock <;> simp)
/-- A slice of texts that the call owns. -/
def OwnStrs (w : World) (base : Nat) (v : Value) (xs : List ByteArray) : Prop := w.ownsRow base 9 1 v xs.length (xs.map Value.string)
theorem OwnStrs.nil (w : World) (base : Nat) : OwnStrs w base (.slice none 0 0) [] := World.ownsRow_nil _ _ _ _
theorem OwnStrs.ext {w w' : World} {base : Nat} {v : Value} {xs : List ByteArray} (h : OwnStrs w base v xs) (k : Ext w w') : OwnStrs w' base v xs := ownsRow_ext h k
theorem OwnStrs.form {w : World} {base : Nat} {v : Value} {xs : List ByteArray} (h : OwnStrs w base v xs) : ∃ a c, v = .slice a xs.length c ∧ xs.length ≤ c ∧ c ≤ maxLen ∧ StrsAt w a xs := by
  have h' := h
  obtain ⟨_, h | ⟨g, cap, cur, rfl, hb, hg, hn, hc, _⟩⟩ := h
  · have : xs = [] := List.eq_nil_of_length_eq_zero h.2
    subst this
    exact ⟨none, 0, h.1, Nat.le_refl _, Nat.zero_le _, StrsAt.nil _ _⟩
  · refine ⟨_, _, rfl, hn, hc, ?_⟩
    intro j x hj
    have := World.ownsRow.cells h' (g := g) rfl j (.string x) (by simp [hj])
    refine ⟨g, 0, rfl, (Array.getElem?_eq_some_iff.1 hg).1, ?_⟩
    rw [← this]
    congr 1
    unfold Addr.add
    split <;> simp_all
theorem info_string : (Tryz.prog.info? 9).map (fun i => (i.zero, i.size, i.bytes)) = some (some (.string ⟨#[]⟩), 1, 16) := by kernel_rfl

/-- A text's bytes. -/
abbrev lst (s : ByteArray) : List UInt8 := s.data.toList
theorem lst_length (s : ByteArray) : (lst s).length = s.size := rfl
theorem lst_append (a b : ByteArray) : lst (a ++ b) = lst a ++ lst b := by unfold lst; rw [ByteArray.data_append, Array.toList_append]
theorem lst_inj {a b : ByteArray} (h : lst a = lst b) : a = b := by
  cases a; cases b; exact congrArg ByteArray.mk (Array.toList_inj.1 h)

theorem map_lst_inj {a b : List ByteArray} (h : a.map lst = b.map lst) : a = b := by
  induction a generalizing b with
  | nil => cases b with | nil => rfl | cons => simp at h
  | cons x a ih =>
    cases b with
    | nil => simp at h
    | cons y b =>
      simp only [List.map_cons, List.cons.injEq] at h
      rw [lst_inj h.1, ih h.2]
/-- The table's type is whole. -/
theorem slice_bytes {w : World} (b off : Nat) (xs : List Int) (len cap : Nat) (hlen : xs.length = len) (hcell : ∀ i, i < len → w.cell? ⟨b, off + i, none⟩ = some (.int .u8 (xs.getD i 0))) :
    (convert 25 9 (.slice (some ⟨b, off, none⟩) len cap)).run Tryz.prog w = .ok (.string (strOfNums xs)) w :=
  run_convert_bytes_arg w 25 5 Tryz.underlying25 Tryz.underlying5 b off len cap xs hlen hcell 9 Tryz.underlying9
theorem ret_int {k : IntKind} {a b : Int} (h : a = b) : Ending.returned (.int k a) = .returned (.int k b) := by rw [h]
theorem ret_nat {k : IntKind} {a b : Nat} (h : a = b) : Ending.returned (.int k (a : Int)) = .returned (.int k (b : Int)) := by rw [h]
theorem ret_bool {a b : Bool} (h : a = b) : Ending.returned (.bool a) = .returned (.bool b) := by rw [h]
theorem slice_bytes_row {w : World} (g : Nat) (cur : Array Value) (t : TypeId) (fr : Nat × Nat) (hg : w.heap[g]? = some (.cells cur t fr)) (xs : List Int) (n cap : Nat) (hn : xs.length = n) (hcur : cur.toList.take n = xs.map (Value.int .u8)) :
    (convert 25 9 (.slice (some ⟨g, 0, none⟩) n cap)).run Tryz.prog w = .ok (.string (strOfNums xs)) w := by
  refine slice_bytes g 0 xs n cap hn ?_
  intro i hi
  rw [cell_of_row w g (0 + i) cur t fr hg, Nat.zero_add]
  have h2 : (cur.toList.take n)[i]? = (xs.map (Value.int .u8))[i]? := by rw [hcur]
  rw [List.getElem?_take, if_pos hi] at h2
  rw [← Array.getElem?_toList, h2, List.getElem?_map, List.getElem?_eq_getElem (by omega)]
  simp [List.getElem?_eq_getElem (show i < xs.length by omega)]
end Go.Proofs.YtmdkjcigmhgpeaaGreatDoor
