/- The log in memory: its cells; Next, Safe, Err, stays, ends. -/
import Derived.Test.YtmdkjcigmhgpeaaGreatDoorWalPlain
import Derived.Test.YtmdkjcigmhgpeaaGreatDoorDiskUse
namespace Go.Proofs.YtmdkjcigmhgpeaaGreatDoor
open Go.RowKit Go.Maps Dsk Wal

def lcells (L : LG) (d : Nat) (name : ByteArray) : Array Value := #[.string L.file, .int .i64 (L.size : Nat), .int .i64 (L.next : Nat), .bool L.fresh, .pointer (some ⟨d, 0, none⟩), .string name, .int .i64 (L.safe : Nat), .int .i64 (L.err : Nat)]
/-- The log in block b, over the disk at d. -/
abbrev LogAt (w : World) (b d : Nat) (name : ByteArray) (L : LG) : Prop := w.heap[b]? = some (.cells (lcells L d name) 132 (0, 0))
theorem LogAt.c0 {w : World} {b d : Nat} {name : ByteArray} {L : LG} (h : LogAt w b d name L) : w.cell? ⟨b, 0, none⟩ = some (.string L.file) := Go.Joins.cell_of_block h 0
theorem LogAt.c1 {w : World} {b d : Nat} {name : ByteArray} {L : LG} (h : LogAt w b d name L) : w.cell? ⟨b, 1, none⟩ = some (.int .i64 (L.size : Nat)) := Go.Joins.cell_of_block h 1
theorem LogAt.c2 {w : World} {b d : Nat} {name : ByteArray} {L : LG} (h : LogAt w b d name L) : w.cell? ⟨b, 2, none⟩ = some (.int .i64 (L.next : Nat)) := Go.Joins.cell_of_block h 2
theorem LogAt.c3 {w : World} {b d : Nat} {name : ByteArray} {L : LG} (h : LogAt w b d name L) : w.cell? ⟨b, 3, none⟩ = some (.bool L.fresh) := Go.Joins.cell_of_block h 3
theorem LogAt.c4 {w : World} {b d : Nat} {name : ByteArray} {L : LG} (h : LogAt w b d name L) : w.cell? ⟨b, 4, none⟩ = some (.pointer (some ⟨d, 0, none⟩)) := Go.Joins.cell_of_block h 4
theorem LogAt.c5 {w : World} {b d : Nat} {name : ByteArray} {L : LG} (h : LogAt w b d name L) : w.cell? ⟨b, 5, none⟩ = some (.string name) := Go.Joins.cell_of_block h 5
theorem LogAt.c6 {w : World} {b d : Nat} {name : ByteArray} {L : LG} (h : LogAt w b d name L) : w.cell? ⟨b, 6, none⟩ = some (.int .i64 (L.safe : Nat)) := Go.Joins.cell_of_block h 6
theorem LogAt.c7 {w : World} {b d : Nat} {name : ByteArray} {L : LG} (h : LogAt w b d name L) : w.cell? ⟨b, 7, none⟩ = some (.int .i64 (L.err : Nat)) := Go.Joins.cell_of_block h 7
theorem LogAt.free {w : World} {b d : Nat} {name : ByteArray} {L : LG} (h : LogAt w b d name L) (i : Nat) : w.frozen? ⟨b, i, none⟩ = false := frozen_row h i
theorem LogAt.only {F : Nat → Prop} {w w' : World} {b d : Nat} {name : ByteArray} {L : LG} (h : LogAt w b d name L) (k : Only F w w') (hb : ¬ F b) : LogAt w' b d name L := (k.block b (lt_of_heap h) hb).trans h
theorem LogAt.ext {w w' : World} {b d : Nat} {name : ByteArray} {L : LG} (h : LogAt w b d name L) (k : Ext w w') : LogAt w' b d name L := (k.block b (lt_of_heap h)).trans h

theorem pnext_any (b d : Nat) (name : ByteArray) (L : LG) (w : World) (h : LogAt w b d name L) :
    Calls Tryz.prog 100 #[.pointer (some ⟨b, 0, none⟩)] w fun e w' => e = .returned (.int .i64 (L.next : Nat)) ∧ w = w' := by
  have c2 := h.c2
  clear h
  go_enter Tryz.func100, Tryz.ntmps100
  go_wp2
  go_ret
  exact ⟨rfl, rfl⟩
theorem lnext_any (b d : Nat) (name : ByteArray) (L : LG) (w : World) (h : LogAt w b d name L) :
    Calls Tryz.prog 42 #[.pointer (some ⟨b, 0, none⟩)] w fun e w' => e = .returned (.int .i64 (L.next : Nat)) ∧ w = w' := by
  have hcall := pnext_any b d name L w h
  clear h
  go_enter Tryz.func42, Tryz.ntmps42
  go_wp2_with fail
  refine hcall.mono ?_
  rintro e w1 ⟨rfl, rfl⟩
  go_wp2_with fail
  go_ret
  exact ⟨rfl, rfl⟩
theorem lsafe_any (b d : Nat) (name : ByteArray) (L : LG) (w : World) (h : LogAt w b d name L) :
    Calls Tryz.prog 43 #[.pointer (some ⟨b, 0, none⟩)] w fun e w' => e = .returned (.int .i64 (L.safe : Nat)) ∧ w = w' := by
  have c6 := h.c6
  clear h
  go_enter Tryz.func43, Tryz.ntmps43
  go_wp2
  go_ret
  exact ⟨rfl, rfl⟩
theorem lerr_any (b d : Nat) (name : ByteArray) (L : LG) (w : World) (h : LogAt w b d name L) :
    Calls Tryz.prog 46 #[.pointer (some ⟨b, 0, none⟩)] w fun e w' => e = .returned (.int .i64 (L.err : Nat)) ∧ w = w' := by
  have c7 := h.c7
  clear h
  go_enter Tryz.func46, Tryz.ntmps46
  go_wp2
  go_ret
  exact ⟨rfl, rfl⟩
theorem none_next (w : World) : Calls Tryz.prog 42 #[.pointer none] w fun e w' => e = .returned (.int .i64 0) ∧ w = w' := by
  go_enter Tryz.func42, Tryz.ntmps42
  go_wp2
  go_ret
  exact ⟨rfl, rfl⟩
theorem none_safe (w : World) : Calls Tryz.prog 43 #[.pointer none] w fun e w' => e = .returned (.int .i64 0) ∧ w = w' := by
  go_enter Tryz.func43, Tryz.ntmps43
  go_wp2
  go_ret
  exact ⟨rfl, rfl⟩
theorem none_err (w : World) : Calls Tryz.prog 46 #[.pointer none] w fun e w' => e = .returned (.int .i64 1) ∧ w = w' := by
  go_enter Tryz.func46, Tryz.ntmps46
  go_wp2
  go_ret
  exact ⟨rfl, rfl⟩
/-- stays: an error that stays. -/
theorem stays_any (b d : Nat) (name : ByteArray) (L : LG) (k : Nat) (w : World) (h : LogAt w b d name L) :
    Calls Tryz.prog 95 #[.pointer (some ⟨b, 0, none⟩), .int .i64 (k : Nat)] w fun e w' => e = .returned (.int .i64 (k : Nat)) ∧ LogAt w' b d name { L with err := k } ∧ Only (fun x => x = b) w w' := by
  have f7 := h.free 7
  have c7 := h.c7
  have H := Lib.hid h; clear h
  go_enter Tryz.func95, Tryz.ntmps95
  go_wp2
  go_ret
  refine ⟨rfl, ?_, (Only.refl _ w).at _ _⟩
  have := Go.Joins.block_setCell (i := 7) H.out (.int .i64 (k : Nat))
  simpa [LogAt, lcells] using this
/-- ends: does the next record go to a new segment? -/
theorem lends_any (b d : Nat) (name : ByteArray) (L : LG) (w : World) (h : LogAt w b d name L) :
    Calls Tryz.prog 93 #[.pointer (some ⟨b, 0, none⟩)] w fun e w' => e = .returned (.bool (ends L)) ∧ w = w' := by
  have c0 := h.c0
  have c1 := h.c1
  have c3 := h.c3
  clear h
  by_cases h0 : lst L.file = []
  · have e0 : L.file = ⟨#[]⟩ := lst_inj h0
    have HE : Hid (ends L = true) := by show _ = _; unfold ends; rw [decide_eq_true h0]; rfl
    clear h0
    rw [e0] at c0
    clear e0
    go_enter Tryz.func93, Tryz.ntmps93
    go_wp2
    go_ret
    exact ⟨ret_bool HE.out.symm, rfl⟩
  · have HE : Hid (ends L = (L.fresh || decide (16384 ≤ L.size))) := by show _ = _; unfold ends; rw [decide_eq_false h0, Bool.false_or]
    have hb2 : (L.file.toList = []) = False := eq_false (by rw [Lib.toList_data]; exact h0)
    have hb1 : (L.file.toList == []) = false := by rw [beq_eq_false_iff_ne, Lib.toList_data]; exact h0
    have hb3 : L.file.toList.isEmpty = false := by simp [hb2]
    clear h0
    generalize L.file = nm at c0 hb1 hb2 hb3
    cases hf : L.fresh with
    | true =>
      rw [hf] at c3 HE
      clear hf
      go_enter Tryz.func93, Tryz.ntmps93
      go_wp2
      go_ret
      exact ⟨ret_bool HE.out.symm, rfl⟩
    | false =>
      rw [hf] at c3 HE
      clear hf
      have HE2 : Hid (ends L = decide ((16384 : Int) ≤ (L.size : Int))) := by
        show _ = _
        rw [HE.out, Bool.false_or, Bool.eq_iff_iff, decide_eq_true_eq, decide_eq_true_eq]; omega
      go_enter Tryz.func93, Tryz.ntmps93
      go_wp2
      go_ret
      exact ⟨ret_bool HE2.out.symm, rfl⟩
end Go.Proofs.YtmdkjcigmhgpeaaGreatDoor
