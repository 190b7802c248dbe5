/- The walks of the disk's power: New, On, Uses, Arm, use, may. -/
import Derived.Test.YtmdkjcigmhgpeaaGreatDoorDisk
namespace Go.Proofs.YtmdkjcigmhgpeaaGreatDoor
open Go.RowKit Go.Maps Dsk

/-- disk.may. -/
theorem may_any (s : ByteArray) (hs : s.size ≤ 9223372036854775807) (w : World) :
    Calls Tryz.prog 84 #[.string s] w fun e w' => e = .returned (.bool (may s)) ∧ w = w' := by
  have e1 : s.toList.length = s.size := by rw [Lib.toList_data]; rfl
  go_enter Tryz.func84, Tryz.ntmps84
  by_cases h0 : s.size = 0
  · have e2 : s.toList = [] := List.eq_nil_of_length_eq_zero (by omega)
    have hm : may s = false := by simp [may, h0]
    rw [hm]
    clear e1 hm
    go_wp2
    go_ret
    exact ⟨rfl, rfl⟩
  · have e2 : (s.toList = []) = False := by
      refine eq_false (fun e => h0 ?_)
      rw [e] at e1; exact e1.symm
    have e3 : s.toList.isEmpty = false := by simp [e2]
    have hm : may s = decide ((s.size : Int) ≤ 20) := by
      have : ((s.size : Int) ≤ 20) ↔ s.size ≤ 20 := by omega
      simp [may, Nat.pos_of_ne_zero h0, this]
    rw [hm]
    clear e1 hm
    go_wp2
    go_ret
    exact ⟨rfl, rfl⟩

/-- The disk's own cells, in block d. -/
abbrev Own (w : World) (d mb : Nat) (S : DS) : Prop := w.heap[d]? = some (.cells (dcells S mb) 96 (0, 0))
theorem Own.c0 {w : World} {d mb : Nat} {S : DS} (h : Own w d mb S) : w.cell? ⟨d, 0, none⟩ = some (.bool S.off) := Go.Joins.cell_of_block h 0
theorem Own.c1 {w : World} {d mb : Nat} {S : DS} (h : Own w d mb S) : w.cell? ⟨d, 1, none⟩ = some (.bool S.armed) := Go.Joins.cell_of_block h 1
theorem Own.c2 {w : World} {d mb : Nat} {S : DS} (h : Own w d mb S) : w.cell? ⟨d, 2, none⟩ = some (.int .i64 (S.left : Nat)) := Go.Joins.cell_of_block h 2
theorem Own.c3 {w : World} {d mb : Nat} {S : DS} (h : Own w d mb S) : w.cell? ⟨d, 3, none⟩ = some (.int .i64 (S.uses : Nat)) := Go.Joins.cell_of_block h 3
theorem Own.c4 {w : World} {d mb : Nat} {S : DS} (h : Own w d mb S) : w.cell? ⟨d, 4, none⟩ = some (.int .i64 (S.room : Nat)) := Go.Joins.cell_of_block h 4
theorem Own.c5 {w : World} {d mb : Nat} {S : DS} (h : Own w d mb S) : w.cell? ⟨d, 5, none⟩ = some (.map (some mb)) := Go.Joins.cell_of_block h 5
theorem Own.free {w : World} {d mb : Nat} {S : DS} (h : Own w d mb S) (i : Nat) : w.frozen? ⟨d, i, none⟩ = false := frozen_row h i

theorem Only.at {d : Nat} {a w : World} (h : Only (fun b => b = d) a w) (i : Nat) (v : Value) : Only (fun b => b = d) a (w.setCell ⟨d, i, none⟩ v) := h.setCell (.inl rfl) i v

/-- (*Power).use. -/
theorem use_any (d mb : Nat) (S : DS) (hu : S.uses < 4611686018427387904) (hl : S.left ≤ 9223372036854775807) (w : World) (h : Own w d mb S) :
    Calls Tryz.prog 139 #[.pointer (some ⟨d, 0, none⟩)] w fun e w' => e = .returned (.bool (use S).1) ∧ Own w' d mb (use S).2 ∧ Only (fun b => b = d) w w' := by
  obtain ⟨off, armed, left, uses, room, files⟩ := S
  have c0 := Own.c0 h
  have c1 := Own.c1 h
  have c2 := Own.c2 h
  have c3 := Own.c3 h
  have f0 := Own.free h 0
  have f2 := Own.free h 2
  have f3 := Own.free h 3
  simp only at c0 c1 c2 c3 hu hl
  have H := Lib.hid h; clear h
  go_enter Tryz.func139, Tryz.ntmps139
  cases off with
  | true =>
    go_wp2
    go_ret
    exact ⟨rfl, H.out, Only.refl _ _⟩
  | false =>
    cases armed with
    | false =>
      go_wp2
      go_ret
      refine ⟨rfl, ?_, (Only.refl _ w).at _ _⟩
      have := Go.Joins.block_setCell (i := 3) H.out (.int .i64 ((uses + 1 : Nat) : Int))
      simpa [Own, dcells, use] using this
    | true =>
      by_cases h0 : left = 0
      · subst h0
        go_wp2
        go_ret
        refine ⟨rfl, ?_, ((Only.refl _ w).at _ _).at _ _⟩
        have := Go.Joins.block_setCell (i := 0) (Go.Joins.block_setCell (i := 3) H.out (.int .i64 ((uses + 1 : Nat) : Int))) (.bool true)
        simpa [Own, dcells, use] using this
      · have e0 : ((left : Int) == 0) = false := by simp; omega
        have e1 : ((left : Int) = 0) = False := eq_false (by omega)
        go_wp2
        go_ret
        have eu : (use ⟨false, true, left, uses, room, files⟩) = (true, ⟨false, true, left - 1, uses + 1, room, files⟩) := by simp [use, h0]
        rw [eu]
        refine ⟨rfl, ?_, ((Only.refl _ w).at _ _).at _ _⟩
        have := Go.Joins.block_setCell (i := 2) (Go.Joins.block_setCell (i := 3) H.out (.int .i64 ((uses + 1 : Nat) : Int))) (.int .i64 ((left - 1 : Nat) : Int))
        have e2 : ((left - 1 : Nat) : Int) = (left : Int) - 1 := by omega
        simpa [Own, dcells, e2] using this

/-- (*Power).On, (*Power).Uses, (*Power).Arm. -/
theorem power_on (d mb : Nat) (S : DS) (w : World) (h : Own w d mb S) :
    Calls Tryz.prog 106 #[.pointer (some ⟨d, 0, none⟩)] w fun e w' => e = .returned (.bool (!S.off)) ∧ w = w' := by
  have c0 := Own.c0 h
  clear h
  go_enter Tryz.func106, Tryz.ntmps106
  go_wp2
  go_ret
  exact ⟨rfl, rfl⟩
theorem power_arm (d mb : Nat) (S : DS) (k : Int) (w : World) (h : Own w d mb S) :
    Calls Tryz.prog 80 #[.pointer (some ⟨d, 0, none⟩), .int .i64 k] w fun e w' => e = .returned (.tuple #[]) ∧ Own w' d mb (arm S k) ∧ Only (fun b => b = d) w w' := by
  have f1 := Own.free h 1
  have f2 := Own.free h 2
  have c1 := Own.c1 h
  have c2 := Own.c2 h
  have H := Lib.hid h; clear h
  go_enter Tryz.func80, Tryz.ntmps80
  go_wp2
  go_end0
  refine ⟨rfl, ?_, ((Only.refl _ w).at _ _).at _ _⟩
  have := Go.Joins.block_setCell (i := 2) (Go.Joins.block_setCell (i := 1) H.out (.bool true)) (.int .i64 (max k 0))
  simpa [Own, dcells, arm] using this
theorem power_none_on (w : World) : Calls Tryz.prog 106 #[.pointer none] w fun e w' => e = .returned (.bool false) ∧ w = w' := by
  go_enter Tryz.func106, Tryz.ntmps106
  go_wp2
  go_ret
  exact ⟨rfl, rfl⟩
theorem power_none_arm (k : Int) (w : World) : Calls Tryz.prog 80 #[.pointer none, .int .i64 k] w fun e w' => e = .returned (.tuple #[]) ∧ w = w' := by
  go_enter Tryz.func80, Tryz.ntmps80
  go_wp2
  go_end0
  exact ⟨rfl, rfl⟩

/-! ### the disk's power -/
theorem DiskAt.own {w : World} {d : Nat} {S : DS} {F : Nat → Prop} (h : DiskAt w d S F) : ∃ mb, Own w d mb S := by obtain ⟨mb, _, h, _⟩ := h; exact ⟨mb, h.row⟩
theorem on_any (d : Nat) (S : DS) (F : Nat → Prop) (w : World) (h : DiskAt w d S F) :
    Calls Tryz.prog 51 #[.pointer (some ⟨d, 0, none⟩)] w fun e w' => e = .returned (.bool (!S.off)) ∧ w = w' := by
  obtain ⟨mb, h⟩ := h.own
  go_enter Tryz.func51, Tryz.ntmps51
  go_wp2_with fail
  refine (power_on d mb S w h).mono ?_
  rintro e w' ⟨rfl, rfl⟩
  clear h
  go_wp2
  go_ret
  exact ⟨rfl, rfl⟩
theorem on_none (w : World) : Calls Tryz.prog 51 #[.pointer none] w fun e w' => e = .returned (.bool false) ∧ w = w' := by
  go_enter Tryz.func51, Tryz.ntmps51
  go_wp2
  go_ret
  exact ⟨rfl, rfl⟩
theorem DiskAt.power {w w' : World} {d : Nat} {S T : DS} {F : Nat → Prop} (h : DiskAt w d S F) (hg : Dsk.Good T) (hf : T.files = S.files) (hr : ∀ mb, Own w d mb S → Own w' d mb T) (ho : Only (fun b => b = d) w w') : DiskAt w' d T F ∧ Only F w w' := by
  obtain ⟨mb, β, h, hF⟩ := h
  exact ⟨⟨mb, β, h.power hg hf (hr mb h.row) ho, fun b hb => hF b (by rw [hf] at hb; exact hb)⟩, ho.mono (fun b _ e => hF b (.inl e))⟩
theorem arm_any (d : Nat) (S : DS) (F : Nat → Prop) (k : Int) (hk : -9223372036854775808 ≤ k ∧ k ≤ 9223372036854775807) (w : World) (h : DiskAt w d S F) :
    Calls Tryz.prog 19 #[.pointer (some ⟨d, 0, none⟩), .int .i64 k] w fun e w' => e = .returned (.tuple #[]) ∧ DiskAt w' d (arm S k) F ∧ Only F w w' := by
  obtain ⟨mb, β, h, hF⟩ := h
  go_enter Tryz.func19, Tryz.ntmps19
  go_wp2_with fail
  refine (power_arm d mb S k w h.row).mono ?_
  rintro e w' ⟨rfl, hr, ho⟩
  have HR := Lib.hid hr; clear hr
  have HO := Lib.hid ho; clear ho
  have HH := Lib.hid h; clear h
  go_wp2
  go_end0
  have h := HH.out
  exact ⟨rfl, ⟨mb, β, h.power ⟨h.good.sorted, h.good.fine, h.good.many, by show k.toNat ≤ _; omega, h.good.room⟩ rfl HR.out HO.out, hF⟩, HO.out.mono (fun b _ e => hF b (.inl e))⟩
theorem arm_none (k : Int) (w : World) : Calls Tryz.prog 19 #[.pointer none, .int .i64 k] w fun e w' => e = .returned (.tuple #[]) ∧ w = w' := by
  go_enter Tryz.func19, Tryz.ntmps19
  go_wp2
  go_end0
  exact ⟨rfl, rfl⟩
/-- disk.New. -/
theorem new_any (r : Nat) (hr : r ≤ 16777216) (w : World) :
    Calls Tryz.prog 13 #[.int .i64 (r : Nat)] w fun e w' => ∃ d, e = .returned (.pointer (some ⟨d, 0, none⟩)) ∧ DiskAt w' d (new r) (fun b => w.heap.size ≤ b) ∧ Ext w w' := by
  have hmm := @run_makeMap Tryz.prog
  go_enter Tryz.func13, Tryz.ntmps13
  go_wp2
  go_ret
  have hx : Ext w ((w.alloc (.map #[] 0)).alloc (.cells #[.bool false, .bool false, .int .i64 0, .int .i64 0, .int .i64 (r : Nat), .map (some w.heap.size)] 96)) := ((Ext.refl w).alloc _).alloc _
  have hn : (w.alloc (.map #[] 0)).heap.size = w.heap.size + 1 := by simp
  have hrow := heap_alloc_new (w.alloc (.map #[] 0)) (.cells #[.bool false, .bool false, .int .i64 0, .int .i64 0, .int .i64 (r : Nat), .map (some w.heap.size)] 96)
  rw [hn] at hrow
  refine ⟨_, rfl, ⟨w.heap.size, fun _ => 0, ⟨⟨List.Pairwise.nil, fun f hf => (by cases hf), by simp [new], by simp [new], hr⟩, hrow, ?_, fun f hf => by (cases hf), fun f hf => by (cases hf)⟩, ?_⟩, hx⟩
  · exact (World.ownsMap_made w Tryz.prog 9 ptrElem).alloc _
  · rintro b (rfl | rfl | ⟨f, hf, _⟩)
    · omega
    · exact Nat.le_refl _
    · cases hf
theorem new_none (r : Int) (hr : r < 0 ∨ 16777216 < r) (w : World) :
    Calls Tryz.prog 13 #[.int .i64 r] w fun e w' => e = .returned (.pointer none) ∧ w = w' := by
  go_enter Tryz.func13, Tryz.ntmps13
  rcases hr with hr | hr
  · go_wp2
    go_ret
    exact ⟨rfl, rfl⟩
  · by_cases h0 : r < 0
    · omega
    · go_wp2
      go_ret
      exact ⟨rfl, rfl⟩
end Go.Proofs.YtmdkjcigmhgpeaaGreatDoor
