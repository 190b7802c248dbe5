/- The disk's methods where there is no disk. -/
import Derived.Test.YtmdkjcigmhgpeaaGreatDoorDiskLaw
namespace Go.Proofs.YtmdkjcigmhgpeaaGreatDoor
open Go.RowKit Go.Maps Dsk

theorem append_nil (n : ByteArray) (v : Value) (w : World) : Calls Tryz.prog 59 #[.pointer none, .string n, v] w fun e w' => e = .returned (.int .i64 1) ∧ Ext w w' := by
  go_enter Tryz.func59, Tryz.ntmps59
  go_wp2_with fail
  refine (begin_none _ _).mono ?_
  rintro e w' ⟨rfl, rfl⟩
  go_wp2
  go_ret
  exact ⟨rfl, (Ext.refl w).alloc _⟩
theorem sync_nil (v : Value) (w : World) : Calls Tryz.prog 20 #[.pointer none, v] w fun e w' => e = .returned (.int .i64 1) ∧ Ext w w' := by
  go_enter Tryz.func20, Tryz.ntmps20
  go_wp2_with fail
  refine (there_none v w).mono ?_
  rintro e w' ⟨rfl, rfl⟩
  go_wp2
  go_ret
  exact ⟨rfl, Ext.refl w⟩
theorem rename_nil (n m : ByteArray) (w : World) : Calls Tryz.prog 67 #[.pointer none, .string n, .string m] w fun e w' => e = .returned (.int .i64 1) ∧ Ext w w' := by
  go_enter Tryz.func67, Tryz.ntmps67
  go_wp2_with fail
  refine (begin_none _ _).mono ?_
  rintro e w' ⟨rfl, rfl⟩
  go_wp2
  go_ret
  exact ⟨rfl, (Ext.refl w).alloc _⟩
theorem delete_nil (n : ByteArray) (w : World) : Calls Tryz.prog 79 #[.pointer none, .string n] w fun e w' => e = .returned (.int .i64 1) ∧ Ext w w' := by
  go_enter Tryz.func79, Tryz.ntmps79
  go_wp2_with fail
  refine (there_none _ _).mono ?_
  rintro e w' ⟨rfl, rfl⟩
  go_wp2
  go_ret
  exact ⟨rfl, (Ext.refl w).alloc _⟩
theorem cut_nil (n : ByteArray) (v : Value) (w : World) : Calls Tryz.prog 133 #[.pointer none, .string n, v] w fun e w' => e = .returned (.int .i64 1) ∧ Ext w w' := by
  go_enter Tryz.func133, Tryz.ntmps133
  go_wp2_with fail
  refine (there_none _ _).mono ?_
  rintro e w' ⟨rfl, rfl⟩
  go_wp2
  go_ret
  exact ⟨rfl, (Ext.refl w).alloc _⟩
theorem put_nil (n x : ByteArray) (w : World) : Calls Tryz.prog 23 #[.pointer none, .string n, .string x] w fun e w' => e = .returned (.int .i64 1) ∧ Ext w w' := by
  go_enter Tryz.func23, Tryz.ntmps23
  go_wp2
  go_ret
  exact ⟨rfl, Ext.refl w⟩
theorem crash_nil (v : Value) (w : World) : Calls Tryz.prog 30 #[.pointer none, v] w fun e w' => e = .returned (.tuple #[]) ∧ Ext w w' := by
  go_enter Tryz.func30, Tryz.ntmps30
  go_wp2
  (try simp only [Exit.inBlock, Exit.then]); refine bodyPost_ret (results_none rfl _ _ _) rfl ?_
  exact ⟨rfl, Ext.refl w⟩
end Go.Proofs.YtmdkjcigmhgpeaaGreatDoor
