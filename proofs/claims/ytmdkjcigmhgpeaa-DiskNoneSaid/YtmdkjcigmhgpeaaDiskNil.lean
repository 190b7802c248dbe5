/- The disk's methods where there is no disk. -/
import Derived.Test.YtmdkjcigmhgpeaaDiskLaw
namespace Go.Proofs.Ytmdkjcigmhgpeaa
open Go.RowKit Go.Maps Dsk

theorem append_nil (n : ByteArray) (v : Value) (w : World) : Calls Try.prog 10 #[.pointer none, .string n, v] w fun e w' => e = .returned (.int .i64 1) ∧ Ext w w' := by
  go_enter Try.func10, Try.ntmps10
  go_wp2_with fail
  refine (begin_none _ _).mono ?_
  rintro e w' ⟨rfl, rfl⟩
  go_wp2
  go_ret
  exact ⟨rfl, (Ext.refl w).alloc _⟩
theorem sync_nil (v : Value) (w : World) : Calls Try.prog 13 #[.pointer none, v] w fun e w' => e = .returned (.int .i64 1) ∧ Ext w w' := by
  go_enter Try.func13, Try.ntmps13
  go_wp2_with fail
  refine (there_none v w).mono ?_
  rintro e w' ⟨rfl, rfl⟩
  go_wp2
  go_ret
  exact ⟨rfl, Ext.refl w⟩
theorem rename_nil (n m : ByteArray) (w : World) : Calls Try.prog 17 #[.pointer none, .string n, .string m] w fun e w' => e = .returned (.int .i64 1) ∧ Ext w w' := by
  go_enter Try.func17, Try.ntmps17
  go_wp2_with fail
  refine (begin_none _ _).mono ?_
  rintro e w' ⟨rfl, rfl⟩
  go_wp2
  go_ret
  exact ⟨rfl, (Ext.refl w).alloc _⟩
theorem delete_nil (n : ByteArray) (w : World) : Calls Try.prog 46 #[.pointer none, .string n] w fun e w' => e = .returned (.int .i64 1) ∧ Ext w w' := by
  go_enter Try.func46, Try.ntmps46
  go_wp2_with fail
  refine (there_none _ _).mono ?_
  rintro e w' ⟨rfl, rfl⟩
  go_wp2
  go_ret
  exact ⟨rfl, (Ext.refl w).alloc _⟩
theorem cut_nil (n : ByteArray) (v : Value) (w : World) : Calls Try.prog 47 #[.pointer none, .string n, v] w fun e w' => e = .returned (.int .i64 1) ∧ Ext w w' := by
  go_enter Try.func47, Try.ntmps47
  go_wp2_with fail
  refine (there_none _ _).mono ?_
  rintro e w' ⟨rfl, rfl⟩
  go_wp2
  go_ret
  exact ⟨rfl, (Ext.refl w).alloc _⟩
theorem put_nil (n x : ByteArray) (w : World) : Calls Try.prog 49 #[.pointer none, .string n, .string x] w fun e w' => e = .returned (.int .i64 1) ∧ Ext w w' := by
  go_enter Try.func49, Try.ntmps49
  go_wp2
  go_ret
  exact ⟨rfl, Ext.refl w⟩
theorem crash_nil (v : Value) (w : World) : Calls Try.prog 14 #[.pointer none, v] w fun e w' => e = .returned (.tuple #[]) ∧ Ext w w' := by
  go_enter Try.func14, Try.ntmps14
  go_wp2
  (try simp only [Exit.inBlock, Exit.then]); refine bodyPost_ret (results_none rfl _ _ _) rfl ?_
  exact ⟨rfl, Ext.refl w⟩
end Go.Proofs.Ytmdkjcigmhgpeaa
