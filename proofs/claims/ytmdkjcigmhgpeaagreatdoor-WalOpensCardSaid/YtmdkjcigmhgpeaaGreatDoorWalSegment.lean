/- Wal's file of a segment. -/
import Derived.Test.YtmdkjcigmhgpeaaGreatDoorWalLog
import Derived.Test.YtmdkjcigmhgpeaaGreatDoorSnapFiles
namespace Go.Proofs.YtmdkjcigmhgpeaaGreatDoor
open Go.RowKit Snp SealMath Wal

set_option maxRecDepth 20000 in
set_option maxHeartbeats 1000000 in
theorem segment_any (b : Nat) (name : ByteArray) (hname : name.size ≤ 6) (n : Nat) (hn : n ≤ 99999999) (w : World) (hc : w.cell? ⟨b, 5, none⟩ = some (.string name)) :
    Calls Tryz.prog 94 #[.pointer (some ⟨b, 0, none⟩), .int .i64 (n : Nat)] w fun e w' => e = .returned (.string (seg name n)) ∧ Ext w w' := by
  have hcall := print_any n hn w
  go_enter Tryz.func94, Tryz.ntmps94
  go_wp2_with fail
  refine hcall.mono ?_
  rintro e w1 ⟨r, rfl, hr, hx⟩
  have c1 := Ext.cell hx hc
  have HX := Lib.hid hx; clear hx hcall hc
  have hsz : r.size ≤ 8 := by rw [← lst_length, hr]; exact dec_len n (by omega)
  have HR := Lib.hid hr; clear hr
  have hcall : ∀ u, Calls Tryz.prog 83 #[.string ⟨#[48]⟩, .int .i64 (8 - (r.size : Int))] u fun e w' => e = .returned (.string ⟨(Lib.repeatL (⟨#[48]⟩ : ByteArray).data.toList (8 - r.size)).toArray⟩) ∧ Ext u w' := fun u => by
    have h := Tryz.strings_Repeat ⟨#[48]⟩ (8 - r.size) u (by omega) (by show 1 * _ ≤ _; omega)
    rw [show ((8 - r.size : Nat) : Int) = 8 - (r.size : Int) by omega] at h
    exact h
  have HL : Hid (lst (⟨(Lib.repeatL (⟨#[48]⟩ : ByteArray).data.toList (8 - r.size)).toArray⟩ : ByteArray) = List.replicate (8 - r.size) 48) := by
    exact repeat_one 48 _
  generalize (⟨(Lib.repeatL (⟨#[48]⟩ : ByteArray).data.toList (8 - r.size)).toArray⟩ : ByteArray) = z at HL hcall
  have hz : z.size ≤ 8 := by rw [← lst_length, HL.out]; simp
  have HC := Lib.hid hcall
  clear hcall
  obtain ⟨n1, HN1⟩ : ∃ n1, Hid (name ++ (⟨#[46]⟩ : ByteArray) = n1) := ⟨_, rfl⟩
  obtain ⟨n2, HN2⟩ : ∃ n2, Hid (n1 ++ z = n2) := ⟨_, rfl⟩
  obtain ⟨n3, HN3⟩ : ∃ n3, Hid (n2 ++ r = n3) := ⟨_, rfl⟩
  have z1 : n1.size ≤ 7 := by rw [← HN1.out, ByteArray.size_append]; show _ + 1 ≤ _; omega
  have z2 : n2.size ≤ 15 := by rw [← HN2.out, ByteArray.size_append]; omega
  have hs1 : ∀ u, (Op.stringOp .add name ⟨#[46]⟩).run Tryz.prog u = .ok (.string n1) u := fun u => by
    rw [← HN1.out]; exact run_string_add_sum _ _ _ (by show _ + 1 ≤ _; omega)
  have hs2 : ∀ u, (Op.stringOp .add n1 z).run Tryz.prog u = .ok (.string n2) u := fun u => by
    rw [← HN2.out]; exact run_string_add_sum _ _ _ (by omega)
  have hs3 : ∀ u, (Op.stringOp .add n2 r).run Tryz.prog u = .ok (.string n3) u := fun u => by
    rw [← HN3.out]; exact run_string_add_sum _ _ _ (by omega)
  have hw : IntKind.i64.wrap (8 - (r.size : Int)) = 8 - (r.size : Int) := by rw [IntKind.wrap_i64]; omega
  clear z1 z2 hz
  go_wp2_with fail
  go_region_held3 (fun u => u.cell? ⟨b, 5, none⟩ = some (.string name))
    (first | exact c1 | exact Ext.cell hx c1)
    (first | (go_at_call 83; refine (HC.out _).mono ?_; rintro e v ⟨rfl, hx0⟩; have hx : Ext w1 v := Ext.trans (by first | exact Ext.refl _ | exact (Ext.refl _).drew) hx0))
  have HX2 := Lib.hid (Ext.trans HX.out hx)
  clear hx hx0
  go_wp2_with fail
  go_ret
  refine ⟨ret_str (lst_inj ?_), HX2.out⟩
  rw [← HN3.out, ← HN2.out, ← HN1.out, lst_append, lst_append, lst_append, HL.out, HR.out, lst_seg]
  unfold segL dec8
  rw [← HR.out, lst_length]
  simp [lst]
end Go.Proofs.YtmdkjcigmhgpeaaGreatDoor
