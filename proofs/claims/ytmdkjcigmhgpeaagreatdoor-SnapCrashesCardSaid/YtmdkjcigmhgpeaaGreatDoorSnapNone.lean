/- The walk of SnapNone: without a disk, or on one that is off, nothing is saved, loaded, swept. -/
import Derived.Test.YtmdkjcigmhgpeaaGreatDoorSnapSaves
namespace Go.Proofs.YtmdkjcigmhgpeaaGreatDoor
open Go.RowKit Snp SealMath Dsk

theorem may26_any (n : Int) (w : World) :
    Calls Tryz.prog 21 #[.int .i64 n] w fun e w' => e = .returned (.bool (mayN n)) ∧ w' = w := by
  by_cases h0 : 0 ≤ n
  · have e1 : mayN n = decide (n ≤ 99999999) := by unfold mayN; simp [h0]
    rw [e1]
    go_enter Tryz.func21, Tryz.ntmps21
    go_wp2_with fail
    go_ret
    exact ⟨rfl, rfl⟩
  · have e1 : mayN n = false := by unfold mayN; simp [h0]
    rw [e1]
    go_enter Tryz.func21, Tryz.ntmps21
    go_wp2_with fail
    go_ret
    exact ⟨rfl, rfl⟩
def nX : ByteArray := ⟨#[120]⟩
def off0 : DS := arm (new 1000) 0
def off1 : DS := (sync off0 [nX]).2
theorem off1_load : loadS off1 = (0, [], 7) := by decide +kernel
theorem off1_sweep : (sweepS off1).1 = 0 ∧ (sweepS off1).2.1 = 7 := by decide +kernel
theorem off1_off : off1.off = true ∧ off1.uses ≤ 10 ∧ (sweepS off1).2.2 = off1 ∧ off0.uses = 0 := ⟨by decide +kernel, by decide +kernel, by
  unfold sweepS
  rw [off1_load]; rfl, rfl⟩
theorem off1_save (n : Nat) (hn : n ≤ 99999999) (D : List UInt8) : saveS off1 n D = (7, off1) := by
  unfold saveS
  have hm : mayN ((n : Nat) : Int) = true := by unfold mayN; simp; omega
  rw [if_neg (by rw [hm]; simp), if_pos off1_off.1]

set_option maxRecDepth 20000 in
set_option maxHeartbeats 2000000 in
theorem snapnone_any (n : Int) (s : ByteArray) (_hsm : s.size ≤ 9223372036854775807) (w : World) (hnb : Nibs w) :
    Calls Tryz.prog 4 #[.int .i64 n, .string s] w fun e w' => e = .returned (.bool true) ∧ Ext w w' := by
  have HN := Lib.hid hnb
  have HG := Lib.hid (nibs_lt hnb)
  clear hnb
  by_cases hbig : (1000 : Int) < (s.size : Int)
  · go_enter Tryz.func4, Tryz.ntmps4
    go_wp2_with fail
    refine (awake26_any w HN.out).mono ?_
    rintro e w1 ⟨rfl, hx⟩
    have HX := Lib.hid hx; clear hx
    go_wp2_with fail
    go_ret
    exact ⟨rfl, HX.out⟩
  go_enter Tryz.func4, Tryz.ntmps4
  go_wp2_with fail
  refine (awake26_any w HN.out).mono ?_
  rintro e w1 ⟨rfl, hx⟩
  have HX1 := Lib.hid hx; clear hx
  go_wp2_with fail
  refine (load_nil w1).mono ?_
  rintro e w2 ⟨rfl, rfl⟩
  go_wp2_with fail
  refine (sweep_nil w2).mono ?_
  rintro e w3 ⟨rfl, rfl⟩
  go_wp2_with fail
  refine (new_held 1000 (by decide) w3).mono ?_
  rintro e w4 ⟨d, rfl, hd, hx⟩
  have H4 := Lib.hid (And.intro hd hx); clear hd hx
  go_wp2_with fail
  refine (arm_any d (new 1000) (Mine w3.heap.size w4) 0 (by decide) w4 H4.out.1).mono ?_
  rintro e w5 ⟨rfl, hd, ho⟩
  have hmv := Held.moved hd ho H4.out.2.size
  have H5 := Lib.hid (And.intro (show Held w3.heap.size w5 d off0 from hmv.1) (Below.trans H4.out.2 hmv.2)); clear hd ho hmv H4
  go_wp2_with fail
  refine (sync_held w3.heap.size d off0 _ _ [nX] (by decide) (by simp; decide) (by decide) w5 H5.out.1 H5.out.2.size (StrsAt.one w5 _ _)).mono ?_
  rintro e w6 ⟨rfl, hd, hb⟩
  have H6 := Lib.hid (And.intro (show Held w3.heap.size w6 d off1 from hd) (Below.trans H5.out.2 hb)); clear hd hb H5
  have HG3 : Hid (0 < w3.heap.size) := Nat.lt_of_lt_of_le HG.out HX1.out.size
  have HN3 := Lib.hid (HN.out.ext HX1.out)
  go_wp2_with fail
  refine (load_held w3.heap.size d off1 w6 H6.out.1 (Below.nibs HN3.out HG3.out H6.out.2)).mono ?_
  rintro e w7 ⟨r, rfl, _, hx⟩
  rw [off1_load]
  have H7 := Lib.hid (And.intro (Held.ext H6.out.1 hx) (Below.trans H6.out.2 (Below.mono hx H6.out.2.size))); clear hx H6
  go_wp2_with fail
  refine (sweep_held w3.heap.size d off1 (by have := off1_off.2.1; omega) w7 H7.out.1 H7.out.2.size (Below.nibs HN3.out HG3.out H7.out.2)).mono ?_
  rintro e w8 ⟨rfl, hd, hb⟩
  rw [off1_sweep.1, off1_sweep.2]
  rw [off1_off.2.2.1] at hd
  have H8 := Lib.hid (And.intro hd (Below.trans H7.out.2 hb)); clear hd hb H7
  go_wp2_with fail
  have hsm : s.size ≤ 140737488355328 := by omega
  have hfl : ((([s] : List ByteArray).map lst).flatten).length ≤ 140737488355328 := by simpa [lst] using hsm
  cases hm : mayN n with
  | true =>
    obtain ⟨k, hk, rfl⟩ : ∃ k : Nat, k ≤ 99999999 ∧ n = (k : Int) := by
      unfold mayN at hm
      simp at hm
      exact ⟨n.toNat, by omega, by omega⟩
    refine (save_held w3.heap.size d off1 k hk _ _ [s] (by simp) hfl (by have := off1_off.2.1; omega) w8 H8.out.1 H8.out.2.size (StrsAt.one w8 s 9) (Below.nibs HN3.out HG3.out H8.out.2) HG3.out).mono ?_
    rintro e w9 ⟨rfl, hd, hb⟩
    rw [off1_save k hk]
    have H9 : Hid (Ext w w9) := Below.trans HX1.out (Below.mono (Below.trans H8.out.2 hb) HX1.out.size)
    have HM := Lib.hid hm
    clear hd hb H8 hm
    go_wp2_with fail
    refine (may26_any k w9).mono ?_
    rintro e w10 ⟨rfl, rfl⟩
    rw [HM.out]
    have hcall := save_arg (.pointer none) (.inl rfl) k (.inl rfl) (some ⟨w10.heap.size, 0, none⟩) 1 [s] (by simp) (by simp) hfl _ (StrsAt.one w10 s 9)
    go_wp2_with fail
    refine hcall.mono ?_
    clear hcall
    rintro e w11 ⟨rfl, hx⟩
    have H11 : Hid (Ext w w11) := Ext.trans (H9.out.alloc _) hx
    clear hx
    have hnm := nSnap_size k hk
    have hcall := name_any k hk w11
    generalize nSnap k = nm at hcall hnm
    have hnt : nm.toList.length = 10 := by rw [Lib.toList_data]; exact hnm
    have e2 : (nm.toList = []) = False := eq_false (fun e => by rw [e] at hnt; cases hnt)
    have e3 : nm.toList.isEmpty = false := by simp [e2]
    clear hnt
    go_wp2_with fail
    refine hcall.mono ?_
    clear hcall
    rintro e w12 ⟨rfl, hx⟩
    have H12 : Hid (Ext w w12) := Ext.trans H11.out hx
    clear hx
    go_wp2_with fail
    refine (may26_any k w12).mono ?_
    rintro e w13 ⟨rfl, rfl⟩
    rw [HM.out]
    go_wp2_with fail
    go_ret
    exact ⟨rfl, H12.out⟩
  | false =>
    refine (save_arg (.pointer (some ⟨d, 0, none⟩)) (.inr ⟨d, rfl⟩) n (.inr hm) (some ⟨w8.heap.size, 0, none⟩) 1 [s] (by simp) (by simp) hfl _ (StrsAt.one w8 s 9)).mono ?_
    rintro e w9 ⟨rfl, hx⟩
    have H9 : Hid (Ext w w9) := Below.trans HX1.out (Below.trans (Below.mono H8.out.2 HX1.out.size) (Below.mono (Ext.trans ((Ext.refl w8).alloc (.cells #[.string s] 9)) hx) (Nat.le_trans HX1.out.size H8.out.2.size)))
    have HM := Lib.hid hm
    clear hx H8 hm
    go_wp2_with fail
    refine (may26_any n w9).mono ?_
    rintro e w10 ⟨rfl, rfl⟩
    rw [HM.out]
    have hcall := save_arg (.pointer none) (.inl rfl) n (.inl rfl) (some ⟨w10.heap.size, 0, none⟩) 1 [s] (by simp) (by simp) hfl _ (StrsAt.one w10 s 9)
    go_wp2_with fail
    refine hcall.mono ?_
    clear hcall
    rintro e w11 ⟨rfl, hx⟩
    have H11 : Hid (Ext w w11) := Ext.trans (H9.out.alloc _) hx
    clear hx
    go_wp2_with fail
    refine (name_out n HM.out w11).mono ?_
    rintro e w12 ⟨rfl, rfl⟩
    go_wp2_with fail
    refine (may26_any n w12).mono ?_
    rintro e w13 ⟨rfl, rfl⟩
    rw [HM.out]
    go_wp2_with fail
    go_ret
    exact ⟨rfl, H11.out⟩
end Go.Proofs.YtmdkjcigmhgpeaaGreatDoor
