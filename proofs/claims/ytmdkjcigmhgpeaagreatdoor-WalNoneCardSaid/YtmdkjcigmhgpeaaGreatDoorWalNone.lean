/- The walk of WalNone: without a disk, by a name that may not be, of a disk that is off there is no log; of none nothing comes. -/
import Derived.Test.YtmdkjcigmhgpeaaGreatDoorWalLaw
namespace Go.Proofs.YtmdkjcigmhgpeaaGreatDoor
open Go.RowKit Snp SealMath Dsk Wal

set_option maxRecDepth 20000 in
theorem none_append (x : ByteArray) (w : World) : Calls Tryz.prog 35 #[.pointer none, .string x] w fun e w' => e = .returned (.tuple #[.int .i64 0, .int .i64 1]) ∧ w = w' := by
  go_enter Tryz.func35, Tryz.ntmps35
  go_wp2_with fail
  refine (none_err _).mono ?_
  rintro e w1 ⟨rfl, rfl⟩
  go_wp2_with fail
  go_ret2
  exact ⟨rfl, rfl⟩
set_option maxRecDepth 20000 in
theorem none_commit (w : World) : Calls Tryz.prog 36 #[.pointer none] w fun e w' => e = .returned (.int .i64 1) ∧ Ext w w' := by
  go_enter Tryz.func36, Tryz.ntmps36
  go_wp2_with fail
  refine (none_err _).mono ?_
  rintro e w1 ⟨rfl, rfl⟩
  go_wp2_with fail
  go_quiet (fail)
  have HX5 := Lib.hid ((Ext.refl w).drewN nq)
  go_wp2_with fail
  go_ret
  exact ⟨rfl, HX5.out⟩
set_option maxRecDepth 20000 in
theorem none_rotate (w : World) : Calls Tryz.prog 48 #[.pointer none] w fun e w' => e = .returned (.int .i64 1) ∧ Ext w w' := by
  go_enter Tryz.func48, Tryz.ntmps48
  go_wp2_with fail
  refine (none_commit _).mono ?_
  rintro e w1 ⟨rfl, hx⟩
  have HX := Lib.hid hx; clear hx
  go_wp2_with fail
  go_ret
  exact ⟨rfl, HX.out⟩
set_option maxRecDepth 20000 in
theorem none_forget (n : Int) (w : World) : Calls Tryz.prog 49 #[.pointer none, .int .i64 n] w fun e w' => e = .returned (.int .i64 1) ∧ Ext w w' := by
  go_enter Tryz.func49, Tryz.ntmps49
  go_wp2_with fail
  refine (none_commit _).mono ?_
  rintro e w1 ⟨rfl, hx⟩
  have HX := Lib.hid hx; clear hx
  go_wp2_with fail
  go_ret
  exact ⟨rfl, HX.out⟩
def nX7 : ByteArray := ⟨#[120]⟩
def off70 : DS := arm (new 1000) 0
def off71 : DS := (sync off70 [nX7]).2
theorem off71_off : off71.off = true := by decide +kernel
theorem open_new (name : ByteArray) (first : Nat) : openW (new 1000) name first = (0, [], { emptyL first with safe := first }, new 1000) := by
  have : segs (new 1000) name = [] := segs_of (ns := []) rfl (by simp)
  unfold openW
  rw [this]; rfl
theorem all_whole (s : ByteArray) : (decide (1 ≤ s.size) && decide (s.size ≤ 6) && (lst s).all letter) = rightB (lst s) := by
  unfold rightB
  rw [lst_length]
set_option maxRecDepth 20000 in
set_option maxHeartbeats 8000000 in
theorem walnone_any (s : ByteArray) (n : Int) (hs : s.size ≤ 9223372036854775807) (w : World) (hnb : Nibs w) :
    Calls Tryz.prog 12 #[.string s, .int .i64 n] w fun e w' => e = .returned (.bool true) ∧ Ext w w' := by
  have HN := Lib.hid hnb
  have HG := Lib.hid (cell_lt (hnb 0 (by omega)))
  clear hnb
  have HAW : Hid (∀ u, Ext w u → Calls Tryz.prog 32 #[] u fun e w' => e = .returned (.bool true) ∧ Ext u w') := fun u k => awake7_any u (HN.out.ext k)
  by_cases hbig : (100 : Int) < (s.size : Int)
  · have hg : decide ((100 : Int) < (s.size : Int)) = true := decide_eq_true hbig
    go_enter Tryz.func12, Tryz.ntmps12
    go_wp2_with (go_at_call 32; refine (HAW.out _ (Ext.refl _)).mono ?_; rintro e w1 ⟨rfl, hx⟩; have HX1 := Lib.hid hx; clear hx)
    all_goals
      go_wp2_with fail
      go_ret
      exact ⟨rfl, HX1.out⟩
  have hg : decide ((100 : Int) < (s.size : Int)) = false := decide_eq_false hbig
  go_enter Tryz.func12, Tryz.ntmps12
  go_wp2_with (go_at_call 32; refine (HAW.out _ (Ext.refl _)).mono ?_; rintro e w1 ⟨rfl, hx⟩; have HX1 := Lib.hid hx; clear hx)
  all_goals
    go_wp2_with fail
    refine (new_held 1000 (by decide) w1).mono ?_
    rintro e w2 ⟨d, rfl, hd, hx⟩
    have HX2 := Lib.hid (HX1.out.trans hx)
    have HD2 := Lib.hid hd
    have HX12 := Lib.hid hx
    clear hd hx
    obtain ⟨b0, HB0⟩ : ∃ b : Bool, Hid (b = (decide (1 ≤ s.size) && decide (s.size ≤ 6))) := ⟨_, rfl⟩
    go_upto_region 4 with fail
    go_cut [6] (fun s6 wx => s6 = .bool b0 ∧ w2 = wx)
    case first =>
      by_cases h1 : (1 : Int) ≤ (s.size : Int)
      · have e1 := decide_eq_true h1
        by_cases h6 : (s.size : Int) ≤ 6
        · have e6 := decide_eq_true h6
          go_wp2_with fail
          go_meet
          exact ⟨congrArg Value.bool (by rw [HB0.out, decide_eq_true (by omega), decide_eq_true (by omega)]; rfl), rfl⟩
        · have e6 := decide_eq_false h6
          go_wp2_with fail
          go_meet
          exact ⟨congrArg Value.bool (by rw [HB0.out, decide_eq_false (p := s.size ≤ 6) (by omega), Bool.and_false]), rfl⟩
      · have e1 := decide_eq_false h1
        go_wp2_with fail
        go_meet
        exact ⟨congrArg Value.bool (by rw [HB0.out, decide_eq_false (p := 1 ≤ s.size) (by omega), Bool.false_and]), rfl⟩
    obtain ⟨rfl, rfl⟩ := hcut
    go_wp2_with fail
    go_loopg [6, 7] (s.size) (fun g r i wr => ∃ (j : Nat) (q : Bool), i = .int .i64 j ∧ r = .bool q ∧ Hid (q = (b0 && ((lst s).take j).all letter)) ∧ j ≤ s.size ∧ g = s.size - j ∧ w2 = wr)
    case atStart => exact ⟨0, b0, rfl, rfl, (by show _ = _; simp), Nat.zero_le _, rfl, rfl⟩
    case round =>
      obtain ⟨j, q, rfl, rfl, HQ, hj, rfl, rfl⟩ := hrel
      by_cases hlt : j < s.size
      · have HT : Hid (((lst s).take (j + 1)).all letter = (((lst s).take j).all letter && letter s[j])) := by
          show _ = _
          rw [show (lst s).take (j + 1) = (lst s).take j ++ [s[j]] from bytes_take s j hlt]
          simp
        cases q with
        | false =>
          go_wp2_with fail
          go_roundg (s.size - (j + 1))
          case measure => omega
          case rel => exact ⟨j + 1, false, by go_num, rfl, (by show _ = _; rw [HT.out, ← Bool.and_assoc, ← HQ.out]; rfl), by omega, rfl, rfl⟩
        | true =>
          by_cases h97 : (97 : Int) ≤ (s[j].toNat : Int)
          · have e97 := decide_eq_true h97
            by_cases h122 : (s[j].toNat : Int) ≤ 122
            · have e122 := decide_eq_true h122
              go_wp2_with fail
              go_roundg (s.size - (j + 1))
              case measure => omega
              case rel => exact ⟨j + 1, true, by go_num, rfl, (by show _ = _; rw [HT.out, ← Bool.and_assoc, ← HQ.out]; unfold letter; rw [decide_eq_true (by omega), decide_eq_true (by omega)]; rfl), by omega, rfl, rfl⟩
            · have e122 := decide_eq_false h122
              go_wp2_with fail
              go_roundg (s.size - (j + 1))
              case measure => omega
              case rel => exact ⟨j + 1, false, by go_num, rfl, (by show _ = _; rw [HT.out, ← Bool.and_assoc, ← HQ.out]; unfold letter; rw [decide_eq_false (p := s[j].toNat ≤ 122) (by omega)]; simp), by omega, rfl, rfl⟩
          · have e97 := decide_eq_false h97
            go_wp2_with fail
            go_roundg (s.size - (j + 1))
            case measure => omega
            case rel => exact ⟨j + 1, false, by go_num, rfl, (by show _ = _; rw [HT.out, ← Bool.and_assoc, ← HQ.out]; unfold letter; rw [decide_eq_false (p := s[j].toNat ≥ 97) (by omega)]; simp), by omega, rfl, rfl⟩
      · obtain rfl : j = s.size := by omega
        have HR : Hid (q = rightB (lst s)) := by
          show _ = _
          rw [HQ.out, HB0.out, List.take_of_length_le (by rw [lst_length]; exact Nat.le_refl _), all_whole]
        clear HQ HB0
        go_wp2_with fail
        refine (lopen_nil s 0 w2).mono ?_
        rintro e w3 ⟨rfl, hx⟩
        have HX3 := Lib.hid (HX2.out.trans hx)
        have HX13 := Lib.hid (HX12.out.trans hx)
        have HD3 := Lib.hid (Held.ext HD2.out hx)
        clear hx
        have HG1 : Hid (0 < w1.heap.size) := Nat.lt_of_lt_of_le HG.out HX1.out.size
        have hbt : ∀ u, (binOp BinOp.neq 4 (.bool true) (.bool true)).run Tryz.prog u = .ok (.bool false) u := fun u => by kernel_rfl
        have hbf : ∀ u, (binOp BinOp.neq 4 (.bool false) (.bool false)).run Tryz.prog u = .ok (.bool false) u := fun u => by kernel_rfl
        cases q
        case' true =>
          have hop := lopen_any d s HR.out.symm 5 (by decide) (new 1000) (Mine w1.heap.size w3) rfl (by decide) w3 HD3.out (HN.out.ext HX3.out) (fun k => by have := HG1.out; have := k.1; omega)
          unfold ODone at hop
          rw [open_new] at hop
          simp only at hop
          go_wp2_with fail
          refine hop.mono ?_
          clear hop
          rintro e w4 ⟨p, v, rfl, hown, hok, _, ho⟩
          obtain ⟨lb, rfl, hlb, hl, G, hG1, hG2, hG3, _⟩ := hok trivial
          obtain ⟨av, cv, rfl, _, _, _⟩ := hown.form
          have HD4 : Hid (Held w1.heap.size w4 d (new 1000)) := Held.of hG1 (fun x hx => by
            rcases hG2 x hx with k | k
            · exact k.1.1
            · exact Nat.le_trans HX13.out.size k)
          have HX4 : Hid (Below w1.heap.size w1 w4) := Below.trans HX13.out (ho.below HX13.out.size (fun b k => k.1))
          have hnx : Calls Tryz.prog 42 #[.pointer (some ⟨lb, 0, none⟩)] w4 fun e w' => e = .returned (.int .i64 5) ∧ w4 = w' := lnext_any lb d s _ w4 hl
          clear hown hl hlb hG1 hG2 hG3 ho hok
          go_wp2_with fail
          refine hnx.mono ?_
          clear hnx
          rintro e w5 ⟨rfl, rfl⟩
          go_wp2_with fail
        case' false =>
          go_wp2_with fail
          refine (lopen_bad d s hs 5 (.inl HR.out.symm) w3).mono ?_
          rintro e w4 ⟨rfl, hx⟩
          have HD4 := Lib.hid (Held.ext HD3.out hx)
          have HX4 : Hid (Below w1.heap.size w1 w4) := HX13.out.trans hx
          clear hx
          go_wp2_with fail
        all_goals
          refine (arm_any d (new 1000) (Mine w1.heap.size w4) 0 (by decide) w4 HD4.out).mono ?_
          rintro e w5 ⟨rfl, hd, ho⟩
          have hmv := Held.moved hd ho HX4.out.size
          have H5 := Lib.hid (And.intro (show Held w1.heap.size w5 d off70 from hmv.1) (Below.trans HX4.out hmv.2))
          clear hd ho hmv
          go_wp2_with fail
          refine (sync_held w1.heap.size d off70 _ _ [nX7] (by decide) (by simp; decide) (by decide) w5 H5.out.1 H5.out.2.size (StrsAt.one w5 _ _)).mono ?_
          rintro e w6 ⟨rfl, hd, hb⟩
          have H6 := Lib.hid (And.intro (show Held w1.heap.size w6 d off71 from hd) (Below.trans H5.out.2 hb))
          clear hd hb
          go_wp2_with fail
          refine (lopen_off d nameW right_w 0 (by decide) off71 (Mine w1.heap.size w6) off71_off w6 H6.out.1).mono ?_
          rintro e w7 ⟨rfl, hx⟩
          have HX7 : Hid (Ext w w7) := Below.trans HX1.out (Below.mono (Below.trans H6.out.2 (Below.mono hx H6.out.2.size)) HX1.out.size)
          clear hx
          go_wp2_with fail
          refine (none_append s w7).mono ?_
          rintro e w8 ⟨rfl, rfl⟩
          go_wp2_with fail
          refine (none_commit w7).mono ?_
          rintro e w8 ⟨rfl, hx⟩
          have HX8 := Lib.hid (HX7.out.trans hx); clear hx
          go_wp2_with fail
          refine (none_rotate w8).mono ?_
          rintro e w9 ⟨rfl, hx⟩
          have HX9 := Lib.hid (HX8.out.trans hx); clear hx
          go_wp2_with fail
          refine (none_forget n w9).mono ?_
          rintro e w10 ⟨rfl, hx⟩
          have HX10 := Lib.hid (HX9.out.trans hx); clear hx
          go_wp2_with fail
          refine (none_err w10).mono ?_
          rintro e w11 ⟨rfl, rfl⟩
          go_wp2_with fail
          refine (none_next w10).mono ?_
          rintro e w11 ⟨rfl, rfl⟩
          go_wp2_with fail
          refine (none_safe w10).mono ?_
          rintro e w11 ⟨rfl, rfl⟩
          go_wp2_with fail
          go_ret
          exact ⟨rfl, HX10.out⟩
end Go.Proofs.YtmdkjcigmhgpeaaGreatDoor
