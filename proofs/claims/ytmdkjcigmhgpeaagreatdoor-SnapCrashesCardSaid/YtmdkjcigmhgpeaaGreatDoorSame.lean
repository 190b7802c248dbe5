/- ref05.Same: two lists of texts (the same text as in XSealMisc, without the seal's words). -/
import Derived.Test.YtmdkjcigmhgpeaaGreatDoorBase
namespace Go.Proofs.YtmdkjcigmhgpeaaGreatDoor
open Go.RowKit

set_option maxHeartbeats 400000 in
/-- Same: two lists of texts. -/
theorem same_any (a : Option Addr) (c : Nat) (xs : List ByteArray) (b : Option Addr) (d : Nat) (ys : List ByteArray) (hx : xs.length ≤ 140737488355328) (w : World) (h1 : StrsAt w a xs) (h2 : StrsAt w b ys) :
    Calls Tryz.prog 28 #[.slice a xs.length c, .slice b ys.length d] w fun e w' => e = .returned (.bool (decide (xs = ys))) ∧ Ext w w' := by
  by_cases hl : xs.length = ys.length
  · have hl2 : ((xs.length : Int) != ys.length) = false := by simp [hl]
    have H1 := Lib.hid h1; clear h1
    have H2 := Lib.hid h2; clear h2
    have HL := Lib.hid hl; clear hl
    go_enter Tryz.func28, Tryz.ntmps28
    go_wp2_with fail
    go_loopg [5] (xs.length) (fun k i wr => ∃ n : Nat, i = .int .i64 n ∧ n ≤ xs.length ∧ k = xs.length - n ∧ Hid (xs.take n = ys.take n) ∧ Ext w wr)
    case atStart => exact ⟨0, rfl, Nat.zero_le _, rfl, rfl, Ext.refl _⟩
    case round =>
      obtain ⟨n, rfl, hn, rfl, HT, hk⟩ := hrel
      by_cases hlt : n < xs.length
      · have hlt2 : n < ys.length := by have := HL.out; omega
        obtain ⟨bk, o, rfl, _, hcx⟩ := (H1.out.ext hk) n _ (List.getElem?_eq_getElem hlt)
        obtain ⟨bk2, o2, rfl, _, hcy⟩ := (H2.out.ext hk) n _ (List.getElem?_eq_getElem hlt2)
        have i1 : (0 : Int) ≤ n := by omega
        have i2 : (n : Int) < xs.length := by omega
        have i3 : (n : Int) < ys.length := by omega
        have HX : Hid (xs.take (n + 1) = xs.take n ++ [xs[n]]) := List.take_succ_eq_append_getElem hlt
        have HY : Hid (ys.take (n + 1) = ys.take n ++ [ys[n]]) := List.take_succ_eq_append_getElem hlt2
        have HZ : Hid (xs[n] ≠ ys[n] → xs ≠ ys) := fun h e => h (by simp [e])
        generalize xs[n] = x at hcx HX HZ
        generalize ys[n] = y at hcy HY HZ
        go_wp2_with fail
        go_quiet (fail)
        generalize hb : (!x.toList == y.toList) = b
        have HB : Hid (b = decide (x ≠ y)) := by
          show _ = _
          rw [← hb, ByteArray.toList_eq, ByteArray.toList_eq, Bool.eq_iff_iff]
          simp only [Bool.not_eq_true', beq_eq_false_iff_ne, decide_eq_true_eq]
          exact ⟨fun h e => h (by rw [e]), fun h e => h (lst_inj e)⟩
        clear hb
        have k2 := hk.drewN nq
        cases b
        · go_wp2_with fail
          go_roundg (xs.length - (n + 1))
          case measure => omega
          case rel => exact ⟨n + 1, by go_num, by omega, rfl, by
            show _ = _
            have he : x = y := Classical.byContradiction fun h => by have := HB.out; simp [h] at this
            rw [HX.out, HY.out, HT.out, he], k2⟩
        · go_wp2_with fail
          go_ret
          refine ⟨ret_bool ?_, k2⟩
          rw [eq_comm, decide_eq_false_iff_not]
          exact HZ.out (of_decide_eq_true HB.out.symm)
      · go_wp2_with fail
        go_ret
        refine ⟨ret_bool ?_, hk⟩
        have h := HT.out
        rw [List.take_of_length_le (by omega), List.take_of_length_le (by have := HL.out; omega)] at h
        simp [h]
  · have hl2 : ((xs.length : Int) != ys.length) = true := by rw [bne_iff_ne]; omega
    have HL := Lib.hid hl; clear hl
    go_enter Tryz.func28, Tryz.ntmps28
    go_wp2_with fail
    go_ret
    refine ⟨ret_bool ?_, Ext.refl _⟩
    rw [eq_comm, decide_eq_false_iff_not]
    intro h
    exact HL.out (by rw [h])

end Go.Proofs.YtmdkjcigmhgpeaaGreatDoor
