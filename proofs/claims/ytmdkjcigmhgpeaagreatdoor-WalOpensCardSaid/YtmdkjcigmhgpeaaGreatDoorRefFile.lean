/- The walks of the document's Number, Size, File. -/
import Derived.Test.YtmdkjcigmhgpeaaGreatDoorSnapFiles
import Derived.Test.YtmdkjcigmhgpeaaGreatDoorSealRef
namespace Go.Proofs.YtmdkjcigmhgpeaaGreatDoor
open Go.RowKit Snp SealMath

/-- A text of one byte. -/
theorem one_byte (w : World) (x : Int) : (convert 25 9 (.slice (some ⟨w.heap.size, 0, none⟩) 1 1)).run Tryz.prog (w.alloc (.cells #[.int .u8 x] 5)) = .ok (.string (strOfNums [x])) (w.alloc (.cells #[.int .u8 x] 5)) :=
  slice_bytes w.heap.size 0 [x] 1 1 rfl (fun i hi => by
    obtain rfl : i = 0 := by omega
    rw [cell_new]; rfl)
/-- What is still to be laid of a number, and what is. -/
def NumAt (n q : Nat) (l : List UInt8) : Prop := beF 8 n = beF (8 - l.length) q ++ l
theorem NumAt.step {n q : Nat} {l : List UInt8} (h : NumAt n q l) (hq : 0 < q) (hl : l.length < 8) : NumAt n (q / 256) (UInt8.ofNat (q % 256) :: l) := by
  unfold NumAt at h ⊢
  obtain ⟨k, hk⟩ : ∃ k, 8 - l.length = k + 1 := ⟨8 - l.length - 1, by omega⟩
  have hk2 : 8 - (UInt8.ofNat (q % 256) :: l).length = k := by simp; omega
  rw [hk2, h, hk]
  show (if q = 0 then [] else _) ++ l = _
  rw [if_neg (by omega)]
  simp
theorem NumAt.done {n : Nat} {l : List UInt8} (h : NumAt n 0 l) : be n = l := by
  unfold NumAt at h
  unfold be
  rw [h]
  have : beF (8 - l.length) 0 = [] := by
    cases 8 - l.length <;> simp [beF]
  rw [this]; rfl
theorem lst_one (x : Nat) : lst (strOfNums [(x : Int)]) = [UInt8.ofNat x] := rfl
set_option maxRecDepth 20000 in
set_option maxHeartbeats 1000000 in
theorem num4_any (n : Nat) (hn : n < 18446744073709551616) (w : World) :
    Calls Tryz.prog 155 #[.int .u64 (n : Nat)] w fun e w' => e = .returned (.string (bts (numL n))) ∧ Ext w w' := by
  go_enter Tryz.func155, Tryz.ntmps155
  go_wp2_with fail
  go_loopg [0, 3] n (fun g u v wr => ∃ (q : Nat) (s : ByteArray), u = .int .u64 q ∧ v = .string s ∧ s.size ≤ 8 ∧ q < 256 ^ (8 - s.size) ∧ Hid (NumAt n q (lst s)) ∧ q = g ∧ Ext w wr)
  case atStart => exact ⟨n, ⟨#[]⟩, rfl, rfl, Nat.zero_le _, (by show n < 256 ^ (8 - 0); simpa using hn), by show NumAt n n _; simp [NumAt, lst], rfl, Ext.refl _⟩
  case round =>
    obtain ⟨q, s, rfl, rfl, hs, hq, HP, rfl, hx⟩ := hrel
    by_cases hz : q = 0
    · subst hz
      have HD := Lib.hid HP.out.done
      have hone := one_byte wr (s.size : Int)
      have HO : Hid (lst (strOfNums [(s.size : Int)]) = [UInt8.ofNat s.size]) := rfl
      have hos : (strOfNums [(s.size : Int)]).size = 1 := rfl
      generalize strOfNums [(s.size : Int)] = o at hone HO hos
      go_wp2_with fail
      go_ret
      refine ⟨ret_str (lst_inj ?_), hx.alloc _⟩
      rw [lst_append, HO.out, lst_bts]
      unfold numL
      rw [HD.out, lst_length]; rfl
    · have hlt : s.size < 8 := by
        apply Classical.byContradiction; intro h
        have : 8 - s.size = 0 := by omega
        rw [this] at hq; simp at hq; exact hz hq
      have HS := Lib.hid (HP.out.step (by omega) (by rw [lst_length]; omega))
      have hqb : q < 18446744073709551616 := Nat.lt_of_lt_of_le hq (by have := Nat.pow_le_pow_right (n := 256) (by omega) (show 8 - s.size ≤ 8 by omega); simpa using this)
      have hone := one_byte wr ((q : Int) % 256)
      have HO : Hid (lst (strOfNums [(q : Int) % 256]) = [UInt8.ofNat (q % 256)]) := by
        rw [show ((q : Int) % 256) = ((q % 256 : Nat) : Int) by omega]
        exact lst_one _
      have hos : (strOfNums [(q : Int) % 256]).size = 1 := rfl
      generalize strOfNums [(q : Int) % 256] = o at hone HO hos
      have hx2 : Ext w (wr.alloc (.cells #[.int .u8 ((q : Int) % 256)] 5)) := hx.alloc _
      go_wp2_with fail
      go_roundg (q / 256)
      case measure => omega
      case rel =>
        refine ⟨q / 256, o ++ s, congrArg (Value.int .u64) (by first | omega | (rw [IntKind.wrap_u64]; omega)), rfl, by rw [ByteArray.size_append]; omega, ?_, ?_, rfl, hx2⟩
        · rw [ByteArray.size_append, hos]
          have : 8 - s.size = (8 - (1 + s.size)) + 1 := by omega
          rw [this, Nat.pow_succ] at hq; omega
        · show NumAt _ _ _
          rw [lst_append, HO.out]; exact HS.out
theorem size4_any (n : Nat) (hn : n ≤ 9223372036854775807) (w : World) :
    Calls Tryz.prog 127 #[.int .i64 (n : Nat)] w fun e w' => e = .returned (.string (bts (numL n))) ∧ Ext w w' := by
  have h0 : ¬ ((n : Nat) : Int) < 0 := by omega
  have hcall := num4_any n (by omega) w
  go_enter Tryz.func127, Tryz.ntmps127
  go_wp2_with fail
  refine hcall.mono ?_
  clear hcall
  rintro e w1 ⟨rfl, hx⟩
  have HX := Lib.hid hx; clear hx
  go_wp2_with fail
  go_ret
  exact ⟨rfl, HX.out⟩

/-- The pieces of data's first j bytes, j a whole number of pieces. -/
theorem pieces_step (d : List UInt8) (j : Nat) (h : j < d.length) : piecesL (d.drop j) = (d.drop j).take 60000 :: piecesL (d.drop (j + 60000)) := by
  rw [piecesL_cons _ (by intro e; have := congrArg List.length e; simp at this; omega), List.drop_drop]
set_option maxRecDepth 20000 in
set_option maxHeartbeats 1000000 in
/-- The document's File. -/
theorem rfile_any (n : Nat) (hn : n ≤ 99999999) (s : ByteArray) (hs : s.size ≤ 960000) (w : World) :
    Calls Tryz.prog 89 #[.int .i64 (n : Nat), .string s] w fun e w' => e = .returned (.string (bts (fileL n (lst s)))) ∧ Ext w w' := by
  have h1 := numL_length n
  have h2 := numL_length s.size
  have hcall := size4_any n (by omega) w
  have hcall2 := fun u => size4_any s.size (by omega) u
  have HS1 : Hid (lst (bts (numL n)) = numL n) := rfl
  have HS2 : Hid (lst (bts (numL s.size)) = numL s.size) := rfl
  have hz1 : (bts (numL n)).size ≤ 9 := h1
  have hz2 : (bts (numL s.size)).size ≤ 9 := h2
  generalize bts (numL n) = x at hcall HS1 hz1
  generalize bts (numL s.size) = y at hcall2 HS2 hz2
  have HC2 := Lib.hid hcall2
  clear hcall2 h1 h2
  go_enter Tryz.func89, Tryz.ntmps89
  go_wp2_with fail
  refine hcall.mono ?_
  clear hcall
  rintro e w1 ⟨rfl, hx1⟩
  have HX1 := Lib.hid hx1; clear hx1
  have hcall := HC2.out w1
  go_wp2_with fail
  refine hcall.mono ?_
  clear hcall HC2
  rintro e w2 ⟨rfl, hx2⟩
  have HX2 := Lib.hid (Ext.trans HX1.out hx2); clear hx2
  have hxy : (x ++ y).size ≤ 18 := by rw [ByteArray.size_append]; omega
  have hcall := refframe_any (x ++ y) (by omega) w2
  go_wp2_with fail
  refine hcall.mono ?_
  clear hcall
  rintro e w3 ⟨f0, rfl, hf0, hx3⟩
  have HX3 := Lib.hid (Ext.trans HX2.out hx3); clear hx3
  have HF0 : Hid (lst f0 = framesL [headL n (lst s)]) := by
    show _ = _
    rw [hf0, lst_append, HS1.out, HS2.out]
    simp [framesL, headL]
  have hf0s : f0.size ≤ 30 := by rw [← lst_length, hf0, frameL_length, lst_length]; omega
  clear hf0
  go_wp2_with fail
  go_loopg [5, 6] 40 (fun g v i wr => ∃ (r : ByteArray) (j k : Nat), v = .string r ∧ i = .int .i64 j ∧ Hid (j = 60000 * k ∧ j < s.size + 60000) ∧ k ≤ 20 ∧ g = 40 - k ∧ j ≤ 1100000 ∧ r.size ≤ 30 + 60012 * k ∧ Hid (lst r ++ framesL (piecesL ((lst s).drop j)) = fileL n (lst s)) ∧ Ext w wr)
  case atStart => exact ⟨f0, 0, 0, rfl, rfl, ⟨rfl, by omega⟩, by omega, rfl, by omega, by omega, (show Hid _ from by
    show _ = _
    rw [HF0.out, List.drop_zero, ← framesL_append]; rfl), HX3.out⟩
  case round =>
    obtain ⟨r, j, k, rfl, rfl, HJ, hk, rfl, hj, hr, HP, hx⟩ := hrel
    by_cases hlt : j < s.size
    · obtain ⟨m, hm, hmin, hm2, hm3⟩ : ∃ m : Nat, Hid (m = min (j + 60000) s.size) ∧ min ((j : Int) + 60000) (s.size : Int) = (m : Int) ∧ j ≤ m ∧ m ≤ s.size := ⟨min (j + 60000) s.size, rfl, by omega, by omega, by omega⟩
      have hpz : (s.extract j m).size ≤ 60000 := by rw [ByteArray.size_extract]; have := hm.out; omega
      have HPC : Hid (lst (s.extract j m) = ((lst s).drop j).take 60000) := by
        show _ = _
        rw [show lst (s.extract j m) = (s.extract j m).data.toList from rfl, Lib.extract_data]
        show ((lst s).drop j).take (m - j) = _
        rw [hm.out]
        by_cases hb : j + 60000 ≤ s.size
        · rw [Nat.min_eq_left hb, Nat.add_sub_cancel_left]
        · rw [Nat.min_eq_right (by omega), List.take_of_length_le (by rw [List.length_drop, lst_length]; exact Nat.le_refl _), List.take_of_length_le (by rw [List.length_drop, lst_length]; omega)]
      have hcall := refframe_any (s.extract j m) (by omega) wr
      have hlt2 : (j : Int) ≤ (m : Int) := by omega
      have hlt3 : (m : Int) ≤ (s.size : Int) := by omega
      go_wp2_with fail
      generalize s.extract j m = p at hcall HPC hpz
      refine hcall.mono ?_
      clear hcall
      rintro e w4 ⟨f, rfl, hf, hx4⟩
      have HX4 := Lib.hid (Ext.trans hx hx4)
      have hfs : f.size ≤ 60012 := by rw [← lst_length, hf, frameL_length, lst_length]; omega
      have HF := Lib.hid hf
      clear hx4 hx hf
      go_wp2_with fail
      go_roundg (40 - (k + 1))
      case measure => omega
      case rel => exact ⟨r ++ f, j + 60000, k + 1, rfl, by go_num, (show Hid _ from by have := HJ.out; exact ⟨by omega, by omega⟩), by have := HJ.out; omega, rfl, by omega, by rw [ByteArray.size_append]; omega, (show Hid _ from by
        show _ = _
        rw [← HP.out, pieces_step _ j (by rw [lst_length]; exact hlt), framesL_cons, lst_append, HF.out, HPC.out, List.append_assoc]), HX4.out⟩
    · go_wp2_with fail
      go_ret
      refine ⟨ret_str (lst_inj ?_), hx⟩
      have := HP.out
      rw [List.drop_eq_nil_of_le (by rw [lst_length]; omega), piecesL_nil] at this
      rw [lst_bts, ← this]
      simp [framesL]
end Go.Proofs.YtmdkjcigmhgpeaaGreatDoor
