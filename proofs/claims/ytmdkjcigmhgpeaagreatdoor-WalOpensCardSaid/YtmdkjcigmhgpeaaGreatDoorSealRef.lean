/- The walks of the document's seal: Sum, Eight, Frame. -/
import Derived.Test.YtmdkjcigmhgpeaaGreatDoorBase
import Derived.Test.YtmdkjcigmhgpeaaGreatDoorSealAdd
import Derived.Test.YtmdkjcigmhgpeaaGreatDoorSealOpen
namespace Go.Proofs.YtmdkjcigmhgpeaaGreatDoor
open Go.RowKit SealMath

theorem bitsStep_succ (j k r c : Nat) : bitsStep (j + k) r c = bitsStep k (bitsStep j r c) (c / 2 ^ j) := by
  induction j generalizing r c with
  | zero => simp [bitsStep]
  | succ j ih =>
    rw [Nat.succ_add]
    simp only [bitsStep]
    rw [ih, Nat.div_div_eq_div_mul, Nat.pow_succ, Nat.mul_comm 2]
theorem bitsStep_one (j r c : Nat) : bitsStep (j + 1) r c = bitStep (bitsStep j r c) (c / 2 ^ j) := bitsStep_succ j 1 r c
theorem bitStep_lt (r c : Nat) (h : r < 2 ^ 64) : bitStep r c < 2 ^ 64 := by
  rw [bitStep_eq]; exact st0_lt _ (Nat.xor_lt_two_pow h (by omega))
theorem bits_eight (r c : Nat) (h : c < 256) : bitsStep 8 r c = byteStep r c := bitsStep_eq 8 r c h

theorem bit_test (p c m : Nat) : ((p : Int) % 2 != IntKind.u64.wrap (((c : Int) / 2 ^ m).tmod 2)) = decide (p % 2 ≠ c / 2 ^ m % 2) := by
  have e1 : (c : Int) / 2 ^ m = ((c / 2 ^ m : Nat) : Int) := by rw [Int.natCast_ediv, Int.natCast_pow]; rfl
  rw [e1, show (((c / 2 ^ m : Nat) : Int).tmod 2) = ((c / 2 ^ m % 2 : Nat) : Int) from rfl, IntKind.wrap_u64]
  generalize c / 2 ^ m = x
  rw [Bool.eq_iff_iff, bne_iff_ne, decide_eq_true_eq]
  omega
theorem bit_xor (p : Nat) (hp : p < 2 ^ 64) : bits BinOp.xor IntKind.u64 ((p : Int) / 2) 14514072000185962306 = ((p / 2 ^^^ poly : Nat) : Int) :=
  u64_xor_nat (p / 2) poly (by omega) (by decide)

set_option maxHeartbeats 400000 in
/-- The document's Sum. -/
theorem refsum_any (s : ByteArray) (hm : s.size ≤ 9223372036854775807) (w : World) :
    Calls Tryz.prog 135 #[.string s] w fun e w' => e = .returned (.int .u64 (crc (lst s) : Nat)) ∧ w = w' := by
  go_enter Tryz.func135, Tryz.ntmps135
  go_wp2
  go_loopg [3, 4] (s.size) (fun k r i wr => ∃ (q n : Nat), r = .int .u64 q ∧ q < 2 ^ 64 ∧ i = .int .i64 n ∧ n ≤ s.size ∧ k = s.size - n ∧ Hid (q = reg ones ((lst s).take n)) ∧ wr = w)
  case atStart => exact ⟨ones, 0, rfl, by decide, rfl, Nat.zero_le _, rfl, rfl, rfl⟩
  case round =>
    obtain ⟨q, n, rfl, hq, rfl, hnl, rfl, HQ, hw⟩ := hrel
    subst hw
    by_cases hlt : n < s.size
    · go_wp2
      go_loopg [3, 5] 8 (fun k r i wi => ∃ (p m : Nat), r = .int .u64 p ∧ p < 2 ^ 64 ∧ i = .int .i64 m ∧ m ≤ 8 ∧ k = 8 - m ∧ Hid (p = bitsStep m q s[n].toNat) ∧ wi = wr)
      case atStart => exact ⟨q, 0, rfl, hq, rfl, Nat.zero_le _, rfl, rfl, rfl⟩
      case round =>
        obtain ⟨p, m, rfl, hp, rfl, hml, rfl, HP, hwi⟩ := hrel
        subst hwi
        by_cases hlm : m < 8
        · obtain ⟨b, hb, eb⟩ : ∃ b, b = decide (p % 2 ≠ s[n].toNat / 2 ^ m % 2) ∧ ((p : Int) % 2 != IntKind.u64.wrap (((s[n].toNat : Int) / 2 ^ m).tmod 2)) = b := ⟨_, rfl, bit_test p _ m⟩
          have HB := Lib.hid hb; clear hb
          have ex := bit_xor p hp
          have H3 : Hid (bitsStep (m + 1) q s[n].toNat = if p % 2 ≠ s[n].toNat / 2 ^ m % 2 then p / 2 ^^^ poly else p / 2) := by
            show _ = _
            rw [bitsStep_one, ← HP.out]; rfl
          cases b
          · go_wp2
            go_roundg (8 - (m + 1))
            case measure => omega
            case rel => exact ⟨p / 2, m + 1, by go_num, by omega, by go_num, by omega, rfl, by
              show p / 2 = _
              rw [H3.out, if_neg (of_decide_eq_false HB.out.symm)], rfl⟩
          · go_wp2
            go_roundg (8 - (m + 1))
            case measure => omega
            case rel => exact ⟨p / 2 ^^^ poly, m + 1, rfl, by
              have := bitStep_lt p (p + 1) hp
              unfold bitStep at this
              rw [if_pos (by omega)] at this
              exact this, by go_num, by omega, rfl, by
              show p / 2 ^^^ poly = _
              rw [H3.out, if_pos (of_decide_eq_true HB.out.symm)], rfl⟩
        · have em : m = 8 := by omega
          subst em
          have H4 : Hid (p = reg ones ((lst s).take (n + 1))) := by
            show _ = _
            rw [bytes_take s n hlt, reg_snoc, ← HQ.out, HP.out, bits_eight _ _ (s[n].toNat_lt)]
          go_wp2
          go_roundg (s.size - (n + 1))
          case measure => omega
          case rel => exact ⟨p, n + 1, rfl, hp, by go_num, by omega, rfl, H4, rfl⟩
    · have H5 : Hid ((18446744073709551615 : Int) - (q : Int) = ((crc (lst s) : Nat) : Int)) := by
        show _ = _
        have h1 := HQ.out
        rw [List.take_of_length_le (by rw [lst_length]; omega)] at h1
        have h2 : crc (lst s) = ones - q := by rw [h1]; rfl
        have h3 := ones_pow
        rw [h2]; omega
      go_wp2
      go_ret
      exact ⟨ret_int H5.out, rfl⟩

theorem info_byte : (Tryz.prog.info? 5).map (fun i => (i.zero, i.size, i.bytes)) = some (some (.int .u8 0), 1, 1) := by kernel_rfl
/-- A slice of bytes that the call owns. -/
def OwnBytes (w : World) (base : Nat) (v : Value) (xs : List Int) : Prop := w.ownsRow base 5 1 v xs.length (xs.map (Value.int .u8))
theorem OwnBytes.nil (w : World) (base : Nat) : OwnBytes w base (.slice none 0 0) [] := World.ownsRow_nil _ _ _ _
theorem OwnBytes.ext {w w' : World} {base : Nat} {v : Value} {xs : List Int} (h : OwnBytes w base v xs) (k : Ext w w') : OwnBytes w' base v xs := ownsRow_ext h k
theorem OwnBytes.str {w : World} {base : Nat} {v : Value} {xs : List Int} (h : OwnBytes w base v xs) :
    (convert 25 9 v).run Tryz.prog w = .ok (.string (strOfNums xs)) w := by
  have h' := h
  obtain ⟨_, h | ⟨g, cap, cur, rfl, hb, hg, hn, hc, hs, ht⟩⟩ := h
  · have : xs = [] := List.eq_nil_of_length_eq_zero h.2
    subst this
    rw [h.1]
    exact run_convert_bytes_nil w 25 5 Tryz.underlying25 Tryz.underlying5 0 0 9 Tryz.underlying9
  · exact slice_bytes_row g cur _ _ hg xs xs.length cap rfl (by rw [Nat.mul_one] at ht; exact ht)

theorem le_snoc (k n : Nat) : le (k + 1) n = le k n ++ [UInt8.ofNat (n / 256 ^ k % 256)] := by
  induction k generalizing n with
  | zero => simp [le]
  | succ k ih =>
    have h := ih (n / 256)
    conv => lhs; rw [le]
    rw [h]
    simp only [le, List.cons_append, Nat.div_div_eq_div_mul, Nat.pow_succ, Nat.mul_comm]

set_option maxRecDepth 20000 in
set_option maxHeartbeats 400000 in
/-- The document's Eight. -/
theorem eight_any (n : Nat) (hn : n < 18446744073709551616) (w : World) :
    Calls Tryz.prog 134 #[.int .u64 n] w fun e w' => ∃ r, e = .returned (.string r) ∧ lst r = le 8 n ∧ Ext w w' := by
  obtain ⟨i0, hi, hz0, hz1, hz2⟩ := info_parts info_byte
  go_enter Tryz.func134, Tryz.ntmps134
  go_wp2_with fail
  go_loopg [0, 3, 4] 8 (fun g x v i wr => ∃ (q k : Nat) (done : List Int), x = .int .u64 q ∧ q < 18446744073709551616 ∧ i = .int .i64 k ∧ k ≤ 8 ∧ g = 8 - k ∧ done.length ≤ k ∧ OwnBytes wr w.heap.size v done ∧ Ext w wr ∧ Hid (q = n / 256 ^ k ∧ done.map (fun n => UInt8.ofNat n.toNat) = le k n))
  case atStart => exact ⟨n, 0, [], rfl, hn, rfl, by omega, rfl, by simp, OwnBytes.nil _ _, Ext.refl _, by simp, rfl⟩
  case round =>
    obtain ⟨q, k, done, rfl, hq, rfl, hk8, rfl, hd, hown, hk, HD⟩ := hrel
    by_cases hlt : k < 8
    · go_wp2_with (at_builtin; refine wpList_append_own _ rfl _ _ 25 rfl w.heap.size 5 i0 (.int .u8 0) 1 1 Tryz.underlying25 hi hz0 hz1 hz2 rfl (by decide) _ _ _ rfl (hown.alloc _) ⟨wr.heap.size, 0, none⟩ 1 1 [.int .u8 ((q : Int) % 256)] rfl rfl ?c1 ?c2 ?c3 ?c4 ?c5 ?_)
      case c1 => exact cell_one_new _ _ _
      case c2 => intro u hu; simp at hu; subst hu; rfl
      case c3 => unfold maxLen; omega
      case c4 => omega
      case c5 => have := hk.size; simp; omega
      intro v' w2 hown2 hg2 _
      have hlt2 := hown.lt
      have k2 : Ext w w2 := Below.grown (hk.alloc _) hg2 (by have := hk.size; simp; omega) (fun k e => (hlt2 k e).1)
      have HO2 : OwnBytes w2 w.heap.size v' (done ++ [(q : Int) % 256]) := by
        unfold OwnBytes
        rw [List.length_append, List.map_append]
        exact hown2
      clear hown2 hown hlt2
      go_wp2_with fail
      go_roundg (8 - (k + 1))
      case measure => omega
      case rel => exact ⟨q / 256, k + 1, done ++ [(q : Int) % 256], by go_num, by omega, by go_num, by omega, rfl, by simp; omega, HO2, k2, by
        obtain ⟨h1, h2⟩ := HD.out
        refine ⟨by rw [h1, Nat.div_div_eq_div_mul, Nat.pow_succ], ?_⟩
        rw [List.map_append, h2, le_snoc, h1]
        have e : ∀ m : Nat, ((m : Int) % 256).toNat = m % 256 := fun m => by omega
        rw [List.map_cons, List.map_nil, e]⟩
    · have e8 : k = 8 := by omega
      subst e8
      have hcv := hown.str
      have HR : Hid (lst (strOfNums done) = le 8 n) := by
        show _ = _
        rw [lst_nums]; exact HD.out.2
      obtain ⟨r, hr⟩ : ∃ r, strOfNums done = r := ⟨_, rfl⟩
      rw [hr] at hcv HR
      clear hr
      clear hown
      go_wp2_with fail
      go_ret
      exact ⟨_, rfl, HR.out, hk⟩

set_option maxHeartbeats 400000 in
/-- The document's Frame: of at most 65536 bytes. -/
theorem refframe_any (s : ByteArray) (hs : s.size ≤ 65536) (w : World) :
    Calls Tryz.prog 98 #[.string s] w fun e w' => ∃ r, e = .returned (.string r) ∧ lst r = frameL (lst s) ∧ Ext w w' := by
  have h4 := four_bytes w ((s.size : Int) / 16777216) ((s.size : Int) / 65536 % 256) ((s.size : Int) / 256 % 256) ((s.size : Int) % 256)
  obtain ⟨r, hr, hrs⟩ : ∃ r, strOfNums [(s.size : Int) / 16777216, (s.size : Int) / 65536 % 256, (s.size : Int) / 256 % 256, (s.size : Int) % 256] = r ∧ r.size ≤ 4 := ⟨_, rfl, by rw [strOfNums_size]; exact Nat.le_refl 4⟩
  rw [hr] at h4
  have HR : Hid (lst r = be4 (lst s).length) := by
    show _ = _
    rw [← hr, lst_nums, lst_length]
    simp only [List.map_cons, List.map_nil, be4]
    rw [show ((s.size : Int) / 16777216).toNat = s.size / 16777216 by omega, show ((s.size : Int) / 65536 % 256).toNat = s.size / 65536 % 256 by omega, show ((s.size : Int) / 256 % 256).toNat = s.size / 256 % 256 by omega, show ((s.size : Int) % 256).toNat = s.size % 256 by omega]
  clear hr
  go_enter Tryz.func98, Tryz.ntmps98
  go_wp2_with fail
  have k1 := (Ext.refl w).alloc (.cells #[.int .u8 ((s.size : Int) / 16777216), .int .u8 ((s.size : Int) / 65536 % 256), .int .u8 ((s.size : Int) / 256 % 256), .int .u8 ((s.size : Int) % 256)] 5)
  obtain ⟨y, hy⟩ : ∃ y, r ++ s = y := ⟨_, rfl⟩
  rw [hy]
  have hys : y.size ≤ 65540 := by rw [← hy, ByteArray.size_append]; omega
  have HY : Hid (lst y = be4 (lst s).length ++ lst s) := by
    show _ = _
    rw [← hy, lst_append, HR.out]
  clear hy h4
  refine (refsum_any y (by omega) _).mono ?_
  rintro e w1 ⟨rfl, rfl⟩
  have hc := crc_lt (lst y)
  obtain ⟨q, hq⟩ : ∃ q, crc (lst y) = q := ⟨_, rfl⟩
  rw [hq] at hc ⊢
  have HQ := Lib.hid hq; clear hq
  go_wp2_with fail
  refine (eight_any q (by omega) _).mono ?_
  rintro e w2 ⟨g, rfl, hg, k2⟩
  have hgs : g.size ≤ 8 := by rw [← lst_length, hg, le_length]; exact Nat.le_refl 8
  have HG := Lib.hid hg; clear hg
  go_wp2_with fail
  go_ret
  refine ⟨_, rfl, ?_, k1.trans k2⟩
  rw [lst_append, HG.out, ← HQ.out, HY.out]
  rfl

set_option maxHeartbeats 400000 in
theorem refopen_short4 (s : ByteArray) (h : s.size < 4) (w : World) :
    Calls Tryz.prog 125 #[.string s] w (Opened s w) := by
  go_enter Tryz.func125, Tryz.ntmps125
  go_wp2_with fail
  go_ret3
  refine ⟨⟨#[]⟩, 0, 1, rfl, ?_, Ext.refl _⟩
  unfold openL
  rw [if_pos (by rw [lst_length]; exact h)]

theorem told_num2 (a b c d : UInt8) : wrap64 (wrap64 (wrap64 (wrap64 (16777216 * wrap64 (a.toNat : Int)) + wrap64 (65536 * wrap64 (b.toNat : Int))) + wrap64 (256 * wrap64 (c.toNat : Int))) + wrap64 (d.toNat : Int)) =
    ((16777216 * a.toNat + 65536 * b.toNat + 256 * c.toNat + d.toNat : Nat) : Int) := by
  have ha := a.toNat_lt
  have hb := b.toNat_lt
  have hc := c.toNat_lt
  have hd := d.toNat_lt
  have w : ∀ n : Int, 0 ≤ n → n < 9223372036854775808 → wrap64 n = n := fun n h1 h2 => IntWalk.wrap64_in n ⟨by omega, by omega⟩
  rw [w a.toNat (by omega) (by omega), w b.toNat (by omega) (by omega), w c.toNat (by omega) (by omega), w d.toNat (by omega) (by omega), w (16777216 * _) (by omega) (by omega), w (65536 * _) (by omega) (by omega), w (256 * _) (by omega) (by omega),
    w (16777216 * _ + 65536 * _) (by omega) (by omega), w (16777216 * _ + 65536 * _ + 256 * _) (by omega) (by omega), w _ (by omega) (by omega)]
  omega

set_option maxHeartbeats 400000 in
/-- The document's Open. -/
theorem refopen_long (s : ByteArray) (h : 4 ≤ s.size) (hm : s.size ≤ 9223372036854775807) (w : World) :
    Calls Tryz.prog 125 #[.string s] w (Opened s w) := by
  have htl := told_lt s
  have h0 : 0 < s.size := by omega
  have h1 : (1 : Int) < s.size := by omega
  have h2 : (2 : Int) < s.size := by omega
  have h3 : (3 : Int) < s.size := by omega
  have H := Lib.hid (toldL_at s h h0 (by omega) (by omega) (by omega))
  go_enter Tryz.func125, Tryz.ntmps125
  go_wp2_with fail
  go_quiet (fail)
  obtain ⟨t, ht, e⟩ : ∃ t, toldL (lst s) = t ∧ wrap64 (wrap64 (wrap64 (wrap64 ((16777216 : Int) * wrap64 (s[0].toNat : Int)) + wrap64 ((65536 : Int) * wrap64 (s[1].toNat : Int))) + wrap64 ((256 : Int) * wrap64 (s[2].toNat : Int))) + wrap64 (s[3].toNat : Int)) = (t : Int) :=
    ⟨_, rfl, by rw [H.out]; exact told_num2 _ _ _ _⟩
  rw [ht] at htl
  rw [e]
  have HT := Lib.hid ht; clear ht e
  have k1 := (Ext.refl w).drewN nq
  by_cases g1 : 65536 < t
  · go_wp2_with fail
    go_ret3
    refine ⟨⟨#[]⟩, 0, 2, rfl, ?_, k1⟩
    unfold openL
    rw [if_neg (by rw [lst_length]; omega), if_pos (by rw [HT.out]; exact g1)]
  · by_cases g2 : s.size < t + 12
    · go_wp2_with fail
      go_ret3
      refine ⟨⟨#[]⟩, 0, 1, rfl, ?_, k1⟩
      unfold openL
      rw [if_neg (by rw [lst_length]; omega), if_neg (by rw [HT.out]; exact g1), if_pos (by rw [HT.out, lst_length]; exact g2)]
    · go_wp2_with fail
      have f1 : IntKind.i64.wrap (4 + (t : Int)) = 4 + (t : Int) := IntWalk.i64_in _ (by omega)
      have f2 : (0 : Int) ≤ 4 + (t : Int) := by omega
      have f3 : 4 + (t : Int) ≤ s.size := by omega
      have f4 : (4 + (t : Int)).toNat = 4 + t := by omega
      have f5 : (t : Int) + 12 ≤ s.size := by omega
      have f6 : ((t : Int) + 12).toNat = t + 12 := by omega
      have f7 : (4 : Int) ≤ 4 + (t : Int) := by omega
      have f8 : IntKind.i64.wrap ((t : Int) + 12) = (t : Int) + 12 := IntWalk.i64_in _ (by omega)
      have f9 : (0 : Int) ≤ (t : Int) + 12 := by omega
      have hx : (s.extract 4 (4 + t)).size ≤ 65536 := by rw [ByteArray.size_extract]; omega
      go_region_held3 (fun _ => True) (trivial) ((go_at_call 98; refine (refframe_any _ hx _).mono ?_; rintro e w3 ⟨g, rfl, hg, k4⟩))
      have k7 : Ext w w3 := (k1.drew).trans k4
      generalize hb : (!g.toList == (s.extract 0 (t + 12)).toList) = b
      have HB : Hid (b = decide (le 8 (crc ((lst s).take (4 + t))) ≠ ((lst s).take (t + 12)).drop (4 + t))) := by
        show _ = _
        have e1 : lst (s.extract 4 (4 + t)) = ((lst s).take (4 + t)).drop 4 := by
          rw [show lst (s.extract 4 (4 + t)) = (s.extract 4 (4 + t)).data.toList from rfl, Lib.extract_data, List.drop_take]
        have e2 := frame_iff (lst s) t HT.out (by rw [lst_length]; omega)
        rw [← hb, ByteArray.toList_eq, ByteArray.toList_eq, show g.data.toList = lst g from rfl, hg, Lib.extract_data, e1, List.drop_zero, Nat.sub_zero]
        rw [Bool.eq_iff_iff]
        simp only [Bool.not_eq_true', beq_eq_false_iff_ne, decide_eq_true_eq]
        rw [Ne, Ne, e2]
      clear hb hg
      have h3 : ¬ (lst s).length < 4 := by rw [lst_length]; omega
      have h4 : ¬ (lst s).length < t + 12 := by rw [lst_length]; omega
      have HO : Hid (openL (lst s) = if le 8 (crc ((lst s).take (4 + t))) ≠ ((lst s).take (t + 12)).drop (4 + t) then ([], 0, 2) else (((lst s).take (4 + t)).drop 4, t + 12, 0)) := by
        show _ = _
        unfold openL
        rw [if_neg h3, HT.out, if_neg g1, if_neg h4]
      clear h3 h4
      cases b
      · go_wp2_with fail
        go_ret3
        refine ⟨s.extract 4 (4 + t), t + 12, 0, ?_, ?_, k7⟩
        · show Ending.returned (.tuple #[.string (s.extract 4 (4 + t)), .int .i64 ((t : Int) + 12), .int .i64 0]) = _
          rw [show ((t : Int) + 12) = ((t + 12 : Nat) : Int) by omega]; rfl
        · have := HB.out
          rw [HO.out, if_neg (of_decide_eq_false this.symm)]
          rw [show lst (s.extract 4 (4 + t)) = ((lst s).take (4 + t)).drop 4 from by rw [show lst (s.extract 4 (4 + t)) = (s.extract 4 (4 + t)).data.toList from rfl, Lib.extract_data, List.drop_take]]
      · go_wp2_with fail
        go_ret3
        refine ⟨⟨#[]⟩, 0, 2, rfl, ?_, k7⟩
        have := HB.out
        rw [HO.out, if_pos (of_decide_eq_true this.symm)]

theorem refopen_any (s : ByteArray) (hm : s.size ≤ 9223372036854775807) (w : World) :
    Calls Tryz.prog 125 #[.string s] w (Opened s w) := by
  by_cases h : s.size < 4
  · exact refopen_short4 s h w
  · exact refopen_long s (by omega) hm w
end Go.Proofs.YtmdkjcigmhgpeaaGreatDoor
