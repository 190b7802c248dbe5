/- The walks of seal's leaves: length, told, ends. -/
import Derived.Test.YtmdkjcigmhgpeaaGreatDoorBase
import Derived.Test.YtmdkjcigmhgpeaaGreatDoorSealSpec
namespace Go.Proofs.YtmdkjcigmhgpeaaGreatDoor
open Go.RowKit SealMath

theorem four_bytes (w : World) (a b c d : Int) : (convert 25 9 (.slice (some ⟨w.heap.size, 0, none⟩) 4 4)).run Tryz.prog (w.alloc (.cells #[.int .u8 a, .int .u8 b, .int .u8 c, .int .u8 d] 5)) =
    .ok (.string (strOfNums [a, b, c, d])) (w.alloc (.cells #[.int .u8 a, .int .u8 b, .int .u8 c, .int .u8 d] 5)) :=
  slice_bytes_row w.heap.size _ _ _ (heap_alloc_new w _) [a, b, c, d] 4 4 rfl rfl
theorem lst_nums (xs : List Int) : lst (strOfNums xs) = xs.map fun n => UInt8.ofNat n.toNat := rfl
theorem be4_nums (n : Nat) (hn : n ≤ 65536) (r : ByteArray) (h : r = strOfNums [(n : Int) / 16777216, (n : Int) / 65536, (n : Int) / 256 % 256, (n : Int) % 256]) : lst r = be4 n := by
  subst h
  rw [lst_nums]
  simp only [List.map_cons, List.map_nil, be4]
  rw [show ((n : Int) / 16777216).toNat = n / 16777216 by omega, show ((n : Int) / 65536).toNat = n / 65536 % 256 by omega, show ((n : Int) / 256 % 256).toNat = n / 256 % 256 by omega, show ((n : Int) % 256).toNat = n % 256 by omega]

set_option maxHeartbeats 400000 in
/-- seal.length. -/
theorem length_any (n : Nat) (hn : n ≤ 65536) (w : World) :
    Calls Tryz.prog 128 #[.int .i64 n] w fun e w' => ∃ r, e = .returned (.string r) ∧ lst r = be4 n ∧ Ext w w' := by
  have h4 := four_bytes w
  go_enter Tryz.func128, Tryz.ntmps128
  go_wp2
  go_ret
  exact ⟨_, rfl, be4_nums n hn _ rfl, (Ext.refl w).alloc _⟩

theorem i64_or8 (x y : Int) (h0 : 0 ≤ x) (hx : x % 256 = 0) (h1 : x < 9223372036854775808) (h2 : 0 ≤ y) (h3 : y < 256) : bits .or .i64 x y = x + y :=
  bits_join .i64 63 (by decide) (fun n a b => by rw [IntKind.wrap_i64]; omega) 8 x y h0 (by simpa using hx) (by omega) h2 (by omega) (by omega)
theorem i64_or16 (x y : Int) (h0 : 0 ≤ x) (hx : x % 65536 = 0) (h1 : x < 9223372036854775808) (h2 : 0 ≤ y) (h3 : y < 65536) : bits .or .i64 x y = x + y :=
  bits_join .i64 63 (by decide) (fun n a b => by rw [IntKind.wrap_i64]; omega) 16 x y h0 (by simpa using hx) (by omega) h2 (by omega) (by omega)
theorem i64_or24 (x y : Int) (h0 : 0 ≤ x) (hx : x % 16777216 = 0) (h1 : x < 9223372036854775808) (h2 : 0 ≤ y) (h3 : y < 16777216) : bits .or .i64 x y = x + y :=
  bits_join .i64 63 (by decide) (fun n a b => by rw [IntKind.wrap_i64]; omega) 24 x y h0 (by simpa using hx) (by omega) h2 (by omega) (by omega)
theorem toldL_at (s : ByteArray) (h4 : 4 ≤ s.size) (h0 : 0 < s.size) (h1 : 1 < s.size) (h2 : 2 < s.size) (h3 : 3 < s.size) : toldL (lst s) = 16777216 * s[0].toNat + 65536 * s[1].toNat + 256 * s[2].toNat + s[3].toNat := by
  obtain ⟨⟨l⟩⟩ := s
  match l, h4 with
  | a :: b :: c :: d :: l, _ => rfl
theorem told_num (a b c d : UInt8) : bits BinOp.or IntKind.i64 (bits BinOp.or IntKind.i64 (bits BinOp.or IntKind.i64 (wrap64 (wrap64 (a.toNat : Int) * 16777216)) (wrap64 (wrap64 (b.toNat : Int) * 65536))) (wrap64 (wrap64 (c.toNat : Int) * 256))) (wrap64 (d.toNat : Int)) =
    ((16777216 * a.toNat + 65536 * b.toNat + 256 * c.toNat + d.toNat : Nat) : Int) := by
  have ha := a.toNat_lt
  have hb := b.toNat_lt
  have hc := c.toNat_lt
  have hd := d.toNat_lt
  have w : ∀ n : Int, 0 ≤ n → n < 9223372036854775808 → wrap64 n = n := fun n h1 h2 => IntWalk.wrap64_in n ⟨by omega, by omega⟩
  rw [w a.toNat (by omega) (by omega), w b.toNat (by omega) (by omega), w c.toNat (by omega) (by omega), w d.toNat (by omega) (by omega), w (_ * 16777216) (by omega) (by omega), w (_ * 65536) (by omega) (by omega), w (_ * 256) (by omega) (by omega)]
  rw [i64_or24 ((a.toNat : Int) * 16777216) ((b.toNat : Int) * 65536) (by omega) (by omega) (by omega) (by omega) (by omega),
    i64_or16 ((a.toNat : Int) * 16777216 + (b.toNat : Int) * 65536) ((c.toNat : Int) * 256) (by omega) (by omega) (by omega) (by omega) (by omega),
    i64_or8 ((a.toNat : Int) * 16777216 + (b.toNat : Int) * 65536 + (c.toNat : Int) * 256) (d.toNat : Int) (by omega) (by omega) (by omega) (by omega) (by omega)]
  omega

set_option maxHeartbeats 400000 in
/-- seal.told. -/
theorem told_any (s : ByteArray) (h4 : 4 ≤ s.size) (_hm : s.size ≤ 9223372036854775807) (w : World) :
    Calls Tryz.prog 150 #[.string s] w fun e w' => e = .returned (.int .i64 (toldL (lst s) : Nat)) ∧ Ext w w' := by
  have h0 : 0 < s.size := by omega
  have h1 : (1 : Int) < s.size := by omega
  have h2 : (2 : Int) < s.size := by omega
  have h3 : (3 : Int) < s.size := by omega
  have H := Lib.hid (toldL_at s h4 h0 (by omega) (by omega) (by omega))
  go_enter Tryz.func150, Tryz.ntmps150
  go_wp2
  go_quiet (fail)
  go_wp2
  go_ret
  exact ⟨ret_int (by rw [H.out]; exact told_num _ _ _ _), (Ext.refl w).drewN _⟩

/-- The cells of a sum's bytes, the first k of them laid. -/
def endsCells (n k : Nat) : Array Value := ((List.range 8).map fun j => if j < k then Value.int .u8 ((n / 256 ^ j % 256 : Nat) : Int) else Value.int .u8 0).toArray
theorem endsCells_size (n k : Nat) : (endsCells n k).size = 8 := by simp [endsCells]
theorem endsCells_get (n k : Nat) (hk : k < 8) : (endsCells n k)[k]? = some (.int .u8 0) := by
  simp [endsCells, hk]
theorem endsCells_zero (n : Nat) : endsCells n 0 = #[.int .u8 0, .int .u8 0, .int .u8 0, .int .u8 0, .int .u8 0, .int .u8 0, .int .u8 0, .int .u8 0] := rfl
theorem endsCells_set (n k : Nat) : (endsCells n k).setIfInBounds k (.int .u8 ((n / 256 ^ k % 256 : Nat) : Int)) = endsCells n (k + 1) := by
  apply Array.ext_getElem?
  intro i
  rw [Array.getElem?_setIfInBounds, endsCells_size]
  by_cases h : k = i
  · subst h
    by_cases hk : k < 8
    · simp [endsCells, hk]
    · simp [endsCells, hk]
  · simp only [h, if_false, endsCells, List.getElem?_toArray, List.getElem?_map]
    by_cases hi : i < 8
    · simp [hi]
      by_cases h2 : i < k
      · rw [if_pos h2, if_pos (by omega)]
      · rw [if_neg h2, if_neg (by omega)]
    · simp [hi]
theorem le_nums (n : Nat) (r : ByteArray) (h : r = strOfNums ((List.range 8).map fun j => ((n / 256 ^ j % 256 : Nat) : Int))) : lst r = le 8 n := by
  subst h
  rw [lst_nums]
  have e : ∀ m : Nat, ((m : Int) % 256).toNat = m % 256 := fun m => by omega
  simp only [le, List.range_succ, List.range_zero, Nat.div_div_eq_div_mul, List.map_cons, List.map_nil, List.nil_append, List.cons_append, Int.toNat_natCast, Nat.reduceMul, Nat.reducePow, Nat.pow_zero, Nat.div_one]

set_option maxHeartbeats 400000 in
/-- seal.ends, at eight bytes. -/
theorem ends_any (n : Nat) (w : World) :
    Calls Tryz.prog 129 #[.int .u64 n, .int .i64 8] w fun e w' => ∃ r, e = .returned (.string r) ∧ lst r = le 8 n ∧ Ext w w' := by
  have hmk : ∀ w : World, (Instr.makeSlice 25 (.int .i64 8) (.int .i64 8)).run Tryz.prog w = .ok (.slice (some ⟨w.heap.size, 0, none⟩) 8 8) (w.alloc (.cells (endsCells n 0) 5)) := fun _ => by rw [endsCells_zero]; kernel_rfl
  go_enter Tryz.func129, Tryz.ntmps129
  go_wp2
  go_loopg [11] 8 (fun g i wr => ∃ k : Nat, k ≤ 8 ∧ i = .int .i64 k ∧ g = 8 - k ∧ wr = w.alloc (.cells (endsCells n k) 5))
  case atStart => exact ⟨0, by omega, rfl, rfl, rfl⟩
  case round =>
    obtain ⟨k, hk, rfl, rfl, rfl⟩ := hrel
    by_cases hlt : k < 8
    · have hcell : (w.alloc (.cells (endsCells n k) 5)).cell? ⟨w.heap.size, k, none⟩ = some (.int .u8 0) := by
        rw [cell_of_row _ _ _ _ _ _ (heap_alloc_new w _)]; exact endsCells_get n k hlt
      have H : Hid ((n : Int) / 2 ^ (8 * k) % 256 = ((n / 256 ^ k % 256 : Nat) : Int)) := by
        show (n : Int) / 2 ^ (8 * k) % 256 = _
        rw [show 256 ^ k = 2 ^ (8 * k) from by rw [show (256 : Nat) = 2 ^ 8 from rfl, ← Nat.pow_mul]]
        rw [Int.natCast_emod, Int.natCast_ediv, Int.natCast_pow]; rfl
      go_wp2
      go_roundg (8 - (k + 1))
      case measure => omega
      case rel => exact ⟨k + 1, by omega, by go_num, rfl, by rw [H.out, endsCells_set]⟩
    · have e8 : k = 8 := by omega
      subst e8
      have hcv := slice_bytes_row (w := w.alloc (.cells (endsCells n 8) 5)) w.heap.size (endsCells n 8) _ _ (heap_alloc_new w _) ((List.range 8).map fun j => ((n / 256 ^ j % 256 : Nat) : Int)) 8 8 rfl rfl
      generalize hr : strOfNums ((List.range 8).map fun j => ((n / 256 ^ j % 256 : Nat) : Int)) = r at hcv
      have HR := Lib.hid hr; clear hr
      go_wp2
      go_ret
      exact ⟨_, rfl, le_nums n _ HR.out.symm, (Ext.refl w).alloc _⟩
end Go.Proofs.YtmdkjcigmhgpeaaGreatDoor
