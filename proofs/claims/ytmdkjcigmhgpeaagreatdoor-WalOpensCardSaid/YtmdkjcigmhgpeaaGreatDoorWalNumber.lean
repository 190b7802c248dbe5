/- Wal's number: eight bytes, the highest first (the walk is XSealLeaf's ends, turned). -/
import Derived.Test.YtmdkjcigmhgpeaaGreatDoorWalLeaf
import Derived.Test.YtmdkjcigmhgpeaaGreatDoorWalPlain
import Derived.Test.YtmdkjcigmhgpeaaGreatDoorSealLeaf
namespace Go.Proofs.YtmdkjcigmhgpeaaGreatDoor
open Go.RowKit Snp SealMath

def numCells (n k : Nat) : Array Value := ((List.range 8).map fun j => if j < k then Value.int .u8 ((n / 256 ^ (7 - j) % 256 : Nat) : Int) else Value.int .u8 0).toArray
theorem numCells_size (n k : Nat) : (numCells n k).size = 8 := by simp [numCells]
theorem numCells_get (n k : Nat) (hk : k < 8) : (numCells n k)[k]? = some (.int .u8 0) := by
  simp [numCells, hk]
theorem numCells_zero (n : Nat) : numCells n 0 = #[.int .u8 0, .int .u8 0, .int .u8 0, .int .u8 0, .int .u8 0, .int .u8 0, .int .u8 0, .int .u8 0] := rfl
theorem numCells_set (n k : Nat) : (numCells n k).setIfInBounds k (.int .u8 ((n / 256 ^ (7 - k) % 256 : Nat) : Int)) = numCells n (k + 1) := by
  apply Array.ext_getElem?
  intro i
  rw [Array.getElem?_setIfInBounds, numCells_size]
  by_cases h : k = i
  · subst h
    by_cases hk : k < 8
    · simp [numCells, hk]
    · simp [numCells, hk]
  · simp only [h, if_false, numCells, List.getElem?_toArray, List.getElem?_map]
    by_cases hi : i < 8
    · simp [hi]
      by_cases h2 : i < k
      · rw [if_pos h2, if_pos (by omega)]
      · rw [if_neg h2, if_neg (by omega)]
    · simp [hi]
theorem be8_nums (n : Nat) (r : ByteArray) (h : r = strOfNums ((List.range 8).map fun j => ((n / 256 ^ (7 - j) % 256 : Nat) : Int))) : lst r = be8 n := by
  subst h
  rw [lst_nums]
  simp only [be8, le, List.range_succ, List.range_zero, Nat.div_div_eq_div_mul, List.map_cons, List.map_nil, List.nil_append, List.cons_append, Int.toNat_natCast, Nat.reduceMul, Nat.reducePow, Nat.reduceSub, Nat.pow_zero, Nat.div_one, List.reverse_cons, List.reverse_nil]
set_option maxHeartbeats 400000 in
theorem number8_any (n : Nat) (w : World) :
    Calls Tryz.prog 92 #[.int .i64 n] w fun e w' => ∃ r, e = .returned (.string r) ∧ lst r = be8 n ∧ Ext w w' := by
  have hmk : ∀ w : World, (Instr.makeSlice 25 (.int .i64 8) (.int .i64 8)).run Tryz.prog w = .ok (.slice (some ⟨w.heap.size, 0, none⟩) 8 8) (w.alloc (.cells (numCells n 0) 5)) := fun _ => by rw [numCells_zero]; kernel_rfl
  go_enter Tryz.func92, Tryz.ntmps92
  go_wp2_with fail
  go_loopg [4, 8] 8 (fun g _ i wr => ∃ k : Nat, k ≤ 8 ∧ i = .int .i64 k ∧ g = 8 - k ∧ wr = w.alloc (.cells (numCells n k) 5))
  case atStart => exact ⟨0, by omega, rfl, rfl, rfl⟩
  case round =>
    obtain ⟨k, hk, rfl, rfl, rfl⟩ := hrel
    by_cases hlt : k < 8
    · have hcell : (w.alloc (.cells (numCells n k) 5)).cell? ⟨w.heap.size, k, none⟩ = some (.int .u8 0) := by
        rw [cell_of_row _ _ _ _ _ _ (heap_alloc_new w _)]; exact numCells_get n k hlt
      have H : Hid ((n : Int) / 2 ^ (8 * (7 - k)) % 256 = ((n / 256 ^ (7 - k) % 256 : Nat) : Int)) := by
        show (n : Int) / 2 ^ (8 * (7 - k)) % 256 = _
        rw [show 256 ^ (7 - k) = 2 ^ (8 * (7 - k)) from by rw [show (256 : Nat) = 2 ^ 8 from rfl, ← Nat.pow_mul]]
        rw [Int.natCast_emod, Int.natCast_ediv, Int.natCast_pow]; rfl
      go_wp2_with fail
      go_roundg (8 - (k + 1))
      case measure => omega
      case rel => exact ⟨k + 1, by omega, by go_num, rfl, by rw [← numCells_set, ← H.out]⟩
    · have e8 : k = 8 := by omega
      subst e8
      have hcv := slice_bytes_row (w := w.alloc (.cells (numCells n 8) 5)) w.heap.size (numCells n 8) _ _ (heap_alloc_new w _) ((List.range 8).map fun j => ((n / 256 ^ (7 - j) % 256 : Nat) : Int)) 8 8 rfl rfl
      generalize hr : strOfNums ((List.range 8).map fun j => ((n / 256 ^ (7 - j) % 256 : Nat) : Int)) = r at hcv
      have HR := Lib.hid hr; clear hr
      go_wp2_with fail
      go_ret
      exact ⟨_, rfl, be8_nums n _ HR.out.symm, (Ext.refl w).alloc _⟩
end Go.Proofs.YtmdkjcigmhgpeaaGreatDoor
