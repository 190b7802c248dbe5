/- The walk of (*seal.Sum).Add: the register behind texts. -/
import Derived.Test.YtmdkjcigmhgpeaaGreatDoorBase
import Derived.Test.YtmdkjcigmhgpeaaGreatDoorSealSpec
namespace Go.Proofs.YtmdkjcigmhgpeaaGreatDoor
open Go.RowKit SealMath

/-- The numbers of one round, each by a name of its own. -/
theorem add_round (r c : Nat) (hr : r < 2 ^ 64) (hc : c < 256) : ∃ r1 m1 n1 r2 m2 n2 r3 : Nat,
    bits .xor .u64 (r : Int) (IntKind.u64.wrap (c : Int)) = (r1 : Int) ∧ bits .and .u64 (r1 : Int) 15 = (m1 : Int) ∧ m1 < 16 ∧ n1 = nib m1 ∧ bits .xor .u64 ((r1 : Int) / 16) (n1 : Int) = (r2 : Int) ∧
    bits .and .u64 (r2 : Int) 15 = (m2 : Int) ∧ m2 < 16 ∧ n2 = nib m2 ∧ bits .xor .u64 ((r2 : Int) / 16) (n2 : Int) = (r3 : Int) ∧ r3 = byteStep r c := by
  have h1 : r ^^^ c < 2 ^ 64 := Nat.xor_lt_two_pow hr (by omega)
  have h2 : stN 4 (r ^^^ c) < 2 ^ 64 := stN_lt 4 _ h1
  have e : ∀ x : Nat, x < 2 ^ 64 → bits .and .u64 (x : Int) 15 = ((x % 16 : Nat) : Int) := fun x hx => by
    rw [← and15]; exact u64_and_nat x 15 hx (by decide)
  have f : ∀ x : Nat, x < 2 ^ 64 → bits .xor .u64 ((x : Int) / 16) ((nib (x % 16) : Nat) : Int) = ((stN 4 x : Nat) : Int) := fun x hx => by
    rw [← nib_step x]
    exact u64_xor_nat (x / 16) (nib (x % 16)) (by omega) (nib_lt _ (by omega))
  exact ⟨r ^^^ c, _, _, stN 4 (r ^^^ c), _, _, stN 4 (stN 4 (r ^^^ c)), (by rw [show IntKind.u64.wrap (c : Int) = (c : Int) from by rw [IntKind.wrap_u64]; omega]; exact u64_xor_nat r c hr (by omega)), e _ h1, by omega, rfl, f _ h1, e _ h2, by omega, rfl, f _ h2, (byteStep_two r c).symm⟩

/-- Texts as bytes, one behind the other. -/
def cat (xs : List ByteArray) : List UInt8 := (xs.map (·.data.toList)).flatten

theorem cat_take (xs : List ByteArray) (n : Nat) (h : n < xs.length) : cat (xs.take (n + 1)) = cat (xs.take n) ++ xs[n].data.toList := by
  unfold cat; rw [List.take_succ_eq_append_getElem h, List.map_append, List.flatten_append]; simp
theorem bytes_take (x : ByteArray) (j : Nat) (h : j < x.size) : x.data.toList.take (j + 1) = x.data.toList.take j ++ [x[j]] := by
  rw [List.take_succ_eq_append_getElem (by simpa using h)]; rfl
theorem reg_snoc (r : Nat) (l : List UInt8) (c : UInt8) : reg r (l ++ [c]) = byteStep (reg r l) c.toNat := by simp [reg]

/-- The table of four bits. -/
def Nibs (w : World) : Prop := ∀ i, i < 16 → w.cell? ⟨0, i, none⟩ = some (.int .u64 (nib i : Nat))
theorem Nibs.ext {w w' : World} (h : Nibs w) (k : Ext w w') : Nibs w' := fun i hi => k.cell (h i hi)
theorem Nibs.setCell {w : World} (h : Nibs w) {b : Nat} (hb : b ≠ 0) (o : Nat) (v : Value) : Nibs (w.setCell ⟨b, o, none⟩ v) := fun i hi => by
  rw [← h i hi]; exact World.cell?_of_block (Below.heap_setCell w ⟨b, o, none⟩ v _ (by show 0 ≠ b; omega))

set_option maxHeartbeats 400000 in
/-- (*Sum).Add: the texts' bytes go into the register. -/
theorem add_any (b : Nat) (t : Nat) (ht : t < 2 ^ 64) (a : Option Addr) (c : Nat) (xs : List ByteArray) (hN : xs.length ≤ 140737488355328) (hM : ∀ x ∈ xs, x.size ≤ 9223372036854775807) (w : World) (hc0 : w.cell? ⟨b, 0, none⟩ = some (.int .u64 t)) (hf0 : w.frozen? ⟨b, 0, none⟩ = false)
    (hs : StrsAt w a xs) (hn : Nibs w) :
    Calls Tryz.prog 156 #[.pointer (some ⟨b, 0, none⟩), .slice a xs.length c] w fun e w' => e = .returned (.pointer (some ⟨b, 0, none⟩)) ∧ w' = w.setCell ⟨b, 0, none⟩ (.int .u64 ((ones - reg (ones - t) (cat xs) : Nat) : Int)) := by
  obtain ⟨r0, hr0, hlt0, e0⟩ : ∃ r0 : Nat, r0 = ones - t ∧ r0 < 2 ^ 64 ∧ bits BinOp.xor IntKind.u64 IntKind.u64.max (t : Int) = (r0 : Int) := ⟨_, rfl, by have := ones_pow; omega, by
    rw [ones_xor t ht, Nat.xor_comm]; exact u64_xor_nat ones t (by decide) ht⟩
  have HS := Lib.hid hs; clear hs
  have HN := Lib.hid hn; clear hn
  have HR := Lib.hid hr0; clear hr0
  have HM := Lib.hid hM; clear hM
  go_enter Tryz.func156, Tryz.ntmps156
  go_wp2
  go_loopg [5, 18] (xs.length) (fun k r i wr => ∃ (q n : Nat), r = .int .u64 q ∧ q < 2 ^ 64 ∧ i = .int .i64 n ∧ n ≤ xs.length ∧ k = xs.length - n ∧ Hid (q = reg r0 (cat (xs.take n))) ∧ wr = w)
  case atStart => exact ⟨r0, 0, rfl, hlt0, rfl, Nat.zero_le _, rfl, rfl, rfl⟩
  case round =>
    obtain ⟨q, n, rfl, hq, rfl, hnl, rfl, HQ, rfl⟩ := hrel
    by_cases hlt : n < xs.length
    · obtain ⟨bk, o, rfl, _, hx⟩ := HS.out n _ (List.getElem?_eq_getElem hlt)
      have hxm := HM.out _ (List.getElem_mem hlt)
      generalize hxx : xs[n] = x at hx hxm
      have HX := Lib.hid hxx; clear hxx
      go_wp2
      go_loopg [5, 24] (x.size) (fun k r i wi => ∃ (p m : Nat), r = .int .u64 p ∧ p < 2 ^ 64 ∧ i = .int .i64 m ∧ m ≤ x.size ∧ k = x.size - m ∧ Hid (p = reg q (x.data.toList.take m)) ∧ wi = wr)
      case atStart => exact ⟨q, 0, rfl, hq, rfl, Nat.zero_le _, rfl, rfl, rfl⟩
      case round =>
        obtain ⟨p, m, rfl, hp, rfl, hml, rfl, HP, hwi⟩ := hrel
        subst hwi
        by_cases hlm : m < x.size
        · obtain ⟨r1, m1, n1, r2, m2, n2, r3, e1, e2, hm1, en1, e3, e4, hm2, en2, e5, e6⟩ := add_round p x[m].toNat hp x[m].toNat_lt
          have hb1 := HN.out m1 hm1
          have hb2 := HN.out m2 hm2
          rw [← en1] at hb1
          rw [← en2] at hb2
          have H6 := Lib.hid e6; clear e6 en1 en2
          go_wp2
          go_roundg (x.size - (m + 1))
          case measure => omega
          case rel => exact ⟨r3, m + 1, rfl, by rw [H6.out]; exact byteStep_lt p _ hp x[m].toNat_lt, by go_num, by omega, rfl, by
            show r3 = _
            rw [bytes_take x m hlm, reg_snoc, ← HP.out, H6.out], rfl⟩
        · go_wp2
          go_roundg (xs.length - (n + 1))
          case measure => omega
          case rel => exact ⟨p, n + 1, rfl, hp, by go_num, by omega, rfl, by
            have em : m = x.size := by omega
            show p = _
            rw [cat_take xs n hlt, reg_append, ← HQ.out, HP.out, HX.out, List.take_of_length_le (by simp; omega)], rfl⟩
    · have eq : bits BinOp.xor IntKind.u64 IntKind.u64.max (q : Int) = ((ones - q : Nat) : Int) := by
        rw [ones_xor q hq, Nat.xor_comm]; exact u64_xor_nat ones q (by decide) hq
      go_wp2
      go_ret
      refine ⟨rfl, ?_⟩
      rw [show ones - reg (ones - t) (cat xs) = ones - q from by rw [HQ.out, HR.out, List.take_of_length_le (by omega)]]

set_option maxHeartbeats 400000 in
/-- (*Sum).Add of none. -/
theorem add_none (v : Value) (w : World) :
    Calls Tryz.prog 156 #[.pointer none, v] w fun e w' => e = .returned (.pointer none) ∧ w = w' := by
  go_enter Tryz.func156, Tryz.ntmps156
  go_wp2
  go_ret
  exact ⟨rfl, rfl⟩
/-- (*Sum).Value. -/
theorem value_any (b : Nat) (t : Int) (w : World) (hc : w.cell? ⟨b, 0, none⟩ = some (.int .u64 t)) :
    Calls Tryz.prog 157 #[.pointer (some ⟨b, 0, none⟩)] w fun e w' => e = .returned (.int .u64 t) ∧ w = w' := by
  go_enter Tryz.func157, Tryz.ntmps157
  go_wp2
  go_ret
  exact ⟨rfl, rfl⟩
theorem value_none (w : World) :
    Calls Tryz.prog 157 #[.pointer none] w fun e w' => e = .returned (.int .u64 0) ∧ w = w' := by
  go_enter Tryz.func157, Tryz.ntmps157
  go_wp2
  go_ret
  exact ⟨rfl, rfl⟩
set_option maxHeartbeats 400000 in
/-- seal.Of: the sum of texts. -/
theorem of_any (a : Option Addr) (c : Nat) (xs : List ByteArray) (hN : xs.length ≤ 140737488355328) (hM : ∀ x ∈ xs, x.size ≤ 9223372036854775807) (w : World)
    (hs : StrsAt w a xs) (hn : Nibs w) :
    Calls Tryz.prog 130 #[.slice a xs.length c] w fun e w' => e = .returned (.int .u64 (crc (cat xs) : Nat)) ∧ Ext w w' := by
  have HS := Lib.hid hs; clear hs
  have HN := Lib.hid hn; clear hn
  have HM := Lib.hid hM; clear hM
  go_enter Tryz.func130, Tryz.ntmps130
  go_wp2_with fail
  refine (add_any w.heap.size 0 (by decide) a c xs hN HM.out _ (cell_new w _ _ _) (frozen_new w _ _ _) (HS.out.ext ((Ext.refl w).alloc _)) (HN.out.ext ((Ext.refl w).alloc _))).mono ?_
  rintro e w' ⟨rfl, rfl⟩
  have e0 : ones - reg (ones - 0) (cat xs) = crc (cat xs) := rfl
  rw [e0]
  generalize hq : crc (cat xs) = q
  have HQ := Lib.hid hq; clear hq e0
  go_wp2_with fail
  refine (value_any w.heap.size q _ ?_).mono ?_
  · simp [go_sem]
  rintro e w' ⟨rfl, rfl⟩
  go_wp2_with fail
  go_ret
  exact ⟨ret_nat HQ.out.symm, (Ext.refl w).alloc _⟩
end Go.Proofs.YtmdkjcigmhgpeaaGreatDoor
