/- Several texts in one (each under its own head): the first: calc.Print: a number's digits. -/
import Derived.Test.YtmdkjcigmhgpeaaGreatDoorSnapPlain
import Derived.Test.YtmdkjcigmhgpeaaGreatDoorSealLeaf
import Derived.Test.YtmdkjcigmhgpeaaGreatDoorDiskCrash
import Derived.Test.YtmdkjcigmhgpeaaGreatDoorDiskUse
/- calc.Print: a number's digits. -/
namespace Go.Proofs.YtmdkjcigmhgpeaaGreatDoor
open Go.RowKit

theorem csize_any (n : Nat) (hn : n ≤ 9223372036854775807) (w : World) :
    Calls Tryz.prog 121 #[.int .i64 (n : Nat)] w fun e w' => e = .returned (.int .u64 (n : Nat)) ∧ w' = w := by
  have h0 : ¬ ((n : Nat) : Int) < 0 := by omega
  go_enter Tryz.func121, Tryz.ntmps121
  go_wp2_with fail
  go_ret
  exact ⟨by first | rfl | (congr 2; omega), rfl⟩

/-- The row of twenty bytes, the last of them laid. -/
def pCells (l : List UInt8) : Array Value := (List.replicate (20 - l.length) (Value.int .u8 0) ++ l.map (fun c => Value.int .u8 (c.toNat : Int))).toArray
theorem pCells_nil : pCells [] = Array.replicate 20 (.int .u8 0) := rfl
theorem pCells_get (l : List UInt8) (h : l.length < 20) : (pCells l)[20 - l.length - 1]? = some (.int .u8 0) := by
  unfold pCells
  rw [List.getElem?_toArray, List.getElem?_append_left (by simp; omega), List.getElem?_replicate, if_pos (by omega)]
theorem pCells_set (l : List UInt8) (c : UInt8) (h : l.length < 20) : (pCells l).setIfInBounds (20 - l.length - 1) (.int .u8 (c.toNat : Int)) = pCells (c :: l) := by
  unfold pCells
  rw [List.setIfInBounds_toArray]
  congr 1
  obtain ⟨k, hk⟩ : ∃ k, 20 - l.length = k + 1 := ⟨20 - l.length - 1, by omega⟩
  have hk2 : 20 - (c :: l).length = k := by simp; omega
  rw [hk, hk2, show k + 1 - 1 = k from rfl, List.replicate_succ', List.set_append_left _ _ (by simp), List.set_append_right _ _ (by simp)]
  simp
theorem pCells_at (l : List UInt8) (i : Nat) (hi : i < l.length) : (pCells l)[20 - l.length + i]? = some (.int .u8 ((l.map (fun c => (c.toNat : Int))).getD i 0)) := by
  unfold pCells
  rw [List.getElem?_toArray, List.getElem?_append_right (by simp), List.length_replicate, Nat.add_sub_cancel_left]
  simp [List.getElem?_eq_getElem hi]
theorem nums_back (l : List UInt8) : lst (strOfNums (l.map (fun c => (c.toNat : Int)))) = l := by
  rw [lst_nums, List.map_map]
  conv => rhs; rw [← List.map_id l]
  refine List.map_congr_left (fun c _ => ?_)
  simp only [Function.comp, id]
  rw [Int.toNat_natCast, UInt8.ofNat_toNat]
/-- What is still to be laid, and what is. -/
def PrintAt (n q : Nat) (l : List UInt8) : Prop := decF 20 n = decF (20 - l.length) q ++ l
theorem PrintAt.step {n q : Nat} {l : List UInt8} (h : PrintAt n q l) (hq : 0 < q) (hl : l.length < 20) : PrintAt n (q / 10) (UInt8.ofNat (48 + q % 10) :: l) := by
  unfold PrintAt at h ⊢
  obtain ⟨k, hk⟩ : ∃ k, 20 - l.length = k + 1 := ⟨20 - l.length - 1, by omega⟩
  have hk2 : 20 - (UInt8.ofNat (48 + q % 10) :: l).length = k := by simp; omega
  rw [hk2, h, hk]
  show (if q = 0 then [] else _) ++ l = _
  rw [if_neg (by omega)]
  simp
theorem PrintAt.done {n : Nat} {l : List UInt8} (h : PrintAt n 0 l) : decF 20 n = l := by
  unfold PrintAt at h
  rw [h]
  have : decF (20 - l.length) 0 = [] := by
    cases 20 - l.length <;> simp [decF]
  rw [this]; rfl

/-- A slice of an array's end. -/
theorem tail_slice (g k : Nat) (h0 : 0 < k) (h : k ≤ 20) (W : World) : (Instr.sliceAt 162 (.pointer (some ⟨g, 0, none⟩)) (some (.int .i64 ((20 - k : Nat) : Int))) none none).run Tryz.prog W = .ok (.slice (some ⟨g, 20 - k, none⟩) k k) W := by
  have hal : Tryz.prog.arrayLen 162 = 20 := by simp [Program.arrayLen, Tryz.underlying162]
  have e : 20 - (20 - k) = k := by omega
  rw [run_sliceAt_array_l W 162 ⟨g, 0, none⟩ (by simp [Program.arrayLen, Program.elem, Tryz.underlying162]) .i64 ((20 - k : Nat) : Int) (by omega) (by rw [hal]; omega)]
  go_simp
  omega
theorem decF_ne (n : Nat) (h : n ≠ 0) : 0 < (decF 20 n).length := by unfold decF; rw [if_neg h]; simp

set_option maxRecDepth 20000 in
set_option maxHeartbeats 1000000 in
theorem print_any (n : Nat) (hn : n ≤ 99999999) (w : World) :
    Calls Tryz.prog 82 #[.int .i64 (n : Nat)] w fun e w' => ∃ r, e = .returned (.string r) ∧ lst r = dec n ∧ Ext w w' := by
  have hl0 : ¬ ((n : Nat) : Int) < 0 := by omega
  go_enter Tryz.func82, Tryz.ntmps82
  by_cases h0 : n = 0
  · subst h0
    go_wp2_with fail
    go_ret
    exact ⟨_, rfl, rfl, Ext.refl _⟩
  have h0' : (((n : Nat) : Int) == 0) = false := by rw [beq_eq_false_iff_ne]; omega
  go_wp2_with fail
  refine (csize_any n (by omega) _).mono ?_
  rintro e w1 ⟨rfl, rfl⟩
  go_wp2_with fail
  go_loopg [4, 5] n (fun g a u wr => ∃ (q : Nat) (l : List UInt8), a = .int .i64 ((20 - l.length : Nat) : Int) ∧ u = .int .u64 q ∧ l.length ≤ 8 ∧ q < 10 ^ (8 - l.length) ∧ Hid (PrintAt n q l) ∧ q = g ∧ wr = w.alloc (.cells (pCells l) 162))
  case atStart => exact ⟨n, [], rfl, rfl, Nat.zero_le _, by simp; omega, by show PrintAt n n []; simp [PrintAt], rfl, rfl⟩
  case round =>
    obtain ⟨q, l, rfl, rfl, hl, hq, HP, rfl, rfl⟩ := hrel
    by_cases hz : q = 0
    · subst hz
      have HD := Lib.hid HP.out.done
      have hcell : ∀ i, i < l.length → (w.alloc (.cells (pCells l) 162)).cell? ⟨w.heap.size, (20 - l.length) + i, none⟩ = some (.int .u8 ((l.map (fun c => (c.toNat : Int))).getD i 0)) := fun i hi => by
        rw [cell_new]; exact pCells_at l i hi
      have hcv := slice_bytes (w := w.alloc (.cells (pCells l) 162)) w.heap.size (20 - l.length) (l.map (fun c => (c.toNat : Int))) l.length l.length (by simp) hcell
      generalize hr : strOfNums (l.map (fun c => (c.toNat : Int))) = r at hcv
      have HR : Hid (lst r = l) := by show _ = _; rw [← hr]; exact nums_back l
      clear hr hcell
      have hpos : 0 < l.length := by have := decF_ne n h0; rw [HD.out] at this; exact this
      have hsl := fun W => tail_slice w.heap.size l.length hpos (by omega) W
      go_wp2
      go_ret
      refine ⟨_, rfl, ?_, (Ext.refl w).alloc _⟩
      rw [HR.out, ← HD.out]
      unfold dec; rw [if_neg h0]
    · have hlt : l.length < 8 := by
        apply Classical.byContradiction; intro h
        have : 8 - l.length = 0 := by omega
        rw [this] at hq; simp at hq; exact hz hq
      have hcell : (w.alloc (.cells (pCells l) 162)).cell? ⟨w.heap.size, 20 - l.length - 1, none⟩ = some (.int .u8 0) := by
        rw [cell_new]; exact pCells_get l (by omega)
      have HS := Lib.hid (HP.out.step (by omega) (by omega))
      have HC := Lib.hid (pCells_set l (UInt8.ofNat (48 + q % 10)) (by omega))
      have e1 : ((20 - l.length : Nat) : Int) = ((20 - l.length - 1 : Nat) : Int) + 1 := by omega
      rw [e1]
      have e2 : 20 - l.length - 1 < 20 := by omega
      generalize hm : 20 - l.length - 1 = m at hcell HC e2
      have hdig : (UInt8.ofNat (48 + q % 10)).toNat = 48 + q % 10 := digit_toNat _ (by omega)
      rw [hdig] at HC
      have e3 : IntKind.u64.wrap ((q : Int) / 10) = ((q / 10 : Nat) : Int) := by
        have : q < 10 ^ 8 := Nat.lt_of_lt_of_le hq (Nat.pow_le_pow_right (by omega) (by omega))
        rw [IntKind.wrap_u64]; omega
      go_wp2
      go_roundg (q / 10)
      case measure => omega
      case rel =>
        refine ⟨q / 10, UInt8.ofNat (48 + q % 10) :: l, ?_, congrArg (Value.int .u64) (by omega), by simp; omega, ?_, HS.out, rfl, ?_⟩
        · refine congrArg (Value.int .i64) (congrArg Int.ofNat ?_); simp only [List.length_cons]; omega
        · simp only [List.length_cons]
          have : 8 - l.length = (8 - (l.length + 1)) + 1 := by omega
          rw [this, Nat.pow_succ] at hq; omega
        · rw [← HC.out]; rfl
end Go.Proofs.YtmdkjcigmhgpeaaGreatDoor

/- The walks of codec.Writer: numbers laid as bytes. -/
namespace Go.Proofs.YtmdkjcigmhgpeaaGreatDoor
open Go.RowKit Snp

/-- Bytes as numbers. -/
abbrev bInts (l : List UInt8) : List Int := l.map (fun c => (c.toNat : Int))
theorem str_bInts (l : List UInt8) : lst (strOfNums (bInts l)) = l := by
  rw [lst_nums, List.map_map]
  conv => rhs; rw [← List.map_id l]
  refine List.map_congr_left (fun c _ => ?_)
  simp only [Function.comp, id]
  rw [Int.toNat_natCast, UInt8.ofNat_toNat]
theorem info_u8 : (Tryz.prog.info? 5).map (fun i => (i.zero, i.size, i.bytes)) = some (some (.int .u8 0), 1, 1) := by kernel_rfl
/-- Bytes as cells. -/
def bCells (l : List UInt8) : List Value := l.map (fun c => Value.int .u8 (c.toNat : Int))
theorem bCells_ints (l : List UInt8) : (bInts l).map (Value.int .u8) = bCells l := by simp [bCells]
theorem bCells_app (l k : List UInt8) : bCells (l ++ k) = bCells l ++ bCells k := by simp [bCells]
theorem bCells_length (l : List UInt8) : (bCells l).length = l.length := by simp [bCells]
/-- A slice of bytes that the call owns. -/
def OwnB (w : World) (base : Nat) (v : Value) (l : List UInt8) : Prop := w.ownsRow base 5 1 v l.length (bCells l)
theorem OwnB.nil (w : World) (base : Nat) : OwnB w base (.slice none 0 0) [] := World.ownsRow_nil _ _ _ _
theorem OwnB.ext {w w' : World} {base : Nat} {v : Value} {l : List UInt8} (h : OwnB w base v l) (k : Ext w w') : OwnB w' base v l := ownsRow_ext h k
theorem OwnB.str {w : World} {base : Nat} {v : Value} {l : List UInt8} (h : OwnB w base v l) :
    (convert 25 9 v).run Tryz.prog w = .ok (.string (strOfNums (bInts l))) w := by
  have h' := h
  obtain ⟨_, h | ⟨g, cap, cur, rfl, hb, hg, hn, hc, hs, ht⟩⟩ := h
  · have : l = [] := List.eq_nil_of_length_eq_zero h.2
    subst this
    rw [h.1]
    exact run_convert_bytes_nil w 25 5 Tryz.underlying25 Tryz.underlying5 0 0 9 Tryz.underlying9
  · exact slice_bytes_row g cur _ _ hg (bInts l) l.length cap (by simp) (by rw [Nat.mul_one] at ht; rw [bCells_ints]; exact ht)
theorem OwnB.form {w : World} {base : Nat} {v : Value} {l : List UInt8} (h : OwnB w base v l) : ∃ a c, v = .slice a l.length c := by
  obtain ⟨_, h | ⟨g, cap, cur, rfl, _⟩⟩ := h
  · have : l = [] := List.eq_nil_of_length_eq_zero h.2
    subst this; exact ⟨_, _, h.1⟩
  · exact ⟨_, _, rfl⟩
/-- A writer at b, and what it laid. -/
structure WAt (w : World) (b : Nat) (l : List UInt8) : Prop where
  ex : ∃ v, w.heap[b]? = some (.cells #[v] 153 (0, 0)) ∧ OwnB w (b + 1) v l
theorem WAt.lt {w : World} {b : Nat} {l : List UInt8} (h : WAt w b l) : b < w.heap.size := by obtain ⟨v, h1, _⟩ := h.ex; exact (Array.getElem?_eq_some_iff.1 h1).1
theorem WAt.alloc {w : World} {b : Nat} {l : List UInt8} (h : WAt w b l) (o : Obj) : WAt (w.alloc o) b l := by
  obtain ⟨v, h1, h2⟩ := h.ex
  exact ⟨v, (((Ext.refl w).alloc o).block b h.lt).trans h1, h2.ext ((Ext.refl w).alloc o)⟩

theorem setCell_heap {w : World} {g j : Nat} {cs : Array Value} {t : TypeId} {fr : Nat × Nat} (h : w.heap[g]? = some (.cells cs t fr)) (v : Value) : (w.setCell ⟨g, j, none⟩ v).heap[g]? = some (.cells (cs.setIfInBounds j v) t fr) := by
  simp only [World.setCell, Array.getElem?_modify, h]
  simp
set_option maxRecDepth 20000 in
/-- lay, a byte. -/
theorem lay_any (b : Nat) (l : List UInt8) (c : UInt8) (x : Nat) (w : World) (h : WAt w b l) (hx : w.cell? ⟨x, 0, none⟩ = some (.int .u8 (c.toNat : Int))) (hl : l.length ≤ 1099511627776) :
    Calls Tryz.prog 170 #[.pointer (some ⟨b, 0, none⟩), .slice (some ⟨x, 0, none⟩) 1 1] w fun e w' => e = .returned (.tuple #[]) ∧ WAt w' b (l ++ [c]) ∧ Below b w w' := by
  obtain ⟨i0, hi, hz0, hz1, hz2⟩ := info_parts info_u8
  have hb := h.lt
  obtain ⟨v, h1, h2⟩ := h.ex
  have hc0 : w.cell? ⟨b, 0, none⟩ = some v := cell_of_row _ _ _ _ _ _ h1
  have H1 := Lib.hid h1; clear h1
  go_enter Tryz.func170, Tryz.ntmps170
  go_wp2_with (at_builtin; refine wpList_append_own _ rfl _ _ 25 rfl (b + 1) 5 i0 (.int .u8 0) 1 1 Tryz.underlying25 hi hz0 hz1 hz2 rfl (by decide) v _ _ rfl h2 ⟨x, 0, none⟩ 1 1 [.int .u8 (c.toNat : Int)] rfl rfl ?c1 ?c2 ?c3 ?c4 ?c5 ?_)
  case c1 => intro j u hj; match j, hj with | 0, hj => simp at hj; subst hj; exact hx
  case c2 => intro u hu; simp at hu; subst hu; rfl
  case c3 => unfold maxLen; simp; omega
  case c4 => simp; omega
  case c5 => omega
  intro v' w2 hown2 hg2 _
  have hlt2 := World.ownsRow.lt h2
  have hne : ∀ k, v.ownBlock = some k → k ≠ b := fun k e => by have := (hlt2 k e).1; omega
  have hk2 : Below b w w2 := Below.grown (Below.refl b w) hg2 (by omega) (fun k e => by have := (hlt2 k e).1; omega)
  have hrow : w2.heap[b]? = some (.cells #[v] 153 (0, 0)) := (hg2.block b hb (fun e => hne b e.symm rfl)).trans H1.out
  have hc2 : w2.cell? ⟨b, 0, none⟩ = some v := cell_of_row _ _ _ _ _ _ hrow
  have hf2 : w2.frozen? ⟨b, 0, none⟩ = false := frozen_row hrow 0
  have HROW := Lib.hid hrow
  have HK := Lib.hid hk2
  have HO2 : Hid (OwnB w2 (b + 1) v' (l ++ [c])) := by
    show OwnB _ _ _ _
    unfold OwnB
    rw [List.length_append, bCells_app]
    exact hown2
  clear hown2 hg2 hlt2 hne hk2 hrow
  have HO3 : Hid (OwnB (w2.setCell ⟨b, 0, none⟩ v') (b + 1) v' (l ++ [c])) := by
    refine World.ownsRow.kept HO2.out (row := some b) ⟨rfl, rfl, rfl, by simp [World.setCell], fun k _ hk => Below.heap_setCell _ _ _ _ (fun e => hk (by rw [e]))⟩ ?_
    have hlt3 := World.ownsRow.lt HO2.out
    cases hv : v'.ownBlock with
    | none => exact .inl rfl
    | some k => have := (hlt3 k hv).1; exact .inr (by simp; omega)
  obtain ⟨a', c', hv'⟩ := HO2.out.form
  generalize (l ++ [c]).length = n' at hv'
  subst hv'
  go_wp2_with fail
  go_end0
  refine ⟨rfl, ⟨_, ?_, HO3.out⟩, ?_⟩
  · rw [setCell_heap HROW.out]; rfl
  · exact HK.out.setCell (p := ⟨b, 0, none⟩) (Nat.le_refl _) _

/-- The bytes of a number that are still to be laid, and how many there are. -/
theorem be_bytes (f n : Nat) (h : n < 256 ^ f) : ∀ k, (beF f n).length = k → (beF f n) = (List.range k).map (fun i => UInt8.ofNat (n / 256 ^ (k - 1 - i) % 256)) := by
  induction f generalizing n with
  | zero => intro k hk; simp [beF] at hk; subst hk; rfl
  | succ f ih =>
    intro k hk
    unfold beF at hk ⊢
    by_cases h0 : n = 0
    · rw [if_pos h0] at hk ⊢
      simp at hk; subst hk; rfl
    · rw [if_neg h0] at hk ⊢
      rw [List.length_append] at hk
      obtain ⟨j, rfl⟩ : ∃ j, k = j + 1 := ⟨(beF f (n / 256)).length, by simpa using hk.symm⟩
      have hj : (beF f (n / 256)).length = j := by simpa using hk
      rw [ih (n / 256) (by rw [Nat.pow_succ] at h; omega) j hj, List.range_succ, List.map_append, List.map_cons, List.map_nil]
      congr 1
      · refine List.map_congr_left (fun i hi => ?_)
        have hi := List.mem_range.1 hi
        rw [Nat.div_div_eq_div_mul, Nat.mul_comm, ← Nat.pow_succ, show (j - 1 - i).succ = j + 1 - 1 - i by omega]
      · simp
/-- How many bytes a number has: the first k at which nothing is left of it. -/
theorem be_count (f n k : Nat) (hk : k ≤ f) (h1 : ∀ j, j < k → n / 256 ^ j ≠ 0) (h2 : k = f ∨ n / 256 ^ k = 0) : (beF f n).length = k := by
  induction f generalizing n k with
  | zero => have : k = 0 := by omega
            subst this; rfl
  | succ f ih =>
    unfold beF
    by_cases h0 : n = 0
    · rw [if_pos h0]
      cases k with
      | zero => rfl
      | succ k => exact absurd (by simp [h0]) (h1 0 (by omega))
    · rw [if_neg h0]
      cases k with
      | zero =>
        rcases h2 with h2 | h2
        · omega
        · simp at h2; exact absurd h2 h0
      | succ k =>
        have e : ∀ j, n / 256 / 256 ^ j = n / 256 ^ (j + 1) := fun j => by rw [Nat.div_div_eq_div_mul, Nat.mul_comm, ← Nat.pow_succ]
        have := ih (n / 256) k (by omega) (fun j hj => by rw [e]; exact h1 (j + 1) (by omega)) (by
          rcases h2 with h2 | h2
          · exact .inl (by omega)
          · exact .inr (by rw [e]; exact h2))
        simp [this]
theorem shr_num (n k : Nat) : (n : Int) / 2 ^ (8 * k) = ((n / 256 ^ k : Nat) : Int) := by
  rw [show 256 ^ k = 2 ^ (8 * k) from by rw [show (256 : Nat) = 2 ^ 8 from rfl, ← Nat.pow_mul]]
  rw [Int.natCast_ediv, Int.natCast_pow]; rfl

set_option maxRecDepth 20000 in
set_option maxHeartbeats 1000000 in
/-- number: a number, laid. -/
theorem number_any (b : Nat) (l : List UInt8) (n : Nat) (hn : n < 18446744073709551616) (w : World) (h : WAt w b l) (hl : l.length ≤ 1000000000000) :
    Calls Tryz.prog 141 #[.pointer (some ⟨b, 0, none⟩), .int .u64 (n : Nat)] w fun e w' => e = .returned (.tuple #[]) ∧ WAt w' b (l ++ numL n) ∧ Below b w w' := by
  have HW := Lib.hid h; clear h
  go_enter Tryz.func141, Tryz.ntmps141
  go_wp2_with fail
  go_loopg [4] 8 (fun g i wr => ∃ k : Nat, k ≤ 8 ∧ i = .int .i64 k ∧ g = 8 - k ∧ Hid (∀ j, j < k → n / 256 ^ j ≠ 0) ∧ w = wr)
  case atStart => exact ⟨0, by omega, rfl, rfl, fun j hj => by omega, rfl⟩
  case round =>
    obtain ⟨k, hk, rfl, rfl, HK, rfl⟩ := hrel
    by_cases hlt : k < 8
    · have H := shr_num n k
      by_cases hz : n / 256 ^ k = 0
      · have hz2 : ((n : Int) / 256 ^ k != 0) = false := by
          have : ((n / 256 ^ k : Nat) : Int) = 0 := by rw [hz]; rfl
          rw [bne_eq_false_iff_eq, ← this]; simp

        have HC := Lib.hid (be_count 8 n k hk HK.out (by omega))
        have HB := Lib.hid (be_bytes 8 n (by simpa using hn) k HC.out)
        have hck : (UInt8.ofNat k).toNat = k := by rw [UInt8.toNat_ofNat']; omega
        have hcall := lay_any b l (UInt8.ofNat k) w.heap.size (w.alloc (.cells #[.int .u8 (k : Int)] 5)) (HW.out.alloc _) (by rw [cell_new, hck]; rfl) (by omega)
        clear hck
        go_wp2_with fail
        refine hcall.mono ?_
        rintro e w1 ⟨rfl, hw1, hx1⟩
        have HL := Lib.hid hw1
        have HX := Lib.hid (Below.trans (Below.mono ((Ext.refl w).alloc (.cells #[.int .u8 (k : Int)] 5)) (Nat.le_of_lt HW.out.lt)) hx1)
        clear hcall hw1 hx1
        go_wp2_with fail
        go_loopg [5] k (fun g i w2 => ∃ m : Nat, m ≤ k ∧ i = .int .i64 ((m : Int) - 1) ∧ m = g ∧ WAt w2 b (l ++ [UInt8.ofNat k] ++ (be n).take (k - m)) ∧ Below b w w2)
        case atStart => exact ⟨k, Nat.le_refl _, rfl, rfl, by rw [Nat.sub_self]; simpa using HL.out, HX.out⟩
        case round =>
          obtain ⟨m, hm, rfl, rfl, hw2, hx2⟩ := hrel
          have HW2 := Lib.hid hw2; clear hw2
          have HX2 := Lib.hid hx2; clear hx2
          cases m with
          | zero =>
            go_wp2_with fail
            go_end0
            refine ⟨rfl, ?_, HX2.out⟩
            have := HW2.out
            rw [Nat.sub_zero, List.take_of_length_le (show (be n).length ≤ k from Nat.le_of_eq HC.out)] at this
            unfold numL
            have e : (be n).length = k := HC.out
            rw [e]
            simpa using this
          | succ j =>
            have e1 : ((j + 1 : Nat) : Int) - 1 = (j : Int) := by omega
            rw [e1]
            have H2 := shr_num n j
            have hcj : (UInt8.ofNat (n / 256 ^ j % 256)).toNat = n / 256 ^ j % 256 := by rw [UInt8.toNat_ofNat']; omega
            have hcall := lay_any b _ (UInt8.ofNat (n / 256 ^ j % 256)) wr.heap.size (wr.alloc (.cells #[.int .u8 (((n / 256 ^ j : Nat) : Int) % 256)] 5)) (HW2.out.alloc _) (by rw [cell_new, hcj]; rfl) (by simp; have := be_len n; omega)
            clear hcj
            go_wp2_with fail
            refine hcall.mono ?_
            rintro e w3 ⟨rfl, hw3, hx3⟩
            have HL3 := Lib.hid hw3
            have HX3 := Lib.hid (HX2.out.trans (Below.trans (Below.mono ((Ext.refl wr).alloc (.cells #[.int .u8 (((n / 256 ^ j : Nat) : Int) % 256)] 5)) (Nat.le_of_lt HW2.out.lt)) hx3))
            clear hcall hw3 hx3
            go_wp2_with fail
            go_roundg j
            case measure => omega
            case rel => exact ⟨j, by omega, by go_num, rfl, by
              have e2 : k - j = (k - (j + 1)) + 1 := by omega
              have e3 : (be n)[k - (j + 1)]? = some (UInt8.ofNat (n / 256 ^ j % 256)) := by
                have : be n = _ := HB.out
                rw [this, List.getElem?_map, List.getElem?_range (by omega), Option.map_some, show k - 1 - (k - (j + 1)) = j by omega]
              rw [e2, List.take_add_one, e3]
              have := HL3.out
              simpa using this, HX3.out⟩

      · have hz' : (((n / 256 ^ k : Nat) : Int) != 0) = true := by rw [bne_iff_ne]; omega
        have hz2 : ((n : Int) / 256 ^ k != 0) = true := by simpa using hz'
        go_wp2_with fail
        go_roundg (8 - (k + 1))
        case measure => omega
        case rel => exact ⟨k + 1, by omega, by go_num, rfl, (show Hid _ from fun j hj => by
          by_cases e : j = k
          · subst e; exact hz
          · exact HK.out j (by omega)), rfl⟩
    · have HC := Lib.hid (be_count 8 n k hk HK.out (by omega))
      have HB := Lib.hid (be_bytes 8 n (by simpa using hn) k HC.out)
      have hck : (UInt8.ofNat k).toNat = k := by rw [UInt8.toNat_ofNat']; omega
      have hcall := lay_any b l (UInt8.ofNat k) w.heap.size (w.alloc (.cells #[.int .u8 (k : Int)] 5)) (HW.out.alloc _) (by rw [cell_new, hck]; rfl) (by omega)
      clear hck
      go_wp2_with fail
      refine hcall.mono ?_
      rintro e w1 ⟨rfl, hw1, hx1⟩
      have HL := Lib.hid hw1
      have HX := Lib.hid (Below.trans (Below.mono ((Ext.refl w).alloc (.cells #[.int .u8 (k : Int)] 5)) (Nat.le_of_lt HW.out.lt)) hx1)
      clear hcall hw1 hx1
      go_wp2_with fail
      go_loopg [5] k (fun g i w2 => ∃ m : Nat, m ≤ k ∧ i = .int .i64 ((m : Int) - 1) ∧ m = g ∧ WAt w2 b (l ++ [UInt8.ofNat k] ++ (be n).take (k - m)) ∧ Below b w w2)
      case atStart => exact ⟨k, Nat.le_refl _, rfl, rfl, by rw [Nat.sub_self]; simpa using HL.out, HX.out⟩
      case round =>
        obtain ⟨m, hm, rfl, rfl, hw2, hx2⟩ := hrel
        have HW2 := Lib.hid hw2; clear hw2
        have HX2 := Lib.hid hx2; clear hx2
        cases m with
        | zero =>
          go_wp2_with fail
          go_end0
          refine ⟨rfl, ?_, HX2.out⟩
          have := HW2.out
          rw [Nat.sub_zero, List.take_of_length_le (show (be n).length ≤ k from Nat.le_of_eq HC.out)] at this
          unfold numL
          have e : (be n).length = k := HC.out
          rw [e]
          simpa using this
        | succ j =>
          have e1 : ((j + 1 : Nat) : Int) - 1 = (j : Int) := by omega
          rw [e1]
          have H2 := shr_num n j
          have hcj : (UInt8.ofNat (n / 256 ^ j % 256)).toNat = n / 256 ^ j % 256 := by rw [UInt8.toNat_ofNat']; omega
          have hcall := lay_any b _ (UInt8.ofNat (n / 256 ^ j % 256)) wr.heap.size (wr.alloc (.cells #[.int .u8 (((n / 256 ^ j : Nat) : Int) % 256)] 5)) (HW2.out.alloc _) (by rw [cell_new, hcj]; rfl) (by simp; have := be_len n; omega)
          clear hcj
          go_wp2_with fail
          refine hcall.mono ?_
          rintro e w3 ⟨rfl, hw3, hx3⟩
          have HL3 := Lib.hid hw3
          have HX3 := Lib.hid (HX2.out.trans (Below.trans (Below.mono ((Ext.refl wr).alloc (.cells #[.int .u8 (((n / 256 ^ j : Nat) : Int) % 256)] 5)) (Nat.le_of_lt HW2.out.lt)) hx3))
          clear hcall hw3 hx3
          go_wp2_with fail
          go_roundg j
          case measure => omega
          case rel => exact ⟨j, by omega, by go_num, rfl, by
            have e2 : k - j = (k - (j + 1)) + 1 := by omega
            have e3 : (be n)[k - (j + 1)]? = some (UInt8.ofNat (n / 256 ^ j % 256)) := by
              have : be n = _ := HB.out
              rw [this, List.getElem?_map, List.getElem?_range (by omega), Option.map_some, show k - 1 - (k - (j + 1)) = j by omega]
            rw [e2, List.take_add_one, e3]
            have := HL3.out
            simpa using this, HX3.out⟩

set_option maxRecDepth 20000 in
set_option maxHeartbeats 1000000 in
/-- Writer.Size: numbers that aren't below 0. -/
theorem wsize_any (b : Nat) (a : Option Addr) (c : Nat) (ns : List Nat) (hN : ns.length ≤ 1000) (hM : ∀ n ∈ ns, n ≤ 9223372036854775807) (l : List UInt8) (hl : l.length ≤ 1000) (w : World) (h : WAt w b l) (hs : IntsAt w a (ns.map (fun n : Nat => (n : Int)))) (hb : ∀ bk o, a = some ⟨bk, o, none⟩ → bk < b) :
    Calls Tryz.prog 110 #[.pointer (some ⟨b, 0, none⟩), .slice a ns.length c] w fun e w' => e = .returned (.pointer (some ⟨b, 0, none⟩)) ∧ WAt w' b (l ++ (ns.map numL).flatten) ∧ Below b w w' := by
  have HW := Lib.hid h; clear h
  have HS := Lib.hid hs; clear hs
  have HM := Lib.hid hM; clear hM
  have HB := Lib.hid hb; clear hb
  go_enter Tryz.func110, Tryz.ntmps110
  go_wp2_with fail
  go_loopg [9] (ns.length) (fun g i wr => ∃ k : Nat, k ≤ ns.length ∧ i = .int .i64 k ∧ g = ns.length - k ∧ Hid (WAt wr b (l ++ ((ns.take k).map numL).flatten)) ∧ Hid (((ns.take k).map numL).flatten.length ≤ 9 * k) ∧ Hid (Below b w wr))
  case atStart => exact ⟨0, Nat.zero_le _, rfl, rfl, by simpa using HW, Nat.zero_le _, Below.refl _ _⟩
  case round =>
    obtain ⟨k, hk, rfl, rfl, HR, HL, HX⟩ := hrel
    by_cases hlt : k < ns.length
    · have hsr : IntsAt wr a (ns.map (fun n : Nat => (n : Int))) := by
        intro j x hj
        obtain ⟨bk, o, e, h1, h2⟩ := HS.out j x hj
        have := HB.out bk o e
        exact ⟨bk, o, e, Nat.lt_of_lt_of_le h1 HX.out.size, (Below.cell HX.out (p := ⟨bk, o + j, none⟩) this).trans h2⟩
      obtain ⟨bk, o, rfl, _, hcell⟩ := hsr k (ns[k] : Nat) (by simp [hlt])
      have hle := HM.out _ (List.getElem_mem hlt)
      have HT : Hid (ns.take (k + 1) = ns.take k ++ [ns[k]]) := List.take_succ_eq_append_getElem hlt
      generalize ns[k] = n at hcell hle HT
      have hmax : max (n : Int) 0 = (n : Int) := by omega
      have hcall := number_any b _ n (by omega) wr HR.out (by have := HL.out; simp only [List.length_append]; omega)
      go_wp2_with fail
      refine hcall.mono ?_
      rintro e w2 ⟨rfl, hw2, hx2⟩
      have HW2 := Lib.hid hw2
      have HX2 := Lib.hid (HX.out.trans hx2)
      clear hcall hw2 hx2
      go_wp2_with fail
      go_roundg (ns.length - (k + 1))
      case measure => omega
      case rel => exact ⟨k + 1, by omega, by go_num, rfl, (show Hid _ from by
        have := HW2.out
        show WAt _ _ _
        rw [HT.out, List.map_append, List.flatten_append]
        simpa using this), (show Hid _ from by
        have h1 := HL.out; have h2 := numL_length n
        show _ ≤ _
        rw [HT.out, List.map_append, List.flatten_append, List.length_append, List.map_cons, List.map_nil, List.flatten_cons, List.flatten_nil, List.append_nil]; omega), HX2⟩
    · have e : k = ns.length := by omega
      subst e
      go_wp2_with fail
      go_ret
      refine ⟨rfl, ?_, HX.out⟩
      have := HR.out
      rw [List.take_length] at this
      exact this

theorem wstr_any (b : Nat) (l : List UInt8) (w : World) (h : WAt w b l) :
    Calls Tryz.prog 142 #[.pointer (some ⟨b, 0, none⟩)] w fun e w' => ∃ r, e = .returned (.string r) ∧ lst r = l ∧ w' = w := by
  obtain ⟨v, h1, h2⟩ := h.ex
  have hc0 : w.cell? ⟨b, 0, none⟩ = some v := cell_of_row _ _ _ _ _ _ h1
  have hcv := h2.str
  have HR : Hid (lst (strOfNums (bInts l)) = l) := str_bInts l
  generalize strOfNums (bInts l) = r at hcv HR
  go_enter Tryz.func142, Tryz.ntmps142
  go_wp2_with fail
  go_ret
  exact ⟨r, rfl, HR.out, rfl⟩
theorem wstring_any (b : Nat) (l : List UInt8) (w : World) (h : WAt w b l) :
    Calls Tryz.prog 111 #[.pointer (some ⟨b, 0, none⟩)] w fun e w' => ∃ r, e = .returned (.string r) ∧ lst r = l ∧ w' = w := by
  go_enter Tryz.func111, Tryz.ntmps111
  go_wp2_with fail
  refine (wstr_any b l w h).mono ?_
  rintro e w' ⟨r, rfl, hr, rfl⟩
  go_wp2_with fail
  go_ret
  exact ⟨r, rfl, hr, rfl⟩
/-- sizes: numbers, laid. -/
theorem sizes_any (a : Option Addr) (c : Nat) (ns : List Nat) (hN : ns.length ≤ 1000) (hM : ∀ n ∈ ns, n ≤ 9223372036854775807) (w : World) (hs : IntsAt w a (ns.map (fun n : Nat => (n : Int)))) (hb : ∀ bk o, a = some ⟨bk, o, none⟩ → bk < w.heap.size) :
    Calls Tryz.prog 64 #[.slice a ns.length c] w fun e w' => ∃ r, e = .returned (.string r) ∧ lst r = (ns.map numL).flatten ∧ Ext w w' := by
  have hcall := wsize_any w.heap.size a c ns hN hM [] (by simp) (w.alloc (.cells #[.slice none 0 0] 153)) ⟨⟨.slice none 0 0, heap_alloc_new w _, OwnB.nil _ _⟩⟩ (hs.ext ((Ext.refl w).alloc _)) hb
  clear hs hM hb
  go_enter Tryz.func64, Tryz.ntmps64
  go_wp2_with fail
  refine hcall.mono ?_
  rintro e w2 ⟨rfl, hw2, hx2⟩
  have HX := Lib.hid (Below.trans ((Ext.refl w).alloc (.cells #[.slice none 0 0] 153)) hx2)
  have hcall2 := wstring_any _ _ w2 hw2
  clear hw2 hx2 hcall
  go_wp2_with fail
  refine hcall2.mono ?_
  rintro e w3 ⟨r, rfl, hr, rfl⟩
  have HR := Lib.hid hr; clear hr hcall2
  go_wp2_with fail
  go_ret
  exact ⟨r, rfl, by simpa using HR.out, HX.out⟩
end Go.Proofs.YtmdkjcigmhgpeaaGreatDoor

/- string(make([]byte, n)). -/
namespace Go.Proofs.YtmdkjcigmhgpeaaGreatDoor
open Go.RowKit

/-- n bytes that are nought. -/
def zeros (n : Nat) : List UInt8 := List.replicate n 0
def zrow (n : Nat) : Array Value := (bCells (zeros n)).toArray
def zstr (n : Nat) : ByteArray := ⟨(zeros n).toArray⟩
theorem zstr_size (n : Nat) : (zstr n).size = n := by simp [zstr, zeros, ByteArray.size]
theorem lst_zstr (n : Nat) : lst (zstr n) = zeros n := rfl
theorem zeros_length (n : Nat) : (zeros n).length = n := by simp [zeros]
theorem made_bytes (w : World) (n : Nat) (hn : n ≤ 100000000) : (Instr.makeSlice 25 (.int .i64 (n : Int)) (.int .i64 (n : Int))).run Tryz.prog w = .ok (.slice (some ⟨w.heap.size, 0, none⟩) n n) (w.alloc (.cells (zrow n) 5)) := by
  obtain ⟨i0, hi, hz0, hz1, hz2⟩ := info_parts info_u8
  have h := run_make (P := Tryz.prog) w 25 5 i0 (.int .u8 0) Tryz.underlying25 hi hz0 .i64 .i64 (n : Int) (n : Int) (by omega) (Int.le_refl _) (by rw [hz2]; omega) (by omega)
  rw [h, hz1]
  simp only [Int.toNat_natCast, Nat.mul_one]
  refine congrArg (Result.ok _) (congrArg (World.alloc w) (congrArg (fun c => Obj.cells c 5 (0, 0)) ?_))
  apply Array.ext_getElem?
  intro j
  have h1 : (madeCells (Value.cells (.int .u8 0)) n)[j]? = if j < n then some (.int .u8 0) else none := by
    simp only [madeCells, Array.getElem?_map, Array.getElem?_range]
    split
    · simp only [Option.map_some, Value.cells]
      rw [show (#[Value.int IntKind.u8 0] : Array Value).size = 1 from rfl, Nat.mod_one]; rfl
    · rfl
  have h2 : (zrow n)[j]? = if j < n then some (.int .u8 0) else none := by
    unfold zrow bCells zeros
    simp only [List.getElem?_toArray, List.getElem?_map, List.getElem?_replicate]
    split <;> rfl
  rw [h1, h2]
theorem row_str {w : World} (g n : Nat) {t : TypeId} {fr : Nat × Nat} (hrow : w.heap[g]? = some (.cells (zrow n) t fr)) :
    (convert 25 9 (.slice (some ⟨g, 0, none⟩) n n)).run Tryz.prog w = .ok (.string (zstr n)) w := by
  have h := slice_bytes_row (w := w) g (zrow n) t fr hrow (bInts (zeros n)) n n (by simp [zeros]) (by
    unfold zrow
    rw [bCells_ints, List.take_of_length_le (by simp [bCells, zeros])])
  rw [h]
  refine congrArg (fun x => Result.ok (Value.string x) w) ?_
  exact lst_inj (by rw [str_bInts]; rfl)
end Go.Proofs.YtmdkjcigmhgpeaaGreatDoor

/- The walks of codec.Reader: numbers taken from bytes. -/
namespace Go.Proofs.YtmdkjcigmhgpeaaGreatDoor
open Go.RowKit Snp

/-- Bytes at a place. -/
def BAt (w : World) (g o : Nat) (l : List UInt8) : Prop := ∀ (j : Nat) c, l[j]? = some c → w.cell? ⟨g, o + j, none⟩ = some (.int .u8 (c.toNat : Int))
theorem BAt.take {w : World} {g o : Nat} {l : List UInt8} (h : BAt w g o l) (k : Nat) : BAt w g o (l.take k) := fun j c hj => h j c (by
  rw [List.getElem?_take] at hj
  split at hj
  · exact hj
  · cases hj)
theorem BAt.drop {w : World} {g o : Nat} {l : List UInt8} (h : BAt w g o l) (k : Nat) : BAt w g (o + k) (l.drop k) := fun j c hj => by
  rw [List.getElem?_drop] at hj
  rw [Nat.add_assoc]
  exact h _ c hj
theorem BAt.only {w w' : World} {g o b : Nat} {l : List UInt8} (h : BAt w g o l) (hb : g ≠ b) (k : Only (fun x => x = b) w w') : BAt w' g o l := fun j c hj => k.cell (h j c hj) hb
theorem BAt.nil (w : World) (g o : Nat) : BAt w g o [] := fun j c hj => by simp at hj
/-- A reader at b: what is to come, or that it is bad. -/
def RAt (w : World) (b : Nat) : Option (List UInt8) → Prop
  | none => w.heap[b]? = some (.cells #[.slice none 0 0, .bool true] 184 (0, 0))
  | some l => ∃ g o c, w.heap[b]? = some (.cells #[.slice (some ⟨g, o, none⟩) l.length c, .bool false] 184 (0, 0)) ∧ g ≠ b ∧ l.length ≤ c ∧ c ≤ maxLen ∧ BAt w g o l
theorem RAt.lt {w : World} {b : Nat} {s : Option (List UInt8)} (h : RAt w b s) : b < w.heap.size := by
  cases s with
  | none => exact (Array.getElem?_eq_some_iff.1 h).1
  | some l => obtain ⟨g, o, c, h, _⟩ := h; exact (Array.getElem?_eq_some_iff.1 h).1
theorem RAt.form {w : World} {b : Nat} {s : Option (List UInt8)} (h : RAt w b s) : ∃ v, w.heap[b]? = some (.cells #[v, .bool s.isNone] 184 (0, 0)) := by
  cases s with
  | none => exact ⟨_, h⟩
  | some l => obtain ⟨g, o, c, h, _⟩ := h; exact ⟨_, h⟩

theorem good_any (b : Nat) (s : Option (List UInt8)) (w : World) (h : RAt w b s) :
    Calls Tryz.prog 147 #[.pointer (some ⟨b, 0, none⟩)] w fun e w' => e = .returned (.bool s.isSome) ∧ w' = w := by
  obtain ⟨v, hv⟩ := h.form
  have hc1 : w.cell? ⟨b, 1, none⟩ = some (.bool s.isNone) := cell_of_row _ _ _ _ _ _ hv
  have e1 : s.isSome = !s.isNone := by cases s <;> rfl
  rw [e1]
  generalize s.isNone = bb at hc1
  clear hv h e1
  go_enter Tryz.func147, Tryz.ntmps147
  go_wp2_with fail
  go_ret
  exact ⟨rfl, rfl⟩
theorem fail_any (b : Nat) (s : Option (List UInt8)) (w : World) (h : RAt w b s) :
    Calls Tryz.prog 148 #[.pointer (some ⟨b, 0, none⟩)] w fun e w' => e = .returned (.tuple #[]) ∧ RAt w' b none ∧ Only (fun x => x = b) w w' := by
  obtain ⟨v, hv⟩ := h.form
  have hc1 : w.cell? ⟨b, 1, none⟩ = some (.bool s.isNone) := cell_of_row _ _ _ _ _ _ hv
  have hc0 : w.cell? ⟨b, 0, none⟩ = some v := cell_of_row _ _ _ _ _ _ hv
  have hf0 := frozen_row hv 0
  have hf1 := frozen_row hv 1
  have HV := Lib.hid hv
  clear hv h
  go_enter Tryz.func148, Tryz.ntmps148
  go_wp2_with fail
  go_end0
  refine ⟨rfl, ?_, Only.setCell (F := fun x => x = b) (Only.setCell (F := fun x => x = b) (Only.refl _ w) (.inl rfl) 1 _) (.inl rfl) 0 _⟩
  show (World.setCell _ _ _).heap[b]? = _
  rw [setCell_heap (setCell_heap HV.out (j := 1) _) (j := 0) _]
  rfl
theorem fail_good (b : Nat) (l : List UInt8) (w : World) (h : RAt w b (some l)) : RAt w b (some l) := h
/-- cut, of what is there. -/
theorem cut_some (b : Nat) (l : List UInt8) (k : Nat) (hk : k ≤ l.length) (w : World) (h : RAt w b (some l)) :
    Calls Tryz.prog 183 #[.pointer (some ⟨b, 0, none⟩), .int .i64 (k : Nat)] w fun e w' => ∃ g o c, e = .returned (.slice (some ⟨g, o, none⟩) k c) ∧ g ≠ b ∧ BAt w' g o (l.take k) ∧ RAt w' b (some (l.drop k)) ∧ Only (fun x => x = b) w w' := by
  have hcall := good_any b (some l) w h
  obtain ⟨g, o, c, hv, hg, hc, hcm, hb⟩ := h
  have hc1 : w.cell? ⟨b, 1, none⟩ = some (.bool false) := cell_of_row _ _ _ _ _ _ hv
  have hc0 : w.cell? ⟨b, 0, none⟩ = some (.slice (some ⟨g, o, none⟩) l.length c) := cell_of_row _ _ _ _ _ _ hv
  have hf0 := frozen_row hv 0
  have HV := Lib.hid hv
  have HB := Lib.hid hb
  have hk1 : ¬ ((l.length : Nat) : Int) < (k : Int) := by omega
  have hk2 : (k : Int) ≤ (c : Int) := by omega
  have hk3 : (k : Int) ≤ (l.length : Int) := by omega
  clear hv hb
  go_enter Tryz.func183, Tryz.ntmps183
  go_wp2_with fail
  refine hcall.mono ?_
  clear hcall
  rintro e w1 ⟨rfl, rfl⟩
  go_wp2_with fail
  all_goals
    go_ret
    refine ⟨g, o, ⟨_, rfl⟩, hg, BAt.only (HB.out.take k) hg (Only.setCell (F := fun x => x = b) (Only.refl _ w1) (.inl rfl) 0 _), ?_, Only.setCell (F := fun x => x = b) (Only.refl _ w1) (.inl rfl) 0 _⟩
  · refine ⟨g, o, 0, ?_, hg, by simp; omega, Nat.zero_le _, ?_⟩
    · rw [setCell_heap HV.out, List.length_drop]; rfl
    · rw [List.drop_eq_nil_of_le (by omega)]; exact BAt.nil _ _ _
  · refine ⟨g, o + k, c - k, ?_, hg, by simp; omega, by omega, BAt.only (HB.out.drop k) hg (Only.setCell (F := fun x => x = b) (Only.refl _ w1) (.inl rfl) 0 _)⟩
    rw [setCell_heap HV.out, List.length_drop]; rfl
/-- cut, of more than there is. -/
theorem cut_none (b : Nat) (s : Option (List UInt8)) (k : Nat) (hk : ∀ l, s = some l → l.length < k) (w : World) (h : RAt w b s) :
    Calls Tryz.prog 183 #[.pointer (some ⟨b, 0, none⟩), .int .i64 (k : Nat)] w fun e w' => e = .returned (.slice none 0 0) ∧ RAt w' b none ∧ Only (fun x => x = b) w w' := by
  have hcall := good_any b s w h
  have hfail := fail_any b s w h
  cases s with
  | none =>
    clear h
    go_enter Tryz.func183, Tryz.ntmps183
    go_wp2_with fail
    refine hcall.mono ?_
    clear hcall
    rintro e w1 ⟨rfl, rfl⟩
    go_wp2_with fail
    refine hfail.mono ?_
    clear hfail
    rintro e w2 ⟨rfl, h1, h2⟩
    have H1 := Lib.hid h1; clear h1
    have H2 := Lib.hid h2; clear h2
    go_wp2_with fail
    go_ret
    exact ⟨rfl, H1.out, H2.out⟩
  | some l =>
    have hlt := hk l rfl
    obtain ⟨g, o, c, hv, hg, hc, hcm, hb⟩ := h
    have hc1 : w.cell? ⟨b, 1, none⟩ = some (.bool false) := cell_of_row _ _ _ _ _ _ hv
    have hc0 : w.cell? ⟨b, 0, none⟩ = some (.slice (some ⟨g, o, none⟩) l.length c) := cell_of_row _ _ _ _ _ _ hv
    have hk1 : ((l.length : Nat) : Int) < (k : Int) := by omega
    clear hv hb hk
    go_enter Tryz.func183, Tryz.ntmps183
    go_wp2_with fail
    refine hcall.mono ?_
    clear hcall
    rintro e w1 ⟨rfl, rfl⟩
    go_wp2_with fail
    refine hfail.mono ?_
    clear hfail
    rintro e w2 ⟨rfl, h1, h2⟩
    have H1 := Lib.hid h1; clear h1
    have H2 := Lib.hid h2; clear h2
    go_wp2_with fail
    go_ret
    exact ⟨rfl, H1.out, H2.out⟩

theorem nil_nil (w : World) : (binOp BinOp.eql 25 (.slice none 0 0) (.slice none 0 0)).run Tryz.prog w = .ok (.bool true) w := by kernel_rfl
theorem some_nil (a : Addr) (n c : Nat) (w : World) : (binOp BinOp.eql 25 (.slice (some a) n c) (.slice none 0 0)).run Tryz.prog w = .ok (.bool false) w := by kernel_rfl
set_option maxRecDepth 20000 in
theorem byte_none (b : Nat) (s : Option (List UInt8)) (hs : s = none ∨ s = some []) (w : World) (h : RAt w b s) :
    Calls Tryz.prog 182 #[.pointer (some ⟨b, 0, none⟩)] w fun e w' => e = .returned (.int .i64 0) ∧ RAt w' b none ∧ Only (fun x => x = b) w w' := by
  have hnn := nil_nil
  have hcall := cut_none b s 1 (by rintro l rfl; rcases hs with h | h; · cases h
                                   · simp only [Option.some.injEq] at h; subst h; exact Nat.zero_lt_one) w h
  clear h hs
  go_enter Tryz.func182, Tryz.ntmps182
  go_wp2_with fail
  refine hcall.mono ?_
  clear hcall
  rintro e w1 ⟨rfl, h1, h2⟩
  have H1 := Lib.hid h1; clear h1
  have H2 := Lib.hid h2; clear h2
  go_wp2_with fail
  go_ret
  exact ⟨rfl, H1.out, H2.out⟩
set_option maxRecDepth 20000 in
theorem byte_some (b : Nat) (c : UInt8) (r : List UInt8) (w : World) (h : RAt w b (some (c :: r))) :
    Calls Tryz.prog 182 #[.pointer (some ⟨b, 0, none⟩)] w fun e w' => e = .returned (.int .i64 (c.toNat : Nat)) ∧ RAt w' b (some r) ∧ Only (fun x => x = b) w w' := by
  have hnn := some_nil
  have hcall := cut_some b (c :: r) 1 (by simp) w h
  have hc8 := c.toNat_lt
  clear h
  go_enter Tryz.func182, Tryz.ntmps182
  go_wp2_with fail
  refine hcall.mono ?_
  clear hcall
  rintro e w1 ⟨g, o, cc, rfl, hg, hb, h1, h2⟩
  have H1 := Lib.hid h1; clear h1
  have H2 := Lib.hid h2; clear h2
  have hcell := hb 0 c rfl
  rw [Nat.add_zero] at hcell
  clear hb hg
  go_wp2_with fail
  go_ret
  exact ⟨rfl, H1.out, H2.out⟩
theorem u64_join8 (x y : Int) (h0 : 0 ≤ x) (hx : x % 256 = 0) (h1 : x < 18446744073709551616) (h2 : 0 ≤ y) (h3 : y < 256) : bits .or .u64 x y = x + y :=
  bits_join .u64 64 (by decide) (fun n a b => by rw [IntKind.wrap_u64]; omega) 8 x y h0 (by simpa using hx) (by omega) h2 (by omega) (by omega)

/-- What a number's taking comes to: the number (0, where there is none), and what is to come. -/
def numR : Option (List UInt8) → Nat × Option (List UInt8)
  | none => (0, none)
  | some x => match readN x with
    | some (n, r) => (n, some r)
    | none => (0, none)
theorem numR_no {x : List UInt8} (h : readN x = none) : numR (some x) = (0, none) := by unfold numR; simp only [h]
theorem numR_yes {x : List UInt8} {n : Nat} {r : List UInt8} (h : readN x = some (n, r)) : numR (some x) = (n, some r) := by unfold numR; simp only [h]
def NumDone (b : Nat) (s : Option (List UInt8)) (w : World) (e : Ending) (w' : World) : Prop := e = .returned (.int .u64 ((numR s).1 : Nat)) ∧ RAt w' b (numR s).2 ∧ Only (fun x => x = b) w w'

set_option maxRecDepth 20000 in
set_option maxHeartbeats 1000000 in
theorem rnumber_bad (b : Nat) (s : Option (List UInt8)) (hs : s = none ∨ s = some []) (w : World) (h : RAt w b s) :
    Calls Tryz.prog 146 #[.pointer (some ⟨b, 0, none⟩)] w (NumDone b s w) := by
  have hcall := byte_none b s hs w h
  have HN : Hid (numR s = (0, none)) := by rcases hs with rfl | rfl <;> rfl
  clear h hs
  go_enter Tryz.func146, Tryz.ntmps146
  go_wp2_with fail
  refine hcall.mono ?_
  clear hcall
  rintro e w1 ⟨rfl, h1, h2⟩
  have hcall := cut_none b none 0 (by intro l e; cases e) w1 h1
  have H2 := Lib.hid h2; clear h2 h1
  go_wp2_with fail
  refine hcall.mono ?_
  clear hcall
  rintro e w2 ⟨rfl, h1, h2⟩
  have H3 := Lib.hid (H2.out.andThen h2); clear h2
  have H1 := Lib.hid h1; clear h1
  go_wp2_with fail
  go_loopg [5, 30] 0 (fun g n i wr => n = .int .u64 0 ∧ i = .int .i64 0 ∧ g = 0 ∧ w2 = wr)
  case atStart => exact ⟨rfl, rfl, rfl, rfl⟩
  case round =>
    obtain ⟨rfl, rfl, rfl, rfl⟩ := hrel
    go_wp2_with fail
    go_ret
    exact ⟨by rw [HN.out]; rfl, by rw [HN.out]; exact H1.out, H3.out⟩

set_option maxRecDepth 20000 in
set_option maxHeartbeats 1000000 in
/-- A length of more than eight. -/
theorem rnumber_long (b : Nat) (c : UInt8) (r : List UInt8) (hc : 8 < c.toNat) (w : World) (h : RAt w b (some (c :: r))) :
    Calls Tryz.prog 146 #[.pointer (some ⟨b, 0, none⟩)] w (NumDone b (some (c :: r)) w) := by
  have hcall := byte_some b c r w h
  have HN : Hid (numR (some (c :: r)) = (0, none)) := by
    exact numR_no (by rw [readN_cons, if_pos (.inl hc)])
  clear h
  go_enter Tryz.func146, Tryz.ntmps146
  go_wp2_with fail
  refine hcall.mono ?_
  clear hcall
  rintro e w1 ⟨rfl, h1, h2⟩
  have hfail := fail_any b _ w1 h1
  have H2 := Lib.hid h2; clear h2 h1
  have hc2 : (8 : Int) < (c.toNat : Int) := by omega
  go_wp2_with fail
  refine hfail.mono ?_
  clear hfail
  rintro e w2 ⟨rfl, h1, h2⟩
  have H3 := Lib.hid (H2.out.andThen h2); clear h2
  have hcall := cut_none b none c.toNat (by intro l e; cases e) w2 h1
  clear h1
  go_wp2_with fail
  refine hcall.mono ?_
  clear hcall
  rintro e w3 ⟨rfl, h1, h2⟩
  have H4 := Lib.hid (H3.out.andThen h2); clear h2
  have H1 := Lib.hid h1; clear h1
  go_wp2_with fail
  go_loopg [5, 30] 0 (fun g n i wr => n = .int .u64 0 ∧ i = .int .i64 0 ∧ g = 0 ∧ w3 = wr)
  case atStart => exact ⟨rfl, rfl, rfl, rfl⟩
  case round =>
    obtain ⟨rfl, rfl, rfl, rfl⟩ := hrel
    go_wp2_with fail
    go_ret
    exact ⟨by rw [HN.out]; rfl, by rw [HN.out]; exact H1.out, H4.out⟩
set_option maxRecDepth 20000 in
set_option maxHeartbeats 1000000 in
/-- Fewer bytes than told. -/
theorem rnumber_short (b : Nat) (c : UInt8) (r : List UInt8) (hc : ¬ 8 < c.toNat) (hr : r.length < c.toNat) (w : World) (h : RAt w b (some (c :: r))) :
    Calls Tryz.prog 146 #[.pointer (some ⟨b, 0, none⟩)] w (NumDone b (some (c :: r)) w) := by
  have hcall := byte_some b c r w h
  have HN : Hid (numR (some (c :: r)) = (0, none)) := by
    exact numR_no (by rw [readN_cons, if_pos (.inr (.inl hr))])
  clear h
  go_enter Tryz.func146, Tryz.ntmps146
  go_wp2_with fail
  refine hcall.mono ?_
  clear hcall
  rintro e w1 ⟨rfl, h1, h2⟩
  have H2 := Lib.hid h2; clear h2
  have hc2 : ¬ (8 : Int) < (c.toNat : Int) := by omega
  have hcall := cut_none b (some r) c.toNat (by intro l e; simp only [Option.some.injEq] at e; subst e; exact hr) w1 h1
  clear h1
  go_wp2_with fail
  refine hcall.mono ?_
  clear hcall
  rintro e w3 ⟨rfl, h1, h2⟩
  have H4 := Lib.hid (H2.out.andThen h2); clear h2
  have H1 := Lib.hid h1; clear h1
  go_wp2_with fail
  go_loopg [5, 30] 0 (fun g n i wr => n = .int .u64 0 ∧ i = .int .i64 0 ∧ g = 0 ∧ w3 = wr)
  case atStart => exact ⟨rfl, rfl, rfl, rfl⟩
  case round =>
    obtain ⟨rfl, rfl, rfl, rfl⟩ := hrel
    go_wp2_with fail
    go_ret
    exact ⟨by rw [HN.out]; rfl, by rw [HN.out]; exact H1.out, H4.out⟩
set_option maxRecDepth 20000 in
set_option maxHeartbeats 1000000 in
/-- A nought ahead. -/
theorem rnumber_zero (b : Nat) (c : UInt8) (r : List UInt8) (hc : ¬ 8 < c.toNat) (hr : ¬ r.length < c.toNat) (hz : (r.take c.toNat).head? = some 0) (w : World) (h : RAt w b (some (c :: r))) :
    Calls Tryz.prog 146 #[.pointer (some ⟨b, 0, none⟩)] w (NumDone b (some (c :: r)) w) := by
  have hcall := byte_some b c r w h
  have HN : Hid (numR (some (c :: r)) = (0, none)) := by
    exact numR_no (by rw [readN_cons, if_pos (.inr (.inr hz))])
  have hpos : (0 : Int) < (c.toNat : Int) := by
    have : c.toNat ≠ 0 := fun e => by rw [e] at hz; simp at hz
    omega
  have hz0 : (r.take c.toNat)[0]? = some 0 := by rw [← List.head?_eq_getElem?]; exact hz
  clear h
  go_enter Tryz.func146, Tryz.ntmps146
  go_wp2_with fail
  refine hcall.mono ?_
  clear hcall
  rintro e w1 ⟨rfl, h1, h2⟩
  have H2 := Lib.hid h2; clear h2
  have hc2 : ¬ (8 : Int) < (c.toNat : Int) := by omega
  have hcall := cut_some b r c.toNat (by omega) w1 h1
  clear h1
  go_wp2_with fail
  refine hcall.mono ?_
  clear hcall
  rintro e w3 ⟨g, o, cc, rfl, hg, hb, h1, h2⟩
  have H4 := Lib.hid (H2.out.andThen h2); clear h2
  have hcell : w3.cell? ⟨g, o, none⟩ = some (.int .u8 0) := by
    have := hb 0 0 hz0
    rw [Nat.add_zero] at this
    exact this
  have hfail := fail_any b _ w3 h1
  clear h1 hb hg hz hz0
  go_wp2_with fail
  refine hfail.mono ?_
  clear hfail
  rintro e w4 ⟨rfl, h1, h2⟩
  have H5 := Lib.hid (H4.out.andThen h2); clear h2
  have H1 := Lib.hid h1; clear h1
  go_wp2_with fail
  go_ret
  exact ⟨by rw [HN.out]; rfl, by rw [HN.out]; exact H1.out, H5.out⟩
set_option maxRecDepth 20000 in
set_option maxHeartbeats 1000000 in
/-- A number. -/
theorem rnumber_good (b : Nat) (c : UInt8) (r : List UInt8) (hc : ¬ 8 < c.toNat) (hr : ¬ r.length < c.toNat) (hz : (r.take c.toNat).head? ≠ some 0) (w : World) (h : RAt w b (some (c :: r))) :
    Calls Tryz.prog 146 #[.pointer (some ⟨b, 0, none⟩)] w (NumDone b (some (c :: r)) w) := by
  have hcall := byte_some b c r w h
  have HN : Hid (numR (some (c :: r)) = (valB (r.take c.toNat), some (r.drop c.toNat))) := by
    exact numR_yes (by rw [readN_cons, if_neg (by rintro (h | h | h); exact hc h; exact hr h; exact hz h)])
  have hlen : (r.take c.toNat).length = c.toNat := by simp; omega
  clear h
  go_enter Tryz.func146, Tryz.ntmps146
  go_wp2_with fail
  refine hcall.mono ?_
  clear hcall
  rintro e w1 ⟨rfl, h1, h2⟩
  have H2 := Lib.hid h2; clear h2
  have hc2 : ¬ (8 : Int) < (c.toNat : Int) := by omega
  have hcall := cut_some b r c.toNat (by omega) w1 h1
  clear h1
  go_wp2_with fail
  refine hcall.mono ?_
  clear hcall
  rintro e w3 ⟨g, o, cc, rfl, hg, hb, h1, h2⟩
  have H4 := Lib.hid (H2.out.andThen h2); clear h2
  have H1 := Lib.hid h1; clear h1
  have HB := Lib.hid hb
  generalize hx : r.take c.toNat = x at HN hz hlen HB hb
  have HXX := Lib.hid hx
  clear hx
  generalize hk : c.toNat = k at *
  clear hk
  by_cases h0 : k = 0
  · subst h0
    clear hb
    have HX0 : Hid (x = []) := List.eq_nil_of_length_eq_zero hlen
    clear hlen hz
    go_wp2_with fail
    go_loopg [5, 30] 0 (fun g n i wr => n = .int .u64 0 ∧ i = .int .i64 0 ∧ g = 0 ∧ w3 = wr)
    case atStart => exact ⟨rfl, rfl, rfl, rfl⟩
    case round =>
      obtain ⟨rfl, rfl, rfl, rfl⟩ := hrel
      go_wp2_with fail
      go_ret
      refine ⟨?_, ?_, H4.out⟩
      · rw [HN.out, HX0.out]; rfl
      · rw [HN.out]; exact H1.out
  · have hpos : (0 : Int) < (k : Int) := by omega
    obtain ⟨y, x', rfl⟩ : ∃ y x', x = y :: x' := by
      cases x with
      | nil => simp at hlen; omega
      | cons y x' => exact ⟨_, _, rfl⟩
    have hcell := hb 0 y rfl
    rw [Nat.add_zero] at hcell
    have hy : (y.toNat : Int) ≠ 0 := fun e => hz (by
      have : y = 0 := UInt8.toNat_inj.1 (by have h0 : (0 : UInt8).toNat = 0 := rfl
                                            rw [h0]; omega)
      rw [this]; rfl)
    have hy2 : ((y.toNat : Int) == 0) = false := by rw [beq_eq_false_iff_ne]; exact hy
    clear hb
    generalize hxy : y :: x' = x at *
    clear hxy
    go_wp2_with fail
    go_loopg [5, 30] k (fun gg n i wr => ∃ (j m : Nat), n = .int .u64 m ∧ i = .int .i64 j ∧ j ≤ k ∧ gg = k - j ∧ Hid (m = valB (x.take j)) ∧ w3 = wr)
    case atStart => exact ⟨0, 0, rfl, rfl, Nat.zero_le _, rfl, rfl, rfl⟩
    case round =>
      obtain ⟨j, m, rfl, rfl, hj, rfl, HM, rfl⟩ := hrel
      by_cases hlt : j < k
      · have hjx : j < x.length := by omega
        have hcell2 := HB.out j _ (List.getElem?_eq_getElem hjx)
        have HT : Hid (x.take (j + 1) = x.take j ++ [x[j]]) := List.take_succ_eq_append_getElem hjx
        generalize x[j] = d at hcell2 HT
        have hd := d.toNat_lt
        have hm : m < 72057594037927936 := by
          have h1 := valB_lt (x.take j) 7 (by simp; omega)
          rw [HM.out]; simpa using h1
        have hwr : IntKind.u64.wrap (d.toNat : Int) = (d.toNat : Int) := by rw [IntKind.wrap_u64]; omega
        have hor : bits BinOp.or IntKind.u64 ((m : Int) * 256) (IntKind.u64.wrap (d.toNat : Int)) = (m : Int) * 256 + (d.toNat : Int) := by
          rw [hwr]; exact u64_join8 _ _ (by omega) (by omega) (by omega) (by omega) (by omega)
        clear hwr
        clear hd
        go_wp2_with fail
        go_roundg (k - (j + 1))
        case measure => omega
        case rel => exact ⟨j + 1, m * 256 + d.toNat, by go_num, by go_num, by omega, rfl, (show Hid _ from by
          show _ = _
          rw [HT.out, valB_snoc, ← HM.out, Nat.mul_comm]), rfl⟩
      · have ej : j = k := by omega
        subst ej
        go_wp2_with fail
        go_ret
        have hmm := HM.out
        rw [List.take_of_length_le (by omega)] at hmm
        refine ⟨?_, ?_, H4.out⟩
        · rw [HN.out, ← hmm]; rfl
        · rw [HN.out]; exact H1.out
end Go.Proofs.YtmdkjcigmhgpeaaGreatDoor
