/- The walks of Same, Turned, join and awake. -/
import Derived.Test.YtmdkjcigmhgpeaaDoorSealAll
namespace Go.Proofs.YtmdkjcigmhgpeaaDoor
open Go.RowKit SealMath

set_option maxHeartbeats 400000 in
/-- Same: two lists of texts. -/
theorem same_any (a : Option Addr) (c : Nat) (xs : List ByteArray) (b : Option Addr) (d : Nat) (ys : List ByteArray) (hx : xs.length ≤ 140737488355328) (w : World) (h1 : StrsAt w a xs) (h2 : StrsAt w b ys) :
    Calls Tryd.prog 21 #[.slice a xs.length c, .slice b ys.length d] w fun e w' => e = .returned (.bool (decide (xs = ys))) ∧ Ext w w' := by
  by_cases hl : xs.length = ys.length
  · have hl2 : ((xs.length : Int) != ys.length) = false := by simp [hl]
    have H1 := Lib.hid h1; clear h1
    have H2 := Lib.hid h2; clear h2
    have HL := Lib.hid hl; clear hl
    go_enter Tryd.func21, Tryd.ntmps21
    go_wp2_with fail
    go_loopg [5] (xs.length) (fun k i wr => ∃ n : Nat, i = .int .i64 n ∧ n ≤ xs.length ∧ k = xs.length - n ∧ Hid (xs.take n = ys.take n) ∧ Ext w wr)
    case atStart => exact ⟨0, rfl, Nat.zero_le _, rfl, rfl, Ext.refl _⟩
    case round =>
      obtain ⟨n, rfl, hn, rfl, HT, hk⟩ := hrel
      by_cases hlt : n < xs.length
      · have hlt2 : n < ys.length := by have := HL.out; omega
        obtain ⟨bk, o, rfl, _, hcx⟩ := (H1.out.ext hk) n _ (List.getElem?_eq_getElem hlt)
        obtain ⟨bk2, o2, rfl, _, hcy⟩ := (H2.out.ext hk) n _ (List.getElem?_eq_getElem hlt2)
        have i1 : (0 : Int) ≤ n := by omega
        have i2 : (n : Int) < xs.length := by omega
        have i3 : (n : Int) < ys.length := by omega
        have HX : Hid (xs.take (n + 1) = xs.take n ++ [xs[n]]) := List.take_succ_eq_append_getElem hlt
        have HY : Hid (ys.take (n + 1) = ys.take n ++ [ys[n]]) := List.take_succ_eq_append_getElem hlt2
        have HZ : Hid (xs[n] ≠ ys[n] → xs ≠ ys) := fun h e => h (by simp [e])
        generalize xs[n] = x at hcx HX HZ
        generalize ys[n] = y at hcy HY HZ
        go_wp2_with fail
        go_quiet (fail)
        generalize hb : (!x.toList == y.toList) = b
        have HB : Hid (b = decide (x ≠ y)) := by
          show _ = _
          rw [← hb, ByteArray.toList_eq, ByteArray.toList_eq, Bool.eq_iff_iff]
          simp only [Bool.not_eq_true', beq_eq_false_iff_ne, decide_eq_true_eq]
          exact ⟨fun h e => h (by rw [e]), fun h e => h (lst_inj e)⟩
        clear hb
        have k2 := hk.drewN nq
        cases b
        · go_wp2_with fail
          go_roundg (xs.length - (n + 1))
          case measure => omega
          case rel => exact ⟨n + 1, by go_num, by omega, rfl, by
            show _ = _
            have he : x = y := Classical.byContradiction fun h => by have := HB.out; simp [h] at this
            rw [HX.out, HY.out, HT.out, he], k2⟩
        · go_wp2_with fail
          go_ret
          refine ⟨ret_bool ?_, k2⟩
          rw [eq_comm, decide_eq_false_iff_not]
          exact HZ.out (of_decide_eq_true HB.out.symm)
      · go_wp2_with fail
        go_ret
        refine ⟨ret_bool ?_, hk⟩
        have h := HT.out
        rw [List.take_of_length_le (by omega), List.take_of_length_le (by have := HL.out; omega)] at h
        simp [h]
  · have hl2 : ((xs.length : Int) != ys.length) = true := by rw [bne_iff_ne]; omega
    have HL := Lib.hid hl; clear hl
    go_enter Tryd.func21, Tryd.ntmps21
    go_wp2_with fail
    go_ret
    refine ⟨ret_bool ?_, Ext.refl _⟩
    rw [eq_comm, decide_eq_false_iff_not]
    intro h
    exact HL.out (by rw [h])

theorem cat_one (x : ByteArray) : cat [x] = lst x := by simp [cat]
/-- Texts as one. -/
def joined (xs : List ByteArray) : ByteArray := ⟨(cat xs).toArray⟩
theorem lst_joined (xs : List ByteArray) : lst (joined xs) = cat xs := rfl
theorem cat_snoc (xs : List ByteArray) (x : ByteArray) : cat (xs ++ [x]) = cat xs ++ lst x := by simp [cat]
/-- Are the texts no more than is asked of? -/
def small (xs : List ByteArray) : Bool := decide (xs.length ≤ 20 ∧ (∀ x ∈ xs, x.size ≤ 1500) ∧ (cat xs).length ≤ 1500)

/-- What the law's join answers: the texts as one, if they are no more than is asked of. -/
def JoinDone (xs : List ByteArray) (w : World) (e : Ending) (w' : World) : Prop :=
  ∃ (r : ByteArray) (b : Bool), e = .returned (.tuple #[.string r, .bool b]) ∧ b = small xs ∧ (b = true → lst r = cat xs) ∧ w' = w

set_option maxHeartbeats 800000 in
theorem lawjoin_any (a : Option Addr) (c : Nat) (xs : List ByteArray) (hx : xs.length ≤ 140737488355328) (hM : ∀ x ∈ xs, x.size ≤ 9223372036854775807) (w : World) (h1 : StrsAt w a xs) :
    Calls Tryd.prog 8 #[.slice a xs.length c] w (JoinDone xs w) := by
  have H1 := Lib.hid h1; clear h1
  have HM := Lib.hid hM; clear hM
  go_enter Tryd.func8, Tryd.ntmps8
  go_wp2_with fail
  go_loopg [4, 5] (xs.length) (fun k v i wr => ∃ (s : ByteArray) (n : Nat), v = .string s ∧ i = .int .i64 n ∧ n ≤ xs.length ∧ n ≤ 20 ∧ s.size ≤ 1500 * n ∧ k = xs.length - n ∧ Hid (lst s = cat (xs.take n) ∧ ∀ x ∈ xs.take n, x.size ≤ 1500) ∧ wr = w)
  case atStart => exact ⟨⟨#[]⟩, 0, rfl, rfl, Nat.zero_le _, by omega, by simp [ByteArray.size], rfl, ⟨rfl, by simp⟩, rfl⟩
  case round =>
    obtain ⟨s, n, rfl, rfl, hn, hn20, hsz, rfl, HT, hw⟩ := hrel
    subst hw
    by_cases hlt : n < xs.length
    · by_cases h20 : n < 20
      · obtain ⟨bk, o, rfl, _, hcx⟩ := H1.out n _ (List.getElem?_eq_getElem hlt)
        have hxm := HM.out _ (List.getElem_mem hlt)
        have HX : Hid (xs.take (n + 1) = xs.take n ++ [xs[n]] ∧ xs[n] ∈ xs) := ⟨List.take_succ_eq_append_getElem hlt, List.getElem_mem hlt⟩
        generalize xs[n] = x at hcx HX hxm
        by_cases hbig : 1500 < x.size
        · go_wp2_with fail
          go_ret2
          refine ⟨_, false, rfl, ?_, (by intro h; cases h), rfl⟩
          rw [eq_comm, small, decide_eq_false_iff_not]
          intro h
          have := h.2.1 x HX.out.2
          omega
        · go_wp2_with fail
          go_roundg (xs.length - (n + 1))
          case measure => omega
          case rel => exact ⟨s ++ x, n + 1, rfl, by go_num, by omega, by omega, by rw [ByteArray.size_append]; omega, rfl, ⟨by rw [lst_append, HX.out.1, cat_snoc, HT.out.1], by
            rw [HX.out.1]
            intro y hy
            rcases List.mem_append.1 hy with hy | hy
            · exact HT.out.2 y hy
            · simp at hy; subst hy; omega⟩, rfl⟩
      · have e20 : n = 20 := by omega
        go_wp2_with fail
        go_ret2
        refine ⟨_, false, rfl, ?_, (by intro h; cases h), rfl⟩
        rw [eq_comm, small, decide_eq_false_iff_not]
        intro h
        have := h.1
        omega
    · have hle : xs.length ≤ 20 := by omega
      go_wp2_with fail
      go_ret2
      have h := HT.out
      rw [List.take_of_length_le (by omega)] at h
      refine ⟨s, decide ((s.size : Int) ≤ 1500), rfl, ?_, fun _ => h.1, rfl⟩
      rw [small, decide_eq_decide, ← h.1, lst_length]
      exact ⟨fun hh => ⟨hle, h.2, by omega⟩, fun hh => by omega⟩

/-- Bytes in a row, and what lies behind. -/
def rowOf (l : List UInt8) (k : Nat) : Array Value := (l.map fun b => Value.int .u8 (b.toNat : Int)).toArray ++ Array.replicate k (.int .u8 0)
theorem rowOf_bytes (s : ByteArray) (cap : Nat) : bytesRow s cap = rowOf (lst s) (cap - s.size) := by
  unfold bytesRow rowOf
  congr 1
  apply Array.ext'
  simp
theorem rowOf_get (l : List UInt8) (k j : Nat) (hj : j < l.length) : (rowOf l k)[j]? = some (.int .u8 ((l[j]?.getD 0).toNat : Int)) := by
  unfold rowOf
  rw [Array.getElem?_append_left (by simpa using hj)]
  simp [List.getElem?_eq_getElem hj]
theorem rowOf_set (l : List UInt8) (k j n : Nat) (hj : j < l.length) (hn : n < 256) : (rowOf l k).setIfInBounds j (.int .u8 (n : Int)) = rowOf (l.set j (UInt8.ofNat n)) k := by
  unfold rowOf
  rw [Array.setIfInBounds_append_left (by simpa using hj)]
  congr 1
  apply Array.ext'
  simp only [Array.toList_setIfInBounds, List.map_set, UInt8.toNat_ofNat', Nat.mod_eq_of_lt hn]
theorem rowOf_size (l : List UInt8) (k : Nat) : (rowOf l k).size = l.length + k := by simp [rowOf]
theorem setCell_row {w : World} {g j : Nat} {cs : Array Value} {t : TypeId} {fr : Nat × Nat} (h : w.heap[g]? = some (.cells cs t fr)) (v : Value) : (w.setCell ⟨g, j, none⟩ v).heap[g]? = some (.cells (cs.setIfInBounds j v) t fr) := by
  simp only [World.setCell, Array.getElem?_modify, h]
  simp
theorem u8_xor (a b : Nat) (ha : a < 256) (hb : b < 256) : bits .xor .u8 (a : Int) (b : Int) = ((a ^^^ b : Nat) : Int) := u8_xor_nat a b ha hb

theorem two_pow_mod (i : Nat) (h : i < 8) : (2 : Int) ^ i % 256 = ((2 ^ i : Nat) : Int) := by
  match i, h with
  | 0, _ => rfl
  | 1, _ => rfl
  | 2, _ => rfl
  | 3, _ => rfl
  | 4, _ => rfl
  | 5, _ => rfl
  | 6, _ => rfl
  | 7, _ => rfl
theorem turned_back (s : ByteArray) (at_ bits n cap m : Nat) {wr : World} {g : Nat} (hrow : wr.heap[g]? = some (.cells (rowOf (turnedN (lst s) at_ bits n) (cap - s.size)) 5 (m, m + 1))) :
    (convert 37 9 (.slice (some ⟨g, 0, none⟩) s.size cap)).run Tryd.prog wr = .ok (.string ⟨(turnedN (lst s) at_ bits n).toArray⟩) wr := by
  have hl : (turnedN (lst s) at_ bits n).length = s.size := by rw [turnedN_length, lst_length]
  have := run_convert_bytes_back (P := Tryd.prog) wr 37 9 5 ⟨g, 0, none⟩ cap (turnedN (lst s) at_ bits n) Tryd.underlying37 Tryd.underlying5 Tryd.underlying9 (fun j hj => by
    rw [show (⟨g, 0, none⟩ : Addr).add j = ⟨g, j, none⟩ from by unfold Addr.add; split <;> simp_all]
    rw [cell_of_row _ _ _ _ _ _ hrow, rowOf_get _ _ _ hj, List.getElem?_eq_getElem hj]
    rfl)
  rw [hl] at this
  exact this
set_option maxHeartbeats 800000 in
theorem turned_any (s : ByteArray) (hm : s.size ≤ 1099511627776) (at_ bits : Nat) (ha : at_ < 8 * s.size) (w : World) :
    Calls Tryd.prog 16 #[.string s, .int .i64 at_, .int .u64 bits] w fun e w' => ∃ r, e = .returned (.string r) ∧ lst r = turnedL (lst s) at_ bits ∧ Ext w w' := by
  have hcv := run_bytes_of_string w 9 37 5 s Tryd.underlying9 Tryd.underlying37 Tryd.underlying5
  obtain ⟨cap, hcap⟩ : ∃ cap, grownCap w s.size 0 5 = cap := ⟨_, rfl⟩
  obtain ⟨m, hmm⟩ : ∃ m, (bytesRow s cap).size = m := ⟨_, rfl⟩
  rw [hcap, hmm] at hcv
  have hmg : s.size ≤ m := by rw [← hmm, rowOf_bytes, rowOf_size, lst_length]; omega
  clear hcap hmm
  go_enter Tryd.func16, Tryd.ntmps16
  go_wp2_with fail
  clear hcv
  go_loopg [8] 64 (fun k i wr => ∃ n : Nat, i = .int .i64 n ∧ n ≤ 64 ∧ at_ + n ≤ 8 * s.size ∧ k = 64 - n ∧ wr.heap[w.heap.size]? = some (.cells (rowOf (turnedN (lst s) at_ bits n) (cap - s.size)) 5 (m, m + 1)) ∧ Ext w wr)
  case atStart => exact ⟨0, rfl, by omega, by omega, rfl, by rw [rowOf_bytes]; exact heap_alloc_new w.drew _, ((Ext.refl w).drew).alloc _⟩
  case round =>
    obtain ⟨n, rfl, hn, hat, rfl, hrow, hk⟩ := hrel
    by_cases h64 : n < 64
    · by_cases hlt : at_ + n < 8 * s.size
      · obtain ⟨b, hb, eb⟩ : ∃ b, b = decide (bits / 2 ^ n % 2 = 1) ∧ (((bits : Int) / 2 ^ n).tmod 2 == 1) = b := ⟨_, rfl, by
          rw [show ((bits : Int) / 2 ^ n).tmod 2 = ((bits / 2 ^ n % 2 : Nat) : Int) from by rw [show (bits : Int) / 2 ^ n = ((bits / 2 ^ n : Nat) : Int) from by rw [Int.natCast_ediv, Int.natCast_pow]; rfl]; rfl, Bool.eq_iff_iff, beq_iff_eq, decide_eq_true_eq]
          omega⟩
        have HB := Lib.hid hb; clear hb
        have HR := Lib.hid hrow; clear hrow
        cases b
        · go_wp2_with fail
          go_roundg (64 - (n + 1))
          case measure => omega
          case rel => exact ⟨n + 1, by go_num, by omega, by omega, rfl, by
            simp only [turnedN]
            rw [if_neg (of_decide_eq_false HB.out.symm)]
            exact HR.out, hk⟩
        · go_wp2_with fail
          obtain ⟨j, hj⟩ : ∃ j, (at_ + n) / 8 = j := ⟨_, rfl⟩
          obtain ⟨i, hi⟩ : ∃ i, (at_ + n) % 8 = i := ⟨_, rfl⟩
          have hjs : j < (turnedN (lst s) at_ bits n).length := by rw [turnedN_length, lst_length]; omega
          obtain ⟨q, hq⟩ : ∃ q, ((turnedN (lst s) at_ bits n)[j]?.getD 0).toNat = q := ⟨_, rfl⟩
          have hq2 : q < 256 := by rw [← hq]; exact UInt8.toNat_lt _
          have hi8 : i < 8 := by omega
          have hcell : wr.cell? ⟨w.heap.size, j, none⟩ = some (.int .u8 (q : Int)) := by
            rw [cell_of_row _ _ _ _ _ _ HR.out, rowOf_get _ _ _ hjs, hq]
          have hfz : wr.frozen? ⟨w.heap.size, j, none⟩ = false := by
            simp only [World.frozen?, HR.out]
            rw [turnedN_length, lst_length] at hjs
            simp; omega
          have g1 : IntKind.i64.wrap ((at_ : Int) + (n : Int)) = (at_ : Int) + (n : Int) := IntWalk.i64_in _ (by omega)
          have g2 : ((at_ : Int) + (n : Int)).tdiv 8 = (j : Int) := by rw [← hj]; rfl
          have g3 : ((at_ : Int) + (n : Int)).tmod 8 = (i : Int) := by rw [← hi]; rfl
          have g2c : IntKind.i64.wrap (j : Int) = (j : Int) := IntWalk.i64_in _ (by omega)
          have g4 : (0 : Int) ≤ (j : Int) := by omega
          have g5 : (j : Int) < s.size := by rw [turnedN_length, lst_length] at hjs; omega
          have HJ := Lib.hid hj; clear hj
          have HI := Lib.hid hi; clear hi
          have HQ := Lib.hid hq; clear hq
          have HJS := Lib.hid hjs; clear hjs
          go_region
          have e9 : Go.bits BinOp.xor IntKind.u8 (q : Int) ((2 : Int) ^ i % 256) = ((q ^^^ 2 ^ i : Nat) : Int) := by
            have hp : 2 ^ i < 256 := Nat.pow_lt_pow_right (n := 8) (by omega) hi8
            rw [two_pow_mod i hi8]
            exact u8_xor q (2 ^ i) hq2 hp
          have hx : q ^^^ 2 ^ i < 256 := Nat.xor_lt_two_pow (n := 8) hq2 (Nat.pow_lt_pow_right (by omega) hi8)
          obtain ⟨x, hxx⟩ : ∃ x, q ^^^ 2 ^ i = x := ⟨_, rfl⟩
          rw [hxx] at e9 hx
          rw [e9]
          have h1 := setCell_row (j := j) HR.out (.int .u8 (x : Int))
          rw [rowOf_set _ _ _ _ HJS.out hx] at h1
          have HR2 : Hid ((wr.setCell ⟨w.heap.size, j, none⟩ (.int .u8 (x : Int))).drew.heap[w.heap.size]? = some (.cells (rowOf (turnedN (lst s) at_ bits (n + 1)) (cap - s.size)) 5 (m, m + 1))) := by
            show _ = _
            have h2 : (turnedN (lst s) at_ bits n).set j (UInt8.ofNat x) = turnedN (lst s) at_ bits (n + 1) := by
              conv => rhs; rw [turnedN, if_pos (of_decide_eq_true HB.out.symm), HJ.out, HI.out, turnByte, HQ.out, hxx]
            rw [← h2]
            exact h1
          have k2 : Ext w (wr.setCell ⟨w.heap.size, j, none⟩ (.int .u8 (x : Int))).drew := Below.drew (Below.setCell hk (Nat.le_refl _) _)
          clear h1 hxx e9 hcell hfz g1 g2 g3
          generalize (wr.setCell ⟨w.heap.size, j, none⟩ (.int .u8 (x : Int))).drew = w2 at *
          go_wp2_with fail
          go_roundg (64 - (n + 1))
          case measure => omega
          case rel => exact ⟨n + 1, by go_num, by omega, by omega, rfl, HR2.out, k2⟩
      · have hcv : (convert 37 9 (.slice (some ⟨w.heap.size, 0, none⟩) s.size cap)).run Tryd.prog wr = .ok (.string ⟨(turnedN (lst s) at_ bits n).toArray⟩) wr := turned_back s at_ bits n cap m hrow
        have HN : Hid (turnedN (lst s) at_ bits n = turnedL (lst s) at_ bits) := by
          show _ = _
          unfold turnedL
          rw [lst_length, show min 64 (8 * s.size - at_) = n by omega]
        obtain ⟨r, hr⟩ : ∃ r, (⟨(turnedN (lst s) at_ bits n).toArray⟩ : ByteArray) = r := ⟨_, rfl⟩
        rw [hr] at hcv
        have HRR := Lib.hid hr; clear hr hrow
        go_wp2_with fail
        go_ret
        refine ⟨_, rfl, ?_, hk⟩
        rw [← HN.out, ← HRR.out]
    · have e64 : n = 64 := by omega
      subst e64
      have hcv : (convert 37 9 (.slice (some ⟨w.heap.size, 0, none⟩) s.size cap)).run Tryd.prog wr = .ok (.string ⟨(turnedN (lst s) at_ bits 64).toArray⟩) wr := turned_back s at_ bits 64 cap m hrow
      have HN : Hid (turnedN (lst s) at_ bits 64 = turnedL (lst s) at_ bits) := by
        show _ = _
        unfold turnedL
        rw [lst_length, show min 64 (8 * s.size - at_) = 64 by omega]
      obtain ⟨r, hr⟩ : ∃ r, (⟨(turnedN (lst s) at_ bits 64).toArray⟩ : ByteArray) = r := ⟨_, rfl⟩
      rw [hr] at hcv
      have HRR := Lib.hid hr; clear hr hrow
      go_wp2_with fail
      go_ret
      refine ⟨_, rfl, ?_, hk⟩
      rw [← HN.out, ← HRR.out]

set_option maxHeartbeats 800000 in
/-- The document's example. -/
theorem awake_any (w : World) (hn : Nibs w) : Calls Tryd.prog 9 #[] w fun e w' => e = .returned (.bool true) ∧ Ext w w' := by
  have HN := Lib.hid hn; clear hn
  go_enter Tryd.func9, Tryd.ntmps9
  go_wp2_with fail
  have k1 := (Ext.refl w).alloc (.cells #[.string ⟨#[97]⟩, .string ⟨#[98]⟩] 9)
  refine (frame_any (some ⟨w.heap.size, 0, none⟩) 2 [⟨#[97]⟩, ⟨#[98]⟩] (by decide) (by decide) _ (StrsAt.two w _ _ _) (HN.out.ext k1) (by decide)).mono ?_
  rintro e w1 ⟨f, rfl, hf, k2⟩
  have k3 := k1.trans k2
  have hfs : f.size ≤ 100 := by rw [← lst_length, hf, frameL_length]; decide
  have HF := Lib.hid hf; clear hf
  go_wp2_with fail
  refine (open_any f (by omega) _ (HN.out.ext k3)).mono ?_
  rintro e w2 ⟨r, n, y, rfl, ho, k4⟩
  have ho2 := openL_frame (cat [⟨#[97]⟩, ⟨#[98]⟩]) [] (by decide)
  rw [List.append_nil, ← HF.out, ho] at ho2
  simp only [Prod.mk.injEq] at ho2
  obtain ⟨h1, rfl, rfl⟩ := ho2
  obtain rfl : r = ⟨#[97, 98]⟩ := lst_inj h1
  clear h1 ho
  rw [show (cat [⟨#[97]⟩, ⟨#[98]⟩]).length = 2 from rfl]
  have k5 := k3.trans k4
  go_wp2_with fail
  have k6 := k5.alloc (.cells #[.string ⟨#[49, 50, 51, 52]⟩, .string ⟨#[53, 54, 55, 56, 57]⟩] 9)
  refine (of_any (some ⟨w2.heap.size, 0, none⟩) 2 [⟨#[49, 50, 51, 52]⟩, ⟨#[53, 54, 55, 56, 57]⟩] (by decide) (by decide) _ (StrsAt.two w2 _ _ _) (HN.out.ext k6)).mono ?_
  rintro e w3 ⟨rfl, k7⟩
  rw [show crc (cat [⟨#[49, 50, 51, 52]⟩, ⟨#[53, 54, 55, 56, 57]⟩]) = 11051210869376104954 from by decide +kernel]
  go_wp2_with fail
  go_ret
  exact ⟨rfl, k6.trans k7⟩
end Go.Proofs.YtmdkjcigmhgpeaaDoor
