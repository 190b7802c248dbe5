/- The walks of the five laws of seal. -/
import Derived.Test.YtmdkjcigmhgpeaaDoorSealMisc
namespace Go.Proofs.YtmdkjcigmhgpeaaDoor
open Go.RowKit SealMath

set_option maxHeartbeats 800000 in
theorem opens_walk (s : ByteArray) (hm : s.size ≤ 9223372036854775807) (w : World) (hn : Nibs w) :
    Calls Tryd.prog 6 #[.string s] w fun e w' => e = .returned (.bool true) ∧ Ext w w' := by
  have HN := Lib.hid hn; clear hn
  by_cases hbig : 1500 < s.size
  · go_enter Tryd.func6, Tryd.ntmps6
    go_wp2_with fail
    refine (awake_any _ HN.out).mono ?_
    rintro e w1 ⟨rfl, k1⟩
    go_wp2_with fail
    go_ret
    exact ⟨rfl, k1⟩
  · go_enter Tryd.func6, Tryd.ntmps6
    go_wp2_with fail
    refine (open_any s hm _ HN.out).mono ?_
    rintro e w1 ⟨r, n, y, rfl, ho, k1⟩
    have HO := Lib.hid ho; clear ho
    go_wp2_with fail
    refine (refopen_any s hm _).mono ?_
    rintro e w2 ⟨r2, n2, y2, rfl, ho, k2⟩
    rw [HO.out] at ho
    simp only [Prod.mk.injEq] at ho
    obtain ⟨h1, rfl, rfl⟩ := ho
    obtain rfl := lst_inj h1
    clear h1
    have k3 := k1.trans k2
    go_wp2_with fail
    refine (all_any s (by omega) _ (HN.out.ext k3)).mono ?_
    rintro e w3 ⟨l, a, c, m, z, rfl, ha, hs, hc, hcm, k4⟩
    have HA := Lib.hid ha; clear ha
    have HS := Lib.hid hs; clear hs
    go_wp2_with fail
    refine (refall_any s (by omega) _).mono ?_
    rintro e w4 ⟨l2, a2, c2, m2, z2, rfl, ha, hs2, hc2, _, k5⟩
    rw [HA.out] at ha
    simp only [Prod.mk.injEq] at ha
    obtain ⟨h1, rfl, rfl⟩ := ha
    obtain rfl : l = l2 := map_lst_inj h1
    clear h1
    have HS2 := Lib.hid hs2; clear hs2
    have k6 := (k3.trans k4).trans k5
    have hl : l.length ≤ 140737488355328 := by omega
    go_wp2_with fail
    refine (same_any a c l a2 c2 l hl _ (HS.out.ext k5) HS2.out).mono ?_
    rintro e w5 ⟨rfl, k7⟩
    rw [show decide (l = l) = true from by simp]
    go_wp2_with fail
    refine (awake_any _ (HN.out.ext (k6.trans k7))).mono ?_
    rintro e w6 ⟨rfl, k8⟩
    go_wp2_with fail
    go_ret
    exact ⟨rfl, (k6.trans k7).trans k8⟩

theorem at_rem (a : Int) (n : Nat) (hn : 0 < n) (hm : n ≤ 100000) : ∃ p : Nat, wrap64 ((IntKind.u64.wrap a).tmod (n : Int)) = (p : Int) ∧ p < n := by
  have h0 : 0 ≤ IntKind.u64.wrap a := by rw [IntKind.wrap_u64]; omega
  obtain ⟨x, hx⟩ := Int.eq_ofNat_of_zero_le h0
  have hlt : x % n < n := Nat.mod_lt _ hn
  refine ⟨x % n, ?_, hlt⟩
  rw [hx, show ((x : Int).tmod (n : Int)) = ((x % n : Nat) : Int) from rfl]
  exact IntWalk.wrap64_in _ ⟨by omega, by omega⟩

set_option maxHeartbeats 800000 in
theorem turned_walk (s : ByteArray) (at_ : Int) (bits : Nat) (w : World) (hn : Nibs w) :
    Calls Tryd.prog 5 #[.string s, .int .i64 at_, .int .u64 bits] w fun e w' => e = .returned (.bool true) ∧ Ext w w' := by
  have HN := Lib.hid hn; clear hn
  by_cases hz : s.size = 0
  · have g3 : ((s.size : Int) == 0) = true := by rw [beq_iff_eq]; omega
    clear hz
    go_enter Tryd.func5, Tryd.ntmps5
    go_wp2_with fail
    refine (awake_any _ HN.out).mono ?_
    rintro e w1 ⟨rfl, k1⟩
    go_wp2_with fail
    go_ret
    exact ⟨rfl, k1⟩
  have g1 : 0 < s.size := by omega
  have g3 : ((s.size : Int) == 0) = false := by rw [beq_eq_false_iff_ne]; omega
  clear hz
  by_cases hbig : 1500 < s.size
  · go_enter Tryd.func5, Tryd.ntmps5
    go_wp2_with fail
    refine (awake_any _ HN.out).mono ?_
    rintro e w1 ⟨rfl, k1⟩
    go_wp2_with fail
    go_ret
    exact ⟨rfl, k1⟩
  · have g2 : s.size ≤ 1500 := by omega
    obtain ⟨p, hp, hps⟩ := at_rem at_ (8 * s.size) (by omega) (by omega)
    rw [show ((8 * s.size : Nat) : Int) = 8 * (s.size : Int) from by omega] at hp
    go_enter Tryd.func5, Tryd.ntmps5
    go_wp2_with fail
    refine (turned_any s (by omega) p bits hps _).mono ?_
    rintro e w1 ⟨t, rfl, ht, k1⟩
    have HT := Lib.hid ht; clear ht
    have HF : Hid (lst t ≠ lst s → crc (lst t) ≠ crc (lst s)) := fun hne he => hne (by
      rw [HT.out] at he ⊢
      exact turned_tells (lst s) p bits ones (by rw [lst_length]; exact hps) (crc_reg _ _ he.symm))
    obtain ⟨b, hb, eb⟩ : ∃ b, b = decide (lst t ≠ lst s) ∧ (!t.toList == s.toList) = b := ⟨_, rfl, by
      rw [ByteArray.toList_eq, ByteArray.toList_eq, Bool.eq_iff_iff]; simp⟩
    have HB := Lib.hid hb; clear hb
    have hts : t.size ≤ 1500 := by
      rw [← lst_length, HT.out]
      show (turnedN _ _ _ _).length ≤ 1500
      rw [turnedN_length, lst_length]; exact g2
    clear hp
    have hne : b = true → ((crc (lst t) : Nat) : Int) = ((crc (lst s) : Nat) : Int) → False := fun h he => by
      have h1 := HB.out
      rw [h] at h1
      exact HF.out (of_decide_eq_true h1.symm) (by omega)
    have HNE := Lib.hid hne; clear hne
    cases b
    · go_wp2_with fail
      revert k1
      generalize w1 = wz
      intro kz
      refine (frame_any (some ⟨wz.heap.size, 0, none⟩) 1 [s] (by simp) (by simp) _ (StrsAt.one wz s _) (HN.out.ext (kz.alloc _)) (by rw [cat_one, lst_length]; omega)).mono ?_
      rintro e w4 ⟨f, rfl, hf, k4⟩
      rw [cat_one] at hf
      have hfs : f.size = s.size + 12 := by rw [← lst_length, hf, frameL_length, lst_length]
      have f1 : 13 ≤ f.size := by omega
      have f2 : f.size ≤ 1512 := by omega
      have k5 := (kz.alloc (.cells #[.string s] 9)).trans k4
      have HFF := Lib.hid hf; clear hf
      have HFS := Lib.hid hfs; clear hfs
      obtain ⟨p2, hp2, hps2⟩ := at_rem at_ (8 * f.size - 32) (by omega) (by omega)
      rw [show ((8 * f.size - 32 : Nat) : Int) = 8 * (f.size : Int) - 32 from by omega] at hp2
      go_wp2_with fail
      rw [show (32 + (p2 : Int)) = ((32 + p2 : Nat) : Int) from by omega]
      refine (turned_any f (by omega) (32 + p2) bits (by omega) _).mono ?_
      rintro e w5 ⟨g, rfl, hg, k6⟩
      have hgs : g.size ≤ 1512 := by
        rw [← lst_length, hg]
        show (turnedN _ _ _ _).length ≤ 1512
        rw [turnedN_length, lst_length]; exact f2
      have HG := Lib.hid hg; clear hg hp2
      have k7 := k5.trans k6
      go_wp2_with fail
      refine (open_any g (by omega) _ (HN.out.ext k7)).mono ?_
      rintro e w6 ⟨r, n, y, rfl, ho, k8⟩
      have k9 := k7.trans k8
      obtain ⟨c, hc1, hc2⟩ : ∃ c, (g.toList == f.toList) = c ∧ ((y : Int) == 0) = c := ⟨_, rfl, by
        have h := turned_frame (lst s) (by rw [lst_length]; omega) (32 + p2) bits (by omega) (by rw [lst_length, ← HFS.out]; omega)
        rw [← HFF.out, ← HG.out, ho] at h
        rw [ByteArray.toList_eq, ByteArray.toList_eq, Bool.eq_iff_iff, beq_iff_eq, beq_iff_eq]
        show (y : Int) = 0 ↔ lst g = lst f
        rw [h]
        show (y : Int) = 0 ↔ y = 0
        omega⟩
      clear ho
      cases c
      · go_wp2_with fail
        refine (awake_any _ (HN.out.ext k9)).mono ?_
        rintro e w7 ⟨rfl, k10⟩
        go_wp2_with fail
        go_ret
        exact ⟨rfl, k9.trans k10⟩
      · go_wp2_with fail
        refine (awake_any _ (HN.out.ext k9)).mono ?_
        rintro e w7 ⟨rfl, k10⟩
        go_wp2_with fail
        go_ret
        exact ⟨rfl, k9.trans k10⟩
    · go_wp2_with fail
      refine (of_any (some ⟨w1.heap.size, 0, none⟩) 1 [t] (by simp) (by simp; omega) _ (StrsAt.one w1 t _) (HN.out.ext (k1.alloc _))).mono ?_
      rintro e w2 ⟨rfl, k2⟩
      rw [cat_one]
      have k12 := (k1.alloc (.cells #[.string t] 9)).trans k2
      obtain ⟨q1, hq1⟩ : ∃ q, crc (lst t) = q := ⟨_, rfl⟩
      rw [hq1]
      go_wp2_with fail
      refine (of_any (some ⟨w2.heap.size, 0, none⟩) 1 [s] (by simp) (by simp; omega) _ (StrsAt.one w2 s _) (HN.out.ext (k12.alloc _))).mono ?_
      rintro e w3 ⟨rfl, k3⟩
      rw [cat_one]
      have k13 := (k12.alloc (.cells #[.string s] 9)).trans k3
      obtain ⟨q2, hq2⟩ : ∃ q, crc (lst s) = q := ⟨_, rfl⟩
      rw [hq2]
      have hqq : ((q1 : Int) == (q2 : Int)) = false := by
        rw [beq_eq_false_iff_ne, ← hq1, ← hq2]; exact HNE.out (by simp)
      clear hq1 hq2
      go_wp2_with fail
      revert k13
      generalize w3 = wz
      intro kz
      refine (frame_any (some ⟨wz.heap.size, 0, none⟩) 1 [s] (by simp) (by simp) _ (StrsAt.one wz s _) (HN.out.ext (kz.alloc _)) (by rw [cat_one, lst_length]; omega)).mono ?_
      rintro e w4 ⟨f, rfl, hf, k4⟩
      rw [cat_one] at hf
      have hfs : f.size = s.size + 12 := by rw [← lst_length, hf, frameL_length, lst_length]
      have f1 : 13 ≤ f.size := by omega
      have f2 : f.size ≤ 1512 := by omega
      have k5 := (kz.alloc (.cells #[.string s] 9)).trans k4
      have HFF := Lib.hid hf; clear hf
      have HFS := Lib.hid hfs; clear hfs
      obtain ⟨p2, hp2, hps2⟩ := at_rem at_ (8 * f.size - 32) (by omega) (by omega)
      rw [show ((8 * f.size - 32 : Nat) : Int) = 8 * (f.size : Int) - 32 from by omega] at hp2
      go_wp2_with fail
      rw [show (32 + (p2 : Int)) = ((32 + p2 : Nat) : Int) from by omega]
      refine (turned_any f (by omega) (32 + p2) bits (by omega) _).mono ?_
      rintro e w5 ⟨g, rfl, hg, k6⟩
      have hgs : g.size ≤ 1512 := by
        rw [← lst_length, hg]
        show (turnedN _ _ _ _).length ≤ 1512
        rw [turnedN_length, lst_length]; exact f2
      have HG := Lib.hid hg; clear hg hp2
      have k7 := k5.trans k6
      go_wp2_with fail
      refine (open_any g (by omega) _ (HN.out.ext k7)).mono ?_
      rintro e w6 ⟨r, n, y, rfl, ho, k8⟩
      have k9 := k7.trans k8
      obtain ⟨c, hc1, hc2⟩ : ∃ c, (g.toList == f.toList) = c ∧ ((y : Int) == 0) = c := ⟨_, rfl, by
        have h := turned_frame (lst s) (by rw [lst_length]; omega) (32 + p2) bits (by omega) (by rw [lst_length, ← HFS.out]; omega)
        rw [← HFF.out, ← HG.out, ho] at h
        rw [ByteArray.toList_eq, ByteArray.toList_eq, Bool.eq_iff_iff, beq_iff_eq, beq_iff_eq]
        show (y : Int) = 0 ↔ lst g = lst f
        rw [h]
        show (y : Int) = 0 ↔ y = 0
        omega⟩
      clear ho
      cases c
      · go_wp2_with fail
        refine (awake_any _ (HN.out.ext k9)).mono ?_
        rintro e w7 ⟨rfl, k10⟩
        go_wp2_with fail
        go_ret
        exact ⟨rfl, k9.trans k10⟩
      · go_wp2_with fail
        refine (awake_any _ (HN.out.ext k9)).mono ?_
        rintro e w7 ⟨rfl, k10⟩
        go_wp2_with fail
        go_ret
        exact ⟨rfl, k9.trans k10⟩

/-- n bytes that are nought. -/
def zeros (n : Nat) : List UInt8 := List.replicate n 0
def zrow (n : Nat) : Array Value := rowOf (zeros n) 0
def zstr (n : Nat) : ByteArray := ⟨(zeros n).toArray⟩
theorem zstr_size (n : Nat) : (zstr n).size = n := by simp [zstr, zeros, ByteArray.size]
theorem made_bytes (w : World) (n : Nat) (hn : n ≤ 100000) : (Instr.makeSlice 37 (.int .i64 (n : Int)) (.int .i64 (n : Int))).run Tryd.prog w = .ok (.slice (some ⟨w.heap.size, 0, none⟩) n n) (w.alloc (.cells (zrow n) 5)) := by
  obtain ⟨i0, hi, hz0, hz1, hz2⟩ := info_parts info_byte
  have h := run_make (P := Tryd.prog) w 37 5 i0 (.int .u8 0) Tryd.underlying37 hi hz0 .i64 .i64 (n : Int) (n : Int) (by omega) (Int.le_refl _) (by rw [hz2]; omega) (by omega)
  rw [h, hz1]
  simp only [Int.toNat_natCast, Nat.mul_one]
  congr 3
  apply Array.ext_getElem?
  intro j
  have h1 : (madeCells (Value.cells (.int .u8 0)) n)[j]? = if j < n then some (.int .u8 0) else none := by
    simp only [madeCells, Array.getElem?_map, Array.getElem?_range]
    split
    · simp only [Option.map_some, Value.cells]
      rw [show (#[Value.int IntKind.u8 0] : Array Value).size = 1 from rfl, Nat.mod_one]; rfl
    · rfl
  have h2 : (zrow n)[j]? = if j < n then some (.int .u8 0) else none := by
    unfold zrow rowOf zeros
    simp only [Array.replicate_zero, Array.append_empty, List.getElem?_toArray, List.getElem?_map, List.getElem?_replicate]
    split <;> rfl
  rw [h1, h2]
theorem row_str {w : World} (g n : Nat) {t : TypeId} {fr : Nat × Nat} (hrow : w.heap[g]? = some (.cells (zrow n) t fr)) :
    (convert 37 9 (.slice (some ⟨g, 0, none⟩) n n)).run Tryd.prog w = .ok (.string (zstr n)) w := by
  have hl : (zeros n).length = n := by simp [zeros]
  have := run_convert_bytes_back (P := Tryd.prog) w 37 9 5 ⟨g, 0, none⟩ n (zeros n) Tryd.underlying37 Tryd.underlying5 Tryd.underlying9 (fun j hj => by
    rw [show (⟨g, 0, none⟩ : Addr).add j = ⟨g, j, none⟩ from by unfold Addr.add; split <;> simp_all]
    rw [cell_of_row _ _ _ _ _ _ hrow]
    unfold zrow
    rw [rowOf_get _ _ _ hj, List.getElem?_eq_getElem hj]
    rfl)
  rw [hl] at this
  exact this
theorem heap_two (w : World) (o p : Obj) : ((w.alloc o).alloc p).heap[w.heap.size]? = some o := by
  rw [Below.heap_alloc _ _ _ (by simp)]; exact heap_alloc_new w o
theorem heap_next (w : World) (o p : Obj) : ((w.alloc o).alloc p).heap[w.heap.size + 1]? = some p := by
  have := heap_alloc_new (w.alloc o) p
  simpa using this

/-- Frame of the two texts. -/
def LongEnd (k : Nat) (r : ByteArray) (b : Bool) : Prop := if 6 < k then r = ⟨#[]⟩ ∧ b = false else r.size = 65530 + k + 12 ∧ b = true
theorem frame_zeros (k : Nat) (hk : k < 12) (W0 W : World) (b : Nat) (hW : W = (W0.alloc (.cells #[.string (zstr 65530), .string (zstr k)] 9)).drew) (hb : b = W0.heap.size) (hn : Nibs W0) :
    Calls Tryd.prog 11 #[.slice (some ⟨b, 0, none⟩) 2 2] W fun e w' => ∃ (r : ByteArray) (b : Bool), e = .returned (.tuple #[.string r, .bool b]) ∧ LongEnd k r b ∧ Ext W0 w' := by
  subst hW hb
  have k1 : Ext W0 (W0.alloc (.cells #[.string (zstr 65530), .string (zstr k)] 9)).drew := ((Ext.refl W0).alloc _).drew
  have hs : StrsAt (W0.alloc (.cells #[.string (zstr 65530), .string (zstr k)] 9)).drew (some ⟨W0.heap.size, 0, none⟩) [zstr 65530, zstr k] := (StrsAt.two W0 _ _ _).ext ((Ext.refl _).drew)
  have hl : (cat [zstr 65530, zstr k]).length = 65530 + k := by
    rw [show cat [zstr 65530, zstr k] = lst (zstr 65530) ++ (lst (zstr k) ++ []) from rfl, List.append_nil, List.length_append, lst_length, lst_length, zstr_size, zstr_size]
  by_cases h : 6 < k
  · refine (frame_long (some ⟨W0.heap.size, 0, none⟩) 2 [zstr 65530, zstr k] (by simp) (by simp [zstr_size]; omega) _ hs (by rw [hl]; omega)).mono ?_
    rintro e w' ⟨rfl, rfl⟩
    exact ⟨_, _, rfl, by unfold LongEnd; rw [if_pos h]; exact ⟨rfl, rfl⟩, k1⟩
  · refine (frame_any (some ⟨W0.heap.size, 0, none⟩) 2 [zstr 65530, zstr k] (by simp) (by simp) _ hs (hn.ext k1) (by rw [hl]; omega)).mono ?_
    rintro e w' ⟨r, rfl, hr, k2⟩
    exact ⟨_, _, rfl, by unfold LongEnd; rw [if_neg h]; exact ⟨by rw [← lst_length, hr, frameL_length, hl], rfl⟩, k1.trans k2⟩

set_option maxHeartbeats 8000000 in
theorem long_walk (over : Nat) (w : World) (hn : Nibs w) (ho : over < 256) :
    Calls Tryd.prog 4 #[.int .u8 over] w fun e w' => e = .returned (.bool true) ∧ Ext w w' := by
  have HN := Lib.hid hn; clear hn
  obtain ⟨k, hk, hk12⟩ : ∃ k : Nat, (over : Int) % 12 = (k : Int) ∧ k < 12 := ⟨over % 12, by omega, by omega⟩
  go_enter Tryd.func4, Tryd.ntmps4
  go_wp2_with fail
  have g1 : IntKind.i64.wrap (65530 + (k : Int) - 65530) = (k : Int) := by rw [show 65530 + (k : Int) - 65530 = (k : Int) by omega]; exact IntWalk.i64_in _ (by omega)
  have g2 : 65530 + (k : Int) - 65530 = (k : Int) := by omega
  have g3 : IntKind.i64.wrap (k : Int) = (k : Int) := IntWalk.i64_in _ (by omega)
  have m1 : ∀ W : World, (Instr.makeSlice 37 (.int .i64 65530) (.int .i64 65530)).run Tryd.prog W = .ok (.slice (some ⟨W.heap.size, 0, none⟩) 65530 65530) (W.alloc (.cells (zrow 65530) 5)) := fun W => made_bytes W 65530 (by omega)
  have m2 : ∀ W : World, (Instr.makeSlice 37 (.int .i64 k) (.int .i64 k)).run Tryd.prog W = .ok (.slice (some ⟨W.heap.size, 0, none⟩) k k) (W.alloc (.cells (zrow k) 5)) := fun W => made_bytes W k (by omega)
  have a1 := row_str (w := (w.alloc (.cells (zrow 65530) 5)).drew) w.heap.size 65530 (heap_alloc_new w _)
  have a2 := row_str (w := ((w.alloc (.cells (zrow 65530) 5)).alloc (.cells (zrow k) 5)).drew) w.heap.size 65530 (heap_two w _ _)
  have a3 := row_str (w := ((w.alloc (.cells (zrow 65530) 5)).alloc (.cells (zrow k) 5)).drew) (w.heap.size + 1) k (heap_next w _ _)
  have b1 := row_str (w := (w.alloc (.cells (zrow k) 5)).drew) w.heap.size k (heap_alloc_new w _)
  have b2 := row_str (w := ((w.alloc (.cells (zrow k) 5)).alloc (.cells (zrow 65530) 5)).drew) w.heap.size k (heap_two w _ _)
  have b3 := row_str (w := ((w.alloc (.cells (zrow k) 5)).alloc (.cells (zrow 65530) 5)).drew) (w.heap.size + 1) 65530 (heap_next w _ _)
  go_region_with ((go_at_call 11; refine (frame_zeros k hk12 _ _ _ rfl (by simp) (HN.out.ext (((Ext.refl w).alloc _).alloc _))).mono ?_; rintro e w3 ⟨r, b, rfl, hE, k3⟩))
  all_goals
    have k4 : Ext w w3 := (((Ext.refl w).alloc _).alloc _).trans k3
    clear k3 a1 a2 a3 b1 b2 b3 m1 m2 g1 g2 g3
    unfold LongEnd at hE
    by_cases h : 6 < k
    · rw [if_pos h] at hE
      obtain ⟨rfl, rfl⟩ := hE
      go_wp2_with fail
      refine (awake_any _ (HN.out.ext k4)).mono ?_
      rintro e w4 ⟨rfl, k5⟩
      go_wp2_with fail
      go_ret
      exact ⟨rfl, k4.trans k5⟩
    · rw [if_neg h] at hE
      obtain ⟨hr, rfl⟩ := hE
      have hr2 : ((r.size : Int) == 65530 + (k : Int) + 12) = true := by rw [beq_iff_eq]; omega
      clear hr
      go_wp2_with fail
      refine (awake_any _ (HN.out.ext k4)).mono ?_
      rintro e w4 ⟨rfl, k5⟩
      go_wp2_with fail
      go_ret
      exact ⟨rfl, k4.trans k5⟩
end Go.Proofs.YtmdkjcigmhgpeaaDoor
