/- The walk of SnapLong: data of several pieces comes back; more than may be is refused. -/
import Derived.Test.YtmdkjcigmhgpeaaGreatDoorSnapSaves
import Derived.Test.YtmdkjcigmhgpeaaGreatDoorSnapPlain
import Derived.Test.YtmdkjcigmhgpeaaGreatDoorCodecs
namespace Go.Proofs.YtmdkjcigmhgpeaaGreatDoor
open Go.RowKit Snp SealMath Dsk

theorem long_ok (N : Nat) (h : N ≤ 960000) : ∃ T, saveS (new 2097152) 7 (zeros N) = (0, T) ∧ T.off = false ∧ loadS T = (7, zeros N, 0) ∧ T.uses ≤ 107 := by
  have hz := zeros_length N
  obtain ⟨T, h1, h2, h3, h4⟩ := save_done (S := new 2097152) (t := none) (n := 7) (d := zeros N) List.Pairwise.nil (by intro f hf; cases hf) rfl rfl rfl (by omega) (by omega) (by intro k e hk; cases hk) (by rw [hz]; show _ ≤ (2097152 : Int) - 0; omega) (by show 0 < 98; omega)
  refine ⟨T, h1, h3, h2.load h3, ?_⟩
  have := h4.uses
  exact Nat.le_trans this (by show 0 + 107 ≤ 107; omega)
theorem long_bad (N : Nat) (h : 960000 < N) : saveS (new 2097152) 7 (zeros N) = (5, new 2097152) := by
  have hz := zeros_length N
  have hl : loadS (new 2097152) = (0, [], 8) := rfl
  unfold saveS
  rw [if_neg (by decide), if_neg (by decide), if_neg (by rw [hl]; simp), if_pos (by omega)]

set_option maxRecDepth 20000 in
set_option maxHeartbeats 2000000 in
theorem snaplong_any (size : Nat) (hsz : size < 4294967296) (w : World) (hnb : Nibs w) :
    Calls Tryz.prog 3 #[.int .u32 (size : Nat)] w fun e w' => e = .returned (.bool true) ∧ Ext w w' := by
  have HN := Lib.hid hnb
  have HG := Lib.hid (nibs_lt hnb)
  clear hnb
  go_enter Tryz.func3, Tryz.ntmps3
  go_wp2_with fail
  refine (new_held 2097152 (by decide) w).mono ?_
  rintro e w1 ⟨d, rfl, hd, hx⟩
  have H1 := Lib.hid (And.intro hd hx); clear hd hx
  go_upto_region 3 with fail
  rw [show ((size : Nat) : Int) % 130000 = ((size % 130000 : Nat) : Int) from by omega]
  have hm : size % 130000 < 130000 := Nat.mod_lt _ (by decide)
  generalize size % 130000 = m at hm ⊢
  by_cases hbig : 125000 < m
  · have hbig2 : (125000 : Int) < (m : Int) := by omega
    go_upto_region 5 with fail
    by_cases h2 : m % 2 = 0
    · obtain ⟨N, hN⟩ : ∃ N : Nat, N = 960000 := ⟨_, rfl⟩
      rw [show (960001 : Int) + (m : Int) % 2 - 1 = (N : Int) from by omega]
      have h96 : ¬ (960000 : Int) < (N : Int) := by omega
      have hNb : N ≤ 960001 := by omega
      clear hN
      have hmk : ∀ u : World, (Instr.makeSlice 25 (.int .i64 (N : Int)) (.int .i64 (N : Int))).run Tryz.prog u = .ok (.slice (some ⟨u.heap.size, 0, none⟩) N N) (u.alloc (.cells (zrow N) 5)) := fun u => made_bytes u N (by omega)
      have hst := row_str (w := w1.alloc (.cells (zrow N) 5)) w1.heap.size N (heap_alloc_new w1 _)
      have H2 := Lib.hid (And.intro (Held.ext H1.out.1 ((Ext.refl w1).alloc (.cells (zrow N) 5))) (Ext.alloc H1.out.2 (.cells (zrow N) 5)))
      have HZ : Hid (lst (zstr N) = zeros N) := rfl
      have HZS : Hid ((zstr N).size = N) := zstr_size N
      generalize zstr N = z at hst HZ HZS
      go_upto_region 6 with fail
      clear hst hmk
      generalize (w1.alloc (.cells (zrow N) 5)) = w2 at H2 ⊢
      have HC : Hid ((([z, ⟨#[]⟩] : List ByteArray).map lst).flatten = zeros N) := by
        show _ = _
        rw [List.map_cons, List.map_cons, List.map_nil, List.flatten_cons, List.flatten_cons, HZ.out]
        simp [lst]
      have hcall := save_held w.heap.size d (new 2097152) 7 (by decide) _ _ [z, ⟨#[]⟩] (by simp) (by rw [HC.out, zeros_length]; omega) (by decide) w2 H2.out.1 H2.out.2.size (StrsAt.two w2 _ _ 9) (HN.out.ext H2.out.2) HG.out
      obtain ⟨T, ht1, ht2, ht3, ht4⟩ := long_ok N (by omega)
      rw [HC.out, show (((7 : Nat) : Int)) = 7 from rfl, ht1] at hcall
      have HT := Lib.hid (And.intro ht3 ht4)
      clear ht1 ht2 ht3 ht4
      go_wp2_with fail
      refine hcall.mono ?_
      clear hcall
      rintro e w3 ⟨rfl, hd, hb⟩
      have H3 := Lib.hid (And.intro hd (Below.trans H2.out.2 hb))
      clear hd hb H2
      go_wp2_with fail
      refine (load_held w.heap.size d T w3 H3.out.1 (Below.nibs HN.out HG.out H3.out.2)).mono ?_
      rintro e w4 ⟨r, rfl, hr, hx⟩
      rw [HT.out.1] at hr
      rw [HT.out.1]
      have hrz : r = z := lst_inj (by rw [hr, HZ.out])
      subst hrz
      have H4 := Lib.hid (Below.trans H3.out.2 (Below.mono hx H3.out.2.size))
      clear hx hr H3
      go_wp2_with fail
      refine (awake26_any w4 (Below.nibs HN.out HG.out H4.out)).mono ?_
      rintro e w5 ⟨rfl, hx⟩
      have H5 := Lib.hid (Below.trans H4.out (Below.mono hx H4.out.size))
      clear hx H4
      go_wp2_with fail
      go_ret
      exact ⟨rfl, H5.out⟩
    · obtain ⟨N, hN⟩ : ∃ N : Nat, N = 960001 := ⟨_, rfl⟩
      rw [show (960001 : Int) + (m : Int) % 2 - 1 = (N : Int) from by omega]
      have h96 : (960000 : Int) < (N : Int) := by omega
      have hNb : N ≤ 960001 := by omega
      clear hN
      have hmk : ∀ u : World, (Instr.makeSlice 25 (.int .i64 (N : Int)) (.int .i64 (N : Int))).run Tryz.prog u = .ok (.slice (some ⟨u.heap.size, 0, none⟩) N N) (u.alloc (.cells (zrow N) 5)) := fun u => made_bytes u N (by omega)
      have hst := row_str (w := w1.alloc (.cells (zrow N) 5)) w1.heap.size N (heap_alloc_new w1 _)
      have H2 := Lib.hid (And.intro (Held.ext H1.out.1 ((Ext.refl w1).alloc (.cells (zrow N) 5))) (Ext.alloc H1.out.2 (.cells (zrow N) 5)))
      have HZ : Hid (lst (zstr N) = zeros N) := rfl
      generalize zstr N = z at hst HZ
      go_upto_region 6 with fail
      clear hst hmk
      generalize (w1.alloc (.cells (zrow N) 5)) = w2 at H2 ⊢
      have HC : Hid ((([z, ⟨#[]⟩] : List ByteArray).map lst).flatten = zeros N) := by
        show _ = _
        rw [List.map_cons, List.map_cons, List.map_nil, List.flatten_cons, List.flatten_cons, HZ.out]
        simp [lst]
      have hcall := save_held w.heap.size d (new 2097152) 7 (by decide) _ _ [z, ⟨#[]⟩] (by simp) (by rw [HC.out, zeros_length]; omega) (by decide) w2 H2.out.1 H2.out.2.size (StrsAt.two w2 _ _ 9) (HN.out.ext H2.out.2) HG.out
      rw [HC.out, show (((7 : Nat) : Int)) = 7 from rfl, long_bad N (by omega)] at hcall
      go_wp2_with fail
      refine hcall.mono ?_
      clear hcall
      rintro e w3 ⟨rfl, hd, hb⟩
      have H3 := Lib.hid (And.intro hd (Below.trans H2.out.2 hb))
      clear hd hb H2
      go_wp2_with fail
      refine (names_held w.heap.size d (new 2097152) w3 H3.out.1).mono ?_
      rintro e w4 ⟨a, c, rfl, _, hx⟩
      rw [show namesOf (new 2097152) [] = [] from rfl]
      have H4 := Lib.hid (Below.trans H3.out.2 (Below.mono hx H3.out.2.size))
      clear hx H3
      go_wp2_with fail
      refine (awake26_any w4 (Below.nibs HN.out HG.out H4.out)).mono ?_
      rintro e w5 ⟨rfl, hx⟩
      have H5 := Lib.hid (Below.trans H4.out (Below.mono hx H4.out.size))
      clear hx H4
      go_wp2_with fail
      go_ret
      exact ⟨rfl, H5.out⟩
  · have hbig2 : ¬ (125000 : Int) < (m : Int) := by omega
    have h96 : ¬ (960000 : Int) < (m : Int) := by omega
    have hmk : ∀ u : World, (Instr.makeSlice 25 (.int .i64 (m : Int)) (.int .i64 (m : Int))).run Tryz.prog u = .ok (.slice (some ⟨u.heap.size, 0, none⟩) m m) (u.alloc (.cells (zrow m) 5)) := fun u => made_bytes u m (by omega)
    have hst := row_str (w := w1.alloc (.cells (zrow m) 5)) w1.heap.size m (heap_alloc_new w1 _)
    have H2 := Lib.hid (And.intro (Held.ext H1.out.1 ((Ext.refl w1).alloc (.cells (zrow m) 5))) (Ext.alloc H1.out.2 (.cells (zrow m) 5)))
    have HZ : Hid (lst (zstr m) = zeros m) := rfl
    have HZS : Hid ((zstr m).size = m) := zstr_size m
    generalize zstr m = z at hst HZ HZS
    go_upto_region 6 with fail
    clear hst hmk
    generalize (w1.alloc (.cells (zrow m) 5)) = w2 at H2 ⊢
    have HC : Hid ((([z, ⟨#[]⟩] : List ByteArray).map lst).flatten = zeros m) := by
      show _ = _
      rw [List.map_cons, List.map_cons, List.map_nil, List.flatten_cons, List.flatten_cons, HZ.out]
      simp [lst]
    have hcall := save_held w.heap.size d (new 2097152) 7 (by decide) _ _ [z, ⟨#[]⟩] (by simp) (by rw [HC.out, zeros_length]; omega) (by decide) w2 H2.out.1 H2.out.2.size (StrsAt.two w2 _ _ 9) (HN.out.ext H2.out.2) HG.out
    obtain ⟨T, ht1, ht2, ht3, ht4⟩ := long_ok m (by omega)
    rw [HC.out, show (((7 : Nat) : Int)) = 7 from rfl, ht1] at hcall
    have HT := Lib.hid (And.intro ht3 ht4)
    clear ht1 ht2 ht3 ht4
    go_wp2_with fail
    refine hcall.mono ?_
    clear hcall
    rintro e w3 ⟨rfl, hd, hb⟩
    have H3 := Lib.hid (And.intro hd (Below.trans H2.out.2 hb))
    clear hd hb H2
    go_wp2_with fail
    refine (load_held w.heap.size d T w3 H3.out.1 (Below.nibs HN.out HG.out H3.out.2)).mono ?_
    rintro e w4 ⟨r, rfl, hr, hx⟩
    rw [HT.out.1] at hr
    rw [HT.out.1]
    have hrz : r = z := lst_inj (by rw [hr, HZ.out])
    subst hrz
    have H4 := Lib.hid (Below.trans H3.out.2 (Below.mono hx H3.out.2.size))
    clear hx hr H3
    go_wp2_with fail
    refine (awake26_any w4 (Below.nibs HN.out HG.out H4.out)).mono ?_
    rintro e w5 ⟨rfl, hx⟩
    have H5 := Lib.hid (Below.trans H4.out (Below.mono hx H4.out.size))
    clear hx H4
    go_wp2_with fail
    go_ret
    exact ⟨rfl, H5.out⟩
end Go.Proofs.YtmdkjcigmhgpeaaGreatDoor
