/- The walks of SealSums and SealBack. -/
import Derived.Test.YtmdkjcigmhgpeaaDoorSealMisc
import Derived.Lib.Builder
namespace Go.Proofs.YtmdkjcigmhgpeaaDoor
open Go.RowKit SealMath

set_option maxHeartbeats 800000 in
theorem sums_walk (a : Option Addr) (c : Nat) (xs : List ByteArray) (hx : xs.length ≤ 140737488355328) (hM : ∀ x ∈ xs, x.size ≤ 9223372036854775807) (hcap : xs.length ≤ c) (w : World) (h1 : StrsAt w a xs) (hn : Nibs w) :
    Calls Tryd.prog 3 #[.slice a xs.length c] w fun e w' => e = .returned (.bool true) ∧ Ext w w' := by
  have HN := Lib.hid hn; clear hn
  have H1 := Lib.hid h1; clear h1
  have HM := Lib.hid hM; clear hM
  go_enter Tryd.func3, Tryd.ntmps3
  go_wp2_with fail
  refine (lawjoin_any a c xs hx HM.out _ H1.out).mono ?_
  rintro e w1 ⟨s, b, rfl, hb, hs, hw⟩
  subst hw
  have HB := Lib.hid hb; clear hb
  have HS := Lib.hid hs; clear hs
  cases b
  · go_wp2_with fail
    refine (awake_any _ HN.out).mono ?_
    rintro e w2 ⟨rfl, k2⟩
    go_wp2_with fail
    go_ret
    exact ⟨rfl, k2⟩
  · have hsm : xs.length ≤ 20 ∧ (∀ x ∈ xs, x.size ≤ 1500) ∧ (cat xs).length ≤ 1500 := of_decide_eq_true HB.out.symm
    obtain ⟨h20, h15, hcl⟩ := hsm
    have H15 := Lib.hid h15; clear h15
    have HSS := Lib.hid (HS.out rfl); clear HS HB
    have hss : s.size ≤ 1500 := by rw [← lst_length, HSS.out]; exact hcl
    have HCL := Lib.hid hcl; clear hcl
    obtain ⟨j, hj⟩ : ∃ j, Tryd.prog.info? 29 = some j := Option.isSome_iff_exists.1 (by kernel_rfl)
    have hne : ∀ W : World, (binOp .neq 26 (.pointer (some ⟨w1.heap.size, 0, none⟩)) (.pointer (some ⟨w1.heap.size, 0, none⟩))).run Tryd.prog W = .ok (.bool false) W := fun W => Lib.run_neq_ptr_same (P := Tryd.prog) W ⟨w1.heap.size, 0, none⟩ Tryd.underlying26 hj
    clear hj
    go_wp2_with fail
    go_loopg [6] (xs.length) (fun k i wr => ∃ (n q : Nat), i = .int .i64 n ∧ n ≤ xs.length ∧ k = xs.length - n ∧ q < 2 ^ 64 ∧ wr.cell? ⟨w1.heap.size, 0, none⟩ = some (.int .u64 q) ∧ wr.frozen? ⟨w1.heap.size, 0, none⟩ = false ∧ Ext w1 wr ∧ Hid (q = crc (cat (xs.take n))))
    case atStart => exact ⟨0, 0, rfl, Nat.zero_le _, rfl, by decide, cell_new _ _ _ _, frozen_new _ _ _ _, (Ext.refl _).alloc _, by show _ = _; rw [List.take_zero]; decide⟩
    case round =>
      obtain ⟨n, q, rfl, hnl, rfl, hq, hcell, hfz, hk, HQ⟩ := hrel
      by_cases hlt : n < xs.length
      · obtain ⟨bk, o, rfl, _, hcx⟩ := (H1.out.ext hk) n _ (List.getElem?_eq_getElem hlt)
        have hxs := H15.out _ (List.getElem_mem hlt)
        have HX : Hid (xs.take (n + 1) = xs.take n ++ [xs[n]]) := List.take_succ_eq_append_getElem hlt
        generalize xs[n] = x at hcx HX hxs
        have hbl := cell_lt hcell
        have hc2 : (wr.alloc (.cells #[.string x] 9)).cell? ⟨w1.heap.size, 0, none⟩ = some (.int .u64 q) := ((Ext.refl wr).alloc _).cell hcell
        have hf2 : (wr.alloc (.cells #[.string x] 9)).frozen? ⟨w1.heap.size, 0, none⟩ = false := by
          rw [← hfz]; exact World.frozen?_of_block (Below.heap_alloc wr _ _ hbl)
        have k1 := hk.alloc (.cells #[.string x] 9)
        have hlb : w1.heap.size ≠ 0 := by
          have := cell_lt (HN.out 0 (by omega)); omega
        go_wp2_with fail
        refine (add_any w1.heap.size q hq (some ⟨wr.heap.size, 0, none⟩) 1 [x] (by simp) (by simp; omega) _ hc2 hf2 (StrsAt.one wr x _) (HN.out.ext k1)).mono ?_
        rintro e w2 ⟨rfl, hw2⟩
        obtain ⟨q2, hq2⟩ : ∃ q2 : Nat, ones - reg (ones - q) (cat [x]) = q2 := ⟨_, rfl⟩
        rw [hq2] at hw2
        have HQ2 : Hid (q2 = crc (cat (xs.take (n + 1)))) := by
          show _ = _
          have h1 := reg_lt ones (cat (xs.take n)) (by decide)
          have h2 := ones_pow
          have h3 := HQ.out
          unfold crc at h3 ⊢
          rw [← hq2, HX.out, cat_snoc, reg_append, show ones - q = reg ones (cat (xs.take n)) by omega, cat_one]
        have hlt2 : q2 < 2 ^ 64 := by rw [HQ2.out]; exact crc_lt _
        have hc3 : w2.cell? ⟨w1.heap.size, 0, none⟩ = some (.int .u64 q2) := by
          rw [hw2]; simp [go_sem, hc2]
        have hf3 : w2.frozen? ⟨w1.heap.size, 0, none⟩ = false := by
          rw [hw2]; simp [go_sem, hf2]
        have k2 : Ext w1 w2 := by rw [hw2]; exact Below.setCell k1 (Nat.le_refl _) _
        clear hq2 hw2
        go_wp2_with fail
        go_roundg (xs.length - (n + 1))
        case measure => omega
        case rel => exact ⟨n + 1, q2, by go_num, by omega, rfl, hlt2, hc3, hf3, k2, HQ2⟩
      · have en : xs.take n = xs := List.take_of_length_le (by omega)
        have HQ3 : Hid (q = crc (cat xs)) := by show _ = _; rw [HQ.out, en]
        clear HQ en
        go_wp2_with fail
        refine (frame_any a c xs hx hcap _ (H1.out.ext hk) (HN.out.ext hk) (by have := HCL.out; omega)).mono ?_
        rintro e w2 ⟨f, rfl, hf, k2⟩
        have HF := Lib.hid hf; clear hf
        have k3 := hk.trans k2
        go_wp2_with fail
        refine (of_any a c xs hx (fun x hx => HM.out x hx) _ (H1.out.ext k3) (HN.out.ext k3)).mono ?_
        rintro e w3 ⟨rfl, k4⟩
        rw [← HQ3.out]
        have k5 := k3.trans k4
        go_wp2_with fail
        refine (refsum_any s (by omega) _).mono ?_
        rintro e w4 ⟨rfl, rfl⟩
        rw [HSS.out, ← HQ3.out]
        have hc5 : w3.cell? ⟨w1.heap.size, 0, none⟩ = some (.int .u64 q) := (k2.trans k4).cell hcell
        go_wp2_with fail
        refine (value_any w1.heap.size q _ hc5).mono ?_
        rintro e w4 ⟨rfl, rfl⟩
        go_wp2_with fail
        refine (refsum_any s (by omega) _).mono ?_
        rintro e w4 ⟨rfl, rfl⟩
        rw [HSS.out, ← HQ3.out]
        go_wp2_with fail
        refine (add_none _ _).mono ?_
        rintro e w4 ⟨rfl, rfl⟩
        go_wp2_with fail
        refine (value_none _).mono ?_
        rintro e w4 ⟨rfl, rfl⟩
        go_wp2_with fail
        refine (refframe_any s (by omega) _).mono ?_
        rintro e w4 ⟨g, rfl, hg, k6⟩
        have e2 : lst g = lst f := by rw [hg, HF.out, HSS.out]
        obtain rfl := lst_inj e2
        clear hg e2
        have k7 := k5.trans k6
        go_wp2_with fail
        refine (awake_any _ (HN.out.ext k7)).mono ?_
        rintro e w5 ⟨rfl, k8⟩
        go_wp2_with fail
        go_ret
        exact ⟨rfl, k7.trans k8⟩

theorem framesL_snoc (l : List (List UInt8)) (x : List UInt8) : framesL (l ++ [x]) = framesL l ++ frameL x := by simp [framesL]
theorem at_rem2 (a : Int) (n : Nat) (hn : 0 < n) (hm : n ≤ 100000) : ∃ p : Nat, wrap64 ((IntKind.u64.wrap a).tmod (n : Int)) = (p : Int) ∧ p < n := by
  have h0 : 0 ≤ IntKind.u64.wrap a := by rw [IntKind.wrap_u64]; omega
  obtain ⟨x, hx⟩ := Int.eq_ofNat_of_zero_le h0
  have hlt : x % n < n := Nat.mod_lt _ hn
  refine ⟨x % n, ?_, hlt⟩
  rw [hx, show ((x : Int).tmod (n : Int)) = ((x % n : Nat) : Int) from rfl]
  exact IntWalk.wrap64_in _ ⟨by omega, by omega⟩

set_option maxHeartbeats 1600000 in
theorem back_walk (a : Option Addr) (c : Nat) (xs : List ByteArray) (hx : xs.length ≤ 140737488355328) (hM : ∀ x ∈ xs, x.size ≤ 9223372036854775807) (hcap : xs.length ≤ c) (at_ : Int) (w : World) (h1 : StrsAt w a xs) (hn : Nibs w) :
    Calls Tryd.prog 7 #[.slice a xs.length c, .int .i64 at_] w fun e w' => e = .returned (.bool true) ∧ Ext w w' := by
  have HN := Lib.hid hn; clear hn
  have H1 := Lib.hid h1; clear h1
  have HM := Lib.hid hM; clear hM
  have HCP := Lib.hid hcap; clear hcap
  by_cases h0 : xs.length = 0
  · have g0 : ((xs.length : Int) == 0) = true := by rw [beq_iff_eq]; omega
    clear h0
    go_enter Tryd.func7, Tryd.ntmps7
    go_wp2_with fail
    refine (lawjoin_any a c xs hx HM.out _ H1.out).mono ?_
    rintro e w1 ⟨s, b, rfl, hb, hs, hw⟩
    subst hw
    clear hb hs
    cases b
    all_goals
      go_wp2_with fail
      refine (awake_any _ HN.out).mono ?_
      rintro e w2 ⟨rfl, k2⟩
      go_wp2_with fail
      go_ret
      exact ⟨rfl, k2⟩
  have g0 : ((xs.length : Int) == 0) = false := by rw [beq_eq_false_iff_ne]; omega
  have g1 : 0 < xs.length := by omega
  clear h0
  go_enter Tryd.func7, Tryd.ntmps7
  go_wp2_with fail
  refine (lawjoin_any a c xs hx HM.out _ H1.out).mono ?_
  rintro e w1 ⟨s, b, rfl, hb, hs, hw⟩
  subst hw
  have HB := Lib.hid hb; clear hb
  clear hs
  cases b
  · go_wp2_with fail
    refine (awake_any _ HN.out).mono ?_
    rintro e w2 ⟨rfl, k2⟩
    go_wp2_with fail
    go_ret
    exact ⟨rfl, k2⟩
  · have hsm : xs.length ≤ 20 ∧ (∀ x ∈ xs, x.size ≤ 1500) ∧ (cat xs).length ≤ 1500 := of_decide_eq_true HB.out.symm
    obtain ⟨h20, h15, _⟩ := hsm
    have H15 := Lib.hid h15; clear h15 HB
    go_wp2_with fail
    go_loopg [7, 8] (xs.length) (fun k v i wr => ∃ (A : ByteArray) (n : Nat), v = .string A ∧ i = .int .i64 n ∧ n ≤ xs.length ∧ k = xs.length - n ∧ A.size ≤ 1512 * n ∧ 12 * n ≤ A.size ∧ Ext w1 wr ∧ Hid (lst A = framesL ((xs.take n).map lst)))
    case atStart => exact ⟨⟨#[]⟩, 0, rfl, rfl, Nat.zero_le _, rfl, by simp [ByteArray.size], by omega, Ext.refl _, by show _ = _; rw [List.take_zero]; rfl⟩
    case round =>
      obtain ⟨A, n, rfl, rfl, hnl, rfl, hA1, hA2, hk, HA⟩ := hrel
      by_cases hlt : n < xs.length
      · obtain ⟨bk, o, rfl, _, hcx⟩ := (H1.out.ext hk) n _ (List.getElem?_eq_getElem hlt)
        have hxs := H15.out _ (List.getElem_mem hlt)
        have HX : Hid (xs.take (n + 1) = xs.take n ++ [xs[n]]) := List.take_succ_eq_append_getElem hlt
        generalize xs[n] = x at hcx HX hxs
        have k1 := hk.alloc (.cells #[.string x] 9)
        go_wp2_with fail
        refine (frame_any (some ⟨wr.heap.size, 0, none⟩) 1 [x] (by simp) (by simp) _ (StrsAt.one wr x _) (HN.out.ext k1) (by rw [cat_one, lst_length]; omega)).mono ?_
        rintro e w2 ⟨f, rfl, hf, k2⟩
        rw [cat_one] at hf
        have hfs1 : f.size ≤ 1512 := by rw [← lst_length, hf, frameL_length, lst_length]; omega
        have hfs2 : 12 ≤ f.size := by rw [← lst_length, hf, frameL_length, lst_length]; omega
        have HF := Lib.hid hf; clear hf
        have k3 := k1.trans k2
        go_wp2_with fail
        go_roundg (xs.length - (n + 1))
        case measure => omega
        case rel => exact ⟨A ++ f, n + 1, rfl, by go_num, by omega, rfl, by rw [ByteArray.size_append]; omega, by rw [ByteArray.size_append]; omega, k3, by
          show _ = _
          rw [HX.out, List.map_append, List.map_cons, List.map_nil, framesL_snoc, lst_append, HA.out, HF.out]⟩
      · have en : xs.take n = xs := List.take_of_length_le (by omega)
        have HA2 : Hid (lst A = framesL (xs.map lst)) := by show _ = _; rw [HA.out, en]
        have g3 : ((A.size : Int) == 0) = false := by rw [beq_eq_false_iff_ne]; omega
        obtain ⟨p, hp, hpl⟩ := at_rem2 at_ A.size (by omega) (by omega)
        clear HA en
        go_wp2_with fail
        refine (all_any A (by omega) _ (HN.out.ext hk)).mono ?_
        rintro e w2 ⟨l, a2, c2, m, z, rfl, ha, hs2, hc2, _, k2⟩
        have h65 : ∀ x ∈ xs.map lst, x.length ≤ 65536 := by
          intro x hx
          obtain ⟨y, hy, rfl⟩ := List.mem_map.1 hx
          rw [lst_length]; have := H15.out y hy; omega
        have hfr := allL_frames (xs.map lst) h65
        rw [← HA2.out, ha] at hfr
        simp only [Prod.mk.injEq] at hfr
        obtain ⟨e1, e2, rfl⟩ := hfr
        obtain rfl := map_lst_inj e1
        rw [lst_length] at e2
        obtain rfl := e2
        have HS2 := Lib.hid hs2; clear hs2
        have H65 := Lib.hid h65; clear h65
        clear ha e1
        have k3 := hk.trans k2
        go_wp2_with fail
        have hex : (A.extract 0 p).size ≤ 100000 := by rw [ByteArray.size_extract]; omega
        refine (all_any (A.extract 0 p) (by omega) _ (HN.out.ext k3)).mono ?_
        rintro e w3 ⟨l2, a3, c3, tt, cut, rfl, ha, hs3, hc3, hl3, k4⟩
        obtain ⟨m, hm1, hm2, hm3, hm4, hm5⟩ := allL_cut (l.map lst) H65.out p (by rw [← HA2.out, lst_length]; omega)
        have e3 : lst (A.extract 0 p) = (framesL (l.map lst)).take p := by
          rw [← HA2.out, show lst (A.extract 0 p) = (A.extract 0 p).data.toList from rfl, Lib.extract_data, List.drop_zero, Nat.sub_zero]
        rw [← e3, ha] at hm2 hm3 hm4 hm5
        simp only at hm2 hm3 hm4 hm5
        rw [← List.map_take] at hm2
        have e4 := map_lst_inj hm2
        rw [List.length_map] at hm1
        have e5 : l2.length = m := by rw [e4, List.length_take]; omega
        obtain ⟨b, hb1, hb2⟩ : ∃ b, ((tt : Int) == (p : Int)) = b ∧ ((cut : Int) == 0) = b := ⟨_, rfl, by
          rw [Bool.eq_iff_iff, beq_iff_eq, beq_iff_eq]; omega⟩
        have hcut : ((cut : Int) != 2) = true := by rw [bne_iff_ne]; omega
        have hl2 : l2.length ≤ l.length := by omega
        have HS3 := Lib.hid hs3; clear hs3
        have H4 : Hid (l2 = l.take l2.length) := by show _ = _; rw [e5]; exact e4
        clear ha hm2 hm4 hm5 e3 e4 e5 hm1
        have k5 := k3.trans k4
        go_wp2_with fail
        refine (same_any a2 c2 l a c l hx _ (HS2.out.ext k4) (H1.out.ext k5)).mono ?_
        rintro e w4 ⟨rfl, k6⟩
        rw [show decide (l = l) = true from by simp]
        have k7 := k5.trans k6
        have hcp := HCP.out
        cases b
        all_goals
          go_wp2_with fail
          refine (same_any a3 c3 l2 a c l2 (by omega) _ (HS3.out.ext k6) (by rw [H4.out]; exact (H1.out.ext k7).take _)).mono ?_
          rintro e w5 ⟨rfl, k8⟩
          rw [show decide (l2 = l2) = true from by simp]
          have k9 := k7.trans k8
          go_wp2_with fail
          refine (awake_any _ (HN.out.ext k9)).mono ?_
          rintro e w6 ⟨rfl, k10⟩
          go_wp2_with fail
          go_ret
          exact ⟨rfl, k9.trans k10⟩
end Go.Proofs.YtmdkjcigmhgpeaaDoor
