/- SnapCrashes, way B. -/
import Derived.Test.YtmdkjcigmhgpeaaGreatDoorSnapCrBase
namespace Go.Proofs.YtmdkjcigmhgpeaaGreatDoor
open Go.RowKit Snp SealMath Dsk

set_option maxRecDepth 20000 in
set_option maxHeartbeats 4000000 in
theorem snapcrb_any (a : Option Addr) (c : Nat) (xs : List AS) (hN : xs.length ≤ 140737488355328) (hok : ∀ x ∈ xs, ASok x) (x : AS) (ad : Option Addr) (cd : Nat) (hxk : ASok x) (m : Nat) (hm : m < 256) (ak : Option Addr) (ck : Nat) (ks : List Int) (hkN : ks.length ≤ 140737488355328) (hkb : ∀ k ∈ ks, I64 k)
    (w : World) (hnb : Nibs w) (hs : ActsSAt w a xs) (hx : ActSV w x ad cd) (hks : IntsAt w ak ks) (hway : ¬ WayA xs x m ks ∧ WayB xs) :
    Calls Tryz.prog 6 #[.slice a xs.length c, .agg #[.int .i64 x.n, .slice ad x.data.length cd], .int .u8 (m : Nat), .slice ak ks.length ck] w fun e w' => e = .returned (.bool true) ∧ Ext w w' := by
  have HN := Lib.hid hnb
  have HG := Lib.hid (nibs_lt hnb)
  have HK := Lib.hid (And.intro hks (And.intro hkN hkb))
  have HS := Lib.hid (And.intro hs hok)
  have HX := Lib.hid (And.intro hx hxk)
  have HW := Lib.hid hway
  clear hnb hks hs hx hok hxk hkN hkb hway
  go_enter Tryz.func6, Tryz.ntmps6
  go_upto_region 1 with fail
  have hE1 : Ext w (w.alloc (.cells #[.int .i64 x.n, .slice ad x.data.length cd] 53)) := (Ext.refl w).alloc _
  have k0 : (w.alloc (.cells #[.int .i64 x.n, .slice ad x.data.length cd] 53)).cell? ⟨w.heap.size, 0, none⟩ = some (.int .i64 x.n) := cell_of_row _ _ _ _ _ _ (heap_alloc_new w _)
  have k1 : (w.alloc (.cells #[.int .i64 x.n, .slice ad x.data.length cd] 53)).cell? ⟨w.heap.size, 1, none⟩ = some (.slice ad x.data.length cd) := cell_of_row _ _ _ _ _ _ (heap_alloc_new w _)
  generalize (w.alloc (.cells #[.int .i64 x.n, .slice ad x.data.length cd] 53)) = w1 at hE1 k0 k1 ⊢
  generalize w.heap.size = bx at k0 k1 ⊢
  have hone := acts_one w1 x ad cd 53 (HX.out.1.ext hE1)
  have H1 : Hid (Ext w w1 ∧ w1.cell? ⟨bx, 0, none⟩ = some (.int .i64 x.n) ∧ w1.cell? ⟨bx, 1, none⟩ = some (.slice ad x.data.length cd)) := ⟨hE1, k0, k1⟩
  have hc1 := great26_any a c xs hN HS.out.2 w1 (HS.out.1.ext hE1)
  have hc2 := great26_any (some ⟨w1.heap.size, 0, none⟩) 1 [x] (by simp) (fun y hy => by rw [List.mem_singleton.1 hy]; exact HX.out.2) _ hone
  clear hone hE1
  cases hg1 : greatS xs with
  | true =>
    rw [hg1] at hc1
    clear hc2
    go_wp2_with fail
    refine hc1.mono ?_
    clear hc1
    rintro e w2 ⟨rfl, rfl⟩
    go_wp2_with fail
    refine (awake26_any w1 (HN.out.ext H1.out.1)).mono ?_
    rintro e w3 ⟨rfl, hx⟩
    have HX3 := Lib.hid (Ext.trans H1.out.1 hx); clear hx
    go_wp2_with fail
    go_ret
    exact ⟨rfl, HX3.out⟩
  | false =>
  rw [hg1] at hc1
  have HGA := Lib.hid hg1
  clear hg1
  go_wp2_with fail
  refine hc1.mono ?_
  clear hc1
  rintro e w2 ⟨rfl, rfl⟩
  go_wp2_with fail
  cases hg2 : greatS [x] with
  | true =>
    rw [hg2] at hc2
    refine hc2.mono ?_
    clear hc2
    rintro e w2 ⟨rfl, rfl⟩
    have H2 : Hid (Ext w (w1.alloc (.cells #[.int .i64 x.n, .slice ad x.data.length cd] 53))) := H1.out.1.alloc _
    generalize w1.alloc (.cells #[.int .i64 x.n, .slice ad x.data.length cd] 53) = w2 at H2 ⊢
    go_wp2_with fail
    refine (awake26_any w2 (HN.out.ext H2.out)).mono ?_
    rintro e w3 ⟨rfl, hx⟩
    have HX3 := Lib.hid (Ext.trans H2.out hx); clear hx
    go_wp2_with fail
    go_ret
    exact ⟨rfl, HX3.out⟩
  | false =>
  rw [hg2] at hc2
  have HGX := Lib.hid ((greatS_false hg2).2 x (by simp))
  clear hg2
  refine hc2.mono ?_
  clear hc2
  rintro e w2 ⟨rfl, rfl⟩
  have H2 : Hid (Ext w1 (w1.alloc (.cells #[.int .i64 x.n, .slice ad x.data.length cd] 53))) := (Ext.refl w1).alloc _
  generalize w1.alloc (.cells #[.int .i64 x.n, .slice ad x.data.length cd] 53) = w2 at H2 ⊢
  have k0 := H2.out.cell H1.out.2.1
  have k1 := H2.out.cell H1.out.2.2
  have H3 := Lib.hid (And.intro (Ext.trans H1.out.1 H2.out) (And.intro k0 k1))
  clear H1 H2
  go_wp2_with fail
  refine (may26_any x.n w2).mono ?_
  rintro e w3 ⟨rfl, rfl⟩
  cases hmx : mayN x.n with
  | false =>
    go_wp2_with fail
    refine (awake26_any w3 (HN.out.ext H3.out.1)).mono ?_
    rintro e w4 ⟨rfl, hx⟩
    have HX4 := Lib.hid (Ext.trans H3.out.1 hx); clear hx
    go_wp2_with fail
    go_ret
    exact ⟨rfl, HX4.out⟩
  | true =>
  obtain ⟨nn, hnn, hn9⟩ := mayN_nat hmx
  clear hmx
  have HNN := Lib.hid hnn
  clear hnn
  go_wp2_with fail
  refine (awake26_any w3 (HN.out.ext H3.out.1)).mono ?_
  rintro e w4 ⟨rfl, hx⟩
  have HE : Hid (Ext w w4) := Ext.trans H3.out.1 hx
  have HB : Hid (w4.cell? ⟨bx, 0, none⟩ = some (.int .i64 x.n) ∧ w4.cell? ⟨bx, 1, none⟩ = some (.slice ad x.data.length cd)) := ⟨hx.cell H3.out.2.1, hx.cell H3.out.2.2⟩
  have HN4 := Lib.hid (HN.out.ext HE.out)
  have HG4 : Hid (0 < w4.heap.size) := Nat.lt_of_lt_of_le HG.out HE.out.size
  have HS4 := Lib.hid (HS.out.1.ext HE.out)
  have HX4 := Lib.hid (HX.out.1.ext HE.out)
  have HK4 := Lib.hid (HK.out.1.ext HE.out)
  clear hx H3 k0 k1
  go_wp2_with fail
  refine (new_held 1048576 (by decide) w4).mono ?_
  rintro e w5 ⟨d, rfl, hd, hx⟩
  have H5 := Lib.hid (CH.mk CS.new hd hx)
  clear hd hx
  have hx12 := (greatS_false HGA.out).1
  go_wp2_with fail
  go_loopg [10] xs.length (fun g s10 wr => ∃ (i : Nat) (S : DS) (t : Option (Nat × List UInt8)), s10 = .int .i64 i ∧ i ≤ xs.length ∧ g = xs.length - i ∧ Hid (CH w4 d t i S wr) ∧ Hid (S = runA (xs.take i)))
  case atStart => exact ⟨0, _, _, rfl, Nat.zero_le _, rfl, H5, rfl⟩
  case round =>
    obtain ⟨i, S, t, rfl, hi, rfl, HR, HRUN⟩ := hrel
    clear H5
    by_cases hlt : i < xs.length
    · obtain ⟨bk, o, ad2, cd2, rfl, hc, hv⟩ := (HS4.out.ext HR.out.ext) i _ (List.getElem?_eq_getElem hlt)
      have hlt2 : (i : Int) < (xs.length : Int) := by omega
      have HGI := Lib.hid ((greatS_false HGA.out).2 _ (List.getElem_mem hlt))
      have HST := Lib.hid (runA_step hlt)
      rw [← HRUN.out] at HST
      generalize xs[i] = y at hc hv HGI HST
      have c0 := hc 0 _ rfl
      have c1 := hc 1 _ rfl
      rw [Nat.add_zero] at c0
      rw [← Nat.add_assoc] at c1
      have HV := Lib.hid hv
      have HFL := Lib.hid (greatX_flat HGI.out)
      have hyl := (greatX_false.1 HGI.out).1
      clear hc hv
      have HR2 := Lib.hid (HR.out.go ((Ext.refl wr).drew))
      go_wp2_with fail
      go_still_tail 11, (by kernel_rfl)
      go_wp2_with fail
      refine (save_int w4.heap.size d S y.n ad2 cd2 y.data (by omega) HV.out.1 (by have := HFL.out; omega) (HR.out.low (by omega)) _ HR2.out.held HR2.out.ext.size (HV.out.2.ext ((Ext.refl wr).drew)) (HN4.out.ext HR2.out.ext) HG4.out).mono ?_
      rintro e wr2 ⟨rfl, hd, hb⟩
      obtain ⟨t', hcs⟩ := HR.out.cs.save HR.out.held.good (by omega) y.n HFL.out
      have HR3 := Lib.hid (CH.mk hcs hd (Below.trans HR2.out.ext hb))
      clear hcs hd hb HR HR2
      go_wp2_with fail
      go_roundg (xs.length - (i + 1))
      case measure => omega
      case rel => exact ⟨i + 1, _, t', by go_num, by omega, rfl, HR3, HST.out.symm⟩
    · have hlt2 : ¬ (i : Int) < (xs.length : Int) := by omega
      have HI : Hid (i ≤ 12) := by show _ ≤ _; omega
      have HRN : Hid (S = runA xs) := by
        show _ = _
        rw [HRUN.out, List.take_of_length_le (by omega)]
      clear HRUN
      go_wp2_with fail
      refine (load_held w4.heap.size d S wr HR.out.held (HN4.out.ext HR.out.ext)).mono ?_
      rintro e w6 ⟨s0, rfl, hs0, hx⟩
      have HLS : Hid (loadS (runA xs) = answer t) := by
        show _ = _
        rw [← HRN.out]; exact HR.out.cs.load
      rw [HR.out.cs.load] at hs0 ⊢
      have H6 := Lib.hid (HR.out.go hx)
      have HS0 := Lib.hid hs0
      clear hx hs0 HR
      have hm14 : -9223372036854775808 ≤ ((m : Nat) : Int) % 14 ∧ ((m : Nat) : Int) % 14 ≤ 9223372036854775807 := by omega
      go_wp2_with fail
      refine (arm_any d S (Mine w4.heap.size w6) (((m : Nat) : Int) % 14) hm14 w6 H6.out.held).mono ?_
      rintro e w7 ⟨rfl, hd, ho⟩
      have hmv := Held.moved hd ho H6.out.ext.size
      have HCS := Lib.hid (And.intro H6.out.cs (And.intro H6.out.held.good (H6.out.low (by have := HI.out; omega))))
      have H7 := Lib.hid (And.intro hmv.1 (Below.trans H6.out.ext hmv.2))
      clear hd ho hmv H6 hm14 hm
      have HMK : Hid ((m : Nat) % (14 : Int) = ((m : Nat) : Int) % 14) := rfl
      generalize hmk : ((m : Nat) : Int) % 14 = mk at H7 HMK ⊢
      have HMK2 := Lib.hid hmk
      clear hmk HMK
      have HFX := Lib.hid (greatX_flat HGX.out)
      have hxl := (greatX_false.1 HGX.out).1
      have k0 := Ext.cell H7.out.2 HB.out.1
      have k1 := Ext.cell H7.out.2 HB.out.2
      go_wp2_with fail
      refine (save_int w4.heap.size d (arm S mk) x.n ad cd x.data (by omega) HX4.out.1 (by have := HFX.out; omega) HCS.out.2.2 w7 H7.out.1 H7.out.2.size (HX4.out.2.ext H7.out.2) (HN4.out.ext H7.out.2) HG4.out).mono ?_
      rintro e w8 ⟨rfl, hd, hb⟩
      obtain ⟨r, T, t1, he, hcr, ht, hout⟩ := HCS.out.1.armed_save HCS.out.2.1 (by have := HI.out; omega) mk hn9 HFX.out
      rw [← HNN.out] at he
      rw [he] at hd ⊢
      have H8 := Lib.hid (And.intro hd (Below.trans H7.out.2 hb))
      have HT := Lib.hid (And.intro hcr ht)
      have HO := Lib.hid hout
      have HAR : Hid (armA xs x m = (r, T)) := by
        show saveS (arm (runA xs) _) x.n (flatA x) = _
        rw [← HRN.out, HMK2.out]; exact he
      clear he hd hb hcr ht hout k0 k1 HCS H7
      go_wp2_with fail
      refine (crash_gen d T (Mine w4.heap.size w8) ak ck ks HK.out.2.1 HK.out.2.2 w8 H8.out.1 (HK4.out.ext H8.out.2) (fun hne bk o e hF => by
        obtain ⟨k, hk⟩ : ∃ k, ks[0]? = some k := by
          cases ks with
          | nil => exact absurd rfl hne
          | cons k r => exact ⟨k, rfl⟩
        obtain ⟨b2, o2, e2, hlt, _⟩ := HK4.out 0 k hk
        rw [e2] at e
        injection e with e
        injection e with e1 _
        have := hF.1
        omega)).mono ?_
      rintro e w9 ⟨rfl, hd, ho⟩
      have hmv := Held.moved hd ho H8.out.2.size
      have H9 := Lib.hid (CH.mk (crash_cs HT.out.1 HT.out.2 ks) hmv.1 (Below.trans H8.out.2 hmv.2))
      clear hd ho hmv H8 HT
      have HCC : Hid (crash (armA xs x m).2 ks = crash T ks) := by
        show _ = _
        rw [HAR.out]
      generalize crash T ks = C at H9 HCC
      go_wp2_with fail
      refine (load_held w4.heap.size d C w9 H9.out.held (HN4.out.ext H9.out.ext)).mono ?_
      rintro e w10 ⟨s1, rfl, hs1, hx⟩
      have HLC : Hid (loadS (crash (armA xs x m).2 ks) = answer t1) := by
        show _ = _
        rw [HCC.out]; exact H9.out.cs.load
      rw [H9.out.cs.load] at hs1 ⊢
      have H10 := Lib.hid (H9.out.go hx)
      have HS1 := Lib.hid hs1
      clear hx hs1 H9
      have k0 : w10.cell? ⟨bx, 0, none⟩ = some (.int .i64 (nn : Int)) := by rw [← HNN.out]; exact H10.out.ext.cell HB.out.1
      have k1 := H10.out.ext.cell HB.out.2
      have hjoin := join26_any ad cd x.data hxl (greatX_false.1 HGX.out).2 w10 (HX4.out.2.ext H10.out.ext)
      have hnot : ¬ (t1 = some (nn, (x.data.map lst).flatten) ∧ (r = 0 ∨ r = 7)) := fun h => HW.out.1 (by
        unfold WayA
        rw [HLC.out, HAR.out, HNN.out, h.1]
        exact ⟨h.2, rfl⟩)
      have hw2 := HW.out.2
      unfold WayB at hw2
      rw [HLS.out] at hw2
      have hor : t1 = t ∧ (r = 7 ∨ (r = 9 ∧ ∃ e, t = some (nn, e))) := by
        rcases HO.out with ⟨h1, h2⟩ | ⟨h1, h2⟩ | ⟨h1, h2⟩ | ⟨h1, h2, h3⟩
        · exact absurd ⟨h2, .inl h1⟩ hnot
        · exact ⟨h2, .inl h1⟩
        · exact absurd ⟨h2, .inr h1⟩ hnot
        · exact ⟨h2, .inr ⟨h1, h3⟩⟩
      clear HO hnot HLC HCC HAR HMK2 HRN HLS
      obtain ⟨htt, hrr0⟩ := hor
      rw [htt] at H10 HS1 ⊢
      have hss : s1 = s0 := lst_inj (HS1.out.trans HS0.out.symm)
      subst hss
      clear htt
      cases t with
      | none =>
        clear hw2
        generalize (answer (none : Option (Nat × List UInt8))).1 = q
        have hrr : r = 7 ∨ (r = 9 ∧ q = nn) := by
          rcases hrr0 with h | ⟨_, e, he⟩
          · exact .inl h
          · cases he
        clear hrr0
        dsimp only [answer]
        go_upto_region 14 with fail
        go_cut [19] (fun sx wx => ∃ b, sx = .bool b ∧ w10 = wx)
        case first =>
          cases q1 : (((q : Nat) : Int) == (nn : Int))
          · first
            | (simp at q1; done)
            | (go_wp2_with fail
               go_meet
               exact ⟨_, rfl, rfl⟩)
          · go_wp2_with fail
            refine hjoin.mono ?_
            clear hjoin
            rintro e w11 ⟨s2, rfl, hs2, rfl⟩
            cases q2 : (s1.toList == s2.toList)
            · go_wp2_with fail
              go_meet
              exact ⟨_, rfl, rfl⟩
            · go_wp2_with fail
              go_meet
              exact ⟨_, rfl, rfl⟩
        obtain ⟨b, rfl, rfl⟩ := hcut
        clear hjoin
        go_upto_region 15 with fail
        go_cut [153] (fun sx wx => sx = .bool false ∧ w10 = wx)
        case first =>
          rcases hrr with rfl | ⟨rfl, hqn⟩
          · cases b
            all_goals
              go_wp2_with fail
              go_meet
              exact ⟨rfl, rfl⟩
          · first
            | (subst hqn)
            | skip
            cases b
            all_goals
              go_wp2_with fail
              go_meet
              exact ⟨rfl, rfl⟩
        obtain ⟨rfl, rfl⟩ := hcut
        clear hrr
        have H12 := H10
        have hkk : (0 : Nat) ≤ 1 := Nat.zero_le _
        clear H10
        go_wp2_with fail
        obtain ⟨V, hv, hcv⟩ := H12.out.cs.save_new H12.out.held.good (by have := HI.out; omega) (n := (0 : Nat)) (by omega) (d := [97, 103, 97, 105, 110]) (by decide) (by intro m' e' h'; first | (cases h'; omega) | cases h')
        have HV2 := Lib.hid hv
        have HCV := Lib.hid hcv
        clear hv hcv
        refine (save_int w4.heap.size d C (((0 : Nat) : Nat) : Int) (some ⟨World.heap w10 |>.size, 0, none⟩) 1 [⟨#[97, 103, 97, 105, 110]⟩] (by decide) (by decide) (by decide) (H12.out.low (by have := HI.out; omega)) _ (H12.out.held.ext ((Ext.refl w10).alloc _)) (H12.out.go ((Ext.refl w10).alloc _)).ext.size (StrsAt.one w10 _ _) (HN4.out.ext (Ext.trans H12.out.ext ((Ext.refl w10).alloc _))) HG4.out).mono ?_
        rintro e w13 ⟨rfl, hd, hb⟩
        have e1 : saveS C (((0 : Nat) : Nat) : Int) ((([⟨#[97, 103, 97, 105, 110]⟩] : List ByteArray).map lst).flatten) = (0, V) := HV2.out
        rw [e1] at hd ⊢
        have H13 := Lib.hid (CH.mk HCV.out hd (Below.trans (Ext.trans H12.out.ext ((Ext.refl w10).alloc _)) hb))
        clear e1 hd hb HV2 HCV H12
        go_wp2_with fail
        refine (load_held w4.heap.size d V w13 H13.out.held (HN4.out.ext H13.out.ext)).mono ?_
        rintro e w14 ⟨r2, rfl, hr, hx⟩
        rw [H13.out.cs.load] at hr ⊢
        obtain rfl : r2 = ⟨#[97, 103, 97, 105, 110]⟩ := lst_inj hr
        have H14 := Lib.hid (Ext.trans H13.out.ext hx)
        clear hr hx H13
        dsimp only [answer]
        go_wp2_with fail
        go_ret
        exact ⟨rfl, Ext.trans HE.out H14.out⟩
      | some p => exact absurd rfl hw2
end Go.Proofs.YtmdkjcigmhgpeaaGreatDoor
