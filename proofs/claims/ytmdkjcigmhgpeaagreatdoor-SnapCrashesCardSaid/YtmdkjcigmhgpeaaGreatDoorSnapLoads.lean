/- The walk of SnapLoads: of any bytes of a mark, and of a snapshot's file. -/
import Derived.Test.YtmdkjcigmhgpeaaGreatDoorSnapNone
import Derived.Test.YtmdkjcigmhgpeaaGreatDoorSnapSwept
import Derived.Test.YtmdkjcigmhgpeaaGreatDoorRefData
import Derived.Test.YtmdkjcigmhgpeaaGreatDoorRefPrint
namespace Go.Proofs.YtmdkjcigmhgpeaaGreatDoor
open Go.RowKit Snp SealMath Dsk

theorem put_held (B d : Nat) (S : DS) (n x : ByteArray) (hn : n.size ≤ 140737488355328) (hx : x.size ≤ 140737488355328) (w : World) (h : Held B w d S) (hB : B ≤ w.heap.size) :
    Calls Tryz.prog 23 #[.pointer (some ⟨d, 0, none⟩), .string n, .string x] w fun e w' => e = .returned (.int .i64 ((lay S n x).1 : Nat)) ∧ Held B w' d (lay S n x).2 ∧ Below B w w' := by
  refine (put_any d S (Mine B w) n x hn hx w h).mono ?_
  rintro e w' ⟨rfl, hl⟩
  exact ⟨rfl, Held.left hl hB⟩
theorem lay_low {S : DS} {n x : ByteArray} (h : ∀ f ∈ S.files, f.data.size ≤ 4000) (hx : x.size ≤ 4000) : ∀ f ∈ (lay S n x).2.files, f.data.size ≤ 4000 := by
  unfold Dsk.lay
  split
  · split
    · intro f hf
      rcases mem_put.1 hf with rfl | ⟨hf, _⟩
      · exact hx
      · exact h f hf
    · exact h
  · exact h
/-- A disk of the walk's own, its blocks new. -/
structure LH (w : World) (d : Nat) (mark : ByteArray) (S : DS) (w' : World) : Prop where
  ld : LD S mark
  low : ∀ f ∈ S.files, f.data.size ≤ 4000
  held : Held w.heap.size w' d S
  ext : Ext w w'
theorem LH.go {w w1 w2 : World} {d : Nat} {mark : ByteArray} {S : DS} (h : LH w d mark S w1) (k : Ext w1 w2) : LH w d mark S w2 := ⟨h.ld, h.low, h.held.ext k, Ext.trans h.ext k⟩
theorem LH.put {w w1 w2 : World} {d : Nat} {mark : ByteArray} {S : DS} (h : LH w d mark S w1) (n x : ByteArray) (hxs : x.size ≤ 4000) (hn : n = nFresh ∨ ∃ m, m ≤ 99999999 ∧ n = nSnap m) (hd : Held w.heap.size w2 d (lay S n x).2) (hb : Below w.heap.size w1 w2) : LH w d mark (lay S n x).2 w2 :=
  ⟨h.ld.lay n x hn, lay_low h.low hxs, hd, Below.trans h.ext hb⟩
theorem LH.small {w w1 : World} {d : Nat} {mark : ByteArray} {S : DS} (h : LH w d mark S w1) (k : Nat) : (Dsk.read S (nSnap k)).1.size ≤ 4000 := by
  unfold Dsk.read
  split
  · exact Nat.zero_le _
  · split
    · exact Nat.zero_le _
    · rename_i f hf
      exact h.low f (get_mem hf).1
theorem mayN_nat {n : Int} (h : mayN n = true) : ∃ k : Nat, n = k ∧ k ≤ 99999999 := by
  unfold mayN at h
  simp at h
  exact ⟨n.toNat, by omega, by omega⟩
set_option maxRecDepth 20000 in
set_option maxHeartbeats 4000000 in
theorem snaploads_any (mark : ByteArray) (n : Int) (file : ByteArray) (a : Option Addr) (c : Nat) (ks : List Int) (fresh : Bool) (_hsm : mark.size ≤ 9223372036854775807) (_hsf : file.size ≤ 9223372036854775807) (_hkl : ks.length ≤ 140737488355328)
    (w : World) (hnb : Nibs w) (hks : IntsAt w a ks) :
    Calls Tryz.prog 5 #[.string mark, .int .i64 n, .string file, .slice a ks.length c, .bool fresh] w fun e w' => e = .returned (.bool true) ∧ Ext w w' := by
  have HN := Lib.hid hnb
  have HG := Lib.hid (nibs_lt hnb)
  have HK := Lib.hid hks
  clear hnb hks
  by_cases h1 : (3000 : Int) < (mark.size : Int)
  · go_enter Tryz.func5, Tryz.ntmps5
    go_wp2_with fail
    refine (awake26_any w HN.out).mono ?_
    rintro e w1 ⟨rfl, hx⟩
    have HX := Lib.hid hx; clear hx
    go_wp2_with fail
    go_ret
    exact ⟨rfl, HX.out⟩
  by_cases h2 : (3000 : Int) < (file.size : Int)
  · go_enter Tryz.func5, Tryz.ntmps5
    go_wp2_with fail
    refine (awake26_any w HN.out).mono ?_
    rintro e w1 ⟨rfl, hx⟩
    have HX := Lib.hid hx; clear hx
    go_wp2_with fail
    go_ret
    exact ⟨rfl, HX.out⟩
  by_cases h3 : (10 : Int) < (ks.length : Int)
  · go_enter Tryz.func5, Tryz.ntmps5
    go_wp2_with fail
    refine (awake26_any w HN.out).mono ?_
    rintro e w1 ⟨rfl, hx⟩
    have HX := Lib.hid hx; clear hx
    go_wp2_with fail
    go_ret
    exact ⟨rfl, HX.out⟩
  clear _hsm _hsf _hkl
  have hm3 : mark.size ≤ 3000 := by omega
  have hf3 : file.size ≤ 3000 := by omega
  have hk3 : ks.length ≤ 10 := by omega
  go_enter Tryz.func5, Tryz.ntmps5
  go_wp2_with fail
  refine (awake26_any w HN.out).mono ?_
  rintro e w1 ⟨rfl, hx⟩
  have HX1 := Lib.hid hx; clear hx
  go_wp2_with fail
  refine (new_held 1048576 (by decide) w1).mono ?_
  rintro e w2 ⟨d, rfl, hd, hx⟩
  have H2 : Hid (Held w.heap.size w2 d (new 1048576) ∧ Ext w w2) := ⟨Held.of hd (fun b hb => Nat.le_trans HX1.out.size hb.1), Ext.trans HX1.out hx⟩
  clear hd hx
  go_wp2_with fail
  refine (put_held w.heap.size d _ nMark mark (by decide) (by omega) w2 H2.out.1 H2.out.2.size).mono ?_
  rintro e w3 ⟨rfl, hd, hb⟩
  obtain ⟨hl1, hl2⟩ := LD.first 1048576 mark hm3 (by decide)
  rw [hl2]
  have H3 := Lib.hid (LH.mk hl1 (lay_low (by intro f hf; cases hf) (by omega)) hd (Below.trans H2.out.2 hb))
  clear hd hb hl1 hl2 H2
  generalize (Dsk.lay (new 1048576) nMark mark).2 = S at H3
  go_wp2_with fail
  refine (may26_any n w3).mono ?_
  rintro e w4 ⟨rfl, rfl⟩
  go_upto_if 50 with fail
  go_cut [] (fun wx => ∃ S, Hid (LH w d mark S wx))
  case first =>
    by_cases hm : mayN n = true
    · obtain ⟨k, rfl, hk⟩ := mayN_nat hm
      rw [hm]
      go_wp2_with fail
      refine (rname_any k hk w4).mono ?_
      rintro e w5 ⟨rfl, hx⟩
      have H5 := Lib.hid (H3.out.go hx)
      have hsz := nSnap_size k hk
      have HNS : Hid (∃ m, m ≤ 99999999 ∧ nSnap k = nSnap m) := ⟨k, hk, rfl⟩
      generalize nSnap k = z at hsz HNS
      clear hx hm
      go_wp2_with fail
      refine (put_held w.heap.size d S z file (by omega) (by omega) w5 H5.out.held H5.out.ext.size).mono ?_
      rintro e w6 ⟨rfl, hd, hb⟩
      have H6 := Lib.hid (H5.out.put z file (by omega) (.inr HNS.out) hd hb)
      clear hd hb
      go_wp2_with fail
      go_meet
      exact ⟨_, H6⟩
    · have hm0 : mayN n = false := by simpa using hm
      rw [hm0]
      go_wp2_with fail
      go_meet
      exact ⟨_, H3⟩
  case rest =>
  clear H3 HX1
  obtain ⟨S1, H4⟩ := hcut
  go_wp2_with fail
  go_loopg [12] ks.length (fun g i wr => ∃ (j : Nat) (T : DS), i = .int .i64 j ∧ j ≤ ks.length ∧ g = ks.length - j ∧ Hid (LH w d mark T wr))
  case atStart => exact ⟨0, S1, rfl, Nat.zero_le _, rfl, H4⟩
  case round =>
    obtain ⟨j, T, rfl, hj, rfl, HR⟩ := hrel
    by_cases hlt : j < ks.length
    · obtain ⟨bk, o, rfl, _, hcell⟩ := (HK.out.ext HR.out.ext) j _ (List.getElem?_eq_getElem hlt)
      have hlt2 : (j : Int) < (ks.length : Int) := by omega
      generalize ks[j] = q at hcell
      go_wp2_with fail
      refine (may26_any q wr).mono ?_
      rintro e wr2 ⟨rfl, rfl⟩
      by_cases hm : mayN q = true
      · obtain ⟨k, rfl, hk⟩ := mayN_nat hm
        by_cases hqn : (k : Int) = n
        · rw [hm]
          go_wp2_with fail
          go_roundg (ks.length - (j + 1))
          case measure => omega
          case rel => exact ⟨j + 1, T, by go_num, by omega, rfl, HR⟩
        · rw [hm]
          go_wp2_with fail
          refine (rname_any k hk wr2).mono ?_
          rintro e w5 ⟨rfl, hx⟩
          have H5 := Lib.hid (HR.out.go hx)
          have hsz := nSnap_size k hk
          have HNS : Hid (∃ m, m ≤ 99999999 ∧ nSnap k = nSnap m) := ⟨k, hk, rfl⟩
          generalize nSnap k = z at hsz HNS
          clear hx hm
          go_wp2_with fail
          refine (put_held w.heap.size d T z ⟨#[120]⟩ (by omega) (by decide) w5 H5.out.held H5.out.ext.size).mono ?_
          rintro e w6 ⟨rfl, hd, hb⟩
          have H6 := Lib.hid (H5.out.put z ⟨#[120]⟩ (by decide) (.inr HNS.out) hd hb)
          clear hd hb
          go_wp2_with fail
          go_roundg (ks.length - (j + 1))
          case measure => omega
          case rel => exact ⟨j + 1, _, by go_num, by omega, rfl, H6⟩
      · have hm0 : mayN q = false := by simpa using hm
        rw [hm0]
        go_wp2_with fail
        go_roundg (ks.length - (j + 1))
        case measure => omega
        case rel => exact ⟨j + 1, T, by go_num, by omega, rfl, HR⟩
    · have hlt2 : ¬ (j : Int) < (ks.length : Int) := by omega
      go_upto_if 82 with fail
      go_cut [] (fun wx => ∃ S, Hid (LH w d mark S wx))
      case first =>
        cases fresh with
        | true =>
          go_wp2_with fail
          refine (put_held w.heap.size d T nFresh ⟨#[121]⟩ (by decide) (by decide) _ HR.out.held HR.out.ext.size).mono ?_
          rintro e w6 ⟨rfl, hd, hb⟩
          have H6 := Lib.hid (HR.out.put nFresh ⟨#[121]⟩ (by decide) (.inl rfl) hd hb)
          clear hd hb
          go_wp2_with fail
          go_meet
          exact ⟨_, H6⟩
        | false =>
          go_wp2_with fail
          go_meet
          exact ⟨_, HR⟩
      case rest =>
      clear HR H4
      obtain ⟨U, H7⟩ := hcut
      have HS3 : Hid (mark.size ≤ 3000) := hm3
      go_wp2_with fail
      refine (rmarked_any mark (by have := HS3.out; omega) wc).mono ?_
      rintro e w8 ⟨k, b, rfl, hk, hb, hbk, hx⟩
      have H8 := Lib.hid (H7.out.go hx)
      clear hx H7
      cases hmk : markOf (lst mark) with
      | none =>
        rw [hmk] at hb
        obtain rfl : b = false := hb
        have HL := Lib.hid (H8.out.ld.load_none hmk)
        have H9 := H8
        clear hbk hmk H8
        go_wp2_with fail
        refine (names_held w.heap.size d U _ H9.out.held).mono ?_
        rintro e v1 ⟨a1, c1, rfl, _, hx⟩
        have G1 := Lib.hid (H9.out.go hx)
        clear hx H9
        have HFL : Hid ((namesOf U []).length ≤ 100) := by
          have := names_count U []
          have := G1.out.held.good.many
          show _ ≤ _
          omega
        generalize hfl : (namesOf U []).length = fl at HFL
        have HF := Lib.hid hfl
        clear hfl
        go_wp2_with fail
        refine (load_held w.heap.size d U v1 G1.out.held (HN.out.ext G1.out.ext)).mono ?_
        rintro e v2 ⟨r, rfl, hr, hx⟩
        rw [HL.out] at hr
        rw [HL.out]
        have hrz : r = ⟨#[]⟩ := lst_inj hr
        subst hrz
        have G2 := Lib.hid (G1.out.go hx)
        clear hx hr G1
        go_wp2_with fail
        refine (sweep_held w.heap.size d U (by rw [G2.out.ld.uses]; decide) v2 G2.out.held G2.out.ext.size (HN.out.ext G2.out.ext)).mono ?_
        rw [sweep_no HL.out (by decide)]
        rintro e v3 ⟨rfl, hd, hb⟩
        have G3 := Lib.hid (LH.mk G2.out.ld G2.out.low hd (Below.trans G2.out.ext hb))
        clear hd hb G2
        go_wp2_with fail
        refine (names_held w.heap.size d U _ G3.out.held).mono ?_
        rintro e v4 ⟨a2, c2, rfl, _, hx⟩
        rw [HF.out]
        have G4 := Lib.hid (G3.out.go hx)
        clear hx G3
        go_wp2_with fail
        go_ret
        exact ⟨rfl, G4.out.ext⟩
      | some k' =>
        rw [hmk] at hb
        obtain rfl : b = true := hb
        obtain rfl := hbk k' hmk
        have HMK := Lib.hid hmk
        clear hbk hmk
        go_wp2_with fail
        refine (rname_any k hk w8).mono ?_
        rintro e w9 ⟨rfl, hx⟩
        have H9 := Lib.hid (H8.out.go hx)
        have hsz := nSnap_size k hk
        clear hx H8
        have hrd := read_any d U (Mine w.heap.size w9) (nSnap k) (by omega) w9 H9.out.held
        clear hsz
        cases hr : (Dsk.read U (nSnap k)).2 with
        | succ r =>
          have HL := Lib.hid (H9.out.ld.load_unread HMK.out (by omega))
          have hr0 : (((r + 1 : Nat) : Int) == 0) = false := by rw [beq_eq_false_iff_ne]; omega
          rw [hr] at hrd
          clear hr
          go_wp2_with fail
          refine hrd.mono ?_
          clear hrd
          rintro e w10 ⟨rfl, rfl⟩
          go_wp2_with fail
          refine (names_held w.heap.size d U _ H9.out.held).mono ?_
          rintro e v1 ⟨a1, c1, rfl, _, hx⟩
          have G1 := Lib.hid (H9.out.go hx)
          clear hx H9
          have HFL : Hid ((namesOf U []).length ≤ 100) := by
            have := names_count U []
            have := G1.out.held.good.many
            show _ ≤ _
            omega
          generalize hfl : (namesOf U []).length = fl at HFL
          have HF := Lib.hid hfl
          clear hfl
          go_wp2_with fail
          refine (load_held w.heap.size d U v1 G1.out.held (HN.out.ext G1.out.ext)).mono ?_
          rintro e v2 ⟨r, rfl, hr, hx⟩
          rw [HL.out] at hr
          rw [HL.out]
          have hrz : r = ⟨#[]⟩ := lst_inj hr
          subst hrz
          have G2 := Lib.hid (G1.out.go hx)
          clear hx hr G1
          go_wp2_with fail
          refine (sweep_held w.heap.size d U (by rw [G2.out.ld.uses]; decide) v2 G2.out.held G2.out.ext.size (HN.out.ext G2.out.ext)).mono ?_
          rw [sweep_no HL.out (by decide)]
          rintro e v3 ⟨rfl, hd, hb⟩
          have G3 := Lib.hid (LH.mk G2.out.ld G2.out.low hd (Below.trans G2.out.ext hb))
          clear hd hb G2
          go_wp2_with fail
          refine (names_held w.heap.size d U _ G3.out.held).mono ?_
          rintro e v4 ⟨a2, c2, rfl, _, hx⟩
          rw [HF.out]
          have G4 := Lib.hid (G3.out.go hx)
          clear hx G3
          go_wp2_with fail
          go_ret
          exact ⟨rfl, G4.out.ext⟩
        | zero =>
          have HRZ := Lib.hid hr
          have hfs : (Dsk.read U (nSnap k)).1.size ≤ 4000 := H9.out.small k
          rw [hr] at hrd
          clear hr
          have HT : Hid ((Dsk.read U (nSnap k)).1 = (Dsk.read U (nSnap k)).1) := rfl
          generalize hg : (Dsk.read U (nSnap k)).1 = t at hrd hfs HT
          have HTT := Lib.hid hg
          clear hg HT
          go_wp2_with fail
          refine hrd.mono ?_
          clear hrd
          rintro e w10 ⟨rfl, rfl⟩
          go_wp2_with fail
          refine (rdata_any k hk t hfs w9).mono ?_
          rintro e w11 ⟨dd, bb, rfl, hbb, hdd, hx⟩
          have H9 := Lib.hid (H9.out.go hx)
          clear hx
          cases hda : dataOf k (lst t) with
          | none =>
            rw [hda] at hbb
            obtain rfl : bb = false := hbb
            have HL := Lib.hid (H9.out.ld.load_bad HMK.out HRZ.out (by rw [HTT.out]; exact hda))
            clear hda hdd
            go_wp2_with fail
            refine (names_held w.heap.size d U _ H9.out.held).mono ?_
            rintro e v1 ⟨a1, c1, rfl, _, hx⟩
            have G1 := Lib.hid (H9.out.go hx)
            clear hx H9
            have HFL : Hid ((namesOf U []).length ≤ 100) := by
              have := names_count U []
              have := G1.out.held.good.many
              show _ ≤ _
              omega
            generalize hfl : (namesOf U []).length = fl at HFL
            have HF := Lib.hid hfl
            clear hfl
            go_wp2_with fail
            refine (load_held w.heap.size d U v1 G1.out.held (HN.out.ext G1.out.ext)).mono ?_
            rintro e v2 ⟨r, rfl, hr, hx⟩
            rw [HL.out] at hr
            rw [HL.out]
            have hrz : r = ⟨#[]⟩ := lst_inj hr
            subst hrz
            have G2 := Lib.hid (G1.out.go hx)
            clear hx hr G1
            go_wp2_with fail
            refine (sweep_held w.heap.size d U (by rw [G2.out.ld.uses]; decide) v2 G2.out.held G2.out.ext.size (HN.out.ext G2.out.ext)).mono ?_
            rw [sweep_no HL.out (by decide)]
            rintro e v3 ⟨rfl, hd, hb⟩
            have G3 := Lib.hid (LH.mk G2.out.ld G2.out.low hd (Below.trans G2.out.ext hb))
            clear hd hb G2
            go_wp2_with fail
            refine (names_held w.heap.size d U _ G3.out.held).mono ?_
            rintro e v4 ⟨a2, c2, rfl, _, hx⟩
            rw [HF.out]
            have G4 := Lib.hid (G3.out.go hx)
            clear hx G3
            go_wp2_with fail
            go_ret
            exact ⟨rfl, G4.out.ext⟩
          | some x =>
            rw [hda] at hbb
            obtain rfl : bb = true := hbb
            have HL := Lib.hid (H9.out.ld.load_good HMK.out HRZ.out (by rw [HTT.out]; exact hda))
            obtain rfl := hdd x hda
            clear hda hdd
            obtain ⟨T, j, hs1, hs2, hs3, hs4⟩ := H9.out.ld.sweep HL.out HRZ.out
            have HSW := Lib.hid hs1
            have HSN := Lib.hid hs3
            have HSL := Lib.hid hs4
            clear hs1 hs3 hs4 HTT
            have HFL : Hid ((namesOf U []).length ≤ 100) := by
              have := names_count U []
              have := H9.out.held.good.many
              show _ ≤ _
              omega
            go_wp2_with fail
            refine (names_held w.heap.size d U _ H9.out.held).mono ?_
            rintro e v1 ⟨a1, c1, rfl, _, hx⟩
            have G1 := Lib.hid (H9.out.go hx)
            clear hx H9
            generalize (namesOf U []).length = fl at HFL hs2 ⊢
            have hfl : fl ≤ 100 := HFL.out
            clear HFL
            have hfj : (j : Int) = (fl : Int) - 2 := by omega
            go_wp2_with fail
            refine (load_held w.heap.size d U v1 G1.out.held (HN.out.ext G1.out.ext)).mono ?_
            rintro e v2 ⟨r, rfl, hr, hx⟩
            rw [HL.out] at hr
            rw [HL.out]
            obtain rfl := lst_inj hr
            have G2 := Lib.hid (G1.out.go hx)
            clear hx hr G1
            go_wp2_with fail
            refine (sweep_held w.heap.size d U (by rw [G2.out.ld.uses]; decide) v2 G2.out.held G2.out.ext.size (HN.out.ext G2.out.ext)).mono ?_
            rw [HSW.out]
            rintro e v3 ⟨rfl, hd, hb⟩
            have G3 : Hid (Held w.heap.size v3 d T ∧ Ext w v3) := ⟨hd, Below.trans G2.out.ext hb⟩
            clear hd hb G2
            go_wp2_with fail
            refine (load_held w.heap.size d T v3 G3.out.1 (HN.out.ext G3.out.2)).mono ?_
            rintro e v4 ⟨r2, rfl, hr, hx⟩
            rw [HSL.out] at hr
            rw [HSL.out]
            obtain rfl := lst_inj hr
            have G4 : Hid (Held w.heap.size v4 d T ∧ Ext w v4) := ⟨G3.out.1.ext hx, Ext.trans G3.out.2 hx⟩
            clear hx hr G3
            go_wp2_with fail
            refine (names_held w.heap.size d T _ G4.out.1).mono ?_
            rintro e v5 ⟨a2, c2, rfl, hst, hx⟩
            rw [HSN.out] at hst
            rw [HSN.out]
            have G5 : Hid (StrsAt v5 a2 [nMark, nSnap k] ∧ Ext w v5) := ⟨hst, Ext.trans G4.out.2 hx⟩
            clear hx hst G4
            go_wp2_with fail
            refine (rname_any k hk v5).mono ?_
            rintro e v6 ⟨rfl, hx⟩
            have hcall := same_any a2 c2 _ (some ⟨v6.heap.size, 0, none⟩) 2 [nMark, nSnap k] (by simp) _ ((G5.out.1.ext hx).ext ((Ext.refl v6).alloc _)) (StrsAt.two v6 nMark (nSnap k) 9)
            rw [decide_eq_true rfl] at hcall
            have G6 := Lib.hid (Ext.trans (Ext.trans G5.out.2 hx) ((Ext.refl v6).alloc (.cells #[.string nMark, .string (nSnap k)] 9)))
            clear hx G5
            generalize nSnap k = z at hcall G6
            go_wp2_with fail
            refine hcall.mono ?_
            clear hcall
            rintro e v7 ⟨rfl, hx⟩
            have G7 := Lib.hid (Ext.trans G6.out hx)
            clear hx G6
            go_wp2_with fail
            go_ret
            exact ⟨rfl, G7.out⟩
end Go.Proofs.YtmdkjcigmhgpeaaGreatDoor
