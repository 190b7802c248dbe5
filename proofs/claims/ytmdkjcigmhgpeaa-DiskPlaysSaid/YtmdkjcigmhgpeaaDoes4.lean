/- The walk of law 06's does, kind 4. -/
import Derived.Test.YtmdkjcigmhgpeaaDoesSpec
import Derived.StillTailTactics
namespace Go.Proofs.Ytmdkjcigmhgpeaa
open Go.RowKit Go.Maps Dsk

set_option maxRecDepth 20000 in
set_option maxHeartbeats 4000000 in
theorem does4_any (m : Nat) (S : DS) (G : Nat → Prop) (x : AD) (ad : Option Addr) (cd : Nat) (ak : Option Addr) (ck : Nat) (hk : x.kind = 4) (hg : Dsk.Good S) (hu : S.uses < 4611686018427387904) (hD : x.data.length ≤ 10) (hz : ∀ s ∈ x.data, s.size ≤ 300)
    (hn : x.name.size ≤ 100) (hd : x.dest.size ≤ 100) (hN : I64 x.n) (w : World) (hv : ActV w x ad cd ak) (hAD : x.data ≠ [] → ∀ bk o, ad = some ⟨bk, o, none⟩ → ¬ G bk) (hGw : ∀ b, G b → b < w.heap.size) (h : ModelAt w m S G) :
    Calls Try.prog 21 #[.pointer (some ⟨m, 0, none⟩), .agg #[.int .i64 x.kind, .string x.name, .string x.dest, .slice ad x.data.length cd, .int .i64 x.n, .slice ak x.keep.length ck]] w
      fun e w' => e = .returned (.int .i64 ((doN 4 S x).1 : Nat)) ∧ ModelAt w' m (doN 4 S x).2 (More G w) ∧ Only G w w' := by
  rw [hk]
  clear hk
  have hlint : True := by have := hD; have := hd; have := hN; have := hz; have := hAD; trivial
  clear hlint
  obtain ⟨sl, h, hGm, hGs⟩ := h
  obtain ⟨w1, hw1⟩ : ∃ w1, w1 = w.alloc (.cells #[.int .i64 4, .string x.name, .string x.dest, .slice ad x.data.length cd, .int .i64 x.n, .slice ak x.keep.length ck] 47) := ⟨_, rfl⟩
  obtain ⟨bx, hbx⟩ : ∃ bx, bx = w.heap.size := ⟨_, rfl⟩
  have hbm : bx ≠ m := by have := lt_of_heap h.row; omega
  have HX1 := Lib.hid (show Ext w w1 by rw [hw1]; exact (Ext.refl w).alloc _)
  have p0 : w1.cell? ⟨bx, 0, none⟩ = some (.int .i64 4) := by rw [hw1, hbx, cell_new]; rfl
  have p1 : w1.cell? ⟨bx, 1, none⟩ = some (.string x.name) := by rw [hw1, hbx, cell_new]; rfl
  have p2 : w1.cell? ⟨bx, 2, none⟩ = some (.string x.dest) := by rw [hw1, hbx, cell_new]; rfl
  have p3 : w1.cell? ⟨bx, 3, none⟩ = some (.slice ad x.data.length cd) := by rw [hw1, hbx, cell_new]; rfl
  have p4 : w1.cell? ⟨bx, 4, none⟩ = some (.int .i64 x.n) := by rw [hw1, hbx, cell_new]; rfl
  have HP := Lib.hid (And.intro p0 (And.intro p1 (And.intro p2 (And.intro p3 p4))))
  have hrow : MRow w1 m sl S := (HX1.out.block m (lt_of_heap h.row)).trans h.row
  have hin : ModelIn w1 m sl S := h.only (F := fun _ => False) (Only.ext HX1.out) (fun hf => hf) (fun _ _ hf => hf)
  have HI := Lib.hid hin
  have HR := Lib.hid hrow
  have HV := Lib.hid hv
  have HG := Lib.hid (And.intro hGm (And.intro hGs hGw))
  have HAD := Lib.hid hAD
  have HZ := Lib.hid hz
  have HD := Lib.hid hg
  have c2 := hrow.c2
  have c3 := hrow.c3
  have c4 := hrow.c4
  have c5 := hrow.c5
  have f2 := frozen_row hrow 2
  have f4 := frozen_row hrow 4
  have f5 := frozen_row hrow 5
  have hl := hg.left
  clear hin hrow hv hGm hGs hGw hAD hz hg h
  have HW1 := Lib.hid hw1
  generalize hres : doN 4 S x = res
  have HRES := Lib.hid hres; clear hres
  go_enter Try.func21, Try.ntmps21
  go_upto_region 1 with fail
  rw [← hw1]
  simp only [← hbx]
  clear hw1
  have HBX := Lib.hid hbx; clear hbx
  cases ho : S.off with
  | true =>
    rw [ho] at c2
    have HO := Lib.hid ho; clear ho
    go_wp2_with fail
    go_ret
    have hr := doN_bad 4 S x (by rw [begin_off HO.out]; simp)
    rw [begin_off HO.out, HRES.out] at hr
    subst hr
    exact ⟨rfl, ⟨sl, HI.out, .inl HG.out.1, fun b hb => .inl (HG.out.2.1 b hb)⟩, Only.ext HX1.out⟩
  | false =>
    rw [ho] at c2
    have HO := Lib.hid ho; clear ho
    have hdead : S.armed = true ∧ S.left = 0 ∨ ¬ (S.armed = true ∧ S.left = 0) := Classical.em _
    rcases hdead with ⟨ha, h0⟩ | hal
    · rw [ha] at c3
      have e4 : ((S.left : Nat) : Int) = 0 := by omega
      rw [e4] at c4
      have HA := Lib.hid (And.intro ha h0); clear ha h0 e4
      go_wp2_with fail
      go_ret
      have hr := doN_bad 4 S x (by rw [begin_dies HO.out HA.out.1 HA.out.2]; simp)
      rw [begin_dies HO.out HA.out.1 HA.out.2, HRES.out] at hr
      subst hr
      have hin := HI.out.turned (T := dies S) (mrow_dies HR.out) rfl (((Only.refl _ w1).at _ _).at _ _)
      exact ⟨rfl, ⟨sl, hin, .inl HG.out.1, fun b hb => .inl (HG.out.2.1 b hb)⟩, ((Only.ext HX1.out).setCell (.inl HG.out.1) _ _).setCell (.inl HG.out.1) _ _⟩
    have hway : (use S).1 = true := by
      cases ha : S.armed with
      | false => rw [use_false HO.out ha]
      | true => rw [use_true HO.out ha (fun h0 => hal ⟨ha, h0⟩)]
    have HU := Lib.hid (And.intro hway (use_files S)); clear hway
    cases ha : S.armed
    case' false =>
      rw [ha] at c3
      have HT := Lib.hid (mrow_false HR.out HO.out ha)
      have HON := Lib.hid (show Only (fun b => b = m) w1 (w1.setCell ⟨m, 5, none⟩ (.int .i64 ((S.uses : Int) + 1))) from (Only.refl _ w1).at _ _)
      clear ha hal
      go_upto_region 9 with fail
      generalize (w1.setCell ⟨m, 5, none⟩ (.int .i64 ((S.uses : Int) + 1))) = wc at HT HON ⊢
    case' true =>
      rw [ha] at c3
      have h0 : S.left ≠ 0 := fun h0 => hal ⟨ha, h0⟩
      have e4 : ((S.left : Int) == 0) = false := by rw [beq_eq_false_iff_ne]; omega
      have HT := Lib.hid (mrow_true HR.out HO.out ha h0)
      have HON := Lib.hid (show Only (fun b => b = m) w1 ((w1.setCell ⟨m, 5, none⟩ (.int .i64 ((S.uses : Int) + 1))).setCell ⟨m, 4, none⟩ (.int .i64 ((S.left : Int) - 1))) from ((Only.refl _ w1).at _ _).at _ _)
      clear ha hal
      go_upto_region 9 with fail
      generalize ((w1.setCell ⟨m, 5, none⟩ (.int .i64 ((S.uses : Int) + 1))).setCell ⟨m, 4, none⟩ (.int .i64 ((S.left : Int) - 1))) = wc at HT HON ⊢
      clear h0 e4
    all_goals
      clear c2 c3 c4 c5 f2 f4 f5 p0 p1 p2 p3 p4
      have hf := HU.out.2.1
      have hfr := HU.out.2.2
      have hpass : ∀ (i : Nat) (v : Value), w1.cell? ⟨bx, i, none⟩ = some v → wc.cell? ⟨bx, i, none⟩ = some v := fun i v hc => HON.out.cell hc hbm
      have HC := Lib.hid (show ModelIn wc m sl (use S).2 from HI.out.turned HT.out hf HON.out)
      have p0 := hpass 0 _ HP.out.1
      have p1 := hpass 1 _ HP.out.2.1
      have p2 := hpass 2 _ HP.out.2.2.1
      have p3 := hpass 3 _ HP.out.2.2.2.1
      have p4 := hpass 4 _ HP.out.2.2.2.2
      have HO2 := Lib.hid (show Only G w wc from (Only.ext HX1.out).trans (HON.out.mono (fun b _ e => .inl (by rw [e]; exact HG.out.1))))
      have HFR := Lib.hid (And.intro hf hfr)
      clear hf hfr hpass HT
      have HON2 := Lib.hid HON.out; clear HON
      have HAM := Lib.hid (show x.data ≠ [] → ∀ bk o, ad = some ⟨bk, o, none⟩ → ¬ (fun b => b = m) bk from fun hne bk o e hb => HAD.out hne bk o e (by have hb' : bk = m := hb; rw [hb']; exact HG.out.1))
      obtain ⟨T, hT⟩ : ∃ T, T = (use S).2 := ⟨_, rfl⟩
      have HM := Lib.hid (show ModelAt wc m T G from ⟨sl, by rw [hT]; exact HC.out, HG.out.1, HG.out.2.1⟩)
      have HTF := Lib.hid (show T.files = S.files ∧ T.room = S.room by rw [hT]; exact HFR.out)
      have HTU := Lib.hid hT
      have hmany : T.files.length ≤ 100 := by rw [HTF.out.1]; exact HD.out.many
      clear hT HC HFR
      have HPX := Lib.hid (show ∀ u, Ext wc u → u.cell? ⟨bx, 0, none⟩ = some (.int .i64 4) ∧ u.cell? ⟨bx, 1, none⟩ = some (.string x.name) ∧ u.cell? ⟨bx, 2, none⟩ = some (.string x.dest) ∧ u.cell? ⟨bx, 3, none⟩ = some (.slice ad x.data.length cd) ∧ u.cell? ⟨bx, 4, none⟩ = some (.int .i64 x.n) from fun u k => ⟨k.cell p0, k.cell p1, k.cell p2, k.cell p3, k.cell p4⟩)
      go_upto_region 10 with fail
      have HXD := Lib.hid (show Ext wc (wc.alloc (.cells #[.string x.name] 9)) from (Ext.refl wc).alloc _)
      have q0 : (wc.alloc (.cells #[.string x.name] 9)).cell? ⟨wc.heap.size, 0, none⟩ = some (.string x.name) := by rw [cell_new]; rfl
      generalize (wc.alloc (.cells #[.string x.name] 9)) = wd at HXD q0 ⊢
      have p0 := HXD.out.cell p0
      have p1 := HXD.out.cell p1
      have p2 := HXD.out.cell p2
      have p3 := HXD.out.cell p3
      have p4 := HXD.out.cell p4
      go_wp2_with fail
      go_loopg [6] (1) (fun k s6 wr => ∃ i : Nat, s6 = .int .i64 i ∧ i ≤ 1 ∧ k = 1 - i ∧ Hid (i = 1 → may x.name = true) ∧ wr = wd)
      case atStart => exact ⟨0, rfl, Nat.zero_le _, rfl, (fun h => by cases h), rfl⟩
      case round =>
        obtain ⟨i, rfl, hi, rfl, HMY, rfl⟩ := hrel
        by_cases hlt : i = 0
        · subst hlt
          go_wp2_with fail
          refine (mmay_any x.name (by omega) wr).mono ?_
          rintro e w3 ⟨rfl, rfl⟩
          cases hmay : may x.name with
          | false =>
            have HMF := Lib.hid hmay; clear hmay
            go_wp2_with fail
            go_ret
            have hr := doN_may (k := 4) (x := x) HU.out.1 (j := 0) (by simp [namesK]) (by simpa [namesK] using HMF.out)
            rw [HRES.out, ← HTU.out] at hr
            subst hr
            exact ⟨rfl, (HM.out.ext HXD.out).mono (fun b _ hb => .inl hb), HO2.out.andThen (Only.ext HXD.out)⟩
          | true =>
            have HMF := Lib.hid hmay; clear hmay
            go_wp2_with fail
            go_roundg (1 - (0 + 1))
            case measure => omega
            case rel => exact ⟨0 + 1, by first | rfl | go_num, by omega, rfl, (fun _ => HMF.out), rfl⟩
        · obtain rfl : i = 1 := by omega
          have HMF := Lib.hid (HMY.out rfl)
          have HTH := Lib.hid (begin_fine HU.out.1 (ns := [x.name]) (fun j hj => by
            have : j = 0 := by simp at hj; omega
            subst this
            exact HMF.out))
          have HTH2 := Lib.hid (there_fine HU.out.1 (ns := [x.name]) (fun j hj => by
            have : j = 0 := by simp at hj; omega
            subst this
            exact HMF.out))
          go_wp2_with fail
          refine (find_any m T G x.name (by omega) wr (HM.out.ext HXD.out)).mono ?_
          rintro e we ⟨rfl, hx⟩
          have HX := Lib.hid (HXD.out.trans hx)
          have p0 := Ext.cell hx p0
          have p1 := Ext.cell hx p1
          have p2 := Ext.cell hx p2
          have p3 := Ext.cell hx p3
          have p4 := Ext.cell hx p4
          clear hx q0
          have HME := Lib.hid (HM.out.ext HX.out)
          have HOE := Lib.hid (HO2.out.andThen (Only.ext HX.out))
          cases hgt : get T.files x.name with
          | none =>
            rw [fidx_none hgt]
            have HGT := Lib.hid hgt; clear hgt
            go_wp2_with fail
            go_ret
            have hr : doN 4 S x = (8, T) := by
              show cut S x.name x.n = (8, T)
              unfold Dsk.cut
              rw [HTH2.out, ← HTF.out.1, ← HTU.out]
              simp [HGT.out]
            rw [HRES.out] at hr
            subst hr
            exact ⟨rfl, HME.out.mono (fun b _ hb => .inl hb), HOE.out⟩
          | some f =>
            obtain ⟨i, hil, hie, hif⟩ := fidx_some hgt
            rw [hie]
            have HGT := Lib.hid hgt; clear hgt hie
            have hmodel := HME.out
            obtain ⟨sl2, hmi, hm1, hm2⟩ := hmodel
            have c1 := MRow.c1 hmi.row
            obtain ⟨a2, c2, rfl, _, _, hrw⟩ := own_row hmi.own
            have HMI := Lib.hid (And.intro hmi (And.intro hm1 hm2)); clear hmi hm1 hm2
            obtain ⟨g2, o2, rfl, r0, r1, r2⟩ := hrw i f (by rw [List.getElem?_eq_getElem hil, hif])
            clear hrw
            have HIF := Lib.hid hif; clear hif
            go_upto_region 46 with fail
            have HXF := Lib.hid (show Ext we (we.alloc (.cells #[.string f.name, .string f.data, .int .i64 (f.kept : Nat)] 52)) from (Ext.refl we).alloc _)
            have d0 : (we.alloc (.cells #[.string f.name, .string f.data, .int .i64 (f.kept : Nat)] 52)).cell? ⟨we.heap.size, 0, none⟩ = some (.string f.name) := by rw [cell_new]; rfl
            have d1 : (we.alloc (.cells #[.string f.name, .string f.data, .int .i64 (f.kept : Nat)] 52)).cell? ⟨we.heap.size, 1, none⟩ = some (.string f.data) := by rw [cell_new]; rfl
            have d2 : (we.alloc (.cells #[.string f.name, .string f.data, .int .i64 (f.kept : Nat)] 52)).cell? ⟨we.heap.size, 2, none⟩ = some (.int .i64 (f.kept : Nat)) := by rw [cell_new]; rfl
            have HRF := Lib.hid (show (we.alloc (.cells #[.string f.name, .string f.data, .int .i64 (f.kept : Nat)] 52)).heap[we.heap.size]? = some (.cells #[.string f.name, .string f.data, .int .i64 (f.kept : Nat)] 52 (0, 0)) from heap_alloc_new we _)
            generalize (we.alloc (.cells #[.string f.name, .string f.data, .int .i64 (f.kept : Nat)] 52)) = wf at HXF HRF d0 d1 d2 ⊢
            have p0 := HXF.out.cell p0
            have p1 := HXF.out.cell p1
            have p2 := HXF.out.cell p2
            have p3 := HXF.out.cell p3
            have p4 := HXF.out.cell p4
            have c1 := HXF.out.cell c1
            have r0 := HXF.out.cell r0
            have r1 := HXF.out.cell r1
            have r2 := HXF.out.cell r2
            have HMF := Lib.hid (HME.out.ext HXF.out)
            have HOF := Lib.hid (HOE.out.andThen (Only.ext HXF.out))
            have hfine := HD.out.fine f (by rw [← HTF.out.1]; exact (get_mem HGT.out).1)
            have hfs := hfine.data
            have hfk := hfine.kept
            have HFI := Lib.hid hfine; clear hfine
            have hr : doN 4 S x = if x.n < 0 ∨ (f.data.size : Int) < x.n then (1, T) else (0, files T (put (cutF x.n.toNat f) T.files)) := by
              show cut S x.name x.n = _
              unfold Dsk.cut
              rw [HTH2.out, ← HTF.out.1, ← HTU.out]
              simp [HGT.out]
            rw [HRES.out] at hr
            have HRS := Lib.hid hr; clear hr
            by_cases hneg : x.n < 0
            · go_wp2_with fail
              go_ret
              have hr := HRS.out
              rw [if_pos (.inl hneg)] at hr
              subst hr
              exact ⟨rfl, HMF.out.mono (fun b _ hb => .inl hb), HOF.out⟩
            by_cases hbig : (f.data.size : Int) < x.n
            · go_wp2_with fail
              go_ret
              have hr := HRS.out
              rw [if_pos (.inr hbig)] at hr
              subst hr
              exact ⟨rfl, HMF.out.mono (fun b _ hb => .inl hb), HOF.out⟩
            obtain ⟨kN, hkN⟩ : ∃ kN : Nat, x.n = kN := ⟨x.n.toNat, by omega⟩
            have hr := HRS.out
            rw [if_neg (by omega), hkN, Int.toNat_natCast] at hr
            have HRS2 := Lib.hid hr
            rw [hkN] at p4 hneg hbig
            clear hr HRS hneg
            have i1 : (0 : Int) ≤ kN := by omega
            have i2 : (kN : Int) ≤ (f.data.size : Int) := by omega
            have i3 : (0 : Int) ≤ i := by omega
            have i4 : (i : Int) < ((T.files.length : Nat) : Int) := by omega
            have hmi := HMI.out.1.only (F := fun _ => False) (Only.ext HXF.out) (fun hf => hf) (fun _ _ hf => hf)
            have z0 := model_frozen hmi (o2 + i * 3)
            have z1 := model_frozen hmi (o2 + i * 3 + 1)
            have z2 := model_frozen hmi (o2 + i * 3 + 2)
            have HMI2 := Lib.hid hmi; clear hmi
            go_wp2_with fail
            go_still_tail 18, (by kernel_rfl)
            go_wp2_with fail
            go_ret
            have hr := HRS2.out
            subst hr
            have hset := model_set HMI2.out hil (cutF kN f)
            have ecut : (cutF kN f).data = f.data.extract 0 kN := (extract_take f.data kN).symm
            have ekept : (((cutF kN f).kept : Nat) : Int) = min (f.kept : Int) (kN : Int) := by show ((min f.kept kN : Nat) : Int) = _; omega
            rw [ecut, ekept, show (cutF kN f).name = f.name from rfl] at hset
            rw [Dsk.put_set (by rw [HTF.out.1]; exact HD.out.sorted) hil (show (cutF kN f).key = T.files[i].key by rw [HIF.out]; rfl)]
            have hgG : G g2 := HMI.out.2.2 g2 rfl
            exact ⟨rfl, ⟨_, hset.1.only (F := fun _ => False) (Only.ext (Ext.refl _).drew) (fun hf => hf) (fun _ _ hf => hf), .inl HMI.out.2.1, fun b hb => .inl (HMI.out.2.2 b hb)⟩, (HOF.out.andThen (hset.2.mono (fun b _ e => by
              have e' : b = g2 := e
              rw [e']; exact hgG))).andThen (Only.ext (Ext.refl _).drew)⟩

end Go.Proofs.Ytmdkjcigmhgpeaa
