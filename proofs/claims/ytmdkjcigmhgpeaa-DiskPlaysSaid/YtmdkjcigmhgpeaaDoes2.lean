/- The walk of law 06's does, kind 2. -/
import Derived.Test.YtmdkjcigmhgpeaaDoesSpec
import Derived.StillTailTactics
namespace Go.Proofs.Ytmdkjcigmhgpeaa
open Go.RowKit Go.Maps Dsk

set_option maxRecDepth 20000 in
set_option maxHeartbeats 4000000 in
theorem does2_any (m : Nat) (S : DS) (G : Nat → Prop) (x : AD) (ad : Option Addr) (cd : Nat) (ak : Option Addr) (ck : Nat) (hk : x.kind = 2) (hg : Dsk.Good S) (hu : S.uses < 4611686018427387904) (hD : x.data.length ≤ 10) (hz : ∀ s ∈ x.data, s.size ≤ 300)
    (hn : x.name.size ≤ 100) (hd : x.dest.size ≤ 100) (hN : I64 x.n) (w : World) (hv : ActV w x ad cd ak) (hAD : x.data ≠ [] → ∀ bk o, ad = some ⟨bk, o, none⟩ → ¬ G bk) (hGw : ∀ b, G b → b < w.heap.size) (h : ModelAt w m S G) :
    Calls Try.prog 21 #[.pointer (some ⟨m, 0, none⟩), .agg #[.int .i64 x.kind, .string x.name, .string x.dest, .slice ad x.data.length cd, .int .i64 x.n, .slice ak x.keep.length ck]] w
      fun e w' => e = .returned (.int .i64 ((doN 2 S x).1 : Nat)) ∧ ModelAt w' m (doN 2 S x).2 (More G w) ∧ Only G w w' := by
  rw [hk]
  clear hk
  have hlint : True := by have := hD; have := hd; have := hN; have := hz; have := hAD; trivial
  clear hlint
  obtain ⟨sl, h, hGm, hGs⟩ := h
  obtain ⟨w1, hw1⟩ : ∃ w1, w1 = w.alloc (.cells #[.int .i64 2, .string x.name, .string x.dest, .slice ad x.data.length cd, .int .i64 x.n, .slice ak x.keep.length ck] 47) := ⟨_, rfl⟩
  obtain ⟨bx, hbx⟩ : ∃ bx, bx = w.heap.size := ⟨_, rfl⟩
  have hbm : bx ≠ m := by have := lt_of_heap h.row; omega
  have HX1 := Lib.hid (show Ext w w1 by rw [hw1]; exact (Ext.refl w).alloc _)
  have p0 : w1.cell? ⟨bx, 0, none⟩ = some (.int .i64 2) := by rw [hw1, hbx, cell_new]; rfl
  have p1 : w1.cell? ⟨bx, 1, none⟩ = some (.string x.name) := by rw [hw1, hbx, cell_new]; rfl
  have p2 : w1.cell? ⟨bx, 2, none⟩ = some (.string x.dest) := by rw [hw1, hbx, cell_new]; rfl
  have p3 : w1.cell? ⟨bx, 3, none⟩ = some (.slice ad x.data.length cd) := by rw [hw1, hbx, cell_new]; rfl
  have p4 : w1.cell? ⟨bx, 4, none⟩ = some (.int .i64 x.n) := by rw [hw1, hbx, cell_new]; rfl
  have HP := Lib.hid (And.intro p0 (And.intro p1 (And.intro p2 (And.intro p3 p4))))
  have hrow : MRow w1 m sl S := (HX1.out.block m (lt_of_heap h.row)).trans h.row
  have hin : ModelIn w1 m sl S := h.only (F := fun _ => False) (Only.ext HX1.out) (fun hf => hf) (fun _ _ hf => hf)
  have HI := Lib.hid hin
  have HR := Lib.hid hrow
  have HV := Lib.hid hv
  have HG := Lib.hid (And.intro hGm (And.intro hGs hGw))
  have HAD := Lib.hid hAD
  have HZ := Lib.hid hz
  have HD := Lib.hid hg
  have c2 := hrow.c2
  have c3 := hrow.c3
  have c4 := hrow.c4
  have c5 := hrow.c5
  have f2 := frozen_row hrow 2
  have f4 := frozen_row hrow 4
  have f5 := frozen_row hrow 5
  have hl := hg.left
  clear hin hrow hv hGm hGs hGw hAD hz hg h
  have HW1 := Lib.hid hw1
  generalize hres : doN 2 S x = res
  have HRES := Lib.hid hres; clear hres
  go_enter Try.func21, Try.ntmps21
  go_upto_region 1 with fail
  rw [← hw1]
  simp only [← hbx]
  clear hw1
  have HBX := Lib.hid hbx; clear hbx
  cases ho : S.off with
  | true =>
    rw [ho] at c2
    have HO := Lib.hid ho; clear ho
    go_wp2_with fail
    go_ret
    have hr := doN_bad 2 S x (by rw [begin_off HO.out]; simp)
    rw [begin_off HO.out, HRES.out] at hr
    subst hr
    exact ⟨rfl, ⟨sl, HI.out, .inl HG.out.1, fun b hb => .inl (HG.out.2.1 b hb)⟩, Only.ext HX1.out⟩
  | false =>
    rw [ho] at c2
    have HO := Lib.hid ho; clear ho
    have hdead : S.armed = true ∧ S.left = 0 ∨ ¬ (S.armed = true ∧ S.left = 0) := Classical.em _
    rcases hdead with ⟨ha, h0⟩ | hal
    · rw [ha] at c3
      have e4 : ((S.left : Nat) : Int) = 0 := by omega
      rw [e4] at c4
      have HA := Lib.hid (And.intro ha h0); clear ha h0 e4
      go_wp2_with fail
      go_ret
      have hr := doN_bad 2 S x (by rw [begin_dies HO.out HA.out.1 HA.out.2]; simp)
      rw [begin_dies HO.out HA.out.1 HA.out.2, HRES.out] at hr
      subst hr
      have hin := HI.out.turned (T := dies S) (mrow_dies HR.out) rfl (((Only.refl _ w1).at _ _).at _ _)
      exact ⟨rfl, ⟨sl, hin, .inl HG.out.1, fun b hb => .inl (HG.out.2.1 b hb)⟩, ((Only.ext HX1.out).setCell (.inl HG.out.1) _ _).setCell (.inl HG.out.1) _ _⟩
    have hway : (use S).1 = true := by
      cases ha : S.armed with
      | false => rw [use_false HO.out ha]
      | true => rw [use_true HO.out ha (fun h0 => hal ⟨ha, h0⟩)]
    have HU := Lib.hid (And.intro hway (use_files S)); clear hway
    cases ha : S.armed
    case' false =>
      rw [ha] at c3
      have HT := Lib.hid (mrow_false HR.out HO.out ha)
      have HON := Lib.hid (show Only (fun b => b = m) w1 (w1.setCell ⟨m, 5, none⟩ (.int .i64 ((S.uses : Int) + 1))) from (Only.refl _ w1).at _ _)
      clear ha hal
      go_upto_region 9 with fail
      generalize (w1.setCell ⟨m, 5, none⟩ (.int .i64 ((S.uses : Int) + 1))) = wc at HT HON ⊢
    case' true =>
      rw [ha] at c3
      have h0 : S.left ≠ 0 := fun h0 => hal ⟨ha, h0⟩
      have e4 : ((S.left : Int) == 0) = false := by rw [beq_eq_false_iff_ne]; omega
      have HT := Lib.hid (mrow_true HR.out HO.out ha h0)
      have HON := Lib.hid (show Only (fun b => b = m) w1 ((w1.setCell ⟨m, 5, none⟩ (.int .i64 ((S.uses : Int) + 1))).setCell ⟨m, 4, none⟩ (.int .i64 ((S.left : Int) - 1))) from ((Only.refl _ w1).at _ _).at _ _)
      clear ha hal
      go_upto_region 9 with fail
      generalize ((w1.setCell ⟨m, 5, none⟩ (.int .i64 ((S.uses : Int) + 1))).setCell ⟨m, 4, none⟩ (.int .i64 ((S.left : Int) - 1))) = wc at HT HON ⊢
      clear h0 e4
    all_goals
      clear c2 c3 c4 c5 f2 f4 f5 p0 p1 p2 p3 p4
      have hf := HU.out.2.1
      have hfr := HU.out.2.2
      have hpass : ∀ (i : Nat) (v : Value), w1.cell? ⟨bx, i, none⟩ = some v → wc.cell? ⟨bx, i, none⟩ = some v := fun i v hc => HON.out.cell hc hbm
      have HC := Lib.hid (show ModelIn wc m sl (use S).2 from HI.out.turned HT.out hf HON.out)
      have p0 := hpass 0 _ HP.out.1
      have p1 := hpass 1 _ HP.out.2.1
      have p2 := hpass 2 _ HP.out.2.2.1
      have p3 := hpass 3 _ HP.out.2.2.2.1
      have p4 := hpass 4 _ HP.out.2.2.2.2
      have HO2 := Lib.hid (show Only G w wc from (Only.ext HX1.out).trans (HON.out.mono (fun b _ e => .inl (by rw [e]; exact HG.out.1))))
      have HFR := Lib.hid (And.intro hf hfr)
      clear hf hfr hpass HT
      have HON2 := Lib.hid HON.out; clear HON
      have HAM := Lib.hid (show x.data ≠ [] → ∀ bk o, ad = some ⟨bk, o, none⟩ → ¬ (fun b => b = m) bk from fun hne bk o e hb => HAD.out hne bk o e (by have hb' : bk = m := hb; rw [hb']; exact HG.out.1))
      obtain ⟨T, hT⟩ : ∃ T, T = (use S).2 := ⟨_, rfl⟩
      have HM := Lib.hid (show ModelAt wc m T G from ⟨sl, by rw [hT]; exact HC.out, HG.out.1, HG.out.2.1⟩)
      have HTF := Lib.hid (show T.files = S.files ∧ T.room = S.room by rw [hT]; exact HFR.out)
      have HTU := Lib.hid hT
      have hmany : T.files.length ≤ 100 := by rw [HTF.out.1]; exact HD.out.many
      clear hT HC HFR
      have HPX := Lib.hid (show ∀ u, Ext wc u → u.cell? ⟨bx, 0, none⟩ = some (.int .i64 2) ∧ u.cell? ⟨bx, 1, none⟩ = some (.string x.name) ∧ u.cell? ⟨bx, 2, none⟩ = some (.string x.dest) ∧ u.cell? ⟨bx, 3, none⟩ = some (.slice ad x.data.length cd) ∧ u.cell? ⟨bx, 4, none⟩ = some (.int .i64 x.n) from fun u k => ⟨k.cell p0, k.cell p1, k.cell p2, k.cell p3, k.cell p4⟩)
      go_upto_region 10 with fail
      have HXC := Lib.hid (show Ext wc (wc.alloc (.cells #[.string x.name] 9)) from (Ext.refl wc).alloc _)
      have hown := own_one wc x.name rfl (Nat.le_refl _)
      generalize (wc.alloc (.cells #[.string x.name] 9)) = wd at HXC hown ⊢
      have p0 := HXC.out.cell p0
      have p1 := HXC.out.cell p1
      have p2 := HXC.out.cell p2
      have p3 := HXC.out.cell p3
      have p4 := HXC.out.cell p4
      have HOW := Lib.hid hown; clear hown
      go_wp2_with (at_builtin; refine wpList_append_strs rfl _ _ rfl wc.heap.size _ [x.name] [x.dest] rfl (HOW.out.ext ((Ext.refl _).alloc _)) (some ⟨wd.heap.size, 0, none⟩) 1 rfl (StrsAt.one wd x.dest _) (fun h => by cases h) ?c1 ?c2 ?_)
      case c1 => have := HXC.out.size; simp; omega
      all_goals try (case c2 => simp)
      intro v' wn hown hb
      have HXD := Lib.hid (show Ext wc wn by first | exact Below.trans HXC.out hb | exact Below.trans (Ext.alloc HXC.out _) hb)
      try simp only [List.cons_append, List.nil_append] at hown
      obtain ⟨an, cn, rfl, _, _, hsn⟩ := OwnStrs.form hown
      obtain ⟨ns, hns⟩ : ∃ ns, ns = [x.name, x.dest] := ⟨_, rfl⟩
      rw [← hns] at hsn ⊢
      have hnl : ns.length ≤ 11 := by rw [hns]; simp; try omega
      have HNS := Lib.hid hns
      have HAN := Lib.hid (show ∀ bk o, an = some ⟨bk, o, none⟩ → wc.heap.size ≤ bk from fun bk o e => by
        subst e
        exact (World.ownsRow.lt hown bk rfl).1)
      have HSN := Lib.hid hsn
      have HNZ := Lib.hid (show ∀ n ∈ ns, n.size ≤ 300 by
        rw [hns]
        intro n hn'
        simp only [List.mem_cons, List.not_mem_nil, or_false] at hn'
        rcases hn' with rfl | rfl
        · omega
        · omega)
      clear hns hsn hb hown HOW HXC
      have p0 := HPX.out wn HXD.out |>.1
      have p1 := HPX.out wn HXD.out |>.2.1
      have p2 := HPX.out wn HXD.out |>.2.2.1
      have p3 := HPX.out wn HXD.out |>.2.2.2.1
      have p4 := HPX.out wn HXD.out |>.2.2.2.2
      go_wp2_with fail
      go_loopg [6] (ns.length) (fun k s6 wr => ∃ i : Nat, s6 = .int .i64 i ∧ i ≤ ns.length ∧ k = ns.length - i ∧ Hid (∀ j (hj : j < ns.length), j < i → may ns[j] = true) ∧ wr = wn)
      case atStart => exact ⟨0, rfl, Nat.zero_le _, rfl, (fun j _ hj => by omega), rfl⟩
      case round =>
        obtain ⟨i, rfl, hi, rfl, HMY, rfl⟩ := hrel
        by_cases hlt : i < ns.length
        · obtain ⟨bk, o, rfl, _, hcn⟩ := HSN.out i _ (List.getElem?_eq_getElem hlt)
          have hnz := HNZ.out _ (List.getElem_mem hlt)
          have HMZ := Lib.hid (fun (h : may ns[i] = false) => doN_may (k := 2) (S := S) (x := x) HU.out.1 (j := i) (by rw [HNS.out] at hlt; exact hlt) (by have := HNS.out; subst this; exact h))
          have HMT := Lib.hid (fun (h : may ns[i] = true) j (hj : j < ns.length) (hji : j < i + 1) => show may ns[j] = true from by
            by_cases e : j = i
            · subst e; exact h
            · exact HMY.out j hj (by omega))
          generalize ns[i] = n0 at hcn hnz HMZ HMT
          go_wp2_with fail
          refine (mmay_any n0 (by omega) wr).mono ?_
          rintro e w3 ⟨rfl, rfl⟩
          cases hmay : may n0 with
          | false =>
            have HMF := Lib.hid hmay; clear hmay
            go_wp2_with fail
            go_ret
            have hr := HMZ.out HMF.out
            rw [HRES.out, ← HTU.out] at hr
            subst hr
            exact ⟨rfl, (HM.out.ext HXD.out).mono (fun b _ hb => .inl hb), HO2.out.andThen (Only.ext HXD.out)⟩
          | true =>
            have HMF := Lib.hid hmay; clear hmay
            go_wp2_with fail
            go_roundg (ns.length - (i + 1))
            case measure => omega
            case rel => exact ⟨i + 1, by go_num, by omega, rfl, HMT.out HMF.out, rfl⟩
        · have hlt' : ¬ (i : Int) < ((ns.length : Nat) : Int) := by omega
          have HTH := Lib.hid (begin_fine HU.out.1 (ns := ns) (fun j hj => HMY.out j hj (by omega)))
          have HTH2 := Lib.hid (there_fine HU.out.1 (ns := ns) (fun j hj => HMY.out j hj (by omega)))
          go_wp2_with fail
          refine (find_any m T G x.name (by omega) wr (HM.out.ext HXD.out)).mono ?_
          rintro e we ⟨rfl, hx⟩
          have HX := Lib.hid (HXD.out.trans hx)
          have p0 := Ext.cell hx p0
          have p1 := Ext.cell hx p1
          have p2 := Ext.cell hx p2
          have p3 := Ext.cell hx p3
          have p4 := Ext.cell hx p4
          have HSE := Lib.hid (HSN.out.ext hx)
          clear hx
          have HME := Lib.hid (HM.out.ext HX.out)
          have HOE := Lib.hid (HO2.out.andThen (Only.ext HX.out))
          cases hgt : get T.files x.name with
          | none =>
            rw [fidx_none hgt]
            have HGT := Lib.hid hgt; clear hgt
            go_wp2_with fail
            go_ret
            have hr : doN 2 S x = (8, T) := by
              show rename S x.name x.dest = (8, T)
              unfold Dsk.rename
              rw [show Dsk.begin S [x.name, x.dest] = (0, (use S).2) by rw [← HNS.out]; exact HTH.out, ← HTF.out.1, ← HTU.out]
              simp [HGT.out]
            rw [HRES.out] at hr
            subst hr
            exact ⟨rfl, HME.out.mono (fun b _ hb => .inl hb), HOE.out⟩
          | some f =>
            obtain ⟨i, hil, hie, hif⟩ := fidx_some hgt
            rw [hie]
            have HGT := Lib.hid hgt; clear hgt hie
            have hmodel := HME.out
            obtain ⟨sl2, hmi, hm1, hm2⟩ := hmodel
            have c1 := MRow.c1 hmi.row
            obtain ⟨a2, c2, rfl, _, _, hrw⟩ := own_row hmi.own
            have HMI := Lib.hid (And.intro hmi (And.intro hm1 hm2)); clear hmi hm1 hm2
            obtain ⟨g2, o2, rfl, r0, r1, r2⟩ := hrw i f (by rw [List.getElem?_eq_getElem hil, hif])
            clear hrw
            have HIF := Lib.hid hif; clear hif
            go_upto_region 46 with fail
            have HXF := Lib.hid (show Ext we (we.alloc (.cells #[.string f.name, .string f.data, .int .i64 (f.kept : Nat)] 52)) from (Ext.refl we).alloc _)
            have d0 : (we.alloc (.cells #[.string f.name, .string f.data, .int .i64 (f.kept : Nat)] 52)).cell? ⟨we.heap.size, 0, none⟩ = some (.string f.name) := by rw [cell_new]; rfl
            have d1 : (we.alloc (.cells #[.string f.name, .string f.data, .int .i64 (f.kept : Nat)] 52)).cell? ⟨we.heap.size, 1, none⟩ = some (.string f.data) := by rw [cell_new]; rfl
            have d2 : (we.alloc (.cells #[.string f.name, .string f.data, .int .i64 (f.kept : Nat)] 52)).cell? ⟨we.heap.size, 2, none⟩ = some (.int .i64 (f.kept : Nat)) := by rw [cell_new]; rfl
            have HRF := Lib.hid (show (we.alloc (.cells #[.string f.name, .string f.data, .int .i64 (f.kept : Nat)] 52)).heap[we.heap.size]? = some (.cells #[.string f.name, .string f.data, .int .i64 (f.kept : Nat)] 52 (0, 0)) from heap_alloc_new we _)
            generalize (we.alloc (.cells #[.string f.name, .string f.data, .int .i64 (f.kept : Nat)] 52)) = wf at HXF HRF d0 d1 d2 ⊢
            have p0 := HXF.out.cell p0
            have p1 := HXF.out.cell p1
            have p2 := HXF.out.cell p2
            have p3 := HXF.out.cell p3
            have p4 := HXF.out.cell p4
            have c1 := HXF.out.cell c1
            have r0 := HXF.out.cell r0
            have r1 := HXF.out.cell r1
            have r2 := HXF.out.cell r2
            have HMF := Lib.hid (HME.out.ext HXF.out)
            have HOF := Lib.hid (HOE.out.andThen (Only.ext HXF.out))
            go_wp2_with fail
            refine (mdrop_any m T G x.name (by omega) wf HMF.out).mono ?_
            rintro e wg ⟨rfl, hm, ho⟩
            have hnG : ¬ G we.heap.size := fun h => by have h1 := HG.out.2.2 _ h; have h2 := HOE.out.size; omega
            have hnB : ¬ G bx := fun h => by have h1 := HG.out.2.2 _ h; rw [HBX.out] at h1; omega
            have HLT := Lib.hid (lt_of_heap HRF.out)
            have e0 := ho.cell d0 hnG
            have e1 := ho.cell d1 hnG
            have e2 := ho.cell d2 hnG
            have p2 := ho.cell p2 hnB
            have hrf := (ho.block _ (lt_of_heap HRF.out) hnG).trans HRF.out
            have fz := frozen_row hrf 0
            have HMG := Lib.hid hm; clear hm
            have HOG := Lib.hid ho; clear ho
            clear hrf hnG hnB r0 r1 r2 c1 d0 d1 d2 p0 p1 p3 p4
            go_wp2_with fail
            refine (mput_any m (files T (Dsk.drop x.name T.files)) (More G wf) ⟨x.dest, f.data, f.kept⟩ ?len _ ?hm).mono ?_
            case len => exact Nat.le_trans (List.length_filter_le _ _) (by omega)
            case hm => exact HMG.out.only (F := fun b => b = we.heap.size) ((Only.refl _ wg).at _ _) (fun b hb e => by
              have h2 := HOE.out.size
              have h3 := HLT.out
              subst e
              rcases hb with hb | hb
              · have h1 := HG.out.2.2 _ hb; omega
              · omega)
            rintro e wh ⟨rfl, hm, ho⟩
            have HMH := Lib.hid hm; clear hm
            have HOH := Lib.hid ho; clear ho
            go_wp2_with fail
            go_ret
            have hr : doN 2 S x = (0, files T (put { f with name := x.dest } (Dsk.drop x.name T.files))) := by
              show rename S x.name x.dest = _
              unfold Dsk.rename
              rw [show Dsk.begin S [x.name, x.dest] = (0, (use S).2) by rw [← HNS.out]; exact HTH.out, ← HTF.out.1, ← HTU.out]
              simp [HGT.out]
            rw [HRES.out] at hr
            subst hr
            have hs1 := HOF.out.size
            have hs2 := HOG.out.size
            have hs3 := HOE.out.size
            refine ⟨rfl, HMH.out.mono (fun b _ hb => ?_), (((HOF.out.andThen HOG.out).setCell (.inr hs3) 0 (.string x.dest)).trans (HOH.out.mono (fun b _ hb => ?_)))⟩
            · rcases hb with (hb | hb) | hb
              · exact .inl hb
              · exact .inr (by omega)
              · exact .inr (by simp [World.setCell] at hb; omega)
            · rcases hb with hb | hb
              · exact .inl hb
              · exact .inr (by omega)

end Go.Proofs.Ytmdkjcigmhgpeaa
