/- The walk of law 06's does, kind 0. -/
import Derived.Test.YtmdkjcigmhgpeaaDoesSpec
import Derived.StillTailTactics
namespace Go.Proofs.Ytmdkjcigmhgpeaa
open Go.RowKit Go.Maps Dsk

set_option maxRecDepth 20000 in
set_option maxHeartbeats 4000000 in
theorem does0_any (m : Nat) (S : DS) (G : Nat → Prop) (x : AD) (ad : Option Addr) (cd : Nat) (ak : Option Addr) (ck : Nat) (hk : x.kind = 0) (hg : Dsk.Good S) (hu : S.uses < 4611686018427387904) (hD : x.data.length ≤ 10) (hz : ∀ s ∈ x.data, s.size ≤ 300)
    (hn : x.name.size ≤ 100) (hd : x.dest.size ≤ 100) (hN : I64 x.n) (w : World) (hv : ActV w x ad cd ak) (hAD : x.data ≠ [] → ∀ bk o, ad = some ⟨bk, o, none⟩ → ¬ G bk) (hGw : ∀ b, G b → b < w.heap.size) (h : ModelAt w m S G) :
    Calls Try.prog 21 #[.pointer (some ⟨m, 0, none⟩), .agg #[.int .i64 x.kind, .string x.name, .string x.dest, .slice ad x.data.length cd, .int .i64 x.n, .slice ak x.keep.length ck]] w
      fun e w' => e = .returned (.int .i64 ((doN 0 S x).1 : Nat)) ∧ ModelAt w' m (doN 0 S x).2 (More G w) ∧ Only G w w' := by
  rw [hk]
  clear hk
  have hlint : True := by have := hD; have := hd; have := hN; have := hz; have := hAD; trivial
  clear hlint
  obtain ⟨sl, h, hGm, hGs⟩ := h
  obtain ⟨w1, hw1⟩ : ∃ w1, w1 = w.alloc (.cells #[.int .i64 0, .string x.name, .string x.dest, .slice ad x.data.length cd, .int .i64 x.n, .slice ak x.keep.length ck] 47) := ⟨_, rfl⟩
  obtain ⟨bx, hbx⟩ : ∃ bx, bx = w.heap.size := ⟨_, rfl⟩
  have hbm : bx ≠ m := by have := lt_of_heap h.row; omega
  have HX1 := Lib.hid (show Ext w w1 by rw [hw1]; exact (Ext.refl w).alloc _)
  have p0 : w1.cell? ⟨bx, 0, none⟩ = some (.int .i64 0) := by rw [hw1, hbx, cell_new]; rfl
  have p1 : w1.cell? ⟨bx, 1, none⟩ = some (.string x.name) := by rw [hw1, hbx, cell_new]; rfl
  have p2 : w1.cell? ⟨bx, 2, none⟩ = some (.string x.dest) := by rw [hw1, hbx, cell_new]; rfl
  have p3 : w1.cell? ⟨bx, 3, none⟩ = some (.slice ad x.data.length cd) := by rw [hw1, hbx, cell_new]; rfl
  have p4 : w1.cell? ⟨bx, 4, none⟩ = some (.int .i64 x.n) := by rw [hw1, hbx, cell_new]; rfl
  have HP := Lib.hid (And.intro p0 (And.intro p1 (And.intro p2 (And.intro p3 p4))))
  have hrow : MRow w1 m sl S := (HX1.out.block m (lt_of_heap h.row)).trans h.row
  have hin : ModelIn w1 m sl S := h.only (F := fun _ => False) (Only.ext HX1.out) (fun hf => hf) (fun _ _ hf => hf)
  have HI := Lib.hid hin
  have HR := Lib.hid hrow
  have HV := Lib.hid hv
  have HG := Lib.hid (And.intro hGm (And.intro hGs hGw))
  have HAD := Lib.hid hAD
  have HZ := Lib.hid hz
  have HD := Lib.hid hg
  have c2 := hrow.c2
  have c3 := hrow.c3
  have c4 := hrow.c4
  have c5 := hrow.c5
  have f2 := frozen_row hrow 2
  have f4 := frozen_row hrow 4
  have f5 := frozen_row hrow 5
  have hl := hg.left
  clear hin hrow hv hGm hGs hGw hAD hz hg h
  have HW1 := Lib.hid hw1
  generalize hres : doN 0 S x = res
  have HRES := Lib.hid hres; clear hres
  go_enter Try.func21, Try.ntmps21
  go_upto_region 1 with fail
  rw [← hw1]
  simp only [← hbx]
  clear hw1
  have HBX := Lib.hid hbx; clear hbx
  cases ho : S.off with
  | true =>
    rw [ho] at c2
    have HO := Lib.hid ho; clear ho
    go_wp2_with fail
    go_ret
    have hr := doN_bad 0 S x (by rw [begin_off HO.out]; simp)
    rw [begin_off HO.out, HRES.out] at hr
    subst hr
    exact ⟨rfl, ⟨sl, HI.out, .inl HG.out.1, fun b hb => .inl (HG.out.2.1 b hb)⟩, Only.ext HX1.out⟩
  | false =>
    rw [ho] at c2
    have HO := Lib.hid ho; clear ho
    have hdead : S.armed = true ∧ S.left = 0 ∨ ¬ (S.armed = true ∧ S.left = 0) := Classical.em _
    rcases hdead with ⟨ha, h0⟩ | hal
    · rw [ha] at c3
      have e4 : ((S.left : Nat) : Int) = 0 := by omega
      rw [e4] at c4
      have HA := Lib.hid (And.intro ha h0); clear ha h0 e4
      go_wp2_with fail
      go_ret
      have hr := doN_bad 0 S x (by rw [begin_dies HO.out HA.out.1 HA.out.2]; simp)
      rw [begin_dies HO.out HA.out.1 HA.out.2, HRES.out] at hr
      subst hr
      have hin := HI.out.turned (T := dies S) (mrow_dies HR.out) rfl (((Only.refl _ w1).at _ _).at _ _)
      exact ⟨rfl, ⟨sl, hin, .inl HG.out.1, fun b hb => .inl (HG.out.2.1 b hb)⟩, ((Only.ext HX1.out).setCell (.inl HG.out.1) _ _).setCell (.inl HG.out.1) _ _⟩
    have hway : (use S).1 = true := by
      cases ha : S.armed with
      | false => rw [use_false HO.out ha]
      | true => rw [use_true HO.out ha (fun h0 => hal ⟨ha, h0⟩)]
    have HU := Lib.hid (And.intro hway (use_files S)); clear hway
    cases ha : S.armed
    case' false =>
      rw [ha] at c3
      have HT := Lib.hid (mrow_false HR.out HO.out ha)
      have HON := Lib.hid (show Only (fun b => b = m) w1 (w1.setCell ⟨m, 5, none⟩ (.int .i64 ((S.uses : Int) + 1))) from (Only.refl _ w1).at _ _)
      clear ha hal
      go_upto_region 9 with fail
      generalize (w1.setCell ⟨m, 5, none⟩ (.int .i64 ((S.uses : Int) + 1))) = wc at HT HON ⊢
    case' true =>
      rw [ha] at c3
      have h0 : S.left ≠ 0 := fun h0 => hal ⟨ha, h0⟩
      have e4 : ((S.left : Int) == 0) = false := by rw [beq_eq_false_iff_ne]; omega
      have HT := Lib.hid (mrow_true HR.out HO.out ha h0)
      have HON := Lib.hid (show Only (fun b => b = m) w1 ((w1.setCell ⟨m, 5, none⟩ (.int .i64 ((S.uses : Int) + 1))).setCell ⟨m, 4, none⟩ (.int .i64 ((S.left : Int) - 1))) from ((Only.refl _ w1).at _ _).at _ _)
      clear ha hal
      go_upto_region 9 with fail
      generalize ((w1.setCell ⟨m, 5, none⟩ (.int .i64 ((S.uses : Int) + 1))).setCell ⟨m, 4, none⟩ (.int .i64 ((S.left : Int) - 1))) = wc at HT HON ⊢
      clear h0 e4
    all_goals
      clear c2 c3 c4 c5 f2 f4 f5 p0 p1 p2 p3 p4
      have hf := HU.out.2.1
      have hfr := HU.out.2.2
      have hpass : ∀ (i : Nat) (v : Value), w1.cell? ⟨bx, i, none⟩ = some v → wc.cell? ⟨bx, i, none⟩ = some v := fun i v hc => HON.out.cell hc hbm
      have HC := Lib.hid (show ModelIn wc m sl (use S).2 from HI.out.turned HT.out hf HON.out)
      have p0 := hpass 0 _ HP.out.1
      have p1 := hpass 1 _ HP.out.2.1
      have p2 := hpass 2 _ HP.out.2.2.1
      have p3 := hpass 3 _ HP.out.2.2.2.1
      have p4 := hpass 4 _ HP.out.2.2.2.2
      have HO2 := Lib.hid (show Only G w wc from (Only.ext HX1.out).trans (HON.out.mono (fun b _ e => .inl (by rw [e]; exact HG.out.1))))
      have HFR := Lib.hid (And.intro hf hfr)
      clear hf hfr hpass HT
      have HON2 := Lib.hid HON.out; clear HON
      have HAM := Lib.hid (show x.data ≠ [] → ∀ bk o, ad = some ⟨bk, o, none⟩ → ¬ (fun b => b = m) bk from fun hne bk o e hb => HAD.out hne bk o e (by have hb' : bk = m := hb; rw [hb']; exact HG.out.1))
      obtain ⟨T, hT⟩ : ∃ T, T = (use S).2 := ⟨_, rfl⟩
      have HM := Lib.hid (show ModelAt wc m T G from ⟨sl, by rw [hT]; exact HC.out, HG.out.1, HG.out.2.1⟩)
      have HTF := Lib.hid (show T.files = S.files ∧ T.room = S.room by rw [hT]; exact HFR.out)
      have HTU := Lib.hid hT
      have hmany : T.files.length ≤ 100 := by rw [HTF.out.1]; exact HD.out.many
      clear hT HC HFR
      have HPX := Lib.hid (show ∀ u, Ext wc u → u.cell? ⟨bx, 0, none⟩ = some (.int .i64 0) ∧ u.cell? ⟨bx, 1, none⟩ = some (.string x.name) ∧ u.cell? ⟨bx, 2, none⟩ = some (.string x.dest) ∧ u.cell? ⟨bx, 3, none⟩ = some (.slice ad x.data.length cd) ∧ u.cell? ⟨bx, 4, none⟩ = some (.int .i64 x.n) from fun u k => ⟨k.cell p0, k.cell p1, k.cell p2, k.cell p3, k.cell p4⟩)
      go_upto_region 10 with fail
      have HXD := Lib.hid (show Ext wc (wc.alloc (.cells #[.string x.name] 9)) from (Ext.refl wc).alloc _)
      have q0 : (wc.alloc (.cells #[.string x.name] 9)).cell? ⟨wc.heap.size, 0, none⟩ = some (.string x.name) := by rw [cell_new]; rfl
      generalize (wc.alloc (.cells #[.string x.name] 9)) = wd at HXD q0 ⊢
      have p0 := HXD.out.cell p0
      have p1 := HXD.out.cell p1
      have p2 := HXD.out.cell p2
      have p3 := HXD.out.cell p3
      have p4 := HXD.out.cell p4
      go_wp2_with fail
      go_loopg [6] (1) (fun k s6 wr => ∃ i : Nat, s6 = .int .i64 i ∧ i ≤ 1 ∧ k = 1 - i ∧ Hid (i = 1 → may x.name = true) ∧ wr = wd)
      case atStart => exact ⟨0, rfl, Nat.zero_le _, rfl, (fun h => by cases h), rfl⟩
      case round =>
        obtain ⟨i, rfl, hi, rfl, HMY, rfl⟩ := hrel
        by_cases hlt : i = 0
        · subst hlt
          go_wp2_with fail
          refine (mmay_any x.name (by omega) wr).mono ?_
          rintro e w3 ⟨rfl, rfl⟩
          cases hmay : may x.name with
          | false =>
            have HMF := Lib.hid hmay; clear hmay
            go_wp2_with fail
            go_ret
            have hr := doN_may (k := 0) (x := x) HU.out.1 (j := 0) (by simp [namesK]) (by simpa [namesK] using HMF.out)
            rw [HRES.out, ← HTU.out] at hr
            subst hr
            exact ⟨rfl, (HM.out.ext HXD.out).mono (fun b _ hb => .inl hb), HO2.out.andThen (Only.ext HXD.out)⟩
          | true =>
            have HMF := Lib.hid hmay; clear hmay
            go_wp2_with fail
            go_roundg (1 - (0 + 1))
            case measure => omega
            case rel => exact ⟨0 + 1, by first | rfl | go_num, by omega, rfl, (fun _ => HMF.out), rfl⟩
        · obtain rfl : i = 1 := by omega
          have HMF := Lib.hid (HMY.out rfl)
          have HTH := Lib.hid (begin_fine HU.out.1 (ns := [x.name]) (fun j hj => by
            have : j = 0 := by simp at hj; omega
            subst this
            exact HMF.out))
          have HTH2 := Lib.hid (there_fine HU.out.1 (ns := [x.name]) (fun j hj => by
            have : j = 0 := by simp at hj; omega
            subst this
            exact HMF.out))
          go_wp2_with fail
          refine (find_any m T G x.name (by omega) wr (HM.out.ext HXD.out)).mono ?_
          rintro e we ⟨rfl, hx⟩
          have HX := Lib.hid (HXD.out.trans hx)
          have p0 := Ext.cell hx p0
          have p1 := Ext.cell hx p1
          have p2 := Ext.cell hx p2
          have p3 := Ext.cell hx p3
          have p4 := Ext.cell hx p4
          clear hx q0
          have HME := Lib.hid (HM.out.ext HX.out)
          have HOE := Lib.hid (HO2.out.andThen (Only.ext HX.out))
          have hcats : (cats x.data).size ≤ 3000 := by
            have : ∀ l : List ByteArray, (∀ s ∈ l, s.size ≤ 300) → (cats l).size ≤ 300 * l.length := fun l h => by
              induction l with
              | nil => exact Nat.zero_le _
              | cons a r ih =>
                have := ih (fun s hs => h s (by simp [hs]))
                have h2 := h a (by simp)
                rw [cats_size] at this ⊢
                simp only [List.map_cons, List.sum_cons, List.length_cons]
                omega
            have := this x.data HZ.out
            omega
          have hcase : (∃ f i, ∃ hi : i < T.files.length, get T.files x.name = some f ∧ fidx T.files x.name = (i : Nat) ∧ T.files[i] = f) ∨ (get T.files x.name = none ∧ fidx T.files x.name = -1) := by
            cases hgt : get T.files x.name with
            | none => exact .inr ⟨rfl, fidx_none hgt⟩
            | some f =>
              obtain ⟨i, h1, h2, h3⟩ := fidx_some hgt
              exact .inl ⟨f, i, h1, rfl, h2, h3⟩
          rcases hcase with ⟨f, i, hil, hgt, hie, hif⟩ | ⟨hgt, hie⟩
          · rw [hie]
            have hmodel := HME.out
            obtain ⟨sl2, hmi, hm1, hm2⟩ := hmodel
            have c1 := MRow.c1 hmi.row
            obtain ⟨a2, c2, rfl, _, _, hrw⟩ := own_row hmi.own
            have HMI := Lib.hid (And.intro hmi (And.intro hm1 hm2)); clear hmi hm1 hm2
            obtain ⟨g2, o2, rfl, r0, r1, r2⟩ := hrw i f (by rw [List.getElem?_eq_getElem hil, hif])
            clear hrw
            go_upto_region 23 with fail
            have HXF := Lib.hid (show Ext we (we.alloc (.cells #[.string x.name, .string ⟨#[]⟩, .int .i64 0] 52)) from (Ext.refl we).alloc _)
            have d0 : (we.alloc (.cells #[.string x.name, .string ⟨#[]⟩, .int .i64 0] 52)).cell? ⟨we.heap.size, 0, none⟩ = some (.string x.name) := by rw [cell_new]; rfl
            have d1 : (we.alloc (.cells #[.string x.name, .string ⟨#[]⟩, .int .i64 0] 52)).cell? ⟨we.heap.size, 1, none⟩ = some (.string ⟨#[]⟩) := by rw [cell_new]; rfl
            have d2 : (we.alloc (.cells #[.string x.name, .string ⟨#[]⟩, .int .i64 0] 52)).cell? ⟨we.heap.size, 2, none⟩ = some (.int .i64 0) := by rw [cell_new]; rfl
            have hrf0 : (we.alloc (.cells #[.string x.name, .string ⟨#[]⟩, .int .i64 0] 52)).heap[we.heap.size]? = some (.cells #[.string x.name, .string ⟨#[]⟩, .int .i64 0] 52 (0, 0)) := heap_alloc_new we _
            generalize (we.alloc (.cells #[.string x.name, .string ⟨#[]⟩, .int .i64 0] 52)) = w0 at HXF hrf0 d0 d1 d2 ⊢
            have g0 := frozen_row hrf0 0
            have g1 := frozen_row hrf0 1
            have g2' := frozen_row hrf0 2
            have p0 := HXF.out.cell p0
            have p1 := HXF.out.cell p1
            have p2 := HXF.out.cell p2
            have p3 := HXF.out.cell p3
            have p4 := HXF.out.cell p4
            have c1 := HXF.out.cell c1
            have r0 := HXF.out.cell r0
            have r1 := HXF.out.cell r1
            have r2 := HXF.out.cell r2
            have HR0 := Lib.hid hrf0; clear hrf0
            go_upto_region 25 with fail
            have hrf := Go.Joins.block_setCell (i := 2) (Go.Joins.block_setCell (i := 1) (Go.Joins.block_setCell (i := 0) HR0.out (.string f.name)) (.string f.data)) (.int .i64 (f.kept : Nat))
            simp only [List.setIfInBounds_toArray, List.set_cons_zero, List.set_cons_succ] at hrf
            have hx3 : Ext we (((w0.setCell ⟨we.heap.size, 0, none⟩ (.string f.name)).setCell ⟨we.heap.size, 1, none⟩ (.string f.data)).setCell ⟨we.heap.size, 2, none⟩ (.int .i64 (f.kept : Nat))) := Below.setCell (Below.setCell (Below.setCell HXF.out (Nat.le_refl _) _) (Nat.le_refl _) _) (Nat.le_refl _) _
            clear HXF
            have HXF := Lib.hid hx3; clear hx3
            generalize (((w0.setCell ⟨we.heap.size, 0, none⟩ (.string f.name)).setCell ⟨we.heap.size, 1, none⟩ (.string f.data)).setCell ⟨we.heap.size, 2, none⟩ (.int .i64 (f.kept : Nat))) = wf at HXF hrf ⊢
            have HRF := Lib.hid hrf; clear hrf d0 d1 d2 g0 g1 g2' r0 r1 r2 c1 HR0
            have HGF := Lib.hid (show (get T.files x.name).getD ⟨x.name, ⟨#[]⟩, 0⟩ = f ∧ f.name = x.name ∧ ((get T.files x.name).map (fun g => g.data.size)).getD 0 = f.data.size by rw [hgt]; exact ⟨rfl, get_name hgt, rfl⟩)
            have hfs : f.data.size ≤ 1048576 := (HD.out.fine f (by rw [← HTF.out.1]; exact (get_mem hgt).1)).data
            have hiv : -1 ≤ ((i : Nat) : Int) ∧ ((i : Nat) : Int) < T.files.length := by omega
            have HIE := Lib.hid hie
            clear hgt hie hif
            have hn1 : ∀ k, wf.cell? ⟨we.heap.size, k, none⟩ = (#[Value.string f.name, .string f.data, .int .i64 (f.kept : Nat)])[k]? := fun k => cell_of_row _ _ _ _ _ _ HRF.out
            have b1 : wf.cell? ⟨we.heap.size, 1, none⟩ = some (.string f.data) := hn1 1
            have g1 := frozen_row HRF.out 1
            clear hn1
            clear p0 p1 p2 p3 p4
            have p3 := HPX.out wf (HX.out.trans HXF.out) |>.2.2.2.1
            have HSF := Lib.hid (show StrsAt wf ad x.data from (HV.out.2.1.ext HX1.out).onlyN (HON2.out.andThen (Only.ext (HX.out.trans HXF.out))) HAM.out)
            go_region_with ((go_at_call 25; refine (mjoin_any ad cd x.data (by omega) (by omega) _ (by first | exact HSF.out | exact HSF.out.ext ((Ext.refl _).drew))).mono ?_; rintro e u ⟨rfl, hx3⟩; have b1' : u.cell? ⟨we.heap.size, 1, none⟩ = some (.string f.data) := Ext.cell hx3 b1; have g1' : u.frozen? ⟨we.heap.size, 1, none⟩ = false := (World.frozen?_of_block (hx3.block we.heap.size (cell_lt b1))).trans g1; have p3' : u.cell? ⟨bx, 3, none⟩ = some (.slice ad x.data.length cd) := Ext.cell hx3 p3))
            all_goals
              have hx3' : Ext wf u := by first | exact hx3 | exact ((Ext.refl wf).drew).trans hx3
              clear hx3
              have hrow4 := Go.Joins.block_setCell (i := 1) ((hx3'.block we.heap.size (lt_of_heap HRF.out)).trans HRF.out) (.string (f.data ++ cats x.data))
              simp only [List.setIfInBounds_toArray, List.set_cons_zero, List.set_cons_succ] at hrow4
              have hx4 : Ext we (u.setCell ⟨we.heap.size, 1, none⟩ (.string (f.data ++ cats x.data))) := Below.setCell (Ext.trans HXF.out hx3') (Nat.le_refl _) _
              generalize (u.setCell ⟨we.heap.size, 1, none⟩ (.string (f.data ++ cats x.data))) = u4 at hrow4 hx4 ⊢
              clear b1 g1 b1' g1' p3 p3' hx3'
              have HR4 := Lib.hid hrow4; clear hrow4
              have HX4 := Lib.hid hx4; clear hx4
              have q0 : u4.cell? ⟨we.heap.size, 0, none⟩ = some (.string f.name) := Go.Joins.cell_of_block HR4.out 0
              have q1 : u4.cell? ⟨we.heap.size, 1, none⟩ = some (.string (f.data ++ cats x.data)) := Go.Joins.cell_of_block HR4.out 1
              have q2 : u4.cell? ⟨we.heap.size, 2, none⟩ = some (.int .i64 (f.kept : Nat)) := Go.Joins.cell_of_block HR4.out 2
              have HM4 := Lib.hid (HME.out.ext HX4.out)
              have HO4 := Lib.hid (HOE.out.andThen (Only.ext HX4.out))
              have hcl := lays_any m T G _ (f.data.size + (cats x.data).size) hiv.2 hiv.1 (by omega) (by omega) (by rw [HTF.out.1]; have := HD.out.used; omega) (by rw [HTF.out.2]; have := HD.out.room; omega) (fun y hy => by have := (HD.out.fine y (by rw [← HTF.out.1]; exact hy)).data; omega) u4 HM4.out
              have hl := lays_fits T x.name (f.data.size + (cats x.data).size)
              rw [HIE.out, HGF.out.2.2] at hl
              rw [hl, show ((f.data.size + (cats x.data).size : Nat) : Int) = (f.data.size : Int) + ((cats x.data).size : Int) by omega] at hcl
              have hr := append_fits (f := f) (xs := x.data) HTH.out (by rw [← HTF.out.1]; exact HGF.out.1)
              rw [← HTU.out, ← HTF.out.1] at hr
              generalize fits T x.name (f.data.size + (cats x.data).size) f.data.size = fc at hcl hr
              have HRS := Lib.hid (show res = if fc = 0 then (0, files T (put ⟨x.name, f.data ++ cats x.data, f.kept⟩ T.files)) else (fc, T) by rw [← HRES.out]; exact hr)
              have HCL := Lib.hid hcl
              clear hl hr hcl
              go_wp2_with fail
              refine HCL.out.mono ?_
              rintro e u5 ⟨rfl, hx5⟩
              have q0 := Ext.cell hx5 q0
              have q1 := Ext.cell hx5 q1
              have q2 := Ext.cell hx5 q2
              have HM5 := Lib.hid (HM4.out.ext hx5)
              have HO5 := Lib.hid (HO4.out.andThen (Only.ext hx5))
              clear hx5 HCL
              by_cases hfc : fc = 0
              · subst hfc
                go_wp2_with fail
                refine (mput_any m T G ⟨f.name, f.data ++ cats x.data, f.kept⟩ (by omega) u5 HM5.out).mono ?_
                rintro e u6 ⟨rfl, hm, ho⟩
                have HM6 := Lib.hid hm; clear hm
                have HO6 := Lib.hid ho; clear ho
                go_wp2_with fail
                go_ret
                have hr : res = (0, files T (put ⟨x.name, f.data ++ cats x.data, f.kept⟩ T.files)) := by simpa using HRS.out
                rw [← HGF.out.2.1] at hr
                subst hr
                exact ⟨rfl, HM6.out.mono (fun b _ hb => hb.imp id (fun h => Nat.le_trans HO5.out.size h)), HO5.out.andThen HO6.out⟩
              · have e1 : ((fc : Int) = 0) = False := eq_false (by omega)
                have e2 : (fc = 0) = False := eq_false hfc
                have e0 : ((fc : Int) == 0) = false := by simpa using hfc
                go_wp2_with fail
                go_ret
                have hr : res = (fc, T) := by have h := HRS.out; simpa [hfc] using h
                subst hr
                exact ⟨rfl, HM5.out.mono (fun b _ hb => .inl hb), HO5.out⟩
          · rw [hie]
            go_upto_region 25 with fail
            have hrf : (we.alloc (.cells #[.string x.name, .string ⟨#[]⟩, .int .i64 0] 52)).heap[we.heap.size]? = some (.cells #[.string x.name, .string ⟨#[]⟩, .int .i64 0] 52 (0, 0)) := heap_alloc_new we _
            have HXF := Lib.hid (show Ext we (we.alloc (.cells #[.string x.name, .string ⟨#[]⟩, .int .i64 0] 52)) from (Ext.refl we).alloc _)
            generalize (we.alloc (.cells #[.string x.name, .string ⟨#[]⟩, .int .i64 0] 52)) = wf at HXF hrf ⊢
            obtain ⟨f, hff⟩ : ∃ f : FD, f = ⟨x.name, ⟨#[]⟩, 0⟩ := ⟨_, rfl⟩
            have HRF := Lib.hid (show wf.heap[we.heap.size]? = some (.cells #[.string f.name, .string f.data, .int .i64 (f.kept : Nat)] 52 (0, 0)) by rw [hff]; exact hrf)
            have HGF := Lib.hid (show (get T.files x.name).getD ⟨x.name, ⟨#[]⟩, 0⟩ = f ∧ f.name = x.name ∧ ((get T.files x.name).map (fun g => g.data.size)).getD 0 = f.data.size by rw [hgt, hff]; exact ⟨rfl, rfl, rfl⟩)
            have hfs : f.data.size ≤ 1048576 := by rw [hff]; exact Nat.zero_le _
            have hiv : -1 ≤ (-1 : Int) ∧ (-1 : Int) < T.files.length := by omega
            have HIE := Lib.hid hie
            clear hgt hie hrf hff
            have hn1 : ∀ k, wf.cell? ⟨we.heap.size, k, none⟩ = (#[Value.string f.name, .string f.data, .int .i64 (f.kept : Nat)])[k]? := fun k => cell_of_row _ _ _ _ _ _ HRF.out
            have b1 : wf.cell? ⟨we.heap.size, 1, none⟩ = some (.string f.data) := hn1 1
            have g1 := frozen_row HRF.out 1
            clear hn1
            clear p0 p1 p2 p3 p4
            have p3 := HPX.out wf (HX.out.trans HXF.out) |>.2.2.2.1
            have HSF := Lib.hid (show StrsAt wf ad x.data from (HV.out.2.1.ext HX1.out).onlyN (HON2.out.andThen (Only.ext (HX.out.trans HXF.out))) HAM.out)
            go_region_with ((go_at_call 25; refine (mjoin_any ad cd x.data (by omega) (by omega) _ (by first | exact HSF.out | exact HSF.out.ext ((Ext.refl _).drew))).mono ?_; rintro e u ⟨rfl, hx3⟩; have b1' : u.cell? ⟨we.heap.size, 1, none⟩ = some (.string f.data) := Ext.cell hx3 b1; have g1' : u.frozen? ⟨we.heap.size, 1, none⟩ = false := (World.frozen?_of_block (hx3.block we.heap.size (cell_lt b1))).trans g1; have p3' : u.cell? ⟨bx, 3, none⟩ = some (.slice ad x.data.length cd) := Ext.cell hx3 p3))
            all_goals
              have hx3' : Ext wf u := by first | exact hx3 | exact ((Ext.refl wf).drew).trans hx3
              clear hx3
              have hrow4 := Go.Joins.block_setCell (i := 1) ((hx3'.block we.heap.size (lt_of_heap HRF.out)).trans HRF.out) (.string (f.data ++ cats x.data))
              simp only [List.setIfInBounds_toArray, List.set_cons_zero, List.set_cons_succ] at hrow4
              have hx4 : Ext we (u.setCell ⟨we.heap.size, 1, none⟩ (.string (f.data ++ cats x.data))) := Below.setCell (Ext.trans HXF.out hx3') (Nat.le_refl _) _
              generalize (u.setCell ⟨we.heap.size, 1, none⟩ (.string (f.data ++ cats x.data))) = u4 at hrow4 hx4 ⊢
              clear b1 g1 b1' g1' p3 p3' hx3'
              have HR4 := Lib.hid hrow4; clear hrow4
              have HX4 := Lib.hid hx4; clear hx4
              have q0 : u4.cell? ⟨we.heap.size, 0, none⟩ = some (.string f.name) := Go.Joins.cell_of_block HR4.out 0
              have q1 : u4.cell? ⟨we.heap.size, 1, none⟩ = some (.string (f.data ++ cats x.data)) := Go.Joins.cell_of_block HR4.out 1
              have q2 : u4.cell? ⟨we.heap.size, 2, none⟩ = some (.int .i64 (f.kept : Nat)) := Go.Joins.cell_of_block HR4.out 2
              have HM4 := Lib.hid (HME.out.ext HX4.out)
              have HO4 := Lib.hid (HOE.out.andThen (Only.ext HX4.out))
              have hcl := lays_any m T G _ (f.data.size + (cats x.data).size) hiv.2 hiv.1 (by omega) (by omega) (by rw [HTF.out.1]; have := HD.out.used; omega) (by rw [HTF.out.2]; have := HD.out.room; omega) (fun y hy => by have := (HD.out.fine y (by rw [← HTF.out.1]; exact hy)).data; omega) u4 HM4.out
              have hl := lays_fits T x.name (f.data.size + (cats x.data).size)
              rw [HIE.out, HGF.out.2.2] at hl
              rw [hl, show ((f.data.size + (cats x.data).size : Nat) : Int) = (f.data.size : Int) + ((cats x.data).size : Int) by omega] at hcl
              have hr := append_fits (f := f) (xs := x.data) HTH.out (by rw [← HTF.out.1]; exact HGF.out.1)
              rw [← HTU.out, ← HTF.out.1] at hr
              generalize fits T x.name (f.data.size + (cats x.data).size) f.data.size = fc at hcl hr
              have HRS := Lib.hid (show res = if fc = 0 then (0, files T (put ⟨x.name, f.data ++ cats x.data, f.kept⟩ T.files)) else (fc, T) by rw [← HRES.out]; exact hr)
              have HCL := Lib.hid hcl
              clear hl hr hcl
              go_wp2_with fail
              refine HCL.out.mono ?_
              rintro e u5 ⟨rfl, hx5⟩
              have q0 := Ext.cell hx5 q0
              have q1 := Ext.cell hx5 q1
              have q2 := Ext.cell hx5 q2
              have HM5 := Lib.hid (HM4.out.ext hx5)
              have HO5 := Lib.hid (HO4.out.andThen (Only.ext hx5))
              clear hx5 HCL
              by_cases hfc : fc = 0
              · subst hfc
                go_wp2_with fail
                refine (mput_any m T G ⟨f.name, f.data ++ cats x.data, f.kept⟩ (by omega) u5 HM5.out).mono ?_
                rintro e u6 ⟨rfl, hm, ho⟩
                have HM6 := Lib.hid hm; clear hm
                have HO6 := Lib.hid ho; clear ho
                go_wp2_with fail
                go_ret
                have hr : res = (0, files T (put ⟨x.name, f.data ++ cats x.data, f.kept⟩ T.files)) := by simpa using HRS.out
                rw [← HGF.out.2.1] at hr
                subst hr
                exact ⟨rfl, HM6.out.mono (fun b _ hb => hb.imp id (fun h => Nat.le_trans HO5.out.size h)), HO5.out.andThen HO6.out⟩
              · have e1 : ((fc : Int) = 0) = False := eq_false (by omega)
                have e2 : (fc = 0) = False := eq_false hfc
                have e0 : ((fc : Int) == 0) = false := by simpa using hfc
                go_wp2_with fail
                go_ret
                have hr : res = (fc, T) := by have h := HRS.out; simpa [hfc] using h
                subst hr
                exact ⟨rfl, HM5.out.mono (fun b _ hb => .inl hb), HO5.out⟩

end Go.Proofs.Ytmdkjcigmhgpeaa
