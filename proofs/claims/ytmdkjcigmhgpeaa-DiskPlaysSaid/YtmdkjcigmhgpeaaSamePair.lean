/- law 06's same: a disk and a model of one state are the same. -/
import Derived.Test.YtmdkjcigmhgpeaaModel2
import Derived.Deep.RegionHeld3
namespace Go.Proofs.Ytmdkjcigmhgpeaa
open Go.RowKit Go.Maps Dsk

theorem used_ext {d : Nat} {S : DS} {F : Nat → Prop} {w : World} (h : DiskAt w d S F) (u : World) (k : Ext w u) : Calls Try.prog 16 #[.pointer (some ⟨d, 0, none⟩)] u fun e v => e = .returned (.int .i64 (used S.files : Nat)) ∧ Ext w v :=
  (used_any d S F u (h.ext k)).mono (fun _ _ hh => ⟨hh.1, k.trans hh.2⟩)
theorem free_ext {d : Nat} {S : DS} {F : Nat → Prop} {w : World} (h : DiskAt w d S F) (u : World) (k : Ext w u) : Calls Try.prog 31 #[.pointer (some ⟨d, 0, none⟩)] u fun e v => e = .returned (.int .i64 ((S.room : Int) - (used S.files : Nat))) ∧ Ext w v :=
  (free_any d S F u (h.ext k)).mono (fun _ _ hh => ⟨hh.1, k.trans hh.2⟩)
theorem mused_ext {m : Nat} {S : DS} {G : Nat → Prop} {w : World} (h : ModelAt w m S G) (hL : S.files.length ≤ 1000) (hU : used S.files ≤ 1099511627776) (u : World) (k : Ext w u) : Calls Try.prog 51 #[.pointer (some ⟨m, 0, none⟩)] u fun e v => e = .returned (.int .i64 (used S.files : Nat)) ∧ Ext w v :=
  (mused_any m S G hL hU u (h.ext k)).mono (fun _ _ hh => ⟨hh.1, k.trans hh.2⟩)

set_option maxRecDepth 20000 in
set_option maxHeartbeats 4000000 in
theorem same06_any (d m : Nat) (S : DS) (F G : Nat → Prop) (w : World) (hd : DiskAt w d S F) (hm : ModelAt w m S G) :
    Calls Try.prog 27 #[.pointer (some ⟨d, 0, none⟩), .pointer (some ⟨m, 0, none⟩)] w fun e w' => e = .returned (.bool true) ∧ Ext w w' := by
  have hg := hd.good
  have hmany := hg.many
  have hused := hg.used
  have hroom := hg.room
  have HD := Lib.hid hd
  have HM := Lib.hid hm
  have hmodel := hm
  obtain ⟨sl, hmi, _, _⟩ := hmodel
  have c0 : w.cell? ⟨m, 0, none⟩ = some (.int .i64 (S.room : Nat)) := Go.Joins.cell_of_block hmi.row 0
  have c1 : w.cell? ⟨m, 1, none⟩ = some sl := Go.Joins.cell_of_block hmi.row 1
  have c2 : w.cell? ⟨m, 2, none⟩ = some (.bool S.off) := Go.Joins.cell_of_block hmi.row 2
  have c5 : w.cell? ⟨m, 5, none⟩ = some (.int .i64 (S.uses : Nat)) := Go.Joins.cell_of_block hmi.row 5
  obtain ⟨a, c, rfl, _, _, hr⟩ := own_row hmi.own
  have HR := Lib.hid hr
  have HGD := Lib.hid hg
  clear hd hm hmi hr hg
  go_enter Try.func27, Try.ntmps27
  go_wp2_with fail
  refine (names_any d S F none 0 [] (by simp) w HD.out (StrsAt.nil _ _)).mono ?_
  rintro e w1 ⟨v, rfl, ho, hx⟩
  have hnm : namesOf S [] = S.files.map (·.name) := by unfold namesOf names; simp
  rw [hnm] at ho
  obtain ⟨an, cn, rfl, _, _, hsn⟩ := OwnStrs.form ho
  have hln : (S.files.map (·.name)).length = S.files.length := List.length_map _
  rw [hln]
  have HSN := Lib.hid hsn
  have HX1 := Lib.hid hx
  have c0 := hx.cell c0
  have c1 := hx.cell c1
  have c2 := hx.cell c2
  have c5 := hx.cell c5
  have HD1 := Lib.hid (HD.out.ext hx)
  have HM1 := Lib.hid (HM.out.ext hx)
  have e1 : IntKind.i64.wrap ((S.room : Int) - ((used S.files : Nat) : Int)) = (S.room : Int) - ((used S.files : Nat) : Int) := IntWalk.i64_in _ (by omega)
  clear ho hsn hx hnm
  have HU := Lib.hid (used_ext HD1.out)
  have HF := Lib.hid (free_ext HD1.out)
  have HMU := Lib.hid (mused_ext HM1.out (by omega) (by omega))
  have HON := Lib.hid (fun u (k : Ext w1 u) => (on_any d S F u (HD1.out.ext k)).mono (fun _ _ hh => (⟨hh.1, hh.2 ▸ k⟩ : _ ∧ Ext w1 _)))
  have HUS := Lib.hid (fun u (k : Ext w1 u) => (uses_any d S F u (HD1.out.ext k)).mono (fun _ _ hh => (⟨hh.1, hh.2 ▸ k⟩ : _ ∧ Ext w1 _)))
  cases hoff : S.off with
  | false =>
    rw [hoff] at c2 HON
    have HOFF := Lib.hid hoff; clear hoff
    generalize hfl : S.files.length = nl at *
    generalize hus : used S.files = us at *
    generalize S.room = rm at *
    generalize hue : S.uses = ue at *
    have HFL := Lib.hid hfl; clear hfl hus hue
    go_wp2_with fail
    go_region_held3 (fun u => Ext w1 u ∧ u.cell? ⟨m, 0, none⟩ = some (.int .i64 (rm : Nat)) ∧ u.cell? ⟨m, 1, none⟩ = some (.slice a nl c) ∧ u.cell? ⟨m, 2, none⟩ = some (.bool false) ∧ u.cell? ⟨m, 5, none⟩ = some (.int .i64 (ue : Nat)))
      (first | exact ⟨Ext.refl _, c0, c1, c2, c5⟩ | exact ⟨(Ext.refl _).drew, c0, c1, c2, c5⟩ | exact ⟨hx, Ext.cell hx c0, Ext.cell hx c1, Ext.cell hx c2, Ext.cell hx c5⟩)
      (first
      | (go_at_call 29; refine (HON.out _ (by first | exact Ext.refl _ | assumption | exact (Ext.refl _).drew)).mono ?_; rintro e v ⟨rfl, hx⟩)
      | (go_at_call 30; refine (HUS.out _ (by first | exact Ext.refl _ | assumption | exact (Ext.refl _).drew)).mono ?_; rintro e v ⟨rfl, hx⟩)
      | (go_at_call 16; refine (HU.out _ (by first | exact Ext.refl _ | assumption | exact (Ext.refl _).drew)).mono ?_; rintro e v ⟨rfl, hx⟩)
      | (go_at_call 31; refine (HF.out _ (by first | exact Ext.refl _ | assumption | exact (Ext.refl _).drew)).mono ?_; rintro e v ⟨rfl, hx⟩)
      | (go_at_call 51; refine (HMU.out _ (by first | exact Ext.refl _ | assumption | exact (Ext.refl _).drew)).mono ?_; rintro e v ⟨rfl, hx⟩))
    have hv : Ext w1 v := hx
    have c1 := hv.cell c1
    have c2 := hv.cell c2
    have HXV := Lib.hid hv
    clear c0 c5 hx hv
    clear HU HF HMU HON HUS
    go_wp2_with fail
    go_loopg [6, 7, 8] (nl) (fun k s6 s7 s8 wr => ∃ i : Nat, s6 = .int .i64 i ∧ i ≤ nl ∧ k = nl - i ∧ Hid (Ext v wr))
    case atStart => exact ⟨0, rfl, Nat.zero_le _, rfl, Ext.refl _⟩
    case round =>
      obtain ⟨i, rfl, hi, rfl, HXR⟩ := hrel
      have c1 := HXR.out.cell c1
      have c2 := HXR.out.cell c2
      by_cases hlt : i < nl
      · have hlt2 : i < S.files.length := by rw [HFL.out]; exact hlt
        obtain ⟨g, o, rfl, r0, r1, r2⟩ := (HR.out.ext (HX1.out.trans (HXV.out.trans HXR.out))) i _ (List.getElem?_eq_getElem hlt2)
        obtain ⟨bk, o3, rfl, _, hcn⟩ := (HSN.out.ext (HXV.out.trans HXR.out)) i (S.files[i].name) (by rw [List.getElem?_map, List.getElem?_eq_getElem hlt2]; rfl)
        have hfm : S.files[i] ∈ S.files := List.getElem_mem hlt2
        generalize S.files[i] = f at r0 r1 r2 hcn hfm
        have hfine := HGD.out.fine f hfm
        have hnz := (may_size hfine.name).2
        have hfd := hfine.data
        have hfk := hfine.kept
        have hget : get S.files f.name = some f := HGD.out.sorted.get hfm rfl
        have hrd := read_any d S F f.name (by omega) wr (HD1.out.ext (HXV.out.trans HXR.out))
        have hkp : ∀ u, Ext wr u → Calls Try.prog 32 #[.pointer (some ⟨d, 0, none⟩), .string f.name] u fun e w' => e = .returned (.int .i64 (f.kept : Nat)) ∧ w' = u := fun u k => by
          have := kept_any d S F f.name (by omega) u (HD1.out.ext ((HXV.out.trans HXR.out).trans k))
          rw [show keptOf S f.name = f.kept by unfold keptOf; rw [hget]; rfl] at this
          exact this.mono (fun _ _ hh => ⟨hh.1, hh.2.symm⟩)
        rw [show Dsk.read S f.name = (f.data, 0) by unfold Dsk.read; rw [HOFF.out, hget]; rfl] at hrd
        have HRD := Lib.hid hrd
        have HKP := Lib.hid hkp
        have i1 : (0 : Int) ≤ i := by omega
        have i2 : (i : Int) < ((nl : Nat) : Int) := by omega
        clear hrd hkp hget hfine hfm hlt2
        go_wp2_with fail
        refine HRD.out.mono ?_
        rintro e w4 ⟨rfl, rfl⟩
        go_wp2_with fail
        go_quiet ((go_at_call 32; exact Calls.quiet_of_same (HKP.out _ ((Ext.refl _).drewN _))))
        go_wp2_with fail
        go_roundg (nl - (i + 1))
        case measure => omega
        case rel => exact ⟨i + 1, by go_num, by omega, rfl, HXR.out.drewN nq⟩
      · have hlt' : ¬ (i : Int) < ((nl : Nat) : Int) := by omega
        go_wp2_with fail
        go_ret
        exact ⟨rfl, HX1.out.trans (HXV.out.trans HXR.out)⟩
  | true =>
    rw [hoff] at c2 HON
    have HOFF := Lib.hid hoff; clear hoff
    generalize hfl : S.files.length = nl at *
    generalize hus : used S.files = us at *
    generalize S.room = rm at *
    generalize hue : S.uses = ue at *
    have HFL := Lib.hid hfl; clear hfl hus hue
    go_wp2_with fail
    go_region_held3 (fun u => Ext w1 u ∧ u.cell? ⟨m, 0, none⟩ = some (.int .i64 (rm : Nat)) ∧ u.cell? ⟨m, 1, none⟩ = some (.slice a nl c) ∧ u.cell? ⟨m, 2, none⟩ = some (.bool true) ∧ u.cell? ⟨m, 5, none⟩ = some (.int .i64 (ue : Nat)))
      (first | exact ⟨Ext.refl _, c0, c1, c2, c5⟩ | exact ⟨(Ext.refl _).drew, c0, c1, c2, c5⟩ | exact ⟨hx, Ext.cell hx c0, Ext.cell hx c1, Ext.cell hx c2, Ext.cell hx c5⟩)
      (first
      | (go_at_call 29; refine (HON.out _ (by first | exact Ext.refl _ | assumption | exact (Ext.refl _).drew)).mono ?_; rintro e v ⟨rfl, hx⟩)
      | (go_at_call 30; refine (HUS.out _ (by first | exact Ext.refl _ | assumption | exact (Ext.refl _).drew)).mono ?_; rintro e v ⟨rfl, hx⟩)
      | (go_at_call 16; refine (HU.out _ (by first | exact Ext.refl _ | assumption | exact (Ext.refl _).drew)).mono ?_; rintro e v ⟨rfl, hx⟩)
      | (go_at_call 31; refine (HF.out _ (by first | exact Ext.refl _ | assumption | exact (Ext.refl _).drew)).mono ?_; rintro e v ⟨rfl, hx⟩)
      | (go_at_call 51; refine (HMU.out _ (by first | exact Ext.refl _ | assumption | exact (Ext.refl _).drew)).mono ?_; rintro e v ⟨rfl, hx⟩))
    have hv : Ext w1 v := hx
    have c1 := hv.cell c1
    have c2 := hv.cell c2
    have HXV := Lib.hid hv
    clear c0 c5 hx hv
    clear HU HF HMU HON HUS
    go_wp2_with fail
    go_loopg [6, 7, 8] (nl) (fun k s6 s7 s8 wr => ∃ i : Nat, s6 = .int .i64 i ∧ i ≤ nl ∧ k = nl - i ∧ Hid (Ext v wr))
    case atStart => exact ⟨0, rfl, Nat.zero_le _, rfl, Ext.refl _⟩
    case round =>
      obtain ⟨i, rfl, hi, rfl, HXR⟩ := hrel
      have c1 := HXR.out.cell c1
      have c2 := HXR.out.cell c2
      by_cases hlt : i < nl
      · have hlt2 : i < S.files.length := by rw [HFL.out]; exact hlt
        obtain ⟨g, o, rfl, r0, r1, r2⟩ := (HR.out.ext (HX1.out.trans (HXV.out.trans HXR.out))) i _ (List.getElem?_eq_getElem hlt2)
        obtain ⟨bk, o3, rfl, _, hcn⟩ := (HSN.out.ext (HXV.out.trans HXR.out)) i (S.files[i].name) (by rw [List.getElem?_map, List.getElem?_eq_getElem hlt2]; rfl)
        have hfm : S.files[i] ∈ S.files := List.getElem_mem hlt2
        generalize S.files[i] = f at r0 r1 r2 hcn hfm
        have hfine := HGD.out.fine f hfm
        have hnz := (may_size hfine.name).2
        have hfd := hfine.data
        have hfk := hfine.kept
        have hget : get S.files f.name = some f := HGD.out.sorted.get hfm rfl
        have hrd := read_any d S F f.name (by omega) wr (HD1.out.ext (HXV.out.trans HXR.out))
        have hkp : ∀ u, Ext wr u → Calls Try.prog 32 #[.pointer (some ⟨d, 0, none⟩), .string f.name] u fun e w' => e = .returned (.int .i64 (f.kept : Nat)) ∧ w' = u := fun u k => by
          have := kept_any d S F f.name (by omega) u (HD1.out.ext ((HXV.out.trans HXR.out).trans k))
          rw [show keptOf S f.name = f.kept by unfold keptOf; rw [hget]; rfl] at this
          exact this.mono (fun _ _ hh => ⟨hh.1, hh.2.symm⟩)
        rw [show Dsk.read S f.name = (⟨#[]⟩, 7) by unfold Dsk.read; rw [HOFF.out, hget]; rfl] at hrd
        have HRD := Lib.hid hrd
        have HKP := Lib.hid hkp
        have i1 : (0 : Int) ≤ i := by omega
        have i2 : (i : Int) < ((nl : Nat) : Int) := by omega
        clear hrd hkp hget hfine hfm hlt2
        go_wp2_with fail
        refine HRD.out.mono ?_
        rintro e w4 ⟨rfl, rfl⟩
        go_wp2_with fail
        go_quiet ((go_at_call 32; exact Calls.quiet_of_same (HKP.out _ ((Ext.refl _).drewN _))))
        go_wp2_with fail
        go_roundg (nl - (i + 1))
        case measure => omega
        case rel => exact ⟨i + 1, by go_num, by omega, rfl, HXR.out.drewN nq⟩
      · have hlt' : ¬ (i : Int) < ((nl : Nat) : Int) := by omega
        go_wp2_with fail
        go_ret
        exact ⟨rfl, HX1.out.trans (HXV.out.trans HXR.out)⟩
end Go.Proofs.Ytmdkjcigmhgpeaa
