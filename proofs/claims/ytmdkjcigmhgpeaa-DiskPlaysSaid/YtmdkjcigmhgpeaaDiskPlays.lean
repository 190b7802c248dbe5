/- DiskPlays: whatever is done: each answer, and all files behind it. -/
import Derived.Test.YtmdkjcigmhgpeaaPair
namespace Go.Proofs.Ytmdkjcigmhgpeaa
open Go.RowKit Go.Maps Dsk

set_option maxRecDepth 20000 in
set_option maxHeartbeats 8000000 in
theorem diskplays_any (room : Int) (hroom : I64 room) (a : Option Addr) (c : Nat) (xs : List AD) (hN : xs.length ≤ 140737488355328) (hok : ∀ x ∈ xs, ADok x) (w : World) (hs : ActsAt w a xs) :
    Calls Try.prog 6 #[.int .i64 room, .slice a xs.length c] w fun e w' => e = .returned (.bool true) ∧ Ext w w' := by
  have HS := Lib.hid hs; clear hs
  have HK := Lib.hid hok; clear hok
  go_enter Try.func6, Try.ntmps6
  go_wp2_with fail
  refine (great_any a c xs hN HK.out w HS.out).mono ?_
  rintro e w0 ⟨rfl, rfl⟩
  cases hg : greatB xs with
  | true =>
    clear hg
    go_wp2_with fail
    refine (awake06_any w).mono ?_
    rintro e w1 ⟨rfl, hx⟩
    have HX := Lib.hid hx; clear hx
    go_wp2_with fail
    go_ret
    exact ⟨rfl, HX.out⟩
  | false =>
    have hgr := greatB_false hg
    have HGR := Lib.hid hgr
    have h50 : xs.length ≤ 50 := hgr.1
    clear hg hgr
    go_wp2_with fail
    refine (awake06_any w).mono ?_
    rintro e w1 ⟨rfl, hx⟩
    have HX1 := Lib.hid hx; clear hx
    by_cases hr0 : room < 0
    · go_wp2_with fail
      refine (new_none room (.inl hr0) w1).mono ?_
      rintro e w2 ⟨rfl, rfl⟩
      go_wp2_with fail
      go_ret
      exact ⟨rfl, HX1.out⟩
    by_cases hr1 : 16777216 < room
    · go_wp2_with fail
      refine (new_none room (.inr hr1) w1).mono ?_
      rintro e w2 ⟨rfl, rfl⟩
      go_wp2_with fail
      go_ret
      exact ⟨rfl, HX1.out⟩
    obtain ⟨r, rfl⟩ : ∃ r : Nat, room = r := ⟨room.toNat, by omega⟩
    have hr : r ≤ 16777216 := by omega
    clear hr0 hroom
    go_wp2_with fail
    refine (new_any r hr w1).mono ?_
    rintro e w2 ⟨d, rfl, hd, hx⟩
    have hp0 : Pair w1.heap.size (w2.alloc (.cells #[.int .i64 (r : Nat), .slice none 0 0, .bool false, .bool false, .int .i64 0, .int .i64 0] 44)) d w2.heap.size (new r) (new r) (fun b => w1.heap.size ≤ b ∧ b < w2.heap.size) (fun b => b = w2.heap.size) :=
      ⟨(hd.mono (fun b hb k => ⟨k, hb⟩)).ext ((Ext.refl w2).alloc _), model_new w2 r _ rfl, fun b hb e => by have := hb.2; omega, fun b hb => ⟨hb.1, by have := hb.2; simp; omega⟩, fun b e => by have := hx.size; subst e; simp; omega⟩
    have hx3 : Ext w1 (w2.alloc (.cells #[.int .i64 (r : Nat), .slice none 0 0, .bool false, .bool false, .int .i64 0, .int .i64 0] 44)) := hx.alloc _
    go_upto_region 7 with fail
    generalize (w2.alloc (.cells #[.int .i64 (r : Nat), .slice none 0 0, .bool false, .bool false, .int .i64 0, .int .i64 0] 44)) = w3 at hp0 hx3 ⊢
    generalize w2.heap.size = m at hp0 ⊢
    have HP0 := Lib.hid hp0
    have HX3 := Lib.hid hx3
    clear hp0 hx3 hd hx
    go_wp2_with fail
    go_loopg [7, 8, 9, 10, 11, 12, 13] (xs.length) (fun k s7 s8 s9 s10 s11 s12 s13 wr => ∃ (i : Nat) (S : DS) (F G : Nat → Prop), s7 = .int .i64 i ∧ i ≤ xs.length ∧ k = xs.length - i ∧ S.uses ≤ i ∧ Hid (Pair w1.heap.size wr d m S S F G) ∧ Hid (Ext w1 wr))
    case atStart => exact ⟨0, _, _, _, rfl, Nat.zero_le _, rfl, Nat.le_refl _, HP0.out, HX3.out⟩
    case round =>
      obtain ⟨i, S, F, G, rfl, hi, rfl, hus, HP, HX⟩ := hrel
      by_cases hlt : i < xs.length
      · obtain ⟨bk, o, ad, cd, ak, ck, rfl, hc, hv⟩ := HS.out i _ (List.getElem?_eq_getElem hlt)
        have hsm := small_of (HK.out _ (List.getElem_mem hlt)) (HGR.out.2 _ (List.getElem_mem hlt))
        have HCA := Lib.hid hc
        generalize xs[i] = x at hc hv hsm HCA
        have K := Lib.hid (HX1.out.trans HX.out)
        have c0 : wr.cell? ⟨bk, o + i * 6, none⟩ = some (.int .i64 x.kind) := K.out.cell (hc 0 _ rfl)
        have c1 : wr.cell? ⟨bk, o + i * 6 + 1, none⟩ = some (.string x.name) := by rw [Nat.add_assoc]; exact K.out.cell (hc 1 _ rfl)
        have c2 : wr.cell? ⟨bk, o + i * 6 + 2, none⟩ = some (.string x.dest) := by rw [Nat.add_assoc]; exact K.out.cell (hc 2 _ rfl)
        have c3 : wr.cell? ⟨bk, o + i * 6 + 3, none⟩ = some (.slice ad x.data.length cd) := by rw [Nat.add_assoc]; exact K.out.cell (hc 3 _ rfl)
        have c4 : wr.cell? ⟨bk, o + i * 6 + 4, none⟩ = some (.int .i64 x.n) := by rw [Nat.add_assoc]; exact K.out.cell (hc 4 _ rfl)
        have c5 : wr.cell? ⟨bk, o + i * 6 + 5, none⟩ = some (.slice ak x.keep.length ck) := by rw [Nat.add_assoc]; exact K.out.cell (hc 5 _ rfl)
        have HV := Lib.hid hv
        have HM := Lib.hid hsm
        have HAF := Lib.hid (show ∀ H : Nat → Prop, (∀ b, H b → w1.heap.size ≤ b) → x.data ≠ [] → ∀ bk o, ad = some ⟨bk, o, none⟩ → ¬ H bk from fun H hH hne bk o e hb => by
          have h1 := strs_low HV.out.2.1 hne bk o e
          have h2 := hH bk hb
          have h3 := HX1.out.size
          omega)
        have HKF := Lib.hid (show ∀ H : Nat → Prop, (∀ b, H b → w1.heap.size ≤ b) → x.keep ≠ [] → ∀ bk o, ak = some ⟨bk, o, none⟩ → ¬ H bk from fun H hH hne bk o e hb => by
          have h1 := ints_low HV.out.2.2.1 hne bk o e
          have h2 := hH bk hb
          have h3 := HX1.out.size
          omega)
        have HGD := Lib.hid HP.out.disk.good
        have hmany : S.files.length ≤ 100 := HGD.out.many
        have huse : S.uses < 4611686018427387904 := by omega
        have s1 := hsm.name
        have s2 := hsm.dest
        have s3 := hsm.data
        have s5 := hsm.n
        clear hc hv hsm HCA
        by_cases k0 : x.kind = 0
        · have hk := k0
          clear k0
          rw [hk] at c0
          obtain ⟨res, hres⟩ : ∃ res, res = doN 0 S x := ⟨_, rfl⟩
          have HUSE := Lib.hid (show res.2.uses ≤ i + 1 by rw [hres]; have := doN_uses 0 S x; omega)
          have HRS := Lib.hid hres; clear hres
          go_upto_region 11 with fail
          have hbrow : (wr.alloc (.cells #[.int .i64 0, .string x.name, .string x.dest, .slice ad x.data.length cd, .int .i64 x.n, .slice ak x.keep.length ck] 47)).heap[wr.heap.size]? = some (.cells #[.int .i64 0, .string x.name, .string x.dest, .slice ad x.data.length cd, .int .i64 x.n, .slice ak x.keep.length ck] 47 (0, 0)) := heap_alloc_new wr _
          have HXB := Lib.hid (show Ext wr (wr.alloc (.cells #[.int .i64 0, .string x.name, .string x.dest, .slice ad x.data.length cd, .int .i64 x.n, .slice ak x.keep.length ck] 47)) from (Ext.refl wr).alloc _)
          generalize (wr.alloc (.cells #[.int .i64 0, .string x.name, .string x.dest, .slice ad x.data.length cd, .int .i64 x.n, .slice ak x.keep.length ck] 47)) = wb at HXB hbrow ⊢
          have HBR := Lib.hid hbrow; clear hbrow
          have u0 : wb.cell? ⟨wr.heap.size, 0, none⟩ = some (.int .i64 0) := Go.Joins.cell_of_block HBR.out 0
          have u1 : wb.cell? ⟨wr.heap.size, 1, none⟩ = some (.string x.name) := Go.Joins.cell_of_block HBR.out 1
          have u2 : wb.cell? ⟨wr.heap.size, 2, none⟩ = some (.string x.dest) := Go.Joins.cell_of_block HBR.out 2
          have u3 : wb.cell? ⟨wr.heap.size, 3, none⟩ = some (.slice ad x.data.length cd) := Go.Joins.cell_of_block HBR.out 3
          have u4' : wb.cell? ⟨wr.heap.size, 4, none⟩ = some (.int .i64 x.n) := Go.Joins.cell_of_block HBR.out 4
          have u5' : wb.cell? ⟨wr.heap.size, 5, none⟩ = some (.slice ak x.keep.length ck) := Go.Joins.cell_of_block HBR.out 5
          have HPB := Lib.hid (HP.out.ext HXB.out)
          have hdo := do0_any d S F x ad cd ak ck hk HM.out huse wb HPB.out.disk (HV.out.ext (K.out.trans HXB.out)) (HAF.out F (fun b hb => (HP.out.inF b hb).1)) (HKF.out F (fun b hb => (HP.out.inF b hb).1)) (fun b hb => (HPB.out.inF b hb).2)
          rw [hk, show append S x.name x.data = res from HRS.out.symm] at hdo
          have HDO := Lib.hid hdo; clear hdo
          clear c0 c1 c2 c3 c4 c5
          go_wp2_with fail
          refine HDO.out.mono ?_
          rintro e w4 ⟨rfl, hl⟩
          have hnF : ¬ F wr.heap.size := fun hb => by have := (HP.out.inF _ hb).2; omega
          have u0 := hl.2.cell u0 hnF
          have u1 := hl.2.cell u1 hnF
          have u2 := hl.2.cell u2 hnF
          have u3 := hl.2.cell u3 hnF
          have u4' := hl.2.cell u4' hnF
          have u5' := hl.2.cell u5' hnF
          obtain ⟨F2, hP2, hB2⟩ := HPB.out.left (HX.out.trans HXB.out).size hl
          have HP2 := Lib.hid hP2
          have HX2 := Lib.hid (Below.trans (HX.out.trans HXB.out) hB2 : Ext w1 w4)
          clear hl hnF hP2 hB2 HDO
          go_wp2_with fail
          refine (find_any m S G x.name (by omega) w4 HP2.out.model).mono ?_
          rintro e w5 ⟨rfl, hx5⟩
          have u0 := Ext.cell hx5 u0
          have u1 := Ext.cell hx5 u1
          have u2 := Ext.cell hx5 u2
          have u3 := Ext.cell hx5 u3
          have u4' := Ext.cell hx5 u4'
          have u5' := Ext.cell hx5 u5'
          have HP5 := Lib.hid (HP2.out.ext hx5)
          have HX5 := Lib.hid (Ext.trans HX2.out hx5); clear hx5
          have hds := does0_any m S G x ad cd ak ck hk HGD.out huse s3 HM.out.datum s1 s2 s5 w5 (HV.out.ext (HX1.out.trans HX5.out)) (HAF.out G (fun b hb => (HP5.out.inG b hb).1)) (fun b hb => (HP5.out.inG b hb).2) HP5.out.model
          rw [hk, ← HRS.out] at hds
          have HDS := Lib.hid hds; clear hds
          go_wp2_with fail
          refine HDS.out.mono ?_
          rintro e w6 ⟨rfl, hm, ho⟩
          obtain ⟨G2, hP6, hB6⟩ := HP5.out.turn HX5.out.size hm ho
          have HP6 := Lib.hid hP6
          have HX6 := Lib.hid (Below.trans HX5.out hB6 : Ext w1 w6)
          clear hm ho hP6 hB6 u0 u1 u2 u3 u4' u5'
          clear HDS
          go_wp2_with fail
          refine (same06_any d m res.2 F2 G2 w6 HP6.out.disk HP6.out.model).mono ?_
          rintro e w7 ⟨rfl, hx7⟩
          have HP7 := Lib.hid (HP6.out.ext hx7)
          have HX7 := Lib.hid (Ext.trans HX6.out hx7); clear hx7
          go_wp2_with fail
          go_roundg (xs.length - (i + 1))
          case measure => omega
          case rel => exact ⟨i + 1, res.2, F2, G2, by go_num, by omega, rfl, HUSE.out, HP7.out, HX7.out⟩
        by_cases k1 : x.kind = 1
        · have hk := k1
          clear k1
          rw [hk] at c0
          obtain ⟨res, hres⟩ : ∃ res, res = doN 1 S x := ⟨_, rfl⟩
          have HUSE := Lib.hid (show res.2.uses ≤ i + 1 by rw [hres]; have := doN_uses 1 S x; omega)
          have HRS := Lib.hid hres; clear hres
          go_upto_region 11 with fail
          have hbrow : (wr.alloc (.cells #[.int .i64 1, .string x.name, .string x.dest, .slice ad x.data.length cd, .int .i64 x.n, .slice ak x.keep.length ck] 47)).heap[wr.heap.size]? = some (.cells #[.int .i64 1, .string x.name, .string x.dest, .slice ad x.data.length cd, .int .i64 x.n, .slice ak x.keep.length ck] 47 (0, 0)) := heap_alloc_new wr _
          have HXB := Lib.hid (show Ext wr (wr.alloc (.cells #[.int .i64 1, .string x.name, .string x.dest, .slice ad x.data.length cd, .int .i64 x.n, .slice ak x.keep.length ck] 47)) from (Ext.refl wr).alloc _)
          generalize (wr.alloc (.cells #[.int .i64 1, .string x.name, .string x.dest, .slice ad x.data.length cd, .int .i64 x.n, .slice ak x.keep.length ck] 47)) = wb at HXB hbrow ⊢
          have HBR := Lib.hid hbrow; clear hbrow
          have u0 : wb.cell? ⟨wr.heap.size, 0, none⟩ = some (.int .i64 1) := Go.Joins.cell_of_block HBR.out 0
          have u1 : wb.cell? ⟨wr.heap.size, 1, none⟩ = some (.string x.name) := Go.Joins.cell_of_block HBR.out 1
          have u2 : wb.cell? ⟨wr.heap.size, 2, none⟩ = some (.string x.dest) := Go.Joins.cell_of_block HBR.out 2
          have u3 : wb.cell? ⟨wr.heap.size, 3, none⟩ = some (.slice ad x.data.length cd) := Go.Joins.cell_of_block HBR.out 3
          have u4' : wb.cell? ⟨wr.heap.size, 4, none⟩ = some (.int .i64 x.n) := Go.Joins.cell_of_block HBR.out 4
          have u5' : wb.cell? ⟨wr.heap.size, 5, none⟩ = some (.slice ak x.keep.length ck) := Go.Joins.cell_of_block HBR.out 5
          have HPB := Lib.hid (HP.out.ext HXB.out)
          have hdo := do1_any d S F x ad cd ak ck hk HM.out huse wb HPB.out.disk (HV.out.ext (K.out.trans HXB.out)) (HAF.out F (fun b hb => (HP.out.inF b hb).1)) (HKF.out F (fun b hb => (HP.out.inF b hb).1)) (fun b hb => (HPB.out.inF b hb).2)
          rw [hk, show sync S (x.name :: x.data) = res from HRS.out.symm] at hdo
          have HDO := Lib.hid hdo; clear hdo
          clear c0 c1 c2 c3 c4 c5
          go_wp2_with fail
          refine HDO.out.mono ?_
          rintro e w4 ⟨rfl, hl⟩
          have hnF : ¬ F wr.heap.size := fun hb => by have := (HP.out.inF _ hb).2; omega
          have u0 := hl.2.cell u0 hnF
          have u1 := hl.2.cell u1 hnF
          have u2 := hl.2.cell u2 hnF
          have u3 := hl.2.cell u3 hnF
          have u4' := hl.2.cell u4' hnF
          have u5' := hl.2.cell u5' hnF
          obtain ⟨F2, hP2, hB2⟩ := HPB.out.left (HX.out.trans HXB.out).size hl
          have HP2 := Lib.hid hP2
          have HX2 := Lib.hid (Below.trans (HX.out.trans HXB.out) hB2 : Ext w1 w4)
          clear hl hnF hP2 hB2 HDO
          go_wp2_with fail
          refine (find_any m S G x.name (by omega) w4 HP2.out.model).mono ?_
          rintro e w5 ⟨rfl, hx5⟩
          have u0 := Ext.cell hx5 u0
          have u1 := Ext.cell hx5 u1
          have u2 := Ext.cell hx5 u2
          have u3 := Ext.cell hx5 u3
          have u4' := Ext.cell hx5 u4'
          have u5' := Ext.cell hx5 u5'
          have HP5 := Lib.hid (HP2.out.ext hx5)
          have HX5 := Lib.hid (Ext.trans HX2.out hx5); clear hx5
          have hds := does1_any m S G x ad cd ak ck hk HGD.out huse s3 HM.out.datum s1 s2 s5 w5 (HV.out.ext (HX1.out.trans HX5.out)) (HAF.out G (fun b hb => (HP5.out.inG b hb).1)) (fun b hb => (HP5.out.inG b hb).2) HP5.out.model
          rw [hk, ← HRS.out] at hds
          have HDS := Lib.hid hds; clear hds
          go_wp2_with fail
          refine HDS.out.mono ?_
          rintro e w6 ⟨rfl, hm, ho⟩
          obtain ⟨G2, hP6, hB6⟩ := HP5.out.turn HX5.out.size hm ho
          have HP6 := Lib.hid hP6
          have HX6 := Lib.hid (Below.trans HX5.out hB6 : Ext w1 w6)
          clear hm ho hP6 hB6 u0 u1 u2 u3 u4' u5'
          clear HDS
          go_wp2_with fail
          refine (same06_any d m res.2 F2 G2 w6 HP6.out.disk HP6.out.model).mono ?_
          rintro e w7 ⟨rfl, hx7⟩
          have HP7 := Lib.hid (HP6.out.ext hx7)
          have HX7 := Lib.hid (Ext.trans HX6.out hx7); clear hx7
          go_wp2_with fail
          go_roundg (xs.length - (i + 1))
          case measure => omega
          case rel => exact ⟨i + 1, res.2, F2, G2, by go_num, by omega, rfl, HUSE.out, HP7.out, HX7.out⟩
        by_cases k2 : x.kind = 2
        · have hk := k2
          clear k2
          rw [hk] at c0
          obtain ⟨res, hres⟩ : ∃ res, res = doN 2 S x := ⟨_, rfl⟩
          have HUSE := Lib.hid (show res.2.uses ≤ i + 1 by rw [hres]; have := doN_uses 2 S x; omega)
          have HRS := Lib.hid hres; clear hres
          go_upto_region 11 with fail
          have hbrow : (wr.alloc (.cells #[.int .i64 2, .string x.name, .string x.dest, .slice ad x.data.length cd, .int .i64 x.n, .slice ak x.keep.length ck] 47)).heap[wr.heap.size]? = some (.cells #[.int .i64 2, .string x.name, .string x.dest, .slice ad x.data.length cd, .int .i64 x.n, .slice ak x.keep.length ck] 47 (0, 0)) := heap_alloc_new wr _
          have HXB := Lib.hid (show Ext wr (wr.alloc (.cells #[.int .i64 2, .string x.name, .string x.dest, .slice ad x.data.length cd, .int .i64 x.n, .slice ak x.keep.length ck] 47)) from (Ext.refl wr).alloc _)
          generalize (wr.alloc (.cells #[.int .i64 2, .string x.name, .string x.dest, .slice ad x.data.length cd, .int .i64 x.n, .slice ak x.keep.length ck] 47)) = wb at HXB hbrow ⊢
          have HBR := Lib.hid hbrow; clear hbrow
          have u0 : wb.cell? ⟨wr.heap.size, 0, none⟩ = some (.int .i64 2) := Go.Joins.cell_of_block HBR.out 0
          have u1 : wb.cell? ⟨wr.heap.size, 1, none⟩ = some (.string x.name) := Go.Joins.cell_of_block HBR.out 1
          have u2 : wb.cell? ⟨wr.heap.size, 2, none⟩ = some (.string x.dest) := Go.Joins.cell_of_block HBR.out 2
          have u3 : wb.cell? ⟨wr.heap.size, 3, none⟩ = some (.slice ad x.data.length cd) := Go.Joins.cell_of_block HBR.out 3
          have u4' : wb.cell? ⟨wr.heap.size, 4, none⟩ = some (.int .i64 x.n) := Go.Joins.cell_of_block HBR.out 4
          have u5' : wb.cell? ⟨wr.heap.size, 5, none⟩ = some (.slice ak x.keep.length ck) := Go.Joins.cell_of_block HBR.out 5
          have HPB := Lib.hid (HP.out.ext HXB.out)
          have hdo := do2_any d S F x ad cd ak ck hk HM.out huse wb HPB.out.disk (HV.out.ext (K.out.trans HXB.out)) (HAF.out F (fun b hb => (HP.out.inF b hb).1)) (HKF.out F (fun b hb => (HP.out.inF b hb).1)) (fun b hb => (HPB.out.inF b hb).2)
          rw [hk, show rename S x.name x.dest = res from HRS.out.symm] at hdo
          have HDO := Lib.hid hdo; clear hdo
          clear c0 c1 c2 c3 c4 c5
          go_wp2_with fail
          refine HDO.out.mono ?_
          rintro e w4 ⟨rfl, hl⟩
          have hnF : ¬ F wr.heap.size := fun hb => by have := (HP.out.inF _ hb).2; omega
          have u0 := hl.2.cell u0 hnF
          have u1 := hl.2.cell u1 hnF
          have u2 := hl.2.cell u2 hnF
          have u3 := hl.2.cell u3 hnF
          have u4' := hl.2.cell u4' hnF
          have u5' := hl.2.cell u5' hnF
          obtain ⟨F2, hP2, hB2⟩ := HPB.out.left (HX.out.trans HXB.out).size hl
          have HP2 := Lib.hid hP2
          have HX2 := Lib.hid (Below.trans (HX.out.trans HXB.out) hB2 : Ext w1 w4)
          clear hl hnF hP2 hB2 HDO
          go_wp2_with fail
          refine (find_any m S G x.name (by omega) w4 HP2.out.model).mono ?_
          rintro e w5 ⟨rfl, hx5⟩
          have u0 := Ext.cell hx5 u0
          have u1 := Ext.cell hx5 u1
          have u2 := Ext.cell hx5 u2
          have u3 := Ext.cell hx5 u3
          have u4' := Ext.cell hx5 u4'
          have u5' := Ext.cell hx5 u5'
          have HP5 := Lib.hid (HP2.out.ext hx5)
          have HX5 := Lib.hid (Ext.trans HX2.out hx5); clear hx5
          have hds := does2_any m S G x ad cd ak ck hk HGD.out huse s3 HM.out.datum s1 s2 s5 w5 (HV.out.ext (HX1.out.trans HX5.out)) (HAF.out G (fun b hb => (HP5.out.inG b hb).1)) (fun b hb => (HP5.out.inG b hb).2) HP5.out.model
          rw [hk, ← HRS.out] at hds
          have HDS := Lib.hid hds; clear hds
          go_wp2_with fail
          refine HDS.out.mono ?_
          rintro e w6 ⟨rfl, hm, ho⟩
          obtain ⟨G2, hP6, hB6⟩ := HP5.out.turn HX5.out.size hm ho
          have HP6 := Lib.hid hP6
          have HX6 := Lib.hid (Below.trans HX5.out hB6 : Ext w1 w6)
          clear hm ho hP6 hB6 u0 u1 u2 u3 u4' u5'
          clear HDS
          go_wp2_with fail
          refine (same06_any d m res.2 F2 G2 w6 HP6.out.disk HP6.out.model).mono ?_
          rintro e w7 ⟨rfl, hx7⟩
          have HP7 := Lib.hid (HP6.out.ext hx7)
          have HX7 := Lib.hid (Ext.trans HX6.out hx7); clear hx7
          go_wp2_with fail
          go_roundg (xs.length - (i + 1))
          case measure => omega
          case rel => exact ⟨i + 1, res.2, F2, G2, by go_num, by omega, rfl, HUSE.out, HP7.out, HX7.out⟩
        by_cases k3 : x.kind = 3
        · have hk := k3
          clear k3
          rw [hk] at c0
          obtain ⟨res, hres⟩ : ∃ res, res = doN 3 S x := ⟨_, rfl⟩
          have HUSE := Lib.hid (show res.2.uses ≤ i + 1 by rw [hres]; have := doN_uses 3 S x; omega)
          have HRS := Lib.hid hres; clear hres
          go_upto_region 11 with fail
          have hbrow : (wr.alloc (.cells #[.int .i64 3, .string x.name, .string x.dest, .slice ad x.data.length cd, .int .i64 x.n, .slice ak x.keep.length ck] 47)).heap[wr.heap.size]? = some (.cells #[.int .i64 3, .string x.name, .string x.dest, .slice ad x.data.length cd, .int .i64 x.n, .slice ak x.keep.length ck] 47 (0, 0)) := heap_alloc_new wr _
          have HXB := Lib.hid (show Ext wr (wr.alloc (.cells #[.int .i64 3, .string x.name, .string x.dest, .slice ad x.data.length cd, .int .i64 x.n, .slice ak x.keep.length ck] 47)) from (Ext.refl wr).alloc _)
          generalize (wr.alloc (.cells #[.int .i64 3, .string x.name, .string x.dest, .slice ad x.data.length cd, .int .i64 x.n, .slice ak x.keep.length ck] 47)) = wb at HXB hbrow ⊢
          have HBR := Lib.hid hbrow; clear hbrow
          have u0 : wb.cell? ⟨wr.heap.size, 0, none⟩ = some (.int .i64 3) := Go.Joins.cell_of_block HBR.out 0
          have u1 : wb.cell? ⟨wr.heap.size, 1, none⟩ = some (.string x.name) := Go.Joins.cell_of_block HBR.out 1
          have u2 : wb.cell? ⟨wr.heap.size, 2, none⟩ = some (.string x.dest) := Go.Joins.cell_of_block HBR.out 2
          have u3 : wb.cell? ⟨wr.heap.size, 3, none⟩ = some (.slice ad x.data.length cd) := Go.Joins.cell_of_block HBR.out 3
          have u4' : wb.cell? ⟨wr.heap.size, 4, none⟩ = some (.int .i64 x.n) := Go.Joins.cell_of_block HBR.out 4
          have u5' : wb.cell? ⟨wr.heap.size, 5, none⟩ = some (.slice ak x.keep.length ck) := Go.Joins.cell_of_block HBR.out 5
          have HPB := Lib.hid (HP.out.ext HXB.out)
          have hdo := do3_any d S F x ad cd ak ck hk HM.out huse wb HPB.out.disk (HV.out.ext (K.out.trans HXB.out)) (HAF.out F (fun b hb => (HP.out.inF b hb).1)) (HKF.out F (fun b hb => (HP.out.inF b hb).1)) (fun b hb => (HPB.out.inF b hb).2)
          rw [hk, show delete S x.name = res from HRS.out.symm] at hdo
          have HDO := Lib.hid hdo; clear hdo
          clear c0 c1 c2 c3 c4 c5
          go_wp2_with fail
          refine HDO.out.mono ?_
          rintro e w4 ⟨rfl, hl⟩
          have hnF : ¬ F wr.heap.size := fun hb => by have := (HP.out.inF _ hb).2; omega
          have u0 := hl.2.cell u0 hnF
          have u1 := hl.2.cell u1 hnF
          have u2 := hl.2.cell u2 hnF
          have u3 := hl.2.cell u3 hnF
          have u4' := hl.2.cell u4' hnF
          have u5' := hl.2.cell u5' hnF
          obtain ⟨F2, hP2, hB2⟩ := HPB.out.left (HX.out.trans HXB.out).size hl
          have HP2 := Lib.hid hP2
          have HX2 := Lib.hid (Below.trans (HX.out.trans HXB.out) hB2 : Ext w1 w4)
          clear hl hnF hP2 hB2 HDO
          go_wp2_with fail
          refine (find_any m S G x.name (by omega) w4 HP2.out.model).mono ?_
          rintro e w5 ⟨rfl, hx5⟩
          have u0 := Ext.cell hx5 u0
          have u1 := Ext.cell hx5 u1
          have u2 := Ext.cell hx5 u2
          have u3 := Ext.cell hx5 u3
          have u4' := Ext.cell hx5 u4'
          have u5' := Ext.cell hx5 u5'
          have HP5 := Lib.hid (HP2.out.ext hx5)
          have HX5 := Lib.hid (Ext.trans HX2.out hx5); clear hx5
          have hds := does3_any m S G x ad cd ak ck hk HGD.out huse s3 HM.out.datum s1 s2 s5 w5 (HV.out.ext (HX1.out.trans HX5.out)) (HAF.out G (fun b hb => (HP5.out.inG b hb).1)) (fun b hb => (HP5.out.inG b hb).2) HP5.out.model
          rw [hk, ← HRS.out] at hds
          have HDS := Lib.hid hds; clear hds
          go_wp2_with fail
          refine HDS.out.mono ?_
          rintro e w6 ⟨rfl, hm, ho⟩
          obtain ⟨G2, hP6, hB6⟩ := HP5.out.turn HX5.out.size hm ho
          have HP6 := Lib.hid hP6
          have HX6 := Lib.hid (Below.trans HX5.out hB6 : Ext w1 w6)
          clear hm ho hP6 hB6 u0 u1 u2 u3 u4' u5'
          clear HDS
          go_wp2_with fail
          refine (same06_any d m res.2 F2 G2 w6 HP6.out.disk HP6.out.model).mono ?_
          rintro e w7 ⟨rfl, hx7⟩
          have HP7 := Lib.hid (HP6.out.ext hx7)
          have HX7 := Lib.hid (Ext.trans HX6.out hx7); clear hx7
          go_wp2_with fail
          go_roundg (xs.length - (i + 1))
          case measure => omega
          case rel => exact ⟨i + 1, res.2, F2, G2, by go_num, by omega, rfl, HUSE.out, HP7.out, HX7.out⟩
        by_cases k4 : x.kind = 4
        · have hk := k4
          clear k4
          rw [hk] at c0
          obtain ⟨res, hres⟩ : ∃ res, res = doN 4 S x := ⟨_, rfl⟩
          have HUSE := Lib.hid (show res.2.uses ≤ i + 1 by rw [hres]; have := doN_uses 4 S x; omega)
          have HRS := Lib.hid hres; clear hres
          go_upto_region 11 with fail
          have hbrow : (wr.alloc (.cells #[.int .i64 4, .string x.name, .string x.dest, .slice ad x.data.length cd, .int .i64 x.n, .slice ak x.keep.length ck] 47)).heap[wr.heap.size]? = some (.cells #[.int .i64 4, .string x.name, .string x.dest, .slice ad x.data.length cd, .int .i64 x.n, .slice ak x.keep.length ck] 47 (0, 0)) := heap_alloc_new wr _
          have HXB := Lib.hid (show Ext wr (wr.alloc (.cells #[.int .i64 4, .string x.name, .string x.dest, .slice ad x.data.length cd, .int .i64 x.n, .slice ak x.keep.length ck] 47)) from (Ext.refl wr).alloc _)
          generalize (wr.alloc (.cells #[.int .i64 4, .string x.name, .string x.dest, .slice ad x.data.length cd, .int .i64 x.n, .slice ak x.keep.length ck] 47)) = wb at HXB hbrow ⊢
          have HBR := Lib.hid hbrow; clear hbrow
          have u0 : wb.cell? ⟨wr.heap.size, 0, none⟩ = some (.int .i64 4) := Go.Joins.cell_of_block HBR.out 0
          have u1 : wb.cell? ⟨wr.heap.size, 1, none⟩ = some (.string x.name) := Go.Joins.cell_of_block HBR.out 1
          have u2 : wb.cell? ⟨wr.heap.size, 2, none⟩ = some (.string x.dest) := Go.Joins.cell_of_block HBR.out 2
          have u3 : wb.cell? ⟨wr.heap.size, 3, none⟩ = some (.slice ad x.data.length cd) := Go.Joins.cell_of_block HBR.out 3
          have u4' : wb.cell? ⟨wr.heap.size, 4, none⟩ = some (.int .i64 x.n) := Go.Joins.cell_of_block HBR.out 4
          have u5' : wb.cell? ⟨wr.heap.size, 5, none⟩ = some (.slice ak x.keep.length ck) := Go.Joins.cell_of_block HBR.out 5
          have HPB := Lib.hid (HP.out.ext HXB.out)
          have hdo := do4_any d S F x ad cd ak ck hk HM.out huse wb HPB.out.disk (HV.out.ext (K.out.trans HXB.out)) (HAF.out F (fun b hb => (HP.out.inF b hb).1)) (HKF.out F (fun b hb => (HP.out.inF b hb).1)) (fun b hb => (HPB.out.inF b hb).2)
          rw [hk, show cut S x.name x.n = res from HRS.out.symm] at hdo
          have HDO := Lib.hid hdo; clear hdo
          clear c0 c1 c2 c3 c4 c5
          go_wp2_with fail
          refine HDO.out.mono ?_
          rintro e w4 ⟨rfl, hl⟩
          have hnF : ¬ F wr.heap.size := fun hb => by have := (HP.out.inF _ hb).2; omega
          have u0 := hl.2.cell u0 hnF
          have u1 := hl.2.cell u1 hnF
          have u2 := hl.2.cell u2 hnF
          have u3 := hl.2.cell u3 hnF
          have u4' := hl.2.cell u4' hnF
          have u5' := hl.2.cell u5' hnF
          obtain ⟨F2, hP2, hB2⟩ := HPB.out.left (HX.out.trans HXB.out).size hl
          have HP2 := Lib.hid hP2
          have HX2 := Lib.hid (Below.trans (HX.out.trans HXB.out) hB2 : Ext w1 w4)
          clear hl hnF hP2 hB2 HDO
          go_wp2_with fail
          refine (find_any m S G x.name (by omega) w4 HP2.out.model).mono ?_
          rintro e w5 ⟨rfl, hx5⟩
          have u0 := Ext.cell hx5 u0
          have u1 := Ext.cell hx5 u1
          have u2 := Ext.cell hx5 u2
          have u3 := Ext.cell hx5 u3
          have u4' := Ext.cell hx5 u4'
          have u5' := Ext.cell hx5 u5'
          have HP5 := Lib.hid (HP2.out.ext hx5)
          have HX5 := Lib.hid (Ext.trans HX2.out hx5); clear hx5
          have hds := does4_any m S G x ad cd ak ck hk HGD.out huse s3 HM.out.datum s1 s2 s5 w5 (HV.out.ext (HX1.out.trans HX5.out)) (HAF.out G (fun b hb => (HP5.out.inG b hb).1)) (fun b hb => (HP5.out.inG b hb).2) HP5.out.model
          rw [hk, ← HRS.out] at hds
          have HDS := Lib.hid hds; clear hds
          go_wp2_with fail
          refine HDS.out.mono ?_
          rintro e w6 ⟨rfl, hm, ho⟩
          obtain ⟨G2, hP6, hB6⟩ := HP5.out.turn HX5.out.size hm ho
          have HP6 := Lib.hid hP6
          have HX6 := Lib.hid (Below.trans HX5.out hB6 : Ext w1 w6)
          clear hm ho hP6 hB6 u0 u1 u2 u3 u4' u5'
          clear HDS
          go_wp2_with fail
          refine (same06_any d m res.2 F2 G2 w6 HP6.out.disk HP6.out.model).mono ?_
          rintro e w7 ⟨rfl, hx7⟩
          have HP7 := Lib.hid (HP6.out.ext hx7)
          have HX7 := Lib.hid (Ext.trans HX6.out hx7); clear hx7
          go_wp2_with fail
          go_roundg (xs.length - (i + 1))
          case measure => omega
          case rel => exact ⟨i + 1, res.2, F2, G2, by go_num, by omega, rfl, HUSE.out, HP7.out, HX7.out⟩
        by_cases k5 : x.kind = 5
        · have hk := k5
          clear k5
          cases hoff : S.off with
          | true =>
            rw [hk] at c0
            have hread : Dsk.read S x.name = (⟨#[]⟩, 7) := by unfold Dsk.read; rw [hoff]; rfl
            have HUSE := Lib.hid (show S.uses ≤ i + 1 by omega)
            have HOFF := Lib.hid hoff; clear hoff
            go_upto_region 11 with fail
            have hbrow : (wr.alloc (.cells #[.int .i64 5, .string x.name, .string x.dest, .slice ad x.data.length cd, .int .i64 x.n, .slice ak x.keep.length ck] 47)).heap[wr.heap.size]? = some (.cells #[.int .i64 5, .string x.name, .string x.dest, .slice ad x.data.length cd, .int .i64 x.n, .slice ak x.keep.length ck] 47 (0, 0)) := heap_alloc_new wr _
            have HXB := Lib.hid (show Ext wr (wr.alloc (.cells #[.int .i64 5, .string x.name, .string x.dest, .slice ad x.data.length cd, .int .i64 x.n, .slice ak x.keep.length ck] 47)) from (Ext.refl wr).alloc _)
            generalize (wr.alloc (.cells #[.int .i64 5, .string x.name, .string x.dest, .slice ad x.data.length cd, .int .i64 x.n, .slice ak x.keep.length ck] 47)) = wb at HXB hbrow ⊢
            have HBR := Lib.hid hbrow; clear hbrow
            have u0 : wb.cell? ⟨wr.heap.size, 0, none⟩ = some (.int .i64 5) := Go.Joins.cell_of_block HBR.out 0
            have u1 : wb.cell? ⟨wr.heap.size, 1, none⟩ = some (.string x.name) := Go.Joins.cell_of_block HBR.out 1
            have u2 : wb.cell? ⟨wr.heap.size, 2, none⟩ = some (.string x.dest) := Go.Joins.cell_of_block HBR.out 2
            have u3 : wb.cell? ⟨wr.heap.size, 3, none⟩ = some (.slice ad x.data.length cd) := Go.Joins.cell_of_block HBR.out 3
            have u4' : wb.cell? ⟨wr.heap.size, 4, none⟩ = some (.int .i64 x.n) := Go.Joins.cell_of_block HBR.out 4
            have u5' : wb.cell? ⟨wr.heap.size, 5, none⟩ = some (.slice ak x.keep.length ck) := Go.Joins.cell_of_block HBR.out 5
            have HPB := Lib.hid (HP.out.ext HXB.out)
            have hdo := do5_any d S F x ad cd ak ck hk HM.out huse wb HPB.out.disk (HV.out.ext (K.out.trans HXB.out)) (HAF.out F (fun b hb => (HP.out.inF b hb).1)) (HKF.out F (fun b hb => (HP.out.inF b hb).1)) (fun b hb => (HPB.out.inF b hb).2)
            rw [hk, hread] at hdo
            clear hread
            dsimp only at hdo
            have HDO := Lib.hid hdo; clear hdo
            clear c0 c1 c2 c3 c4 c5
            go_wp2_with fail
            refine HDO.out.mono ?_
            rintro e w4 ⟨rfl, hl⟩
            have hnF : ¬ F wr.heap.size := fun hb => by have := (HP.out.inF _ hb).2; omega
            have u0 := hl.2.cell u0 hnF
            have u1 := hl.2.cell u1 hnF
            have u2 := hl.2.cell u2 hnF
            have u3 := hl.2.cell u3 hnF
            have u4' := hl.2.cell u4' hnF
            have u5' := hl.2.cell u5' hnF
            obtain ⟨F2, hP2, hB2⟩ := HPB.out.left (HX.out.trans HXB.out).size hl
            have HP2 := Lib.hid hP2
            have HX2 := Lib.hid (Below.trans (HX.out.trans HXB.out) hB2 : Ext w1 w4)
            clear hl hnF hP2 hB2 HDO
            go_wp2_with fail
            refine (find_any m S G x.name (by omega) w4 HP2.out.model).mono ?_
            rintro e w5 ⟨rfl, hx5⟩
            have u0 := Ext.cell hx5 u0
            have u1 := Ext.cell hx5 u1
            have u2 := Ext.cell hx5 u2
            have u3 := Ext.cell hx5 u3
            have u4' := Ext.cell hx5 u4'
            have u5' := Ext.cell hx5 u5'
            have HP5 := Lib.hid (HP2.out.ext hx5)
            have HX5 := Lib.hid (Ext.trans HX2.out hx5); clear hx5
            obtain ⟨sl, hmi, hm1, hm2⟩ := HP5.out.model
            have e2 := MRow.c2 hmi.row
            rw [HOFF.out] at e2
            clear hmi hm1 hm2
            go_wp2_with fail
            refine (same06_any d m S F2 G w5 HP5.out.disk HP5.out.model).mono ?_
            rintro e w7 ⟨rfl, hx7⟩
            have HP7 := Lib.hid (HP5.out.ext hx7)
            have HX7 := Lib.hid (Ext.trans HX5.out hx7); clear hx7
            go_wp2_with fail
            go_roundg (xs.length - (i + 1))
            case measure => omega
            case rel => exact ⟨i + 1, S, F2, G, by go_num, by omega, rfl, HUSE.out, HP7.out, HX7.out⟩
          | false =>
            have HOFF := Lib.hid hoff; clear hoff
            cases hgt : get S.files x.name with
            | none =>
              rw [hk] at c0
              have hread : Dsk.read S x.name = (⟨#[]⟩, 8) := by unfold Dsk.read; rw [HOFF.out, hgt]; rfl
              have HUSE := Lib.hid (show S.uses ≤ i + 1 by omega)
              have HFX := Lib.hid (fidx_none hgt); clear hgt
              go_upto_region 11 with fail
              have hbrow : (wr.alloc (.cells #[.int .i64 5, .string x.name, .string x.dest, .slice ad x.data.length cd, .int .i64 x.n, .slice ak x.keep.length ck] 47)).heap[wr.heap.size]? = some (.cells #[.int .i64 5, .string x.name, .string x.dest, .slice ad x.data.length cd, .int .i64 x.n, .slice ak x.keep.length ck] 47 (0, 0)) := heap_alloc_new wr _
              have HXB := Lib.hid (show Ext wr (wr.alloc (.cells #[.int .i64 5, .string x.name, .string x.dest, .slice ad x.data.length cd, .int .i64 x.n, .slice ak x.keep.length ck] 47)) from (Ext.refl wr).alloc _)
              generalize (wr.alloc (.cells #[.int .i64 5, .string x.name, .string x.dest, .slice ad x.data.length cd, .int .i64 x.n, .slice ak x.keep.length ck] 47)) = wb at HXB hbrow ⊢
              have HBR := Lib.hid hbrow; clear hbrow
              have u0 : wb.cell? ⟨wr.heap.size, 0, none⟩ = some (.int .i64 5) := Go.Joins.cell_of_block HBR.out 0
              have u1 : wb.cell? ⟨wr.heap.size, 1, none⟩ = some (.string x.name) := Go.Joins.cell_of_block HBR.out 1
              have u2 : wb.cell? ⟨wr.heap.size, 2, none⟩ = some (.string x.dest) := Go.Joins.cell_of_block HBR.out 2
              have u3 : wb.cell? ⟨wr.heap.size, 3, none⟩ = some (.slice ad x.data.length cd) := Go.Joins.cell_of_block HBR.out 3
              have u4' : wb.cell? ⟨wr.heap.size, 4, none⟩ = some (.int .i64 x.n) := Go.Joins.cell_of_block HBR.out 4
              have u5' : wb.cell? ⟨wr.heap.size, 5, none⟩ = some (.slice ak x.keep.length ck) := Go.Joins.cell_of_block HBR.out 5
              have HPB := Lib.hid (HP.out.ext HXB.out)
              have hdo := do5_any d S F x ad cd ak ck hk HM.out huse wb HPB.out.disk (HV.out.ext (K.out.trans HXB.out)) (HAF.out F (fun b hb => (HP.out.inF b hb).1)) (HKF.out F (fun b hb => (HP.out.inF b hb).1)) (fun b hb => (HPB.out.inF b hb).2)
              rw [hk, hread] at hdo
              clear hread
              dsimp only at hdo
              have HDO := Lib.hid hdo; clear hdo
              clear c0 c1 c2 c3 c4 c5
              go_wp2_with fail
              refine HDO.out.mono ?_
              rintro e w4 ⟨rfl, hl⟩
              have hnF : ¬ F wr.heap.size := fun hb => by have := (HP.out.inF _ hb).2; omega
              have u0 := hl.2.cell u0 hnF
              have u1 := hl.2.cell u1 hnF
              have u2 := hl.2.cell u2 hnF
              have u3 := hl.2.cell u3 hnF
              have u4' := hl.2.cell u4' hnF
              have u5' := hl.2.cell u5' hnF
              obtain ⟨F2, hP2, hB2⟩ := HPB.out.left (HX.out.trans HXB.out).size hl
              have HP2 := Lib.hid hP2
              have HX2 := Lib.hid (Below.trans (HX.out.trans HXB.out) hB2 : Ext w1 w4)
              clear hl hnF hP2 hB2 HDO
              go_wp2_with fail
              refine (find_any m S G x.name (by omega) w4 HP2.out.model).mono ?_
              rintro e w5 ⟨rfl, hx5⟩
              rw [HFX.out]
              have u0 := Ext.cell hx5 u0
              have u1 := Ext.cell hx5 u1
              have u2 := Ext.cell hx5 u2
              have u3 := Ext.cell hx5 u3
              have u4' := Ext.cell hx5 u4'
              have u5' := Ext.cell hx5 u5'
              have HP5 := Lib.hid (HP2.out.ext hx5)
              have HX5 := Lib.hid (Ext.trans HX2.out hx5); clear hx5
              obtain ⟨sl, hmi, hm1, hm2⟩ := HP5.out.model
              have e2 := MRow.c2 hmi.row
              rw [HOFF.out] at e2
              clear hmi hm1 hm2
              go_wp2_with fail
              refine (same06_any d m S F2 G w5 HP5.out.disk HP5.out.model).mono ?_
              rintro e w7 ⟨rfl, hx7⟩
              have HP7 := Lib.hid (HP5.out.ext hx7)
              have HX7 := Lib.hid (Ext.trans HX5.out hx7); clear hx7
              go_wp2_with fail
              go_roundg (xs.length - (i + 1))
              case measure => omega
              case rel => exact ⟨i + 1, S, F2, G, by go_num, by omega, rfl, HUSE.out, HP7.out, HX7.out⟩
            | some f =>
              rw [hk] at c0
              have hread : Dsk.read S x.name = (f.data, 0) := by unfold Dsk.read; rw [HOFF.out, hgt]; rfl
              have HUSE := Lib.hid (show S.uses ≤ i + 1 by omega)
              obtain ⟨i2, hil2, hie, hif⟩ := fidx_some hgt
              have HFX := Lib.hid hie
              have HIF := Lib.hid hif
              clear hgt hie hif
              go_upto_region 11 with fail
              have hbrow : (wr.alloc (.cells #[.int .i64 5, .string x.name, .string x.dest, .slice ad x.data.length cd, .int .i64 x.n, .slice ak x.keep.length ck] 47)).heap[wr.heap.size]? = some (.cells #[.int .i64 5, .string x.name, .string x.dest, .slice ad x.data.length cd, .int .i64 x.n, .slice ak x.keep.length ck] 47 (0, 0)) := heap_alloc_new wr _
              have HXB := Lib.hid (show Ext wr (wr.alloc (.cells #[.int .i64 5, .string x.name, .string x.dest, .slice ad x.data.length cd, .int .i64 x.n, .slice ak x.keep.length ck] 47)) from (Ext.refl wr).alloc _)
              generalize (wr.alloc (.cells #[.int .i64 5, .string x.name, .string x.dest, .slice ad x.data.length cd, .int .i64 x.n, .slice ak x.keep.length ck] 47)) = wb at HXB hbrow ⊢
              have HBR := Lib.hid hbrow; clear hbrow
              have u0 : wb.cell? ⟨wr.heap.size, 0, none⟩ = some (.int .i64 5) := Go.Joins.cell_of_block HBR.out 0
              have u1 : wb.cell? ⟨wr.heap.size, 1, none⟩ = some (.string x.name) := Go.Joins.cell_of_block HBR.out 1
              have u2 : wb.cell? ⟨wr.heap.size, 2, none⟩ = some (.string x.dest) := Go.Joins.cell_of_block HBR.out 2
              have u3 : wb.cell? ⟨wr.heap.size, 3, none⟩ = some (.slice ad x.data.length cd) := Go.Joins.cell_of_block HBR.out 3
              have u4' : wb.cell? ⟨wr.heap.size, 4, none⟩ = some (.int .i64 x.n) := Go.Joins.cell_of_block HBR.out 4
              have u5' : wb.cell? ⟨wr.heap.size, 5, none⟩ = some (.slice ak x.keep.length ck) := Go.Joins.cell_of_block HBR.out 5
              have HPB := Lib.hid (HP.out.ext HXB.out)
              have hdo := do5_any d S F x ad cd ak ck hk HM.out huse wb HPB.out.disk (HV.out.ext (K.out.trans HXB.out)) (HAF.out F (fun b hb => (HP.out.inF b hb).1)) (HKF.out F (fun b hb => (HP.out.inF b hb).1)) (fun b hb => (HPB.out.inF b hb).2)
              rw [hk, hread] at hdo
              clear hread
              dsimp only at hdo
              have HDO := Lib.hid hdo; clear hdo
              clear c0 c1 c2 c3 c4 c5
              go_wp2_with fail
              refine HDO.out.mono ?_
              rintro e w4 ⟨rfl, hl⟩
              have hnF : ¬ F wr.heap.size := fun hb => by have := (HP.out.inF _ hb).2; omega
              have u0 := hl.2.cell u0 hnF
              have u1 := hl.2.cell u1 hnF
              have u2 := hl.2.cell u2 hnF
              have u3 := hl.2.cell u3 hnF
              have u4' := hl.2.cell u4' hnF
              have u5' := hl.2.cell u5' hnF
              obtain ⟨F2, hP2, hB2⟩ := HPB.out.left (HX.out.trans HXB.out).size hl
              have HP2 := Lib.hid hP2
              have HX2 := Lib.hid (Below.trans (HX.out.trans HXB.out) hB2 : Ext w1 w4)
              clear hl hnF hP2 hB2 HDO
              go_wp2_with fail
              refine (find_any m S G x.name (by omega) w4 HP2.out.model).mono ?_
              rintro e w5 ⟨rfl, hx5⟩
              rw [HFX.out]
              have u0 := Ext.cell hx5 u0
              have u1 := Ext.cell hx5 u1
              have u2 := Ext.cell hx5 u2
              have u3 := Ext.cell hx5 u3
              have u4' := Ext.cell hx5 u4'
              have u5' := Ext.cell hx5 u5'
              have HP5 := Lib.hid (HP2.out.ext hx5)
              have HX5 := Lib.hid (Ext.trans HX2.out hx5); clear hx5
              obtain ⟨sl, hmi, hm1, hm2⟩ := HP5.out.model
              have e2 := MRow.c2 hmi.row
              rw [HOFF.out] at e2
              have e1 := MRow.c1 hmi.row
              obtain ⟨a2, cc2, rfl, _, _, hrw⟩ := own_row hmi.own
              obtain ⟨g2, o2, rfl, r0, r1, r2⟩ := hrw i2 f (by rw [List.getElem?_eq_getElem hil2, HIF.out])
              have i3 : (0 : Int) ≤ i2 := by omega
              have i4 : (i2 : Int) < ((S.files.length : Nat) : Int) := by omega
              clear hmi hm1 hm2 hrw r0 r2
              go_wp2_with fail
              refine (same06_any d m S F2 G w5 HP5.out.disk HP5.out.model).mono ?_
              rintro e w7 ⟨rfl, hx7⟩
              have HP7 := Lib.hid (HP5.out.ext hx7)
              have HX7 := Lib.hid (Ext.trans HX5.out hx7); clear hx7
              go_wp2_with fail
              go_roundg (xs.length - (i + 1))
              case measure => omega
              case rel => exact ⟨i + 1, S, F2, G, by go_num, by omega, rfl, HUSE.out, HP7.out, HX7.out⟩
        by_cases k6 : x.kind = 6
        · have hk := k6
          clear k6
          rw [hk] at c0
          have HUSE := Lib.hid (show (arm S x.n).uses ≤ i + 1 by show S.uses ≤ i + 1; omega)
          go_upto_region 11 with fail
          have hbrow : (wr.alloc (.cells #[.int .i64 6, .string x.name, .string x.dest, .slice ad x.data.length cd, .int .i64 x.n, .slice ak x.keep.length ck] 47)).heap[wr.heap.size]? = some (.cells #[.int .i64 6, .string x.name, .string x.dest, .slice ad x.data.length cd, .int .i64 x.n, .slice ak x.keep.length ck] 47 (0, 0)) := heap_alloc_new wr _
          have HXB := Lib.hid (show Ext wr (wr.alloc (.cells #[.int .i64 6, .string x.name, .string x.dest, .slice ad x.data.length cd, .int .i64 x.n, .slice ak x.keep.length ck] 47)) from (Ext.refl wr).alloc _)
          generalize (wr.alloc (.cells #[.int .i64 6, .string x.name, .string x.dest, .slice ad x.data.length cd, .int .i64 x.n, .slice ak x.keep.length ck] 47)) = wb at HXB hbrow ⊢
          have HBR := Lib.hid hbrow; clear hbrow
          have u0 : wb.cell? ⟨wr.heap.size, 0, none⟩ = some (.int .i64 6) := Go.Joins.cell_of_block HBR.out 0
          have u1 : wb.cell? ⟨wr.heap.size, 1, none⟩ = some (.string x.name) := Go.Joins.cell_of_block HBR.out 1
          have u2 : wb.cell? ⟨wr.heap.size, 2, none⟩ = some (.string x.dest) := Go.Joins.cell_of_block HBR.out 2
          have u3 : wb.cell? ⟨wr.heap.size, 3, none⟩ = some (.slice ad x.data.length cd) := Go.Joins.cell_of_block HBR.out 3
          have u4' : wb.cell? ⟨wr.heap.size, 4, none⟩ = some (.int .i64 x.n) := Go.Joins.cell_of_block HBR.out 4
          have u5' : wb.cell? ⟨wr.heap.size, 5, none⟩ = some (.slice ak x.keep.length ck) := Go.Joins.cell_of_block HBR.out 5
          have HPB := Lib.hid (HP.out.ext HXB.out)
          have hdo := do6_any d S F x ad cd ak ck hk HM.out huse wb HPB.out.disk (HV.out.ext (K.out.trans HXB.out)) (HAF.out F (fun b hb => (HP.out.inF b hb).1)) (HKF.out F (fun b hb => (HP.out.inF b hb).1)) (fun b hb => (HPB.out.inF b hb).2)
          rw [hk] at hdo
          have HDO := Lib.hid hdo; clear hdo
          clear c0 c1 c2 c3 c4 c5
          go_wp2_with fail
          refine HDO.out.mono ?_
          rintro e w4 ⟨rfl, hl⟩
          have hnF : ¬ F wr.heap.size := fun hb => by have := (HP.out.inF _ hb).2; omega
          have u0 := hl.2.cell u0 hnF
          have u1 := hl.2.cell u1 hnF
          have u2 := hl.2.cell u2 hnF
          have u3 := hl.2.cell u3 hnF
          have u4' := hl.2.cell u4' hnF
          have u5' := hl.2.cell u5' hnF
          obtain ⟨F2, hP2, hB2⟩ := HPB.out.left (HX.out.trans HXB.out).size hl
          have HP2 := Lib.hid hP2
          have HX2 := Lib.hid (Below.trans (HX.out.trans HXB.out) hB2 : Ext w1 w4)
          clear hl hnF hP2 hB2 HDO
          go_wp2_with fail
          refine (find_any m S G x.name (by omega) w4 HP2.out.model).mono ?_
          rintro e w5 ⟨rfl, hx5⟩
          have u0 := Ext.cell hx5 u0
          have u1 := Ext.cell hx5 u1
          have u2 := Ext.cell hx5 u2
          have u3 := Ext.cell hx5 u3
          have u4' := Ext.cell hx5 u4'
          have u5' := Ext.cell hx5 u5'
          have HP5 := Lib.hid (HP2.out.ext hx5)
          have HX5 := Lib.hid (Ext.trans HX2.out hx5); clear hx5
          obtain ⟨sl, hmi, hm1, hm2⟩ := HP5.out.model
          have e3 := MRow.c3 hmi.row
          have e4 := MRow.c4 hmi.row
          have g3 := frozen_row hmi.row 3
          have g4 := frozen_row hmi.row 4
          have HMI := Lib.hid (And.intro hmi (And.intro hm1 hm2)); clear hmi hm1 hm2
          go_upto_region 32 with fail
          have hin := HMI.out.1.turned (T := arm S x.n) (mrow_arm HMI.out.1.row x.n (max x.n 0) (by show max x.n 0 = ((x.n.toNat : Nat) : Int); omega)) rfl (((Only.refl _ w5).at _ _).at _ _)
          have hm : ModelAt ((w5.setCell ⟨m, 3, none⟩ (.bool true)).setCell ⟨m, 4, none⟩ (.int .i64 (max x.n 0))) m (arm S x.n) (More G w5) := ⟨sl, hin, .inl HMI.out.2.1, fun b hb => .inl (HMI.out.2.2 b hb)⟩
          have ho : Only G w5 ((w5.setCell ⟨m, 3, none⟩ (.bool true)).setCell ⟨m, 4, none⟩ (.int .i64 (max x.n 0))) := ((Only.refl _ w5).setCell (.inl HMI.out.2.1) _ _).setCell (.inl HMI.out.2.1) _ _
          clear hin e3 e4 g3 g4
          generalize ((w5.setCell ⟨m, 3, none⟩ (.bool true)).setCell ⟨m, 4, none⟩ (.int .i64 (max x.n 0))) = w6 at hm ho ⊢
          obtain ⟨G2, hP6, hB6⟩ := HP5.out.turn HX5.out.size hm ho
          have HP6 := Lib.hid hP6
          have HX6 := Lib.hid (Below.trans HX5.out hB6 : Ext w1 w6)
          clear hm ho hP6 hB6 u0 u1 u2 u3 u4' u5'
          go_wp2_with fail
          refine (same06_any d m (arm S x.n) F2 G2 w6 HP6.out.disk HP6.out.model).mono ?_
          rintro e w7 ⟨rfl, hx7⟩
          have HP7 := Lib.hid (HP6.out.ext hx7)
          have HX7 := Lib.hid (Ext.trans HX6.out hx7); clear hx7
          go_wp2_with fail
          go_roundg (xs.length - (i + 1))
          case measure => omega
          case rel => exact ⟨i + 1, (arm S x.n), F2, G2, by go_num, by omega, rfl, HUSE.out, HP7.out, HX7.out⟩
        by_cases k7 : x.kind = 7
        · have hk := k7
          clear k7
          rw [hk] at c0
          have HUSE := Lib.hid (show (crash S x.keep).uses ≤ i + 1 by show S.uses ≤ i + 1; omega)
          go_upto_region 11 with fail
          have hbrow : (wr.alloc (.cells #[.int .i64 7, .string x.name, .string x.dest, .slice ad x.data.length cd, .int .i64 x.n, .slice ak x.keep.length ck] 47)).heap[wr.heap.size]? = some (.cells #[.int .i64 7, .string x.name, .string x.dest, .slice ad x.data.length cd, .int .i64 x.n, .slice ak x.keep.length ck] 47 (0, 0)) := heap_alloc_new wr _
          have HXB := Lib.hid (show Ext wr (wr.alloc (.cells #[.int .i64 7, .string x.name, .string x.dest, .slice ad x.data.length cd, .int .i64 x.n, .slice ak x.keep.length ck] 47)) from (Ext.refl wr).alloc _)
          generalize (wr.alloc (.cells #[.int .i64 7, .string x.name, .string x.dest, .slice ad x.data.length cd, .int .i64 x.n, .slice ak x.keep.length ck] 47)) = wb at HXB hbrow ⊢
          have HBR := Lib.hid hbrow; clear hbrow
          have u0 : wb.cell? ⟨wr.heap.size, 0, none⟩ = some (.int .i64 7) := Go.Joins.cell_of_block HBR.out 0
          have u1 : wb.cell? ⟨wr.heap.size, 1, none⟩ = some (.string x.name) := Go.Joins.cell_of_block HBR.out 1
          have u2 : wb.cell? ⟨wr.heap.size, 2, none⟩ = some (.string x.dest) := Go.Joins.cell_of_block HBR.out 2
          have u3 : wb.cell? ⟨wr.heap.size, 3, none⟩ = some (.slice ad x.data.length cd) := Go.Joins.cell_of_block HBR.out 3
          have u4' : wb.cell? ⟨wr.heap.size, 4, none⟩ = some (.int .i64 x.n) := Go.Joins.cell_of_block HBR.out 4
          have u5' : wb.cell? ⟨wr.heap.size, 5, none⟩ = some (.slice ak x.keep.length ck) := Go.Joins.cell_of_block HBR.out 5
          have HPB := Lib.hid (HP.out.ext HXB.out)
          have hdo := do7_any d S F x ad cd ak ck hk HM.out huse wb HPB.out.disk (HV.out.ext (K.out.trans HXB.out)) (HAF.out F (fun b hb => (HP.out.inF b hb).1)) (HKF.out F (fun b hb => (HP.out.inF b hb).1)) (fun b hb => (HPB.out.inF b hb).2)
          rw [hk] at hdo
          have HDO := Lib.hid hdo; clear hdo
          clear c0 c1 c2 c3 c4 c5
          go_wp2_with fail
          refine HDO.out.mono ?_
          rintro e w4 ⟨rfl, hl⟩
          have hnF : ¬ F wr.heap.size := fun hb => by have := (HP.out.inF _ hb).2; omega
          have u0 := hl.2.cell u0 hnF
          have u1 := hl.2.cell u1 hnF
          have u2 := hl.2.cell u2 hnF
          have u3 := hl.2.cell u3 hnF
          have u4' := hl.2.cell u4' hnF
          have u5' := hl.2.cell u5' hnF
          obtain ⟨F2, hP2, hB2⟩ := HPB.out.left (HX.out.trans HXB.out).size hl
          have HP2 := Lib.hid hP2
          have HX2 := Lib.hid (Below.trans (HX.out.trans HXB.out) hB2 : Ext w1 w4)
          clear hl hnF hP2 hB2 HDO
          go_wp2_with fail
          refine (find_any m S G x.name (by omega) w4 HP2.out.model).mono ?_
          rintro e w5 ⟨rfl, hx5⟩
          have u0 := Ext.cell hx5 u0
          have u1 := Ext.cell hx5 u1
          have u2 := Ext.cell hx5 u2
          have u3 := Ext.cell hx5 u3
          have u4' := Ext.cell hx5 u4'
          have u5' := Ext.cell hx5 u5'
          have HP5 := Lib.hid (HP2.out.ext hx5)
          have HX5 := Lib.hid (Ext.trans HX2.out hx5); clear hx5
          go_wp2_with fail
          refine (mcrash_any m S G ak ck x.keep (by have := HM.out.keep; omega) HM.out.keeps HGD.out w5 (HV.out.2.2.1.ext (HX1.out.trans HX5.out)) (HKF.out G (fun b hb => (HP5.out.inG b hb).1)) (fun b hb => (HP5.out.inG b hb).2) HP5.out.model).mono ?_
          rintro e w6 ⟨rfl, hm, ho⟩
          obtain ⟨G2, hP6, hB6⟩ := HP5.out.turn HX5.out.size hm ho
          have HP6 := Lib.hid hP6
          have HX6 := Lib.hid (Below.trans HX5.out hB6 : Ext w1 w6)
          clear hm ho hP6 hB6 u0 u1 u2 u3 u4' u5'
          go_wp2_with fail
          refine (same06_any d m (crash S x.keep) F2 G2 w6 HP6.out.disk HP6.out.model).mono ?_
          rintro e w7 ⟨rfl, hx7⟩
          have HP7 := Lib.hid (HP6.out.ext hx7)
          have HX7 := Lib.hid (Ext.trans HX6.out hx7); clear hx7
          go_wp2_with fail
          go_roundg (xs.length - (i + 1))
          case measure => omega
          case rel => exact ⟨i + 1, (crash S x.keep), F2, G2, by go_num, by omega, rfl, HUSE.out, HP7.out, HX7.out⟩
        by_cases hneg : x.kind < 0
        · cases hmay : may x.name with
          | false =>
            have hlay : lay S x.name (cats x.data) = (1, S) := by unfold lay; rw [hmay]; rfl
            have HUSE := Lib.hid (show S.uses ≤ i + 1 by omega)
            have HMAY := Lib.hid hmay; clear hmay
            go_upto_region 11 with fail
            have hbrow : (wr.alloc (.cells #[.int .i64 x.kind, .string x.name, .string x.dest, .slice ad x.data.length cd, .int .i64 x.n, .slice ak x.keep.length ck] 47)).heap[wr.heap.size]? = some (.cells #[.int .i64 x.kind, .string x.name, .string x.dest, .slice ad x.data.length cd, .int .i64 x.n, .slice ak x.keep.length ck] 47 (0, 0)) := heap_alloc_new wr _
            have HXB := Lib.hid (show Ext wr (wr.alloc (.cells #[.int .i64 x.kind, .string x.name, .string x.dest, .slice ad x.data.length cd, .int .i64 x.n, .slice ak x.keep.length ck] 47)) from (Ext.refl wr).alloc _)
            generalize (wr.alloc (.cells #[.int .i64 x.kind, .string x.name, .string x.dest, .slice ad x.data.length cd, .int .i64 x.n, .slice ak x.keep.length ck] 47)) = wb at HXB hbrow ⊢
            have HBR := Lib.hid hbrow; clear hbrow
            have u0 : wb.cell? ⟨wr.heap.size, 0, none⟩ = some (.int .i64 x.kind) := Go.Joins.cell_of_block HBR.out 0
            have u1 : wb.cell? ⟨wr.heap.size, 1, none⟩ = some (.string x.name) := Go.Joins.cell_of_block HBR.out 1
            have u2 : wb.cell? ⟨wr.heap.size, 2, none⟩ = some (.string x.dest) := Go.Joins.cell_of_block HBR.out 2
            have u3 : wb.cell? ⟨wr.heap.size, 3, none⟩ = some (.slice ad x.data.length cd) := Go.Joins.cell_of_block HBR.out 3
            have u4' : wb.cell? ⟨wr.heap.size, 4, none⟩ = some (.int .i64 x.n) := Go.Joins.cell_of_block HBR.out 4
            have u5' : wb.cell? ⟨wr.heap.size, 5, none⟩ = some (.slice ak x.keep.length ck) := Go.Joins.cell_of_block HBR.out 5
            have HPB := Lib.hid (HP.out.ext HXB.out)
            have hdo := do9_any d S F x ad cd ak ck k0 k1 k2 k3 k4 k5 k6 k7 HM.out huse wb HPB.out.disk (HV.out.ext (K.out.trans HXB.out)) (HAF.out F (fun b hb => (HP.out.inF b hb).1)) (HKF.out F (fun b hb => (HP.out.inF b hb).1)) (fun b hb => (HPB.out.inF b hb).2)
            rw [hlay] at hdo
            clear hlay
            dsimp only at hdo
            have HDO := Lib.hid hdo; clear hdo
            clear c0 c1 c2 c3 c4 c5
            go_wp2_with fail
            refine HDO.out.mono ?_
            rintro e w4 ⟨rfl, hl⟩
            have hnF : ¬ F wr.heap.size := fun hb => by have := (HP.out.inF _ hb).2; omega
            have u0 := hl.2.cell u0 hnF
            have u1 := hl.2.cell u1 hnF
            have u2 := hl.2.cell u2 hnF
            have u3 := hl.2.cell u3 hnF
            have u4' := hl.2.cell u4' hnF
            have u5' := hl.2.cell u5' hnF
            obtain ⟨F2, hP2, hB2⟩ := HPB.out.left (HX.out.trans HXB.out).size hl
            have HP2 := Lib.hid hP2
            have HX2 := Lib.hid (Below.trans (HX.out.trans HXB.out) hB2 : Ext w1 w4)
            clear hl hnF hP2 hB2 HDO
            go_wp2_with fail
            refine (find_any m S G x.name (by omega) w4 HP2.out.model).mono ?_
            rintro e w5 ⟨rfl, hx5⟩
            have u0 := Ext.cell hx5 u0
            have u1 := Ext.cell hx5 u1
            have u2 := Ext.cell hx5 u2
            have u3 := Ext.cell hx5 u3
            have u4' := Ext.cell hx5 u4'
            have u5' := Ext.cell hx5 u5'
            have HP5 := Lib.hid (HP2.out.ext hx5)
            have HX5 := Lib.hid (Ext.trans HX2.out hx5); clear hx5
            go_wp2_with fail
            refine (mmay_any x.name (by omega) w5).mono ?_
            rintro e w55 ⟨rfl, rfl⟩
            rw [HMAY.out]
            go_wp2_with fail
            refine (same06_any d m S F2 G w5 HP5.out.disk HP5.out.model).mono ?_
            rintro e w7 ⟨rfl, hx7⟩
            have HP7 := Lib.hid (HP5.out.ext hx7)
            have HX7 := Lib.hid (Ext.trans HX5.out hx7); clear hx7
            go_wp2_with fail
            go_roundg (xs.length - (i + 1))
            case measure => omega
            case rel => exact ⟨i + 1, S, F2, G, by go_num, by omega, rfl, HUSE.out, HP7.out, HX7.out⟩
          | true =>
            have hcat := HM.out.cats
            obtain ⟨fc, hfc⟩ : ∃ fc, fc = fits S x.name (cats x.data).size (((get S.files x.name).map (fun f => f.data.size)).getD 0) := ⟨_, rfl⟩
            have hlay : lay S x.name (cats x.data) = if fc = 0 then (0, files S (put ⟨x.name, cats x.data, (cats x.data).size⟩ S.files)) else (fc, S) := by
              rw [hfc]; unfold lay; rw [if_pos hmay]
            have HLY := Lib.hid (show laysN S (fidx S.files x.name) (cats x.data).size = fc by rw [hfc]; exact lays_fits S x.name (cats x.data).size)
            have HMAY := Lib.hid hmay
            have HUSE0 := Lib.hid (lay_uses S x.name (cats x.data))
            have hfb := fidx_bounds S.files x.name
            clear hmay hfc
            by_cases h0 : fc = 0
            · subst h0
              rw [if_pos rfl] at hlay
              have HUSE := Lib.hid (show (files S (put ⟨x.name, cats x.data, (cats x.data).size⟩ S.files)).uses ≤ i + 1 by show S.uses ≤ i + 1; omega)
              go_upto_region 11 with fail
              have hbrow : (wr.alloc (.cells #[.int .i64 x.kind, .string x.name, .string x.dest, .slice ad x.data.length cd, .int .i64 x.n, .slice ak x.keep.length ck] 47)).heap[wr.heap.size]? = some (.cells #[.int .i64 x.kind, .string x.name, .string x.dest, .slice ad x.data.length cd, .int .i64 x.n, .slice ak x.keep.length ck] 47 (0, 0)) := heap_alloc_new wr _
              have HXB := Lib.hid (show Ext wr (wr.alloc (.cells #[.int .i64 x.kind, .string x.name, .string x.dest, .slice ad x.data.length cd, .int .i64 x.n, .slice ak x.keep.length ck] 47)) from (Ext.refl wr).alloc _)
              generalize (wr.alloc (.cells #[.int .i64 x.kind, .string x.name, .string x.dest, .slice ad x.data.length cd, .int .i64 x.n, .slice ak x.keep.length ck] 47)) = wb at HXB hbrow ⊢
              have HBR := Lib.hid hbrow; clear hbrow
              have u0 : wb.cell? ⟨wr.heap.size, 0, none⟩ = some (.int .i64 x.kind) := Go.Joins.cell_of_block HBR.out 0
              have u1 : wb.cell? ⟨wr.heap.size, 1, none⟩ = some (.string x.name) := Go.Joins.cell_of_block HBR.out 1
              have u2 : wb.cell? ⟨wr.heap.size, 2, none⟩ = some (.string x.dest) := Go.Joins.cell_of_block HBR.out 2
              have u3 : wb.cell? ⟨wr.heap.size, 3, none⟩ = some (.slice ad x.data.length cd) := Go.Joins.cell_of_block HBR.out 3
              have u4' : wb.cell? ⟨wr.heap.size, 4, none⟩ = some (.int .i64 x.n) := Go.Joins.cell_of_block HBR.out 4
              have u5' : wb.cell? ⟨wr.heap.size, 5, none⟩ = some (.slice ak x.keep.length ck) := Go.Joins.cell_of_block HBR.out 5
              have HPB := Lib.hid (HP.out.ext HXB.out)
              have hdo := do9_any d S F x ad cd ak ck k0 k1 k2 k3 k4 k5 k6 k7 HM.out huse wb HPB.out.disk (HV.out.ext (K.out.trans HXB.out)) (HAF.out F (fun b hb => (HP.out.inF b hb).1)) (HKF.out F (fun b hb => (HP.out.inF b hb).1)) (fun b hb => (HPB.out.inF b hb).2)
              rw [hlay] at hdo
              clear hlay
              dsimp only at hdo
              have HDO := Lib.hid hdo; clear hdo
              clear c0 c1 c2 c3 c4 c5
              go_wp2_with fail
              refine HDO.out.mono ?_
              rintro e w4 ⟨rfl, hl⟩
              have hnF : ¬ F wr.heap.size := fun hb => by have := (HP.out.inF _ hb).2; omega
              have u0 := hl.2.cell u0 hnF
              have u1 := hl.2.cell u1 hnF
              have u2 := hl.2.cell u2 hnF
              have u3 := hl.2.cell u3 hnF
              have u4' := hl.2.cell u4' hnF
              have u5' := hl.2.cell u5' hnF
              obtain ⟨F2, hP2, hB2⟩ := HPB.out.left (HX.out.trans HXB.out).size hl
              have HP2 := Lib.hid hP2
              have HX2 := Lib.hid (Below.trans (HX.out.trans HXB.out) hB2 : Ext w1 w4)
              clear hl hnF hP2 hB2 HDO
              go_wp2_with fail
              refine (find_any m S G x.name (by omega) w4 HP2.out.model).mono ?_
              rintro e w5 ⟨rfl, hx5⟩
              have u0 := Ext.cell hx5 u0
              have u1 := Ext.cell hx5 u1
              have u2 := Ext.cell hx5 u2
              have u3 := Ext.cell hx5 u3
              have u4' := Ext.cell hx5 u4'
              have u5' := Ext.cell hx5 u5'
              have HP5 := Lib.hid (HP2.out.ext hx5)
              have HX5 := Lib.hid (Ext.trans HX2.out hx5); clear hx5
              go_wp2_with fail
              refine (mmay_any x.name (by omega) w5).mono ?_
              rintro e w55 ⟨rfl, rfl⟩
              rw [HMAY.out]
              go_wp2_with fail
              refine (mjoin_any ad cd x.data (by omega) (by omega) w5 (HV.out.2.1.ext (HX1.out.trans HX5.out))).mono ?_
              rintro e w51 ⟨rfl, hj⟩
              have u0 := Ext.cell hj u0
              have u1 := Ext.cell hj u1
              have u3 := Ext.cell hj u3
              have HP51 := Lib.hid (HP5.out.ext hj)
              have HX51 := Lib.hid (Ext.trans HX5.out hj); clear hj
              go_wp2_with fail
              refine (lays_any m S G (fidx S.files x.name) (cats x.data).size hfb.2 hfb.1 (by omega) (by omega) (by have := HGD.out.used; omega) (by have := HGD.out.room; omega) (fun y hy => by have := (HGD.out.fine y hy).data; omega) w51 HP51.out.model).mono ?_
              rintro e w52 ⟨rfl, hj⟩
              rw [HLY.out]
              have u0 := Ext.cell hj u0
              have u1 := Ext.cell hj u1
              have u3 := Ext.cell hj u3
              have HP52 := Lib.hid (HP51.out.ext hj)
              have HX52 := Lib.hid (Ext.trans HX51.out hj); clear hj
              have HJ := Lib.hid (show ∀ u, Ext w52 u → Calls Try.prog 25 #[.slice ad x.data.length cd] u fun e w' => e = .returned (.string (cats x.data)) ∧ Ext w52 w' from fun u k => (mjoin_any ad cd x.data (by omega) (by omega) u (HV.out.2.1.ext ((HX1.out.trans HX52.out).trans k))).mono (fun _ _ hh => ⟨hh.1, k.trans hh.2⟩))
              have hnG : ¬ G wr.heap.size := fun hb => by have := (HP.out.inG _ hb).2; omega
              clear hfb u0 u2 u4' u5'
              go_wp2_with fail
              go_region_held3 (fun u => u.cell? ⟨wr.heap.size, 1, none⟩ = some (.string x.name) ∧ u.cell? ⟨wr.heap.size, 3, none⟩ = some (.slice ad x.data.length cd)) (first | exact ⟨u1, u3⟩ | exact ⟨Ext.cell hx u1, Ext.cell hx u3⟩ | exact ⟨Only.cell ho (Ext.cell hx u1) hnG, Only.cell ho (Ext.cell hx u3) hnG⟩) (first
                | (go_at_call 25; refine (HJ.out _ (by first | exact Ext.refl _ | assumption | exact (Ext.refl _).drew)).mono ?_; rintro e v ⟨rfl, hx⟩)
                | (go_at_call 26; refine (mput_any m S G ⟨x.name, cats x.data, (cats x.data).size⟩ (by omega) _ (HP52.out.model.ext hx)).mono ?_; rintro e v2 ⟨rfl, hm, ho⟩))
              obtain ⟨G2, hP6, hB6⟩ := (HP52.out.ext hx).turn (Ext.trans HX52.out hx).size hm ho
              have HP6 := Lib.hid hP6
              have HX6 := Lib.hid (Below.trans (Ext.trans HX52.out hx) hB6 : Ext w1 v2)
              clear hm ho hP6 hB6 hx u1 u3
              go_wp2_with fail
              refine (same06_any d m (files S (put ⟨x.name, cats x.data, (cats x.data).size⟩ S.files)) F2 G2 v2 HP6.out.disk HP6.out.model).mono ?_
              rintro e w7 ⟨rfl, hx7⟩
              have HP7 := Lib.hid (HP6.out.ext hx7)
              have HX7 := Lib.hid (Ext.trans HX6.out hx7); clear hx7
              go_wp2_with fail
              go_roundg (xs.length - (i + 1))
              case measure => omega
              case rel => exact ⟨i + 1, (files S (put ⟨x.name, cats x.data, (cats x.data).size⟩ S.files)), F2, G2, by go_num, by omega, rfl, HUSE.out, HP7.out, HX7.out⟩
            · rw [if_neg h0] at hlay
              have HUSE := Lib.hid (show S.uses ≤ i + 1 by omega)
              go_upto_region 11 with fail
              have hbrow : (wr.alloc (.cells #[.int .i64 x.kind, .string x.name, .string x.dest, .slice ad x.data.length cd, .int .i64 x.n, .slice ak x.keep.length ck] 47)).heap[wr.heap.size]? = some (.cells #[.int .i64 x.kind, .string x.name, .string x.dest, .slice ad x.data.length cd, .int .i64 x.n, .slice ak x.keep.length ck] 47 (0, 0)) := heap_alloc_new wr _
              have HXB := Lib.hid (show Ext wr (wr.alloc (.cells #[.int .i64 x.kind, .string x.name, .string x.dest, .slice ad x.data.length cd, .int .i64 x.n, .slice ak x.keep.length ck] 47)) from (Ext.refl wr).alloc _)
              generalize (wr.alloc (.cells #[.int .i64 x.kind, .string x.name, .string x.dest, .slice ad x.data.length cd, .int .i64 x.n, .slice ak x.keep.length ck] 47)) = wb at HXB hbrow ⊢
              have HBR := Lib.hid hbrow; clear hbrow
              have u0 : wb.cell? ⟨wr.heap.size, 0, none⟩ = some (.int .i64 x.kind) := Go.Joins.cell_of_block HBR.out 0
              have u1 : wb.cell? ⟨wr.heap.size, 1, none⟩ = some (.string x.name) := Go.Joins.cell_of_block HBR.out 1
              have u2 : wb.cell? ⟨wr.heap.size, 2, none⟩ = some (.string x.dest) := Go.Joins.cell_of_block HBR.out 2
              have u3 : wb.cell? ⟨wr.heap.size, 3, none⟩ = some (.slice ad x.data.length cd) := Go.Joins.cell_of_block HBR.out 3
              have u4' : wb.cell? ⟨wr.heap.size, 4, none⟩ = some (.int .i64 x.n) := Go.Joins.cell_of_block HBR.out 4
              have u5' : wb.cell? ⟨wr.heap.size, 5, none⟩ = some (.slice ak x.keep.length ck) := Go.Joins.cell_of_block HBR.out 5
              have HPB := Lib.hid (HP.out.ext HXB.out)
              have hdo := do9_any d S F x ad cd ak ck k0 k1 k2 k3 k4 k5 k6 k7 HM.out huse wb HPB.out.disk (HV.out.ext (K.out.trans HXB.out)) (HAF.out F (fun b hb => (HP.out.inF b hb).1)) (HKF.out F (fun b hb => (HP.out.inF b hb).1)) (fun b hb => (HPB.out.inF b hb).2)
              rw [hlay] at hdo
              clear hlay
              dsimp only at hdo
              have HDO := Lib.hid hdo; clear hdo
              clear c0 c1 c2 c3 c4 c5
              go_wp2_with fail
              refine HDO.out.mono ?_
              rintro e w4 ⟨rfl, hl⟩
              have hnF : ¬ F wr.heap.size := fun hb => by have := (HP.out.inF _ hb).2; omega
              have u0 := hl.2.cell u0 hnF
              have u1 := hl.2.cell u1 hnF
              have u2 := hl.2.cell u2 hnF
              have u3 := hl.2.cell u3 hnF
              have u4' := hl.2.cell u4' hnF
              have u5' := hl.2.cell u5' hnF
              obtain ⟨F2, hP2, hB2⟩ := HPB.out.left (HX.out.trans HXB.out).size hl
              have HP2 := Lib.hid hP2
              have HX2 := Lib.hid (Below.trans (HX.out.trans HXB.out) hB2 : Ext w1 w4)
              clear hl hnF hP2 hB2 HDO
              go_wp2_with fail
              refine (find_any m S G x.name (by omega) w4 HP2.out.model).mono ?_
              rintro e w5 ⟨rfl, hx5⟩
              have u0 := Ext.cell hx5 u0
              have u1 := Ext.cell hx5 u1
              have u2 := Ext.cell hx5 u2
              have u3 := Ext.cell hx5 u3
              have u4' := Ext.cell hx5 u4'
              have u5' := Ext.cell hx5 u5'
              have HP5 := Lib.hid (HP2.out.ext hx5)
              have HX5 := Lib.hid (Ext.trans HX2.out hx5); clear hx5
              go_wp2_with fail
              refine (mmay_any x.name (by omega) w5).mono ?_
              rintro e w55 ⟨rfl, rfl⟩
              rw [HMAY.out]
              go_wp2_with fail
              refine (mjoin_any ad cd x.data (by omega) (by omega) w5 (HV.out.2.1.ext (HX1.out.trans HX5.out))).mono ?_
              rintro e w51 ⟨rfl, hj⟩
              have u0 := Ext.cell hj u0
              have u1 := Ext.cell hj u1
              have u3 := Ext.cell hj u3
              have HP51 := Lib.hid (HP5.out.ext hj)
              have HX51 := Lib.hid (Ext.trans HX5.out hj); clear hj
              go_wp2_with fail
              refine (lays_any m S G (fidx S.files x.name) (cats x.data).size hfb.2 hfb.1 (by omega) (by omega) (by have := HGD.out.used; omega) (by have := HGD.out.room; omega) (fun y hy => by have := (HGD.out.fine y hy).data; omega) w51 HP51.out.model).mono ?_
              rintro e w52 ⟨rfl, hj⟩
              rw [HLY.out]
              have u0 := Ext.cell hj u0
              have u1 := Ext.cell hj u1
              have u3 := Ext.cell hj u3
              have HP52 := Lib.hid (HP51.out.ext hj)
              have HX52 := Lib.hid (Ext.trans HX51.out hj); clear hj
              have e0 : ((fc : Int) == 0) = false := by simpa using h0
              clear hfb
              go_wp2_with fail
              refine (same06_any d m S F2 G w52 HP52.out.disk HP52.out.model).mono ?_
              rintro e w7 ⟨rfl, hx7⟩
              have HP7 := Lib.hid (HP52.out.ext hx7)
              have HX7 := Lib.hid (Ext.trans HX52.out hx7); clear hx7
              go_wp2_with fail
              go_roundg (xs.length - (i + 1))
              case measure => omega
              case rel => exact ⟨i + 1, S, F2, G, by go_num, by omega, rfl, HUSE.out, HP7.out, HX7.out⟩
        have hpos : 0 ≤ x.kind := by omega
        have hbig : 4 < x.kind := by omega
        clear hneg
        cases hmay : may x.name with
        | false =>
          have hlay : lay S x.name (cats x.data) = (1, S) := by unfold lay; rw [hmay]; rfl
          have HUSE := Lib.hid (show S.uses ≤ i + 1 by omega)
          have HMAY := Lib.hid hmay; clear hmay
          go_upto_region 11 with fail
          have hbrow : (wr.alloc (.cells #[.int .i64 x.kind, .string x.name, .string x.dest, .slice ad x.data.length cd, .int .i64 x.n, .slice ak x.keep.length ck] 47)).heap[wr.heap.size]? = some (.cells #[.int .i64 x.kind, .string x.name, .string x.dest, .slice ad x.data.length cd, .int .i64 x.n, .slice ak x.keep.length ck] 47 (0, 0)) := heap_alloc_new wr _
          have HXB := Lib.hid (show Ext wr (wr.alloc (.cells #[.int .i64 x.kind, .string x.name, .string x.dest, .slice ad x.data.length cd, .int .i64 x.n, .slice ak x.keep.length ck] 47)) from (Ext.refl wr).alloc _)
          generalize (wr.alloc (.cells #[.int .i64 x.kind, .string x.name, .string x.dest, .slice ad x.data.length cd, .int .i64 x.n, .slice ak x.keep.length ck] 47)) = wb at HXB hbrow ⊢
          have HBR := Lib.hid hbrow; clear hbrow
          have u0 : wb.cell? ⟨wr.heap.size, 0, none⟩ = some (.int .i64 x.kind) := Go.Joins.cell_of_block HBR.out 0
          have u1 : wb.cell? ⟨wr.heap.size, 1, none⟩ = some (.string x.name) := Go.Joins.cell_of_block HBR.out 1
          have u2 : wb.cell? ⟨wr.heap.size, 2, none⟩ = some (.string x.dest) := Go.Joins.cell_of_block HBR.out 2
          have u3 : wb.cell? ⟨wr.heap.size, 3, none⟩ = some (.slice ad x.data.length cd) := Go.Joins.cell_of_block HBR.out 3
          have u4' : wb.cell? ⟨wr.heap.size, 4, none⟩ = some (.int .i64 x.n) := Go.Joins.cell_of_block HBR.out 4
          have u5' : wb.cell? ⟨wr.heap.size, 5, none⟩ = some (.slice ak x.keep.length ck) := Go.Joins.cell_of_block HBR.out 5
          have HPB := Lib.hid (HP.out.ext HXB.out)
          have hdo := do9_any d S F x ad cd ak ck k0 k1 k2 k3 k4 k5 k6 k7 HM.out huse wb HPB.out.disk (HV.out.ext (K.out.trans HXB.out)) (HAF.out F (fun b hb => (HP.out.inF b hb).1)) (HKF.out F (fun b hb => (HP.out.inF b hb).1)) (fun b hb => (HPB.out.inF b hb).2)
          rw [hlay] at hdo
          clear hlay
          dsimp only at hdo
          have HDO := Lib.hid hdo; clear hdo
          clear c0 c1 c2 c3 c4 c5
          go_wp2_with fail
          refine HDO.out.mono ?_
          rintro e w4 ⟨rfl, hl⟩
          have hnF : ¬ F wr.heap.size := fun hb => by have := (HP.out.inF _ hb).2; omega
          have u0 := hl.2.cell u0 hnF
          have u1 := hl.2.cell u1 hnF
          have u2 := hl.2.cell u2 hnF
          have u3 := hl.2.cell u3 hnF
          have u4' := hl.2.cell u4' hnF
          have u5' := hl.2.cell u5' hnF
          obtain ⟨F2, hP2, hB2⟩ := HPB.out.left (HX.out.trans HXB.out).size hl
          have HP2 := Lib.hid hP2
          have HX2 := Lib.hid (Below.trans (HX.out.trans HXB.out) hB2 : Ext w1 w4)
          clear hl hnF hP2 hB2 HDO
          go_wp2_with fail
          refine (find_any m S G x.name (by omega) w4 HP2.out.model).mono ?_
          rintro e w5 ⟨rfl, hx5⟩
          have u0 := Ext.cell hx5 u0
          have u1 := Ext.cell hx5 u1
          have u2 := Ext.cell hx5 u2
          have u3 := Ext.cell hx5 u3
          have u4' := Ext.cell hx5 u4'
          have u5' := Ext.cell hx5 u5'
          have HP5 := Lib.hid (HP2.out.ext hx5)
          have HX5 := Lib.hid (Ext.trans HX2.out hx5); clear hx5
          go_wp2_with fail
          refine (mmay_any x.name (by omega) w5).mono ?_
          rintro e w55 ⟨rfl, rfl⟩
          rw [HMAY.out]
          go_wp2_with fail
          refine (same06_any d m S F2 G w5 HP5.out.disk HP5.out.model).mono ?_
          rintro e w7 ⟨rfl, hx7⟩
          have HP7 := Lib.hid (HP5.out.ext hx7)
          have HX7 := Lib.hid (Ext.trans HX5.out hx7); clear hx7
          go_wp2_with fail
          go_roundg (xs.length - (i + 1))
          case measure => omega
          case rel => exact ⟨i + 1, S, F2, G, by go_num, by omega, rfl, HUSE.out, HP7.out, HX7.out⟩
        | true =>
          have hcat := HM.out.cats
          obtain ⟨fc, hfc⟩ : ∃ fc, fc = fits S x.name (cats x.data).size (((get S.files x.name).map (fun f => f.data.size)).getD 0) := ⟨_, rfl⟩
          have hlay : lay S x.name (cats x.data) = if fc = 0 then (0, files S (put ⟨x.name, cats x.data, (cats x.data).size⟩ S.files)) else (fc, S) := by
            rw [hfc]; unfold lay; rw [if_pos hmay]
          have HLY := Lib.hid (show laysN S (fidx S.files x.name) (cats x.data).size = fc by rw [hfc]; exact lays_fits S x.name (cats x.data).size)
          have HMAY := Lib.hid hmay
          have HUSE0 := Lib.hid (lay_uses S x.name (cats x.data))
          have hfb := fidx_bounds S.files x.name
          clear hmay hfc
          by_cases h0 : fc = 0
          · subst h0
            rw [if_pos rfl] at hlay
            have HUSE := Lib.hid (show (files S (put ⟨x.name, cats x.data, (cats x.data).size⟩ S.files)).uses ≤ i + 1 by show S.uses ≤ i + 1; omega)
            go_upto_region 11 with fail
            have hbrow : (wr.alloc (.cells #[.int .i64 x.kind, .string x.name, .string x.dest, .slice ad x.data.length cd, .int .i64 x.n, .slice ak x.keep.length ck] 47)).heap[wr.heap.size]? = some (.cells #[.int .i64 x.kind, .string x.name, .string x.dest, .slice ad x.data.length cd, .int .i64 x.n, .slice ak x.keep.length ck] 47 (0, 0)) := heap_alloc_new wr _
            have HXB := Lib.hid (show Ext wr (wr.alloc (.cells #[.int .i64 x.kind, .string x.name, .string x.dest, .slice ad x.data.length cd, .int .i64 x.n, .slice ak x.keep.length ck] 47)) from (Ext.refl wr).alloc _)
            generalize (wr.alloc (.cells #[.int .i64 x.kind, .string x.name, .string x.dest, .slice ad x.data.length cd, .int .i64 x.n, .slice ak x.keep.length ck] 47)) = wb at HXB hbrow ⊢
            have HBR := Lib.hid hbrow; clear hbrow
            have u0 : wb.cell? ⟨wr.heap.size, 0, none⟩ = some (.int .i64 x.kind) := Go.Joins.cell_of_block HBR.out 0
            have u1 : wb.cell? ⟨wr.heap.size, 1, none⟩ = some (.string x.name) := Go.Joins.cell_of_block HBR.out 1
            have u2 : wb.cell? ⟨wr.heap.size, 2, none⟩ = some (.string x.dest) := Go.Joins.cell_of_block HBR.out 2
            have u3 : wb.cell? ⟨wr.heap.size, 3, none⟩ = some (.slice ad x.data.length cd) := Go.Joins.cell_of_block HBR.out 3
            have u4' : wb.cell? ⟨wr.heap.size, 4, none⟩ = some (.int .i64 x.n) := Go.Joins.cell_of_block HBR.out 4
            have u5' : wb.cell? ⟨wr.heap.size, 5, none⟩ = some (.slice ak x.keep.length ck) := Go.Joins.cell_of_block HBR.out 5
            have HPB := Lib.hid (HP.out.ext HXB.out)
            have hdo := do9_any d S F x ad cd ak ck k0 k1 k2 k3 k4 k5 k6 k7 HM.out huse wb HPB.out.disk (HV.out.ext (K.out.trans HXB.out)) (HAF.out F (fun b hb => (HP.out.inF b hb).1)) (HKF.out F (fun b hb => (HP.out.inF b hb).1)) (fun b hb => (HPB.out.inF b hb).2)
            rw [hlay] at hdo
            clear hlay
            dsimp only at hdo
            have HDO := Lib.hid hdo; clear hdo
            clear c0 c1 c2 c3 c4 c5
            go_wp2_with fail
            refine HDO.out.mono ?_
            rintro e w4 ⟨rfl, hl⟩
            have hnF : ¬ F wr.heap.size := fun hb => by have := (HP.out.inF _ hb).2; omega
            have u0 := hl.2.cell u0 hnF
            have u1 := hl.2.cell u1 hnF
            have u2 := hl.2.cell u2 hnF
            have u3 := hl.2.cell u3 hnF
            have u4' := hl.2.cell u4' hnF
            have u5' := hl.2.cell u5' hnF
            obtain ⟨F2, hP2, hB2⟩ := HPB.out.left (HX.out.trans HXB.out).size hl
            have HP2 := Lib.hid hP2
            have HX2 := Lib.hid (Below.trans (HX.out.trans HXB.out) hB2 : Ext w1 w4)
            clear hl hnF hP2 hB2 HDO
            go_wp2_with fail
            refine (find_any m S G x.name (by omega) w4 HP2.out.model).mono ?_
            rintro e w5 ⟨rfl, hx5⟩
            have u0 := Ext.cell hx5 u0
            have u1 := Ext.cell hx5 u1
            have u2 := Ext.cell hx5 u2
            have u3 := Ext.cell hx5 u3
            have u4' := Ext.cell hx5 u4'
            have u5' := Ext.cell hx5 u5'
            have HP5 := Lib.hid (HP2.out.ext hx5)
            have HX5 := Lib.hid (Ext.trans HX2.out hx5); clear hx5
            go_wp2_with fail
            refine (mmay_any x.name (by omega) w5).mono ?_
            rintro e w55 ⟨rfl, rfl⟩
            rw [HMAY.out]
            go_wp2_with fail
            refine (mjoin_any ad cd x.data (by omega) (by omega) w5 (HV.out.2.1.ext (HX1.out.trans HX5.out))).mono ?_
            rintro e w51 ⟨rfl, hj⟩
            have u0 := Ext.cell hj u0
            have u1 := Ext.cell hj u1
            have u3 := Ext.cell hj u3
            have HP51 := Lib.hid (HP5.out.ext hj)
            have HX51 := Lib.hid (Ext.trans HX5.out hj); clear hj
            go_wp2_with fail
            refine (lays_any m S G (fidx S.files x.name) (cats x.data).size hfb.2 hfb.1 (by omega) (by omega) (by have := HGD.out.used; omega) (by have := HGD.out.room; omega) (fun y hy => by have := (HGD.out.fine y hy).data; omega) w51 HP51.out.model).mono ?_
            rintro e w52 ⟨rfl, hj⟩
            rw [HLY.out]
            have u0 := Ext.cell hj u0
            have u1 := Ext.cell hj u1
            have u3 := Ext.cell hj u3
            have HP52 := Lib.hid (HP51.out.ext hj)
            have HX52 := Lib.hid (Ext.trans HX51.out hj); clear hj
            have HJ := Lib.hid (show ∀ u, Ext w52 u → Calls Try.prog 25 #[.slice ad x.data.length cd] u fun e w' => e = .returned (.string (cats x.data)) ∧ Ext w52 w' from fun u k => (mjoin_any ad cd x.data (by omega) (by omega) u (HV.out.2.1.ext ((HX1.out.trans HX52.out).trans k))).mono (fun _ _ hh => ⟨hh.1, k.trans hh.2⟩))
            have hnG : ¬ G wr.heap.size := fun hb => by have := (HP.out.inG _ hb).2; omega
            clear hfb u0 u2 u4' u5'
            go_wp2_with fail
            go_region_held3 (fun u => u.cell? ⟨wr.heap.size, 1, none⟩ = some (.string x.name) ∧ u.cell? ⟨wr.heap.size, 3, none⟩ = some (.slice ad x.data.length cd)) (first | exact ⟨u1, u3⟩ | exact ⟨Ext.cell hx u1, Ext.cell hx u3⟩ | exact ⟨Only.cell ho (Ext.cell hx u1) hnG, Only.cell ho (Ext.cell hx u3) hnG⟩) (first
              | (go_at_call 25; refine (HJ.out _ (by first | exact Ext.refl _ | assumption | exact (Ext.refl _).drew)).mono ?_; rintro e v ⟨rfl, hx⟩)
              | (go_at_call 26; refine (mput_any m S G ⟨x.name, cats x.data, (cats x.data).size⟩ (by omega) _ (HP52.out.model.ext hx)).mono ?_; rintro e v2 ⟨rfl, hm, ho⟩))
            obtain ⟨G2, hP6, hB6⟩ := (HP52.out.ext hx).turn (Ext.trans HX52.out hx).size hm ho
            have HP6 := Lib.hid hP6
            have HX6 := Lib.hid (Below.trans (Ext.trans HX52.out hx) hB6 : Ext w1 v2)
            clear hm ho hP6 hB6 hx u1 u3
            go_wp2_with fail
            refine (same06_any d m (files S (put ⟨x.name, cats x.data, (cats x.data).size⟩ S.files)) F2 G2 v2 HP6.out.disk HP6.out.model).mono ?_
            rintro e w7 ⟨rfl, hx7⟩
            have HP7 := Lib.hid (HP6.out.ext hx7)
            have HX7 := Lib.hid (Ext.trans HX6.out hx7); clear hx7
            go_wp2_with fail
            go_roundg (xs.length - (i + 1))
            case measure => omega
            case rel => exact ⟨i + 1, (files S (put ⟨x.name, cats x.data, (cats x.data).size⟩ S.files)), F2, G2, by go_num, by omega, rfl, HUSE.out, HP7.out, HX7.out⟩
          · rw [if_neg h0] at hlay
            have HUSE := Lib.hid (show S.uses ≤ i + 1 by omega)
            go_upto_region 11 with fail
            have hbrow : (wr.alloc (.cells #[.int .i64 x.kind, .string x.name, .string x.dest, .slice ad x.data.length cd, .int .i64 x.n, .slice ak x.keep.length ck] 47)).heap[wr.heap.size]? = some (.cells #[.int .i64 x.kind, .string x.name, .string x.dest, .slice ad x.data.length cd, .int .i64 x.n, .slice ak x.keep.length ck] 47 (0, 0)) := heap_alloc_new wr _
            have HXB := Lib.hid (show Ext wr (wr.alloc (.cells #[.int .i64 x.kind, .string x.name, .string x.dest, .slice ad x.data.length cd, .int .i64 x.n, .slice ak x.keep.length ck] 47)) from (Ext.refl wr).alloc _)
            generalize (wr.alloc (.cells #[.int .i64 x.kind, .string x.name, .string x.dest, .slice ad x.data.length cd, .int .i64 x.n, .slice ak x.keep.length ck] 47)) = wb at HXB hbrow ⊢
            have HBR := Lib.hid hbrow; clear hbrow
            have u0 : wb.cell? ⟨wr.heap.size, 0, none⟩ = some (.int .i64 x.kind) := Go.Joins.cell_of_block HBR.out 0
            have u1 : wb.cell? ⟨wr.heap.size, 1, none⟩ = some (.string x.name) := Go.Joins.cell_of_block HBR.out 1
            have u2 : wb.cell? ⟨wr.heap.size, 2, none⟩ = some (.string x.dest) := Go.Joins.cell_of_block HBR.out 2
            have u3 : wb.cell? ⟨wr.heap.size, 3, none⟩ = some (.slice ad x.data.length cd) := Go.Joins.cell_of_block HBR.out 3
            have u4' : wb.cell? ⟨wr.heap.size, 4, none⟩ = some (.int .i64 x.n) := Go.Joins.cell_of_block HBR.out 4
            have u5' : wb.cell? ⟨wr.heap.size, 5, none⟩ = some (.slice ak x.keep.length ck) := Go.Joins.cell_of_block HBR.out 5
            have HPB := Lib.hid (HP.out.ext HXB.out)
            have hdo := do9_any d S F x ad cd ak ck k0 k1 k2 k3 k4 k5 k6 k7 HM.out huse wb HPB.out.disk (HV.out.ext (K.out.trans HXB.out)) (HAF.out F (fun b hb => (HP.out.inF b hb).1)) (HKF.out F (fun b hb => (HP.out.inF b hb).1)) (fun b hb => (HPB.out.inF b hb).2)
            rw [hlay] at hdo
            clear hlay
            dsimp only at hdo
            have HDO := Lib.hid hdo; clear hdo
            clear c0 c1 c2 c3 c4 c5
            go_wp2_with fail
            refine HDO.out.mono ?_
            rintro e w4 ⟨rfl, hl⟩
            have hnF : ¬ F wr.heap.size := fun hb => by have := (HP.out.inF _ hb).2; omega
            have u0 := hl.2.cell u0 hnF
            have u1 := hl.2.cell u1 hnF
            have u2 := hl.2.cell u2 hnF
            have u3 := hl.2.cell u3 hnF
            have u4' := hl.2.cell u4' hnF
            have u5' := hl.2.cell u5' hnF
            obtain ⟨F2, hP2, hB2⟩ := HPB.out.left (HX.out.trans HXB.out).size hl
            have HP2 := Lib.hid hP2
            have HX2 := Lib.hid (Below.trans (HX.out.trans HXB.out) hB2 : Ext w1 w4)
            clear hl hnF hP2 hB2 HDO
            go_wp2_with fail
            refine (find_any m S G x.name (by omega) w4 HP2.out.model).mono ?_
            rintro e w5 ⟨rfl, hx5⟩
            have u0 := Ext.cell hx5 u0
            have u1 := Ext.cell hx5 u1
            have u2 := Ext.cell hx5 u2
            have u3 := Ext.cell hx5 u3
            have u4' := Ext.cell hx5 u4'
            have u5' := Ext.cell hx5 u5'
            have HP5 := Lib.hid (HP2.out.ext hx5)
            have HX5 := Lib.hid (Ext.trans HX2.out hx5); clear hx5
            go_wp2_with fail
            refine (mmay_any x.name (by omega) w5).mono ?_
            rintro e w55 ⟨rfl, rfl⟩
            rw [HMAY.out]
            go_wp2_with fail
            refine (mjoin_any ad cd x.data (by omega) (by omega) w5 (HV.out.2.1.ext (HX1.out.trans HX5.out))).mono ?_
            rintro e w51 ⟨rfl, hj⟩
            have u0 := Ext.cell hj u0
            have u1 := Ext.cell hj u1
            have u3 := Ext.cell hj u3
            have HP51 := Lib.hid (HP5.out.ext hj)
            have HX51 := Lib.hid (Ext.trans HX5.out hj); clear hj
            go_wp2_with fail
            refine (lays_any m S G (fidx S.files x.name) (cats x.data).size hfb.2 hfb.1 (by omega) (by omega) (by have := HGD.out.used; omega) (by have := HGD.out.room; omega) (fun y hy => by have := (HGD.out.fine y hy).data; omega) w51 HP51.out.model).mono ?_
            rintro e w52 ⟨rfl, hj⟩
            rw [HLY.out]
            have u0 := Ext.cell hj u0
            have u1 := Ext.cell hj u1
            have u3 := Ext.cell hj u3
            have HP52 := Lib.hid (HP51.out.ext hj)
            have HX52 := Lib.hid (Ext.trans HX51.out hj); clear hj
            have e0 : ((fc : Int) == 0) = false := by simpa using h0
            clear hfb
            go_wp2_with fail
            refine (same06_any d m S F2 G w52 HP52.out.disk HP52.out.model).mono ?_
            rintro e w7 ⟨rfl, hx7⟩
            have HP7 := Lib.hid (HP52.out.ext hx7)
            have HX7 := Lib.hid (Ext.trans HX52.out hx7); clear hx7
            go_wp2_with fail
            go_roundg (xs.length - (i + 1))
            case measure => omega
            case rel => exact ⟨i + 1, S, F2, G, by go_num, by omega, rfl, HUSE.out, HP7.out, HX7.out⟩
      · have hlt' : ¬ (i : Int) < ((xs.length : Nat) : Int) := by omega
        go_wp2_with fail
        go_ret
        exact ⟨rfl, HX1.out.trans HX.out⟩
end Go.Proofs.Ytmdkjcigmhgpeaa
