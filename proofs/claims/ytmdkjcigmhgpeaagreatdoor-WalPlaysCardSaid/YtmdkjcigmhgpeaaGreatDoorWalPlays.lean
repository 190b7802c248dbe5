/- The walk of WalPlays: whatever is appended, committed, rotated, forgotten and opened anew: each answer, and the records at last. -/
import Derived.Test.YtmdkjcigmhgpeaaGreatDoorWalRuns
namespace Go.Proofs.YtmdkjcigmhgpeaaGreatDoor
open Go.RowKit Snp SealMath Dsk Wal

set_option maxRecDepth 20000 in
set_option maxHeartbeats 8000000 in
theorem walplays_any (xs : List AW) (a : Option Addr) (c : Nat) (hN : xs.length ≤ 140737488355328) (w : World) (hs : ActsWAt w a xs) (hnb : Nibs w) :
    Calls Tryz.prog 10 #[.slice a xs.length c] w fun e w' => e = .returned (.bool true) ∧ Ext w w' := by
  have HN := Lib.hid hnb
  have HNL := Lib.hid (cell_lt (hnb 0 (by omega)))
  have HS := Lib.hid hs
  have hgr := great7_any a c xs hN w hs
  clear hnb hs
  have HAW : Hid (∀ u, Ext w u → Calls Tryz.prog 32 #[] u fun e w' => e = .returned (.bool true) ∧ Ext u w') := fun u k => awake7_any u (HN.out.ext k)
  by_cases hg : greatW xs = true
  · rw [hg] at hgr
    go_enter Tryz.func10, Tryz.ntmps10
    go_wp2_with fail
    refine hgr.mono ?_
    clear hgr
    rintro e w1 ⟨rfl, rfl⟩
    go_wp2_with fail
    refine (HAW.out _ (Ext.refl _)).mono ?_
    rintro e w2 ⟨rfl, hx⟩
    have HX := Lib.hid hx; clear hx
    go_wp2_with fail
    go_ret
    exact ⟨rfl, HX.out⟩
  · have hg0 : greatW xs = false := by simpa using hg
    obtain ⟨hlen, hdat⟩ := greatW_false hg0
    have HDAT := Lib.hid hdat
    rw [hg0] at hgr
    clear hg hg0 hdat
    go_enter Tryz.func10, Tryz.ntmps10
    go_wp2_with fail
    refine hgr.mono ?_
    clear hgr
    rintro e w0 ⟨rfl, rfl⟩
    go_wp2_with fail
    refine (HAW.out _ (Ext.refl _)).mono ?_
    rintro e w1 ⟨rfl, hx⟩
    have HX1 := Lib.hid hx; clear hx
    go_wp2_with fail
    refine (begin7_any 1048576 (by decide) w1 (HN.out.ext HX1.out)).mono ?_
    rintro e w2 ⟨rb, d, lb, G, rfl, hr, hl, hd, hG, hG1, hG2, hlb, hrb, hne, hx⟩
    have HX2 := Lib.hid (HX1.out.trans hx)
    have HH2 : Hid (RH w1.heap.size w2 rb d lb (.slice none 0 0) (.slice none 0 0) (new 1048576) (emptyL 0) [] [] 0 0 true) :=
      ⟨hr, ⟨⟨hl, hlb, .inl rfl, fun x hx => (by rcases hx with rfl | rfl | hx | hx; exact lt_of_heap hl; exact lt_of_heap hr; cases hx; cases hx), hx.size, G, hd, fun x hx => ⟨hG x hx, (by rintro (rfl | rfl | k | k); exact hG1 hx; exact hG2 hx; cases k; cases k)⟩⟩, OwnRecs.nil _ _, OffInts.nil _ _, hrb, fun k => hne k.symm, nofun, nofun, nofun, nofun, nofun⟩⟩
    clear hr hl hd hG hG1 hG2 hlb hrb hne hx
    go_wp2_with fail
    go_loopg [4] (xs.length) (fun g i wr => ∃ (j lb' : Nat) (vr vs : Value) (S : DS) (L : LG) (recs : List RC) (starts : List Nat) (next safe : Nat) (fresh : Bool), i = .int .i64 j ∧ j ≤ xs.length ∧ g = xs.length - j ∧ Hid (RH w1.heap.size wr rb d lb' vr vs S L recs starts next safe fresh) ∧ Hid (Wal.Way j S L recs starts next safe fresh) ∧ Hid (S.armed = false) ∧ Hid (Ext w wr))
    case atStart => exact ⟨0, lb, _, _, _, _, _, _, _, _, _, rfl, Nat.zero_le _, rfl, HH2, Wal.Way.first, (by show _ = _; rfl), HX2⟩
    case round =>
      obtain ⟨j, lb', vr, vs, S, L, recs, starts, next, safe, fresh, rfl, hj, rfl, HH, HW, HA, HX⟩ := hrel
      by_cases hlt : j < xs.length
      · obtain ⟨bk, o, rfl, hc⟩ := (HS.out.ext HX.out) j _ (List.getElem?_eq_getElem hlt)
        have hx300 := HDAT.out _ (List.getElem_mem hlt)
        have hcall := play_act xs[j] hx300 (by omega) HH.out HW.out HA.out (HN.out.ext HX.out) (Nat.lt_of_lt_of_le HNL.out HX1.out.size)
        generalize xs[j] = x at hc hcall hx300
        have c0 := hc 0 _ rfl
        have c1 := hc 1 _ rfl
        have c2 := hc 2 _ rfl
        rw [Nat.add_zero] at c0
        rw [← Nat.add_assoc] at c1 c2
        clear hc hx300
        go_wp2_with fail
        refine hcall.mono ?_
        clear hcall
        rintro e w5 ⟨lb5, vr5, vs5, T, M, r5, s5, n5, sf5, f5, rfl, hrh, hway, harm, hbe⟩
        have HH5 := Lib.hid hrh
        have HW5 := Lib.hid hway
        have HA5 := Lib.hid harm
        have HX5 : Hid (Ext w w5) := Below.trans HX.out (Below.mono hbe HX1.out.size)
        clear hrh hway harm hbe c0 c1 c2
        have c1 : w5.cell? ⟨rb, 1, none⟩ = some (.pointer (some ⟨lb5, 0, none⟩)) := Go.Joins.cell_of_block HH5.out.run 1
        have c4 : w5.cell? ⟨rb, 4, none⟩ = some (.int .i64 (n5 : Nat)) := Go.Joins.cell_of_block HH5.out.run 4
        have c5 : w5.cell? ⟨rb, 5, none⟩ = some (.int .i64 (sf5 : Nat)) := Go.Joins.cell_of_block HH5.out.run 5
        have HNX : Hid (∀ u, Ext w5 u → Calls Tryz.prog 42 #[.pointer (some ⟨lb5, 0, none⟩)] u fun e w' => e = .returned (.int .i64 (n5 : Nat)) ∧ u = w') := fun u k => by
          have h := lnext_any lb5 d nameW M u (HH5.out.rest.wh.log.ext k)
          rw [← HW5.out.next] at h
          exact h
        have HSF : Hid (∀ u, Ext w5 u → Calls Tryz.prog 43 #[.pointer (some ⟨lb5, 0, none⟩)] u fun e w' => e = .returned (.int .i64 (sf5 : Nat)) ∧ u = w') := fun u k => by
          have h := lsafe_any lb5 d nameW M u (HH5.out.rest.wh.log.ext k)
          rw [HW5.out.safe_eq] at h
          exact h
        have HER : Hid (∀ u, Ext w5 u → Calls Tryz.prog 46 #[.pointer (some ⟨lb5, 0, none⟩)] u fun e w' => e = .returned (.int .i64 0) ∧ u = w') := fun u k => by
          have h := lerr_any lb5 d nameW M u (HH5.out.rest.wh.log.ext k)
          rw [HW5.out.err] at h
          exact h
        go_upto_region 10 with fail
        go_cut [5, 6, 68] (fun s5 s6 s68 wx => s68 = .bool false ∧ Hid (Ext w5 wx))
        case first =>
          go_region_held3 (fun u => u.cell? ⟨rb, 1, none⟩ = some (.pointer (some ⟨lb5, 0, none⟩)) ∧ u.cell? ⟨rb, 4, none⟩ = some (.int .i64 (n5 : Nat)) ∧ u.cell? ⟨rb, 5, none⟩ = some (.int .i64 (sf5 : Nat))) (first | exact ⟨c1, c4, c5⟩)
            (first | (go_at_call 42; refine (HNX.out _ (by first | exact Ext.refl _ | exact (Ext.refl _).drew | exact (Ext.refl _).drew.drew | exact (Ext.refl _).drew.drew.drew)).mono ?_; rintro e u ⟨rfl, rfl⟩) | (go_at_call 43; refine (HSF.out _ (by first | exact Ext.refl _ | exact (Ext.refl _).drew | exact (Ext.refl _).drew.drew | exact (Ext.refl _).drew.drew.drew)).mono ?_; rintro e u ⟨rfl, rfl⟩) | (go_at_call 46; refine (HER.out _ (by first | exact Ext.refl _ | exact (Ext.refl _).drew | exact (Ext.refl _).drew.drew | exact (Ext.refl _).drew.drew.drew)).mono ?_; rintro e u ⟨rfl, rfl⟩))
          all_goals
            go_wp2_with fail
            go_meet
            exact ⟨rfl, (by first | exact Ext.refl _ | exact (Ext.refl _).drew | exact (Ext.refl _).drew.drew | exact (Ext.refl _).drew.drew.drew)⟩
        obtain ⟨rfl, HX6⟩ := hcut
        clear c1 c4 c5
        go_wp2_with fail
        go_roundg (xs.length - (j + 1))
        case measure => omega
        case rel => exact ⟨j + 1, lb5, vr5, vs5, T, M, r5, s5, n5, sf5, f5, by go_num, by omega, rfl, HH5.out.ext HX6.out, HW5, HA5, HX5.out.trans HX6.out⟩
      · obtain rfl : j = xs.length := by omega
        obtain ⟨T, M, t1, t2, t3⟩ := HW.out.opened HA.out
        have hop := opened_any HH.out (HN.out.ext HX.out) (Nat.lt_of_lt_of_le HNL.out HX1.out.size) HW.out.on (by have := HW.out.uses; omega) (by have := HW.out.counts.1; omega) t1 t2.next.symm
        clear t1 t2 t3
        go_wp2_with fail
        refine hop.mono ?_
        clear hop
        rintro e w5 ⟨lb5, rfl, _, hbe⟩
        have HX5 : Hid (Ext w w5) := Below.trans HX.out (Below.mono hbe HX1.out.size)
        clear hbe
        go_wp2_with fail
        go_ret
        exact ⟨rfl, HX5.out⟩
end Go.Proofs.YtmdkjcigmhgpeaaGreatDoor
