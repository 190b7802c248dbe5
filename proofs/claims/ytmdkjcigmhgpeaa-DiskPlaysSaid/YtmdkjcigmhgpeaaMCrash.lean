/- The walk of law 06's crash. -/
import Derived.Test.YtmdkjcigmhgpeaaDoesSpec
import Derived.StillTailTactics
namespace Go.Proofs.Ytmdkjcigmhgpeaa
open Go.RowKit Go.Maps Dsk

theorem crashUpTo_len (ks : List Int) (n : Nat) (l : List FD) : (crashUpTo ks n l).length = l.length := by simp [crashUpTo]
theorem crashUpTo_at (ks : List Int) {n : Nat} {l : List FD} (hn : n < l.length) : (crashUpTo ks n l)[n]'(by rw [crashUpTo_len]; exact hn) = l[n] := by simp [crashUpTo]
theorem crashUpTo_set (ks : List Int) {n : Nat} {l : List FD} (hn : n < l.length) : (crashUpTo ks n l).set n (crashF (ks.getD n 0) l[n]) = crashUpTo ks (n + 1) l := by
  refine List.ext_getElem (by simp [crashUpTo]) (fun i h1 h2 => ?_)
  have hi : i < l.length := by rw [crashUpTo_len] at h2; exact h2
  rw [List.getElem_set]
  by_cases e : n = i
  · subst e; rw [if_pos rfl]; simp [crashUpTo]
  · rw [if_neg e]
    simp only [crashUpTo, List.getElem_mapIdx]
    by_cases h : i < n
    · rw [if_pos h, if_pos (by omega)]
    · rw [if_neg h, if_neg (by omega)]
theorem mrow_woken {w : World} {m : Nat} {sl : Value} {S : DS} (hr : MRow w m sl S) : MRow ((w.setCell ⟨m, 2, none⟩ (.bool false)).setCell ⟨m, 3, none⟩ (.bool false)) m sl (woken S) := by
  have := Go.Joins.block_setCell (i := 3) (Go.Joins.block_setCell (i := 2) hr (.bool false)) (.bool false)
  simpa [MRow, mcells, woken] using this

set_option maxRecDepth 20000 in
set_option maxHeartbeats 4000000 in
theorem mcrash_any (m : Nat) (S : DS) (G : Nat → Prop) (a : Option Addr) (c : Nat) (ks : List Int) (hN : ks.length ≤ 140737488355328) (hM : ∀ k ∈ ks, -9223372036854775808 ≤ k ∧ k ≤ 9223372036854775807) (hg : Dsk.Good S)
    (w : World) (hs : IntsAt w a ks) (hAG : ks ≠ [] → ∀ bk o, a = some ⟨bk, o, none⟩ → ¬ G bk) (hGw : ∀ b, G b → b < w.heap.size) (h : ModelAt w m S G) :
    Calls Try.prog 22 #[.pointer (some ⟨m, 0, none⟩), .slice a ks.length c] w fun e w' => e = .returned (.tuple #[]) ∧ ModelAt w' m (crash S ks) (More G w) ∧ Only G w w' := by
  obtain ⟨sl, h, hGm, hGs⟩ := h
  have HG := Lib.hid (And.intro hGm (And.intro hGs hGw))
  have HR := Lib.hid (show MRow w m sl S from h.row)
  have c2 := HR.out.c2
  have c3 := HR.out.c3
  have f2 := frozen_row h.row 2
  have f3 := frozen_row h.row 3
  have HI := Lib.hid h
  have HS := Lib.hid hs
  have HK := Lib.hid hM
  have HD := Lib.hid hg
  have HAG := Lib.hid hAG
  have hmany := hg.many
  clear h hs hM hg hAG hGm hGs hGw
  go_enter Try.func22, Try.ntmps22
  go_upto_region 2 with fail
  have HON := Lib.hid (show Only (fun b => b = m) w ((w.setCell ⟨m, 2, none⟩ (.bool false)).setCell ⟨m, 3, none⟩ (.bool false)) from ((Only.refl _ w).at _ _).at _ _)
  have HIW := Lib.hid (HI.out.turned (T := woken S) (mrow_woken HR.out) rfl HON.out)
  generalize ((w.setCell ⟨m, 2, none⟩ (.bool false)).setCell ⟨m, 3, none⟩ (.bool false)) = w1 at HON HIW ⊢
  have HSW := Lib.hid (HS.out.onlyN HON.out (fun hne bk o e hb => HAG.out hne bk o e (by have hb' : bk = m := hb; rw [hb']; exact HG.out.1)))
  have HO1 := Lib.hid (show Only G w w1 from HON.out.mono (fun b _ e => by have e' : b = m := e; rw [e']; exact HG.out.1))
  clear c2 c3 f2 f3
  generalize hl : S.files = l at hmany
  have HL := Lib.hid hl; clear hl
  go_wp2_with fail
  go_loopg [4, 5, 6] (l.length) (fun k s4 s5 s6 wr => ∃ i : Nat, s4 = .int .i64 i ∧ i ≤ l.length ∧ k = l.length - i ∧ Hid (ModelIn wr m sl (files (woken S) (crashUpTo ks i l))) ∧ Hid (Only G w1 wr))
  case atStart => exact ⟨0, rfl, Nat.zero_le _, rfl, (show ModelIn _ _ _ _ by rw [crashUpTo_zero, ← HL.out]; exact HIW.out), Only.refl _ _⟩
  case round =>
    obtain ⟨i, rfl, hi, rfl, HMT, HOT⟩ := hrel
    have c1 := MRow.c1 HMT.out.row
    have hlen := crashUpTo_len ks i l
    obtain ⟨a2, cc2, rfl, _, _, hrw⟩ := own_row HMT.out.own
    by_cases hlt : i < l.length
    · have hat := crashUpTo_at ks hlt
      have HSET := Lib.hid (crashUpTo_set ks hlt)
      have hfi : (files (woken S) (crashUpTo ks i l)).files[i]? = some l[i] := by
        show (crashUpTo ks i l)[i]? = _
        rw [List.getElem?_eq_getElem (by omega), hat]
      obtain ⟨g2, o2, rfl, r0, r1, r2⟩ := hrw i l[i] hfi
      have hfine := HD.out.fine l[i] (by rw [HL.out]; exact List.getElem_mem hlt)
      generalize l[i] = f at r0 r1 r2 HSET hfine
      have hfs := hfine.data
      have hfk := hfine.kept
      clear hfine hrw hat hfi
      have hfl : (files (woken S) (crashUpTo ks i l)).files.length = l.length := hlen
      rw [hfl] at c1
      have i1 : (0 : Int) ≤ i := by omega
      have i2 : (i : Int) < ((l.length : Nat) : Int) := by omega
      go_upto_region 6 with fail
      have hrow : (wr.alloc (.cells #[.string f.name, .string f.data, .int .i64 (f.kept : Nat)] 52)).heap[wr.heap.size]? = some (.cells #[.string f.name, .string f.data, .int .i64 (f.kept : Nat)] 52 (0, 0)) := heap_alloc_new wr _
      have HXF := Lib.hid (show Ext wr (wr.alloc (.cells #[.string f.name, .string f.data, .int .i64 (f.kept : Nat)] 52)) from (Ext.refl wr).alloc _)
      generalize (wr.alloc (.cells #[.string f.name, .string f.data, .int .i64 (f.kept : Nat)] 52)) = wf at HXF hrow ⊢
      have d0 : wf.cell? ⟨wr.heap.size, 0, none⟩ = some (.string f.name) := Go.Joins.cell_of_block hrow 0
      have d1 : wf.cell? ⟨wr.heap.size, 1, none⟩ = some (.string f.data) := Go.Joins.cell_of_block hrow 1
      have d2 : wf.cell? ⟨wr.heap.size, 2, none⟩ = some (.int .i64 (f.kept : Nat)) := Go.Joins.cell_of_block hrow 2
      have c1 := HXF.out.cell c1
      have r0 := HXF.out.cell r0
      have r1 := HXF.out.cell r1
      have r2 := HXF.out.cell r2
      have HSF := Lib.hid ((HSW.out.onlyN HOT.out HAG.out).ext HXF.out)
      have hmi := HMT.out.only (F := fun _ => False) (Only.ext HXF.out) (fun hf => hf) (fun _ _ hf => hf)
      have z0 := model_frozen hmi (o2 + i * 3)
      have z1 := model_frozen hmi (o2 + i * 3 + 1)
      have z2 := model_frozen hmi (o2 + i * 3 + 2)
      have HMI := Lib.hid hmi
      clear hrow hmi
      go_wp2_with fail
      obtain ⟨q, hq⟩ : ∃ q, q = crashQ f (ks.getD i 0) := ⟨_, rfl⟩
      have hq1 : f.kept ≤ q ∧ q ≤ f.data.size := by rw [hq]; unfold crashQ; omega
      have HQ := Lib.hid hq
      go_loopg [6] (q - f.kept) (fun k s6 wq => ∃ n : Nat, s6 = .int .i64 n ∧ f.kept ≤ n ∧ n ≤ q ∧ k = q - n ∧ Hid (∃ d, wq = wf.drewN d))
      case atStart => exact ⟨f.kept, rfl, Nat.le_refl _, hq1.1, rfl, ⟨0, rfl⟩⟩
      case round =>
        obtain ⟨n, rfl, hn1, hn2, rfl, HDW⟩ := hrel
        obtain ⟨dw, hdw⟩ := HDW.out
        subst hdw
        have hsub : IntKind.i64.wrap ((n : Int) - (f.kept : Int)) = (n : Int) - (f.kept : Int) := IntWalk.i64_in _ (by omega)
        by_cases hA : n < f.data.size
        · have hA' : (n : Int) < (f.data.size : Int) := by omega
          by_cases hB : i < ks.length
          · have hB' : (i : Int) < ((ks.length : Nat) : Int) := by omega
            obtain ⟨bk, o, rfl, _, hck⟩ := HSF.out i _ (List.getElem?_eq_getElem hB)
            have hk64 := HK.out _ (List.getElem_mem hB)
            have hgd : ks.getD i 0 = ks[i] := by simp [List.getD, hB]
            rw [hgd] at hq
            generalize ks[i] = k0 at hck hk64 hq hgd
            have hqq : q = f.kept + min k0.toNat (f.data.size - f.kept) := hq
            clear hgd hq
            by_cases hC : (n : Int) - (f.kept : Int) < k0
            · have hnq : n < q := by omega
              clear hqq
              go_wp2_with fail
              go_quiet (fail)
              go_wp2_with fail
              go_roundg (q - (n + 1))
              case measure => omega
              case rel => exact ⟨n + 1, by go_num, by omega, by omega, rfl, ⟨dw + nq, by first | rfl | simp⟩⟩
            · have hC' : decide ((n : Int) - (f.kept : Int) < k0) = false := decide_eq_false hC
              have hnq : n = q := by omega
              have HNQ := Lib.hid hnq; clear hnq hqq
              go_wp2_with fail
              go_quiet (fail)
              go_wp2_with fail
              have HXZ := Lib.hid (show Ext wf ((wf.drewN dw).drewN nq) from ((Ext.refl wf).drewN _).drewN _)
              generalize ((wf.drewN dw).drewN nq) = wz at HXZ ⊢
              have c1 := HXZ.out.cell c1
              have d0 := HXZ.out.cell d0
              have d1 := HXZ.out.cell d1
              have r0 := HXZ.out.cell r0
              have r1 := HXZ.out.cell r1
              have r2 := HXZ.out.cell r2
              have hmz := HMI.out.only (F := fun _ => False) (Only.ext HXZ.out) (fun hf => hf) (fun _ _ hf => hf)
              have z0 := model_frozen hmz (o2 + i * 3)
              have z1 := model_frozen hmz (o2 + i * 3 + 1)
              have z2 := model_frozen hmz (o2 + i * 3 + 2)
              have HMZ := Lib.hid hmz; clear hmz
              have n1 : (0 : Int) ≤ n := by omega
              have n2 : (n : Int) ≤ (f.data.size : Int) := by omega
              go_still_tail 13, (by kernel_rfl)
              go_wp2_with fail
              have ecr : crashF (ks.getD i 0) f = ⟨f.name, f.data.extract 0 n, n⟩ := by
                rw [extract_take, HNQ.out, HQ.out]; rfl
              have hset := model_set HMZ.out (show i < (files (woken S) (crashUpTo ks i l)).files.length by show i < (crashUpTo ks i l).length; omega) ⟨f.name, f.data.extract 0 n, n⟩
              go_roundg (l.length - (i + 1))
              case measure => omega
              case rel =>
                refine ⟨i + 1, by go_num, by omega, rfl, (show ModelIn _ _ _ _ from ?_), ((HOT.out.andThen (Only.ext (HXF.out.trans HXZ.out))).andThen (hset.2.mono (fun b _ e => by
                  have e' : b = g2 := e
                  rw [e']; exact HG.out.2.1 g2 rfl))).andThen (Only.ext (Ext.refl _).drew)⟩
                rw [← HSET.out, ecr]
                exact hset.1.only (F := fun _ => False) (Only.ext (Ext.refl _).drew) (fun hf => hf) (fun _ _ hf => hf)
          · have hB' : decide ((i : Int) < ((ks.length : Nat) : Int)) = false := by simp; omega
            have hB2 : ¬ (i : Int) < ((ks.length : Nat) : Int) := by omega
            have hnq : n = q := by
              have hgd : ks.getD i 0 = 0 := by rw [List.getD_eq_getElem?_getD, List.getElem?_eq_none (by omega)]; rfl
              rw [hgd] at hq
              have : q = f.kept + min (0 : Int).toNat (f.data.size - f.kept) := hq
              simp at this
              omega
            have HNQ := Lib.hid hnq; clear hnq hq
            go_wp2_with fail
            go_quiet (fail)
            go_wp2_with fail
            have HXZ := Lib.hid (show Ext wf ((wf.drewN dw).drewN nq) from ((Ext.refl wf).drewN _).drewN _)
            generalize ((wf.drewN dw).drewN nq) = wz at HXZ ⊢
            have c1 := HXZ.out.cell c1
            have d0 := HXZ.out.cell d0
            have d1 := HXZ.out.cell d1
            have r0 := HXZ.out.cell r0
            have r1 := HXZ.out.cell r1
            have r2 := HXZ.out.cell r2
            have hmz := HMI.out.only (F := fun _ => False) (Only.ext HXZ.out) (fun hf => hf) (fun _ _ hf => hf)
            have z0 := model_frozen hmz (o2 + i * 3)
            have z1 := model_frozen hmz (o2 + i * 3 + 1)
            have z2 := model_frozen hmz (o2 + i * 3 + 2)
            have HMZ := Lib.hid hmz; clear hmz
            have n1 : (0 : Int) ≤ n := by omega
            have n2 : (n : Int) ≤ (f.data.size : Int) := by omega
            go_still_tail 13, (by kernel_rfl)
            go_wp2_with fail
            have ecr : crashF (ks.getD i 0) f = ⟨f.name, f.data.extract 0 n, n⟩ := by
              rw [extract_take, HNQ.out, HQ.out]; rfl
            have hset := model_set HMZ.out (show i < (files (woken S) (crashUpTo ks i l)).files.length by show i < (crashUpTo ks i l).length; omega) ⟨f.name, f.data.extract 0 n, n⟩
            go_roundg (l.length - (i + 1))
            case measure => omega
            case rel =>
              refine ⟨i + 1, by go_num, by omega, rfl, (show ModelIn _ _ _ _ from ?_), ((HOT.out.andThen (Only.ext (HXF.out.trans HXZ.out))).andThen (hset.2.mono (fun b _ e => by
                have e' : b = g2 := e
                rw [e']; exact HG.out.2.1 g2 rfl))).andThen (Only.ext (Ext.refl _).drew)⟩
              rw [← HSET.out, ecr]
              exact hset.1.only (F := fun _ => False) (Only.ext (Ext.refl _).drew) (fun hf => hf) (fun _ _ hf => hf)
        · have hA' : decide ((n : Int) < (f.data.size : Int)) = false := by simp; omega
          have hA2 : ¬ (n : Int) < (f.data.size : Int) := by omega
          have hnq : n = q := by omega
          have HNQ := Lib.hid hnq; clear hnq hq
          go_wp2_with fail
          go_quiet (fail)
          go_wp2_with fail
          have HXZ := Lib.hid (show Ext wf ((wf.drewN dw).drewN nq) from ((Ext.refl wf).drewN _).drewN _)
          generalize ((wf.drewN dw).drewN nq) = wz at HXZ ⊢
          have c1 := HXZ.out.cell c1
          have d0 := HXZ.out.cell d0
          have d1 := HXZ.out.cell d1
          have r0 := HXZ.out.cell r0
          have r1 := HXZ.out.cell r1
          have r2 := HXZ.out.cell r2
          have hmz := HMI.out.only (F := fun _ => False) (Only.ext HXZ.out) (fun hf => hf) (fun _ _ hf => hf)
          have z0 := model_frozen hmz (o2 + i * 3)
          have z1 := model_frozen hmz (o2 + i * 3 + 1)
          have z2 := model_frozen hmz (o2 + i * 3 + 2)
          have HMZ := Lib.hid hmz; clear hmz
          have n1 : (0 : Int) ≤ n := by omega
          have n2 : (n : Int) ≤ (f.data.size : Int) := by omega
          go_still_tail 13, (by kernel_rfl)
          go_wp2_with fail
          have ecr : crashF (ks.getD i 0) f = ⟨f.name, f.data.extract 0 n, n⟩ := by
            rw [extract_take, HNQ.out, HQ.out]; rfl
          have hset := model_set HMZ.out (show i < (files (woken S) (crashUpTo ks i l)).files.length by show i < (crashUpTo ks i l).length; omega) ⟨f.name, f.data.extract 0 n, n⟩
          go_roundg (l.length - (i + 1))
          case measure => omega
          case rel =>
            refine ⟨i + 1, by go_num, by omega, rfl, (show ModelIn _ _ _ _ from ?_), ((HOT.out.andThen (Only.ext (HXF.out.trans HXZ.out))).andThen (hset.2.mono (fun b _ e => by
              have e' : b = g2 := e
              rw [e']; exact HG.out.2.1 g2 rfl))).andThen (Only.ext (Ext.refl _).drew)⟩
            rw [← HSET.out, ecr]
            exact hset.1.only (F := fun _ => False) (Only.ext (Ext.refl _).drew) (fun hf => hf) (fun _ _ hf => hf)
    · have hlt' : ¬ (i : Int) < ((l.length : Nat) : Int) := by omega
      have hfl : (files (woken S) (crashUpTo ks i l)).files.length = l.length := hlen
      rw [hfl] at c1
      go_wp2_with fail
      go_end0
      obtain rfl : i = l.length := by omega
      have hc : crash S ks = files (woken S) (crashUpTo ks l.length l) := by
        have := crashUpTo_all ks S
        rw [HL.out] at this
        rw [this]; rfl
      rw [hc]
      exact ⟨rfl, ⟨_, HMT.out, .inl HG.out.1, fun b hb => .inl (HG.out.2.1 b hb)⟩, HO1.out.andThen HOT.out⟩
end Go.Proofs.Ytmdkjcigmhgpeaa
