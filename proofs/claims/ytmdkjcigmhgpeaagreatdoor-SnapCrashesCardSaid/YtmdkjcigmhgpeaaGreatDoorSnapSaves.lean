/- Several texts in one (each under its own head): the first: The walk of snap.Save. -/
import Derived.Test.YtmdkjcigmhgpeaaGreatDoorSnapWalk
import Derived.Test.YtmdkjcigmhgpeaaGreatDoorDiskNil
import Derived.Test.YtmdkjcigmhgpeaaGreatDoorSame
/- The walk of snap.Save. -/
namespace Go.Proofs.YtmdkjcigmhgpeaaGreatDoor
open Go.RowKit Snp SealMath Dsk

theorem left_stay {F : Nat → Prop} {d : Nat} {w w1 : World} {S : DS} {B : Nat} (h : DiskAt w d S (fun b => F b ∧ b < B)) (hx : Ext w w1) : Left F d w S w1 :=
  ⟨(h.ext hx).mono (fun _ _ hb => .inl hb.1), Only.ext hx⟩
theorem StrsAt.drew {u : World} {a : Option Addr} {k : List ByteArray} (h : StrsAt u a k) : StrsAt u.drew a k := h
theorem namesOf_nil (S : DS) : (namesOf S []).length = S.files.length := by
  unfold namesOf names
  rw [List.filter_eq_self.2 (by simp), List.length_map]
set_option maxRecDepth 20000 in
set_option maxHeartbeats 2000000 in
theorem save_any (d : Nat) (S : DS) (F : Nat → Prop) (n : Nat) (hn : n ≤ 99999999) (a : Option Addr) (c : Nat) (xs : List ByteArray) (hN : xs.length ≤ 1000) (hcap : xs.length ≤ c) (hl : ((xs.map lst).flatten).length ≤ 140737488355328) (hu : S.uses + 1000 < 4611686018427387904) (w : World) (h : DiskAt w d S F) (hs : StrsAt w a xs) (hnb : Nibs w) (hFn : ¬ F 0) :
    Calls Tryz.prog 14 #[.pointer (some ⟨d, 0, none⟩), .int .i64 (n : Nat), .slice a xs.length c] w fun e w' => e = .returned (.int .i64 ((saveS S n ((xs.map lst).flatten)).1 : Nat)) ∧ Left F d w (saveS S n ((xs.map lst).flatten)).2 w' := by
  have hF : ∀ b, w.heap.size ≤ b → ¬ (F b ∧ b < w.heap.size) := fun b hb k => by omega
  have HFF := Lib.hid hF
  clear hF
  obtain ⟨w2, hw2⟩ : ∃ w2, w2 = (w.alloc (.cells #[.pointer (some ⟨d, 0, none⟩)] 23)).alloc (.cells #[.int .i64 (n : Nat)] 3) := ⟨_, rfl⟩
  have hx2 : Ext w w2 := by rw [hw2]; exact ((Ext.refl w).alloc _).alloc _
  obtain ⟨cd, hcd⟩ : ∃ cd, cd = w.heap.size := ⟨_, rfl⟩
  obtain ⟨ci, hci⟩ : ∃ ci, ci = w.heap.size + 1 := ⟨_, rfl⟩
  have h1 : w2.cell? ⟨cd, 0, none⟩ = some (.pointer (some ⟨d, 0, none⟩)) := by
    rw [hw2, hcd]
    exact ((Ext.refl _).alloc (.cells #[.int .i64 (n : Nat)] 3)).cell (cell_new w #[.pointer (some ⟨d, 0, none⟩)] 23 0)
  have h3 : w2.cell? ⟨ci, 0, none⟩ = some (.int .i64 (n : Nat)) := by
    have := cell_new (w.alloc (.cells #[.pointer (some ⟨d, 0, none⟩)] 23)) #[.int .i64 (n : Nat)] 3 0
    rw [show (w.alloc (.cells #[.pointer (some ⟨d, 0, none⟩)] 23)).heap.size = w.heap.size + 1 by simp] at this
    rw [hw2, hci]
    exact this
  have HCD : Hid (¬ (F cd ∧ cd < w.heap.size)) := HFF.out cd (by omega)
  have HCI : Hid (¬ (F ci ∧ ci < w.heap.size)) := HFF.out ci (by omega)
  have hcall := joined_any a c xs w2 (hs.ext hx2) (by omega) hcap hl
  generalize (xs.map lst).flatten = D at hcall hl
  have HD := Lib.hid (disk_small h); clear h
  have HN := Lib.hid hnb; clear hnb
  have HX2 := Lib.hid hx2
  clear hs hx2
  generalize hR : saveS S n D = R
  have HRR := Lib.hid hR
  clear hR
  go_enter Tryz.func14, Tryz.ntmps14
  go_upto_region 1 with fail
  rw [← hw2, ← hci, ← hcd]
  have HSZ := Lib.hid (And.intro hcd hci)
  clear hw2 hcd hci
  go_wp2_with fail
  refine hcall.mono ?_
  clear hcall
  rintro e w3 ⟨data, rfl, hdata, hx3⟩
  have HX3 := Lib.hid (Ext.trans HX2.out hx3)
  have HDATA := Lib.hid hdata
  have h1 := Ext.cell hx3 h1
  have h3 := Ext.cell hx3 h3
  clear hdata hx3
  go_upto_region 2 with fail
  have h4 := cell_new w3 #[.string data] 9 0
  have hx4 : Ext w3 (w3.alloc (.cells #[.string data] 9)) := (Ext.refl w3).alloc _
  have HX4 := Lib.hid (Ext.trans HX3.out hx4)
  have h1 := Ext.cell hx4 h1
  have h3 := Ext.cell hx4 h3
  have HCT : Hid (¬ (F w3.heap.size ∧ w3.heap.size < w.heap.size)) := HFF.out _ HX3.out.size
  generalize (w3.alloc (.cells #[.string data] 9)) = w4 at h1 h3 h4 HX4 hx4 ⊢
  generalize w3.heap.size = ct at h4 HCT ⊢
  clear hx4
  have hcall := name_any n hn w4
  have hnm := nSnap_size n hn
  go_wp2_with fail
  refine hcall.mono ?_
  clear hcall
  rintro e w5 ⟨rfl, hx5⟩
  have HX5 := Lib.hid (Ext.trans HX4.out hx5)
  have h1 := Ext.cell hx5 h1
  have h3 := Ext.cell hx5 h3
  have h4 := Ext.cell hx5 h4
  clear hx5
  go_upto_region 3 with fail
  have h2 := cell_new w5 #[.string (nSnap n)] 9 0
  have hx6 : Ext w5 (w5.alloc (.cells #[.string (nSnap n)] 9)) := (Ext.refl w5).alloc _
  have HX6 := Lib.hid (Ext.trans HX5.out hx6)
  have h1 := Ext.cell hx6 h1
  have h3 := Ext.cell hx6 h3
  have h4 := Ext.cell hx6 h4
  have HCN : Hid (¬ (F w5.heap.size ∧ w5.heap.size < w.heap.size)) := HFF.out _ HX5.out.size
  generalize (w5.alloc (.cells #[.string (nSnap n)] 9)) = w6 at h1 h2 h3 h4 HX6 hx6 ⊢
  generalize w5.heap.size = cn at h2 HCN ⊢
  clear hx6
  have hnt : (nSnap n).toList.length = 10 := by rw [Lib.toList_data]; exact hnm
  have HNM : Hid (nSnap n = nSnap n) := rfl
  generalize hqq : nSnap n = nm at h2 hnm hnt HNM ⊢
  clear HNM
  have HNM := Lib.hid hqq
  clear hqq
  have e2 : (nm.toList = []) = False := eq_false (fun e => by rw [e] at hnt; cases hnt)
  have e3 : nm.toList.isEmpty = false := by simp [e2]
  clear hnt
  have HRN : Hid ((if S.off then (7, S) else if (loadS S).2.2 = 0 ∧ (loadS S).1 = n then (9, S) else if 960000 < D.length then (5, S) else if (needS D : Int) > free S ∨ 98 ≤ S.files.length then (6, S) else seqS (steps n D) S) = R) := by
    show _ = _
    rw [← HRR.out]
    unfold saveS
    have : mayN ((n : Nat) : Int) = true := by unfold mayN; simp; omega
    rw [this]
    simp
  clear HRR
  have hDsz : data.size = D.length := by rw [← lst_length, HDATA.out]
  go_wp2_with fail
  refine (on_any d S _ w6 (HD.out.ext HX6.out)).mono ?_
  rintro e w7 ⟨rfl, rfl⟩
  cases hoff : S.off with
  | true =>
    have HO := Lib.hid hoff; clear hoff
    go_wp2_with fail
    go_ret
    have er : R = (7, S) := by rw [← HRN.out, if_pos HO.out]
    rw [er]
    exact ⟨rfl, left_stay HD.out HX6.out⟩
  | false =>
    have HRN2 : Hid ((if (loadS S).2.2 = 0 ∧ (loadS S).1 = n then (9, S) else if 960000 < D.length then (5, S) else if (needS D : Int) > free S ∨ 98 ≤ S.files.length then (6, S) else seqS (steps n D) S) = R) := by
      show _ = _
      rw [← HRN.out, hoff]; rfl
    clear HRN
    have HOFF := Lib.hid hoff; clear hoff
    go_wp2_with fail
    refine (counts_any d S _ n w6 (HD.out.ext HX6.out) (HN.out.ext HX6.out)).mono ?_
    rintro e w7 ⟨rfl, hx7⟩
    have HX7 := Lib.hid (Ext.trans HX6.out hx7)
    have h1 := Ext.cell hx7 h1
    have h2 := Ext.cell hx7 h2
    have h3 := Ext.cell hx7 h3
    have h4 := Ext.cell hx7 h4
    clear hx7
    by_cases hct : (loadS S).2.2 = 0 ∧ (loadS S).1 = n
    · rw [decide_eq_true hct]
      have HO := Lib.hid hct; clear hct
      go_wp2_with fail
      go_ret
      have er : R = (9, S) := by rw [← HRN2.out, if_pos HO.out]
      rw [er]
      exact ⟨rfl, left_stay HD.out HX7.out⟩
    · rw [decide_eq_false hct]
      have HRN3 : Hid ((if 960000 < D.length then (5, S) else if (needS D : Int) > free S ∨ 98 ≤ S.files.length then (6, S) else seqS (steps n D) S) = R) := by
        show _ = _
        rw [← HRN2.out, if_neg hct]
      clear HRN2 hct
      by_cases hlong : 960000 < D.length
      · have hlong2 : (960000 : Int) < (data.size : Int) := by omega
        have HO := Lib.hid hlong; clear hlong
        go_wp2_with fail
        go_ret
        have er : R = (5, S) := by rw [← HRN3.out, if_pos HO.out]
        rw [er]
        exact ⟨rfl, left_stay HD.out HX7.out⟩
      · have hlong2 : ¬ (960000 : Int) < (data.size : Int) := by omega
        have HRN4 : Hid ((if (needS D : Int) > free S ∨ 98 ≤ S.files.length then (6, S) else seqS (steps n D) S) = R) := by
          show _ = _
          rw [← HRN3.out, if_neg hlong]
        clear HRN3
        have HNEED : Hid (∀ (b : Nat) u, StrsAt u (some ⟨b, 0, none⟩) [data] → Nibs u → Calls Tryz.prog 53 #[.slice (some ⟨b, 0, none⟩) 1 1] u fun e w' => e = .returned (.int .i64 (needS D : Nat)) ∧ Ext u w') := fun b u hst hnu => by
          have := Need_any (some ⟨b, 0, none⟩) 1 [data] (by simp) (by simp) u hst (by simp [HDATA.out]; omega) hnu
          simpa [HDATA.out] using this
        have HFREE : Hid (∀ u, Ext w u → Calls Tryz.prog 34 #[.pointer (some ⟨d, 0, none⟩)] u fun e w' => e = .returned (.int .i64 (free S)) ∧ Ext u w') := fun u hu => free_any d S _ u (HD.out.ext hu)
        by_cases hfull : (needS D : Int) > free S
        · have HO := Lib.hid hfull
          generalize (needS D) = q at HNEED hfull
          generalize (free S) = r at HFREE hfull
          go_wp2_with fail
          have hA1 : (w7.alloc (.cells #[.string data] 9)).cell? ⟨cd, 0, none⟩ = some (.pointer (some ⟨d, 0, none⟩)) := Ext.cell ((Ext.refl _).alloc _) h1
          go_region_with (first
            | (go_at_call 53; refine (HNEED.out _ _ (by first | exact StrsAt.one _ _ _ | exact (StrsAt.one _ _ _).drew) ((HN.out.ext HX7.out).ext (by first | exact (Ext.refl _).alloc _ | exact ((Ext.refl _).alloc _).drew | exact ((Ext.refl _).drew).alloc _))).mono ?_; rintro e v ⟨rfl, hx0⟩; have hx : Ext w7 v := Ext.trans (by first | exact (Ext.refl _).alloc _ | exact ((Ext.refl _).alloc _).drew | exact ((Ext.refl _).drew).alloc _) hx0; have g1 := Ext.cell hx h1)
            | (go_at_call 34; refine (HFREE.out _ (Ext.trans HX7.out hx)).mono ?_; rintro e v2 ⟨rfl, hx1⟩))
          all_goals
            have HX8 := Lib.hid (show Ext w v2 from Ext.trans (Ext.trans HX7.out hx) hx1)
            clear hx0 hx hx1 h1 h2 h3 h4 g1 hA1
            go_wp2_with fail
            go_ret
            have er : R = (6, S) := by rw [← HRN4.out, if_pos (.inl HO.out)]
            rw [er]
            exact ⟨rfl, left_stay HD.out HX8.out⟩
        · have HO := Lib.hid hfull
          have hfull2 : decide (free S < ((needS D : Nat) : Int)) = false := decide_eq_false (by omega)
          generalize (needS D) = q at HNEED hfull2 HRN4
          generalize (free S) = r at HFREE hfull2 HRN4
          clear hfull
          by_cases hmany : 98 ≤ S.files.length
          · have hmany2 : (98 : Int) ≤ ((S.files.length : Nat) : Int) := by omega
            have HM := Lib.hid hmany
            clear hmany
            go_wp2_with fail
            go_region_held3 (fun u => u.cell? ⟨cd, 0, none⟩ = some (.pointer (some ⟨d, 0, none⟩)) ∧ u.cell? ⟨ct, 0, none⟩ = some (.string data))
                (first | exact ⟨h1, h4⟩ | exact ⟨Ext.cell (Ext.alloc (Ext.refl _) _) h1, Ext.cell (Ext.alloc (Ext.refl _) _) h4⟩ | exact ⟨Ext.cell (Ext.alloc ((Ext.refl _).drew) _) h1, Ext.cell (Ext.alloc ((Ext.refl _).drew) _) h4⟩ | exact ⟨Ext.cell hx h1, Ext.cell hx h4⟩ | exact ⟨Ext.cell (Ext.trans hx hx1) h1, Ext.cell (Ext.trans hx hx1) h4⟩ | exact ⟨Ext.cell (Ext.trans (Ext.trans hx hx1) hx2) h1, Ext.cell (Ext.trans (Ext.trans hx hx1) hx2) h4⟩)
                (first
              | (go_at_call 53; refine (HNEED.out _ _ (by first | exact StrsAt.one _ _ _ | exact (StrsAt.one _ _ _).drew) ((HN.out.ext HX7.out).ext (by first | exact (Ext.refl _).alloc _ | exact ((Ext.refl _).alloc _).drew | exact ((Ext.refl _).drew).alloc _))).mono ?_; rintro e v ⟨rfl, hx0⟩; have hx : Ext w7 v := Ext.trans (by first | exact (Ext.refl _).alloc _ | exact ((Ext.refl _).alloc _).drew | exact ((Ext.refl _).drew).alloc _) hx0)
              | (go_at_call 34; refine (HFREE.out _ (Ext.trans HX7.out hx)).mono ?_; rintro e v2 ⟨rfl, hx1⟩)
              | (go_at_call 15; refine (names_any d S _ none 0 [] (by simp) _ (HD.out.ext (Ext.trans (Ext.trans HX7.out hx) hx1)) (StrsAt.nil _ _)).mono ?_; rintro e v3 ⟨nv, rfl, hon, hx2⟩; obtain ⟨na, nc, rfl, _, _, _⟩ := hon.form; rw [namesOf_nil] at *))
            have HX8 := Lib.hid (show Ext w v3 from Ext.trans (Ext.trans (Ext.trans HX7.out hx) hx1) hx2)
            clear hx0 hx hx1 hx2 h1 h2 h3 h4 hon
            go_wp2_with fail
            go_ret
            have er : R = (6, S) := by rw [← HRN4.out, if_pos (.inr HM.out)]
            rw [er]
            exact ⟨rfl, left_stay HD.out HX8.out⟩
          · have hmany2 : ¬ (98 : Int) ≤ ((S.files.length : Nat) : Int) := by omega
            have HRN5 : Hid (seqS (steps n D) S = R) := by
              show _ = _
              rw [← HRN4.out, if_neg (by rintro (h | h); exact (of_decide_eq_false hfull2) h; exact hmany h)]
            clear HRN4 hmany
            go_wp2_with fail
            go_region_held3 (fun u => u.cell? ⟨cd, 0, none⟩ = some (.pointer (some ⟨d, 0, none⟩)) ∧ u.cell? ⟨ct, 0, none⟩ = some (.string data))
                (first | exact ⟨h1, h4⟩ | exact ⟨Ext.cell (Ext.alloc (Ext.refl _) _) h1, Ext.cell (Ext.alloc (Ext.refl _) _) h4⟩ | exact ⟨Ext.cell (Ext.alloc ((Ext.refl _).drew) _) h1, Ext.cell (Ext.alloc ((Ext.refl _).drew) _) h4⟩ | exact ⟨Ext.cell hx h1, Ext.cell hx h4⟩ | exact ⟨Ext.cell (Ext.trans hx hx1) h1, Ext.cell (Ext.trans hx hx1) h4⟩ | exact ⟨Ext.cell (Ext.trans (Ext.trans hx hx1) hx2) h1, Ext.cell (Ext.trans (Ext.trans hx hx1) hx2) h4⟩)
                (first
              | (go_at_call 53; refine (HNEED.out _ _ (by first | exact StrsAt.one _ _ _ | exact (StrsAt.one _ _ _).drew) ((HN.out.ext HX7.out).ext (by first | exact (Ext.refl _).alloc _ | exact ((Ext.refl _).alloc _).drew | exact ((Ext.refl _).drew).alloc _))).mono ?_; rintro e v ⟨rfl, hx0⟩; have hx : Ext w7 v := Ext.trans (by first | exact (Ext.refl _).alloc _ | exact ((Ext.refl _).alloc _).drew | exact ((Ext.refl _).drew).alloc _) hx0)
              | (go_at_call 34; refine (HFREE.out _ (Ext.trans HX7.out hx)).mono ?_; rintro e v2 ⟨rfl, hx1⟩)
              | (go_at_call 15; refine (names_any d S _ none 0 [] (by simp) _ (HD.out.ext (Ext.trans (Ext.trans HX7.out hx) hx1)) (StrsAt.nil _ _)).mono ?_; rintro e v3 ⟨nv, rfl, hon, hx2⟩; obtain ⟨na, nc, rfl, _, _, _⟩ := hon.form; rw [namesOf_nil] at *))
            have HX8 := Lib.hid (show Ext w v3 from Ext.trans (Ext.trans (Ext.trans HX7.out hx) hx1) hx2)
            have h1 := Ext.cell (Ext.trans (Ext.trans hx hx1) hx2) h1
            have h2 := Ext.cell (Ext.trans (Ext.trans hx hx1) hx2) h2
            have h3 := Ext.cell (Ext.trans (Ext.trans hx hx1) hx2) h3
            have h4 := Ext.cell (Ext.trans (Ext.trans hx hx1) hx2) h4
            clear hx0 hx hx1 hx2 hon
            rw [HNM.out.symm] at h2
            have hcall := save_all d S _ cd cn ci ct n data hn (by rw [hDsz]; omega) hu v3 (HD.out.ext HX8.out) (HN.out.ext HX8.out) (fun hk => hFn hk.1) h1 h2 h3 h4 HCD.out HCN.out HCI.out HCT.out _ rfl 69
            rw [HDATA.out, HRN5.out] at hcall
            clear h1 h2 h3 h4
            go_wp2_with fail
            refine hcall.mono ?_
            clear hcall
            rintro e w9 ⟨rfl, hl9⟩
            have HL9 := Lib.hid (left_ext HX8.out (left_small hl9)); clear hl9
            go_wp2_with fail
            go_ret
            exact ⟨rfl, HL9.out⟩
end Go.Proofs.YtmdkjcigmhgpeaaGreatDoor

/- The walks of snap.Save where there is no disk, or no name; of Load, Sweep where there is no disk; of Sweep. -/
namespace Go.Proofs.YtmdkjcigmhgpeaaGreatDoor
open Go.RowKit Snp SealMath Dsk

theorem name_some (n : Int) (w : World) :
    Calls Tryz.prog 22 #[.int .i64 n] w fun e w' => ∃ nm, e = .returned (.string nm) ∧ (mayN n = false → nm = ⟨#[]⟩) ∧ Ext w w' := by
  cases hm : mayN n with
  | false =>
    refine (name_out n hm w).mono ?_
    rintro e w' ⟨rfl, rfl⟩
    exact ⟨_, rfl, fun _ => rfl, Ext.refl _⟩
  | true =>
    unfold mayN at hm
    simp at hm
    obtain ⟨k, rfl⟩ : ∃ k : Nat, n = (k : Int) := ⟨n.toNat, by omega⟩
    refine (name_any k (by omega) w).mono ?_
    rintro e w' ⟨rfl, hx⟩
    exact ⟨_, rfl, (by intro h; cases h), hx⟩
set_option maxRecDepth 20000 in
set_option maxHeartbeats 1000000 in
/-- Save, without a disk, or by a number that may not be. -/
theorem save_arg (p : Value) (hp : p = .pointer none ∨ ∃ d, p = .pointer (some ⟨d, 0, none⟩)) (n : Int) (hbad : p = .pointer none ∨ mayN n = false) (a : Option Addr) (c : Nat) (xs : List ByteArray) (hN : xs.length ≤ 1000) (hcap : xs.length ≤ c) (hl : ((xs.map lst).flatten).length ≤ 140737488355328) (w : World) (hs : StrsAt w a xs) :
    Calls Tryz.prog 14 #[p, .int .i64 n, .slice a xs.length c] w fun e w' => e = .returned (.int .i64 1) ∧ Ext w w' := by
  obtain ⟨w2, hw2⟩ : ∃ w2, w2 = (w.alloc (.cells #[p] 23)).alloc (.cells #[.int .i64 n] 3) := ⟨_, rfl⟩
  have hx2 : Ext w w2 := by rw [hw2]; exact ((Ext.refl w).alloc _).alloc _
  obtain ⟨cd, hcd⟩ : ∃ cd, cd = w.heap.size := ⟨_, rfl⟩
  obtain ⟨ci, hci⟩ : ∃ ci, ci = w.heap.size + 1 := ⟨_, rfl⟩
  have h1 : w2.cell? ⟨cd, 0, none⟩ = some p := by
    rw [hw2, hcd]
    exact ((Ext.refl _).alloc (.cells #[.int .i64 n] 3)).cell (cell_new w #[p] 23 0)
  have h3 : w2.cell? ⟨ci, 0, none⟩ = some (.int .i64 n) := by
    have := cell_new (w.alloc (.cells #[p] 23)) #[.int .i64 n] 3 0
    rw [show (w.alloc (.cells #[p] 23)).heap.size = w.heap.size + 1 by simp] at this
    rw [hw2, hci]
    exact this
  have hcall := joined_any a c xs w2 (hs.ext hx2) (by omega) hcap hl
  have HX2 := Lib.hid hx2
  have HB := Lib.hid hbad
  clear hs hx2 hbad
  rcases hp with rfl | ⟨d, rfl⟩
  · go_enter Tryz.func14, Tryz.ntmps14
    go_upto_region 1 with fail
    rw [← hw2, ← hci, ← hcd]
    clear hw2 hcd hci
    go_wp2_with fail
    refine hcall.mono ?_
    clear hcall
    rintro e w3 ⟨data, rfl, hdata, hx3⟩
    have HX3 := Lib.hid (Ext.trans HX2.out hx3)
    have h1 := Ext.cell hx3 h1
    have h3 := Ext.cell hx3 h3
    clear hdata hx3
    go_upto_region 2 with fail
    have hx4 : Ext w3 (w3.alloc (.cells #[.string data] 9)) := (Ext.refl w3).alloc _
    have HX4 := Lib.hid (Ext.trans HX3.out hx4)
    have h1 := Ext.cell hx4 h1
    have h3 := Ext.cell hx4 h3
    generalize (w3.alloc (.cells #[.string data] 9)) = w4 at h1 h3 HX4 hx4 ⊢
    generalize w3.heap.size = ct
    clear hx4
    have hcall := name_some n w4
    go_wp2_with fail
    refine hcall.mono ?_
    clear hcall
    rintro e w5 ⟨nm, rfl, _, hx5⟩
    have HX5 := Lib.hid (Ext.trans HX4.out hx5)
    have h1 := Ext.cell hx5 h1
    clear hx5
    go_upto_region 3 with fail
    have hx6 : Ext w5 (w5.alloc (.cells #[.string nm] 9)) := (Ext.refl w5).alloc _
    have HX6 := Lib.hid (Ext.trans HX5.out hx6)
    have h1 := Ext.cell hx6 h1
    generalize (w5.alloc (.cells #[.string nm] 9)) = w6 at h1 HX6 hx6 ⊢
    generalize w5.heap.size = cn
    clear hx6
    go_wp2_with fail
    go_ret
    exact ⟨rfl, HX6.out⟩
  · go_enter Tryz.func14, Tryz.ntmps14
    go_upto_region 1 with fail
    rw [← hw2, ← hci, ← hcd]
    clear hw2 hcd hci
    go_wp2_with fail
    refine hcall.mono ?_
    clear hcall
    rintro e w3 ⟨data, rfl, hdata, hx3⟩
    have HX3 := Lib.hid (Ext.trans HX2.out hx3)
    have h1 := Ext.cell hx3 h1
    have h3 := Ext.cell hx3 h3
    clear hdata hx3
    go_upto_region 2 with fail
    have hx4 : Ext w3 (w3.alloc (.cells #[.string data] 9)) := (Ext.refl w3).alloc _
    have HX4 := Lib.hid (Ext.trans HX3.out hx4)
    have h1 := Ext.cell hx4 h1
    have h3 := Ext.cell hx4 h3
    generalize (w3.alloc (.cells #[.string data] 9)) = w4 at h1 h3 HX4 hx4 ⊢
    generalize w3.heap.size = ct
    clear hx4
    have hcall := name_out n (HB.out.resolve_left (by intro h; cases h)) w4
    go_wp2_with fail
    refine hcall.mono ?_
    clear hcall
    rintro e w5 ⟨rfl, rfl⟩
    go_upto_region 3 with fail
    have h2 := cell_new w5 #[.string ⟨#[]⟩] 9 0
    have hx6 : Ext w5 (w5.alloc (.cells #[.string ⟨#[]⟩] 9)) := (Ext.refl w5).alloc _
    have HX6 := Lib.hid (Ext.trans HX4.out hx6)
    have h1 := Ext.cell hx6 h1
    generalize (w5.alloc (.cells #[.string ⟨#[]⟩] 9)) = w6 at h1 h2 HX6 hx6 ⊢
    generalize w5.heap.size = cn at h2 ⊢
    clear hx6
    go_wp2_with fail
    go_ret
    exact ⟨rfl, HX6.out⟩
theorem load_nil (w : World) :
    Calls Tryz.prog 17 #[.pointer none] w fun e w' => e = .returned (.tuple #[.int .i64 0, .string ⟨#[]⟩, .int .i64 1]) ∧ w' = w := by
  go_enter Tryz.func17, Tryz.ntmps17
  go_wp2_with fail
  refine (read_none _ w).mono ?_
  rintro e w1 ⟨rfl, rfl⟩
  go_wp2_with fail
  go_ret3
  exact ⟨rfl, rfl⟩
theorem sweep_nil (w : World) :
    Calls Tryz.prog 18 #[.pointer none] w fun e w' => e = .returned (.tuple #[.int .i64 0, .int .i64 1]) ∧ w' = w := by
  go_enter Tryz.func18, Tryz.ntmps18
  go_wp2_with fail
  refine (load_nil w).mono ?_
  rintro e w1 ⟨rfl, rfl⟩
  go_wp2_with fail
  go_ret2
  exact ⟨rfl, rfl⟩

theorem left_left {F : Nat → Prop} {d : Nat} {w w1 w2 : World} {U : DS} (h1 : Only F w w1) (h2 : Left (More F w) d w1 U w2) : Left F d w U w2 := by
  have hs := h1.size
  refine ⟨h2.1.mono (fun b _ hb => ?_), h1.trans (h2.2.mono (fun b _ hb => hb))⟩
  rcases hb with hb | hb
  · exact hb
  · exact .inr (by omega)
theorem othersS_uses (S : DS) (h : Dsk.Good S) (but : ByteArray) : (othersS S but).2.2.uses ≤ S.uses + 100 := by
  have h1 := othersL_off but (namesOf S [nFront]) 0 S
  have h2 := names_count S [nFront]
  have h3 := h.many
  show (othersL but (namesOf S [nFront]) 0 S).2.2.uses ≤ _
  omega
theorem othersL_count (but : ByteArray) : ∀ (xs : List ByteArray) (k : Nat) (S : DS), (othersL but xs k S).1 ≤ k + xs.length
  | [], k, S => Nat.le_refl _
  | x :: r, k, S => by
    unfold othersL
    split
    · have := othersL_count but r k S; simp; omega
    · split
      · have := othersL_count but r (k + 1) (delete S x).2
        simp; omega
      · exact Nat.zero_le _
theorem othersS_count (S : DS) (h : Dsk.Good S) (but : ByteArray) : (othersS S but).1 ≤ 100 := by
  have h1 := othersL_count but (namesOf S [nFront]) 0 S
  have h2 := names_count S [nFront]
  have h3 := h.many
  show (othersL but (namesOf S [nFront]) 0 S).1 ≤ _
  omega
set_option maxRecDepth 20000 in
set_option maxHeartbeats 1000000 in
theorem sweep_any (d : Nat) (S : DS) (F : Nat → Prop) (hu : S.uses + 1000 < 4611686018427387904) (w : World) (h : DiskAt w d S F) (hn : Nibs w) :
    Calls Tryz.prog 18 #[.pointer (some ⟨d, 0, none⟩)] w fun e w' => e = .returned (.tuple #[.int .i64 ((sweepS S).1 : Nat), .int .i64 ((sweepS S).2.1 : Nat)]) ∧ Left F d w (sweepS S).2.2 w' := by
  have hcall := load_any d S F w h hn
  unfold LoadDone at hcall
  have hle := loadS_le S
  have hgood := h.good
  have HR : Hid ((if (loadS S).2.2 ≠ 0 then (0, (loadS S).2.2, S)
    else if (othersS S (nSnap (loadS S).1)).2.1 ≠ 0 then (0, (othersS S (nSnap (loadS S).1)).2.1, (othersS S (nSnap (loadS S).1)).2.2)
    else if (delete (othersS S (nSnap (loadS S).1)).2.2 nFresh).1 = 0 then ((othersS S (nSnap (loadS S).1)).1 + 1, 0, (delete (othersS S (nSnap (loadS S).1)).2.2 nFresh).2)
    else if (delete (othersS S (nSnap (loadS S).1)).2.2 nFresh).1 = 7 then (0, 7, (delete (othersS S (nSnap (loadS S).1)).2.2 nFresh).2)
    else ((othersS S (nSnap (loadS S).1)).1, 0, (delete (othersS S (nSnap (loadS S).1)).2.2 nFresh).2)) = sweepS S) := rfl
  generalize sweepS S = R at HR
  generalize loadS S = q at hcall hle HR
  obtain ⟨n, dd, e1⟩ := q
  simp only at hcall hle
  have HD := Lib.hid h; clear h hn
  by_cases he : e1 = 0
  · subst he
    go_enter Tryz.func18, Tryz.ntmps18
    go_wp2_with fail
    refine hcall.mono ?_
    clear hcall
    rintro e w1 ⟨r, rfl, _, hx1⟩
    have HX1 := Lib.hid hx1
    have hcall := name_any n hle w1
    clear hx1
    go_wp2_with fail
    refine hcall.mono ?_
    clear hcall
    rintro e w2 ⟨rfl, hx2⟩
    have HX2 := Lib.hid (Ext.trans HX1.out hx2)
    have hcall := others_any d S F (nSnap n) (by omega) w2 (HD.out.ext HX2.out)
    have hou := othersS_uses S hgood (nSnap n)
    have hoc := othersS_count S hgood (nSnap n)
    clear hx2
    generalize othersS S (nSnap n) = q at hcall HR hou hoc
    obtain ⟨j, e2, T⟩ := q
    simp only at hcall hou hoc
    by_cases he2 : e2 = 0
    · subst he2
      go_wp2_with fail
      refine hcall.mono ?_
      clear hcall
      rintro e w3 ⟨rfl, hl3⟩
      have HL3 := Lib.hid (left_ext HX2.out hl3)
      have hcall := delete_any d T (More F w) nFresh (by decide) (by omega) w3 HL3.out.1
      clear hl3
      generalize delete T nFresh = q at hcall HR
      obtain ⟨e3, U⟩ := q
      simp only at hcall
      by_cases h0 : e3 = 0
      · subst h0
        go_wp2_with fail
        refine hcall.mono ?_
        clear hcall
        rintro e w4 ⟨rfl, hl4⟩
        have HL4 := Lib.hid (left_left HL3.out.2 hl4)
        clear hl4
        go_wp2_with fail
        go_ret2
        have er : R = (j + 1, 0, U) := by
          rw [← HR.out, if_neg (by simp), if_neg (by simp), if_pos trivial]
        rw [er]
        exact ⟨rfl, HL4.out⟩
      · by_cases h7 : e3 = 7
        · subst h7
          go_wp2_with fail
          refine hcall.mono ?_
          clear hcall
          rintro e w4 ⟨rfl, hl4⟩
          have HL4 := Lib.hid (left_left HL3.out.2 hl4)
          clear hl4
          go_wp2_with fail
          go_ret2
          have er : R = (0, 7, U) := by
            rw [← HR.out, if_neg (by simp), if_neg (by simp), if_neg (by simp), if_pos trivial]
          rw [er]
          exact ⟨rfl, HL4.out⟩
        · have e0' : ((e3 : Int) == 0) = false := by rw [beq_eq_false_iff_ne]; omega
          have e7' : ((e3 : Int) == 7) = false := by rw [beq_eq_false_iff_ne]; omega
          have H07 := Lib.hid (And.intro h0 h7)
          clear h0 h7
          go_wp2_with fail
          refine hcall.mono ?_
          clear hcall
          rintro e w4 ⟨rfl, hl4⟩
          have HL4 := Lib.hid (left_left HL3.out.2 hl4)
          clear hl4
          go_wp2_with fail
          go_ret2
          have er : R = (j, 0, U) := by
            rw [← HR.out, if_neg (by simp), if_neg (by simp), if_neg H07.out.1, if_neg H07.out.2]
          rw [er]
          exact ⟨rfl, HL4.out⟩
    · have e2' : ((e2 : Int) != 0) = true := by rw [bne_iff_ne]; omega
      have H2 := Lib.hid he2
      clear he2
      go_wp2_with fail
      refine hcall.mono ?_
      clear hcall
      rintro e w3 ⟨rfl, hl3⟩
      have HL3 := Lib.hid (left_ext HX2.out hl3)
      clear hl3
      go_wp2_with fail
      go_ret2
      have er : R = (0, e2, T) := by
        rw [← HR.out, if_neg (by simp), if_pos H2.out]
      rw [er]
      exact ⟨rfl, HL3.out⟩
  · have e1' : ((e1 : Int) != 0) = true := by rw [bne_iff_ne]; omega
    have H1 := Lib.hid he
    clear he
    go_enter Tryz.func18, Tryz.ntmps18
    go_wp2_with fail
    refine hcall.mono ?_
    clear hcall
    rintro e w1 ⟨r, rfl, _, hx1⟩
    have HX1 := Lib.hid hx1
    clear hx1
    go_wp2_with fail
    go_ret2
    have er : R = (0, e1, S) := by rw [← HR.out, if_pos H1.out]
    rw [er]
    exact ⟨rfl, left_ext HX1.out ⟨(HD.out.ext (Ext.refl _)).ext HX1.out |>.mono (fun _ _ hb => .inl hb), Only.refl _ _⟩⟩
end Go.Proofs.YtmdkjcigmhgpeaaGreatDoor

/- Snapshots on a disk of the call's own; the walk of law 26's awake. -/
namespace Go.Proofs.YtmdkjcigmhgpeaaGreatDoor
open Go.RowKit Snp SealMath Dsk

theorem nibs_lt {w : World} (h : Nibs w) : 0 < w.heap.size := cell_lt (h 0 (by omega))
theorem save_held (B d : Nat) (S : DS) (n : Nat) (hn : n ≤ 99999999) (cs : Array Value) (t : TypeId) (xs : List ByteArray) (hN : xs.length ≤ 1000) (hl : ((xs.map lst).flatten).length ≤ 140737488355328) (hu : S.uses + 1000 < 4611686018427387904)
    (w : World) (h : Held B w d S) (hB : B ≤ w.heap.size) (hcs : StrsAt (w.alloc (.cells cs t)) (some ⟨w.heap.size, 0, none⟩) xs) (hnb : Nibs w) (hg : 0 < B) :
    Calls Tryz.prog 14 #[.pointer (some ⟨d, 0, none⟩), .int .i64 (n : Nat), .slice (some ⟨w.heap.size, 0, none⟩) xs.length xs.length] (w.alloc (.cells cs t)) fun e w' => e = .returned (.int .i64 ((saveS S n ((xs.map lst).flatten)).1 : Nat)) ∧ Held B w' d (saveS S n ((xs.map lst).flatten)).2 ∧ Below B w w' := by
  refine (save_any d S (Mine B w) n hn _ xs.length xs hN (Nat.le_refl _) hl hu _ (h.at ((Ext.refl w).alloc _)) hcs (hnb.ext ((Ext.refl w).alloc _)) (fun hk => by have := hk.1; omega)).mono ?_
  rintro e w' ⟨rfl, hl⟩
  have := Held.left hl (by simp; omega)
  exact ⟨rfl, this.1, Below.trans (Below.mono ((Ext.refl w).alloc _) hB) this.2⟩
theorem load_held (B d : Nat) (S : DS) (w : World) (h : Held B w d S) (hnb : Nibs w) :
    Calls Tryz.prog 17 #[.pointer (some ⟨d, 0, none⟩)] w (LoadDone S w) := load_any d S _ w h hnb
theorem sweep_held (B d : Nat) (S : DS) (hu : S.uses + 1000 < 4611686018427387904) (w : World) (h : Held B w d S) (hB : B ≤ w.heap.size) (hnb : Nibs w) :
    Calls Tryz.prog 18 #[.pointer (some ⟨d, 0, none⟩)] w fun e w' => e = .returned (.tuple #[.int .i64 ((sweepS S).1 : Nat), .int .i64 ((sweepS S).2.1 : Nat)]) ∧ Held B w' d (sweepS S).2.2 ∧ Below B w w' := by
  refine (sweep_any d S (Mine B w) hu w h hnb).mono ?_
  rintro e w' ⟨rfl, hl⟩
  exact ⟨rfl, Held.left hl hB⟩
theorem names_held (B d : Nat) (S : DS) (w : World) (h : Held B w d S) :
    Calls Tryz.prog 15 #[.pointer (some ⟨d, 0, none⟩), .slice none 0 0] w fun e w' => ∃ a c, e = .returned (.slice a (namesOf S []).length c) ∧ StrsAt w' a (namesOf S []) ∧ Ext w w' := by
  refine (names_any d S _ none 0 [] (by simp) w h (StrsAt.nil _ _)).mono ?_
  rintro e w' ⟨v, rfl, ho, hx⟩
  obtain ⟨a, c, rfl, _, _, hst⟩ := ho.form
  exact ⟨a, c, rfl, hst, hx⟩

/-! ### the document's example -/
def sw1 : DS := (saveS (new 1000) 5 [97, 98]).2
def sw2 : DS := (saveS sw1 6 [99]).2
theorem sw1_ok : (saveS (new 1000) 5 [97, 98]).1 = 0 := by decide +kernel
theorem sw2_ok : (saveS sw1 6 [99]).1 = 0 := by decide +kernel
theorem sw_uses : sw1.uses ≤ 100 ∧ sw2.uses ≤ 100 := by decide +kernel
theorem sw_load : loadS sw1 = (5, [97, 98], 0) := by decide +kernel
theorem sw_names : namesOf sw2 [] = [⟨#[109, 97, 114, 107]⟩, ⟨#[115, 46, 48, 48, 48, 48, 48, 48, 48, 54]⟩] := by
  apply map_lst_inj
  decide +kernel
set_option maxRecDepth 20000 in
set_option maxHeartbeats 1000000 in
theorem awake26_any (w : World) (hnb : Nibs w) : Calls Tryz.prog 16 #[] w fun e w' => e = .returned (.bool true) ∧ Ext w w' := by
  have HN := Lib.hid hnb
  have HG := Lib.hid (nibs_lt hnb)
  clear hnb
  go_enter Tryz.func16, Tryz.ntmps16
  go_wp2_with fail
  refine (new_held 1000 (by decide) w).mono ?_
  rintro e w1 ⟨d, rfl, hd, hx⟩
  have H1 := Lib.hid (And.intro hd hx); clear hd hx
  go_wp2_with fail
  refine (save_held w.heap.size d (new 1000) 5 (by decide) _ _ [⟨#[97]⟩, ⟨#[98]⟩] (by decide) (by decide) (by decide) w1 H1.out.1 H1.out.2.size (StrsAt.two w1 _ _ _) (HN.out.ext H1.out.2) HG.out).mono ?_
  rintro e w2 ⟨rfl, hd, hb⟩
  have e1 : saveS (new 1000) 5 ((([⟨#[97]⟩, ⟨#[98]⟩] : List ByteArray).map lst).flatten) = saveS (new 1000) 5 [97, 98] := rfl
  rw [show (((5 : Nat) : Int)) = 5 from rfl, e1] at hd
  rw [show (((5 : Nat) : Int)) = 5 from rfl, e1, sw1_ok]
  have H2 := Lib.hid (And.intro (show Held w.heap.size w2 d sw1 from hd) (Below.trans H1.out.2 hb)); clear hd hb H1 e1
  go_wp2_with fail
  refine (load_held w.heap.size d sw1 w2 H2.out.1 (Below.nibs HN.out HG.out H2.out.2)).mono ?_
  rintro e w3 ⟨r, rfl, hr, hx⟩
  rw [sw_load] at hr
  rw [sw_load]
  have ht : r.toList = [97, 98] := by rw [Lib.toList_data]; exact hr
  have H3 := Lib.hid (And.intro (Held.ext H2.out.1 hx) (Below.trans H2.out.2 (Below.mono hx H2.out.2.size))); clear hx H2 hr
  go_wp2_with fail
  refine (save_held w.heap.size d sw1 6 (by decide) _ _ [⟨#[99]⟩] (by decide) (by decide) (by have := sw_uses.1; omega) w3 H3.out.1 H3.out.2.size (StrsAt.one w3 _ _) (Below.nibs HN.out HG.out H3.out.2) HG.out).mono ?_
  rintro e w4 ⟨rfl, hd, hb⟩
  have e1 : saveS sw1 6 ((([⟨#[99]⟩] : List ByteArray).map lst).flatten) = saveS sw1 6 [99] := rfl
  rw [show (((6 : Nat) : Int)) = 6 from rfl, e1] at hd
  rw [show (((6 : Nat) : Int)) = 6 from rfl, e1, sw2_ok]
  have H4 := Lib.hid (And.intro (show Held w.heap.size w4 d sw2 from hd) (Below.trans H3.out.2 hb)); clear hd hb H3 e1
  go_wp2_with fail
  refine (names_held w.heap.size d sw2 w4 H4.out.1).mono ?_
  rintro e w5 ⟨a, c, rfl, hst, hx⟩
  rw [sw_names] at hst
  rw [sw_names]
  have hcall := same_any a c _ (some ⟨w5.heap.size, 0, none⟩) 2 [⟨#[109, 97, 114, 107]⟩, ⟨#[115, 46, 48, 48, 48, 48, 48, 48, 48, 54]⟩] (by decide) _ (hst.ext ((Ext.refl w5).alloc _)) (StrsAt.two w5 _ _ 9)
  rw [decide_eq_true rfl] at hcall
  have H5 := Lib.hid (Below.trans H4.out.2 (Below.mono (Ext.trans hx ((Ext.refl w5).alloc (.cells #[.string ⟨#[109, 97, 114, 107]⟩, .string ⟨#[115, 46, 48, 48, 48, 48, 48, 48, 48, 54]⟩] 9))) H4.out.2.size))
  clear hx hst H4
  go_wp2_with fail
  refine hcall.mono ?_
  clear hcall
  rintro e w6 ⟨rfl, hx⟩
  have H6 := Lib.hid (Below.trans H5.out (Below.mono hx H5.out.size))
  clear hx H5
  go_wp2_with fail
  go_ret
  exact ⟨rfl, H6.out⟩
end Go.Proofs.YtmdkjcigmhgpeaaGreatDoor
