/- DiskNames: the names that begin with any texts. -/
import Derived.Test.YtmdkjcigmhgpeaaDiskAwake
import Derived.Test.YtmdkjcigmhgpeaaSame
namespace Go.Proofs.Ytmdkjcigmhgpeaa
open Go.RowKit Go.Maps Dsk

theorem use_uses (S : DS) : (use S).2.uses ≤ S.uses + 1 := by
  unfold use; split
  · exact Nat.le_succ _
  split
  · exact Nat.le_refl _
  split <;> exact Nat.le_refl _
theorem append_uses (S : DS) (n : ByteArray) (xs : List ByteArray) : (append S n xs).2.uses ≤ S.uses + 1 := by
  have h := use_uses S
  unfold append
  split
  · simp only
    split
    · exact h
    split <;> exact h
  · exact h
theorem names_sorted {S : DS} (h : Dsk.Good S) (i : Nat) (hi : i + 1 < (names S).length) : lst (names S)[i] < lst (names S)[i + 1] := by
  have hs := h.sorted
  unfold Sorted at hs
  rw [List.pairwise_iff_getElem] at hs
  have hl : (names S).length = S.files.length := by simp [names]
  have h2 := hs i (i + 1) (by omega) (by omega) (by omega)
  have e : ∀ j (hj : j < (names S).length), lst (names S)[j] = (S.files[j]'(by omega)).key := fun j hj => by simp [names, FD.key]
  rw [e, e]
  exact h2
theorem take_any_succ {fs : List ByteArray} {t : Nat} (h : t < fs.length) (q : ByteArray → Bool) : (fs.take (t + 1)).any q = ((fs.take t).any q || q fs[t]) := by
  rw [List.take_succ_eq_append_getElem h, List.any_append]; simp
def beginsN (fronts : List ByteArray) (n : ByteArray) : Bool := fronts.isEmpty || fronts.any (fun p => starts p n)

set_option maxRecDepth 20000 in
set_option maxHeartbeats 4000000 in
theorem disknames_any (a : Option Addr) (c : Nat) (xs : List ByteArray) (b : Option Addr) (e0 : Nat) (fs : List ByteArray) (hxN : xs.length ≤ 140737488355328) (hfN : fs.length ≤ 140737488355328)
    (hxM : ∀ x ∈ xs, x.size ≤ 9223372036854775807) (hfM : ∀ x ∈ fs, x.size ≤ 9223372036854775807) (w : World) (hxs : StrsAt w a xs) (hfs : StrsAt w b fs) :
    Calls Try.prog 3 #[.slice a xs.length c, .slice b fs.length e0] w fun e w' => e = .returned (.bool true) ∧ Ext w w' := by
  have HXS := Lib.hid hxs; clear hxs
  have HFS := Lib.hid hfs; clear hfs
  have HXM := Lib.hid hxM; clear hxM
  have HFM := Lib.hid hfM; clear hfM
  go_enter Try.func3, Try.ntmps3
  by_cases h1 : 30 < xs.length
  · have h1' : (30 : Int) < ((xs.length : Nat) : Int) := by omega
    go_wp2_with fail
    refine (awake06_any w).mono ?_
    rintro e w1 ⟨rfl, hx⟩
    go_wp2_with fail
    go_ret
    exact ⟨rfl, hx⟩
  have h1' : ¬ (30 : Int) < ((xs.length : Nat) : Int) := by omega
  by_cases h2 : 10 < fs.length
  · have h2' : (10 : Int) < ((fs.length : Nat) : Int) := by omega
    go_wp2_with fail
    refine (awake06_any w).mono ?_
    rintro e w1 ⟨rfl, hx⟩
    go_wp2_with fail
    go_ret
    exact ⟨rfl, hx⟩
  have h2' : ¬ (10 : Int) < ((fs.length : Nat) : Int) := by omega
  go_wp2_with fail
  refine (awake06_any w).mono ?_
  rintro e w1 ⟨rfl, hx⟩
  have H1 := Lib.hid hx; clear hx
  go_wp2_with fail
  refine (new_held 1000 (by decide) w1).mono ?_
  rintro e w2 ⟨d, rfl, hd, hx⟩
  have H2 := Lib.hid (And.intro hd hx); clear hd hx
  go_wp2_with fail
  go_loopg [6] (xs.length) (fun k s6 wr => ∃ (i : Nat) (S : DS), s6 = .int .i64 i ∧ i ≤ xs.length ∧ k = xs.length - i ∧ S.uses ≤ i ∧ Hid (Held w1.heap.size wr d S) ∧ Hid (Ext w1 wr))
  case atStart => exact ⟨0, _, rfl, Nat.zero_le _, rfl, Nat.le_refl _, H2.out⟩
  case round =>
    obtain ⟨i, S, rfl, hi, rfl, hu, HD, HX⟩ := hrel
    by_cases hlt : i < xs.length
    · obtain ⟨bk, o, rfl, _, hcell⟩ := (HXS.out.ext (H1.out.trans HX.out)) i _ (List.getElem?_eq_getElem hlt)
      have hsz := HXM.out _ (List.getElem_mem hlt)
      generalize xs[i] = x at hcell hsz
      by_cases hbig : 100 < x.size
      · have hbig' : (100 : Int) < (x.size : Int) := by omega
        go_wp2_with fail
        go_ret
        exact ⟨rfl, H1.out.trans HX.out⟩
      · have hbig' : ¬ (100 : Int) < (x.size : Int) := by omega
        go_wp2_with fail
        refine (append_held w1.heap.size d S x _ _ [⟨#[120]⟩] (by omega) (by simp) (by simp; decide) (by omega) wr HD.out HX.out.size (StrsAt.one wr _ _)).mono ?_
        rintro e w3 ⟨rfl, hd, hb⟩
        have hu2 := append_uses S x [⟨#[120]⟩]
        generalize append S x [⟨#[120]⟩] = p at hd hu2
        obtain ⟨rc, T⟩ := p
        have H3 := Lib.hid (And.intro hd (Below.trans HX.out hb)); clear hd hb
        simp only at hu2
        go_wp2_with fail
        go_roundg (xs.length - (i + 1))
        case measure => omega
        case rel => exact ⟨i + 1, T, by go_num, by omega, rfl, by omega, H3.out⟩
    · have hlt' : ¬ (i : Int) < ((xs.length : Nat) : Int) := by omega
      go_wp2_with fail
      refine (names_any d S _ none 0 [] (by simp) wr HD.out (StrsAt.nil _ _)).mono ?_
      rintro e w2 ⟨v, rfl, ho, hx⟩
      have hnm : namesOf S [] = names S := by unfold namesOf; simp
      obtain ⟨ns, hns⟩ : ∃ ns, ns = names S := ⟨_, rfl⟩
      rw [hnm, ← hns] at ho
      have HG := Lib.hid HD.out.good
      have hnl : ns.length ≤ 100 := by rw [hns]; have := HD.out.good.many; simp [names]; omega
      have hnz : ∀ x ∈ ns, x.size ≤ 20 := fun x hx => by
        rw [hns] at hx
        obtain ⟨f, hf, rfl⟩ := List.mem_map.1 hx
        exact (may_size (HD.out.good.fine f hf).name).2
      obtain ⟨av, cv, rfl, _, _, hsv⟩ := OwnStrs.form ho
      have HNS := Lib.hid (show ∀ i (hi : i + 1 < ns.length), lst ns[i] < lst ns[i + 1] by subst hns; exact fun i hi => names_sorted HD.out.good i hi)
      have HDX := Lib.hid (HD.out.at hx)
      have HX2 := Lib.hid (HX.out.trans hx); clear hx
      have HSV := Lib.hid hsv; clear hsv ho
      have HFS2 := Lib.hid (HFS.out.ext (H1.out.trans HX2.out)); clear HFS
      have HNM := Lib.hid hns; clear hnm hns
      have HNZ := Lib.hid hnz; clear hnz
      obtain ⟨j0, hj1, hz0, hz1, hz2⟩ := info_parts info_string
      have hown0 := OwnStrs.nil w2 w2.heap.size
      go_wp2_with fail
      go_loopg [8, 9, 10, 11] (ns.length) (fun k s8 s9 s10 s11 wq => ∃ j : Nat, s9 = .int .i64 j ∧ j ≤ ns.length ∧ k = ns.length - j ∧ Hid (OwnStrs wq w2.heap.size s8 ((ns.take j).filter (beginsN fs))) ∧ Hid (Ext w2 wq))
      case atStart => exact ⟨0, rfl, Nat.zero_le _, rfl, hown0, Ext.refl _⟩
      case round =>
        obtain ⟨j, rfl, hj, rfl, HO, HXq⟩ := hrel
        by_cases hjl : j < ns.length
        · obtain ⟨bk2, o2, rfl, _, hcn⟩ := (HSV.out.ext HXq.out) j _ (List.getElem?_eq_getElem hjl)
          have hnsz := HNZ.out _ (List.getElem_mem hjl)
          have i1 : (0 : Int) ≤ j := by omega
          have i2 : (j : Int) < ((ns.length : Nat) : Int) := by omega
          have HFT := Lib.hid (show (ns.take (j + 1)).filter (beginsN fs) = (ns.take j).filter (beginsN fs) ++ (if beginsN fs ns[j] then [ns[j]] else []) by
            rw [List.take_succ_eq_append_getElem hjl, List.filter_append, List.filter_cons, List.filter_nil])
          generalize hnn : ns[j] = nj at hcn hnsz HFT
          have HNN := Lib.hid hnn; clear hnn
          go_wp2_with fail
          go_loopg [10, 11] (fs.length) (fun k s10 s11 wi => ∃ (t : Nat) (bb : Bool), s10 = .bool bb ∧ s11 = .int .i64 t ∧ t ≤ fs.length ∧ k = fs.length - t ∧ Hid (bb = (fs.isEmpty || (fs.take t).any (fun p => starts p nj))) ∧ Hid (Ext wr wi))
          case atStart => exact ⟨0, fs.isEmpty, by (have : (((fs.length : Nat) : Int) == 0) = fs.isEmpty := by cases fs <;> simp <;> omega); simp [this], rfl, Nat.zero_le _, rfl, (show _ = _ by simp), Ext.refl _⟩
          case round =>
            obtain ⟨t, bb, rfl, rfl, ht, rfl, HBB, HXi⟩ := hrel
            have HCN := Lib.hid (HXi.out.cell hcn)
            by_cases htl : t < fs.length
            · obtain ⟨bk, o, rfl, _, hcf⟩ := (HFS2.out.ext (HXq.out.trans HXi.out)) t _ (List.getElem?_eq_getElem htl)
              have hcn' := HCN.out
              have hfsz := HFM.out _ (List.getElem_mem htl)
              have HTK := Lib.hid (take_any_succ htl (fun p => starts p nj))
              generalize fs[t] = p at hcf hfsz HTK
              have t1 : (0 : Int) ≤ t := by omega
              have t2 : (t : Int) < ((fs.length : Nat) : Int) := by omega
              cases bb with
              | true =>
                go_wp2_with fail
                go_quiet (fail)
                go_wp2_with fail
                go_roundg (fs.length - (t + 1))
                case measure => omega
                case rel => exact ⟨t + 1, true, rfl, by go_num, by omega, rfl, (show _ = _ by
                  have h := HBB.out
                  rw [HTK.out]
                  cases hfe : fs.isEmpty
                  · rw [hfe] at h; simp only [Bool.false_or] at h ⊢; rw [← h]; rfl
                  · rfl), HXi.out.trans ((Ext.refl _).drewN nq)⟩
              | false =>
                have HB0 := Lib.hid (show fs.isEmpty = false ∧ (fs.take t).any (fun p => starts p nj) = false by
                  have h := HBB.out
                  cases hfe : fs.isEmpty <;> cases hfa : (fs.take t).any (fun p => starts p nj) <;> rw [hfe, hfa] at h <;> first | exact ⟨rfl, rfl⟩ | cases h)
                have hle0 := starts_eq p nj
                by_cases hle : p.size ≤ nj.size
                · have hle1 : (p.size : Int) ≤ (nj.size : Int) := by omega
                  cases hr : starts p nj with
                  | true =>
                    rw [hr] at hle0
                    have HR := Lib.hid hr; clear hr
                    go_wp2_with fail
                    go_quiet (fail)
                    go_wp2_with fail
                    go_roundg (fs.length - (t + 1))
                    case measure => omega
                    case rel => exact ⟨t + 1, true, rfl, by go_num, by omega, rfl, (show _ = _ by
                      have h := HTK.out
                      simp only [HB0.out.1, HB0.out.2, Bool.false_or] at h ⊢
                      rw [h, HR.out]), HXi.out.trans ((Ext.refl _).drewN nq)⟩
                  | false =>
                    rw [hr] at hle0
                    have HR := Lib.hid hr; clear hr
                    go_wp2_with fail
                    go_quiet (fail)
                    go_wp2_with fail
                    go_roundg (fs.length - (t + 1))
                    case measure => omega
                    case rel => exact ⟨t + 1, false, rfl, by go_num, by omega, rfl, (show _ = _ by
                      have h := HTK.out
                      simp only [HB0.out.1, HB0.out.2, Bool.false_or] at h ⊢
                      rw [h, HR.out]), HXi.out.trans ((Ext.refl _).drewN nq)⟩
                · have hle1 : decide ((p.size : Int) ≤ (nj.size : Int)) = false := by simp; omega
                  have hle2 : ¬ (p.size : Int) ≤ (nj.size : Int) := by omega
                  have HR := Lib.hid (starts_long p nj (by omega))
                  clear hle0
                  go_wp2_with fail
                  go_quiet (fail)
                  go_wp2_with fail
                  go_roundg (fs.length - (t + 1))
                  case measure => omega
                  case rel => exact ⟨t + 1, false, rfl, by go_num, by omega, rfl, (show _ = _ by
                    have h := HTK.out
                    simp only [HB0.out.1, HB0.out.2, Bool.false_or] at h ⊢
                    rw [h, HR.out]), HXi.out.trans ((Ext.refl _).drewN nq)⟩
            · have HBF := Lib.hid (show bb = beginsN fs nj by
                have h := HBB.out
                rw [List.take_of_length_le (by omega)] at h
                exact h)
              have HXo := Lib.hid (HXq.out.trans HXi.out)
              have HOi := Lib.hid (HO.out.ext HXi.out)
              cases bb with
              | false =>
                have HOf := Lib.hid (show OwnStrs wr w2.heap.size _ ((ns.take (j + 1)).filter (beginsN fs)) by
                  rw [HFT.out, ← HBF.out]
                  simpa using HOi.out)
                have HPREV := Lib.hid (show ∀ j', j = j' + 1 → ∃ pr, wr.cell? ⟨bk2, o2 + j', none⟩ = some (.string pr) ∧ Op.bytesLess nj.toList pr.toList = false ∧ (nj.toList == pr.toList) = false from fun j' e => by
                  subst e
                  obtain ⟨bk3, o3, e3, _, hcp⟩ := (HSV.out.ext HXo.out) j' _ (List.getElem?_eq_getElem (show j' < ns.length by omega))
                  injection e3 with e3; injection e3 with e4 e5; subst e4 e5
                  have hlt2 := HNS.out j' (by omega)
                  rw [HNN.out] at hlt2
                  refine ⟨_, hcp, ?_, ?_⟩
                  · rw [bytesLess_eq, Lib.toList_data, Lib.toList_data]
                    exact decide_eq_false (fun h => lt_irrefl _ (lt_trans h hlt2))
                  · rw [Lib.toList_data, Lib.toList_data]
                    rw [beq_eq_false_iff_ne]
                    intro h
                    have h' : lst nj = lst ns[j'] := h
                    rw [h'] at hlt2
                    exact lt_irrefl _ hlt2)
                have hcn3 : wr.cell? ⟨bk2, o2 + j, none⟩ = some (.string nj) := by
                  obtain ⟨bk3, o3, e3, _, hcp⟩ := (HSV.out.ext HXo.out) j _ (List.getElem?_eq_getElem hjl)
                  cases e3
                  rw [HNN.out] at hcp; exact hcp
                by_cases hj0 : j = 0
                · subst hj0
                  go_wp2_with fail
                  go_quiet (fail)
                  go_wp2_with fail
                  go_roundg (ns.length - (0 + 1))
                  case measure => omega
                  case rel => exact ⟨0 + 1, by first | rfl | go_num, by omega, rfl, HOf.out.ext ((Ext.refl _).drewN nq), HXo.out.trans ((Ext.refl _).drewN nq)⟩
                · obtain ⟨j', rfl⟩ : ∃ j', j = j' + 1 := ⟨j - 1, by omega⟩
                  obtain ⟨pr, hcp, hb1, hb2⟩ := HPREV.out j' rfl
                  have k1 : (0 : Int) ≤ (j' : Int) := by omega
                  have k2 : (j' : Int) < ((ns.length : Nat) : Int) := by omega
                  go_wp2_with fail
                  go_quiet (fail)
                  go_wp2_with fail
                  go_roundg (ns.length - (j' + 1 + 1))
                  case measure => omega
                  case rel => exact ⟨j' + 1 + 1, by go_num, by omega, rfl, HOf.out.ext ((Ext.refl _).drewN nq), HXo.out.trans ((Ext.refl _).drewN nq)⟩
              | true =>
                have hcn2 := HCN.out
                have hoi := HOi.out
                unfold OwnStrs at hoi
                go_wp2_with (at_builtin; refine wpList_append_own _ rfl _ _ 22 rfl w2.heap.size 9 j0 (.string ⟨#[]⟩) 1 16 Try.underlying22 hj1 hz0 hz1 hz2 rfl (by decide) _ _ _ rfl (hoi.alloc _) ⟨wr.heap.size, 0, none⟩ 1 1 [.string nj] rfl rfl ?c1 ?c2 ?c3 ?c4 ?c5 ?_)
                case c1 => exact cell_one_new _ _ _
                case c2 => intro u hu; simp at hu; subst hu; rfl
                case c3 => have := List.length_filter_le (beginsN fs) (ns.take j); unfold maxLen; simp at this ⊢; omega
                case c4 => have := List.length_filter_le (beginsN fs) (ns.take j); simp at this; omega
                case c5 => have := HXo.out.size; simp; omega
                intro v' w3 hown2 hg2 _
                have hlt2 := hoi.lt
                have HXo3 := Lib.hid (Below.grown (HXo.out.alloc _) hg2 (by have := HXo.out.size; simp; omega) (fun k e => (hlt2 k e).1) : Ext w2 w3)
                have HOf := Lib.hid (show OwnStrs w3 w2.heap.size v' ((ns.take (j + 1)).filter (beginsN fs)) by
                  rw [HFT.out, ← HBF.out]
                  simp only [if_true]
                  unfold OwnStrs
                  rw [List.length_append, List.map_append]
                  exact hown2)
                clear hown2 hg2 hlt2 hoi
                have HPREV := Lib.hid (show ∀ j', j = j' + 1 → ∃ pr, w3.cell? ⟨bk2, o2 + j', none⟩ = some (.string pr) ∧ Op.bytesLess nj.toList pr.toList = false ∧ (nj.toList == pr.toList) = false from fun j' e => by
                  subst e
                  obtain ⟨bk3, o3, e3, _, hcp⟩ := (HSV.out.ext HXo3.out) j' _ (List.getElem?_eq_getElem (show j' < ns.length by omega))
                  injection e3 with e3; injection e3 with e4 e5; subst e4 e5
                  have hlt2 := HNS.out j' (by omega)
                  rw [HNN.out] at hlt2
                  refine ⟨_, hcp, ?_, ?_⟩
                  · rw [bytesLess_eq, Lib.toList_data, Lib.toList_data]
                    exact decide_eq_false (fun h => lt_irrefl _ (lt_trans h hlt2))
                  · rw [Lib.toList_data, Lib.toList_data]
                    rw [beq_eq_false_iff_ne]
                    intro h
                    have h' : lst nj = lst ns[j'] := h
                    rw [h'] at hlt2
                    exact lt_irrefl _ hlt2)
                have hcn3 : w3.cell? ⟨bk2, o2 + j, none⟩ = some (.string nj) := by
                  obtain ⟨bk3, o3, e3, _, hcp⟩ := (HSV.out.ext HXo3.out) j _ (List.getElem?_eq_getElem hjl)
                  cases e3
                  rw [HNN.out] at hcp; exact hcp
                by_cases hj0 : j = 0
                · subst hj0
                  go_wp2_with fail
                  go_quiet (fail)
                  go_wp2_with fail
                  go_roundg (ns.length - (0 + 1))
                  case measure => omega
                  case rel => exact ⟨0 + 1, by first | rfl | go_num, by omega, rfl, HOf.out.ext ((Ext.refl _).drewN nq), Ext.drewN HXo3.out nq⟩
                · obtain ⟨j', rfl⟩ : ∃ j', j = j' + 1 := ⟨j - 1, by omega⟩
                  obtain ⟨pr, hcp, hb1, hb2⟩ := HPREV.out j' rfl
                  have k1 : (0 : Int) ≤ (j' : Int) := by omega
                  have k2 : (j' : Int) < ((ns.length : Nat) : Int) := by omega
                  go_wp2_with fail
                  go_quiet (fail)
                  go_wp2_with fail
                  go_roundg (ns.length - (j' + 1 + 1))
                  case measure => omega
                  case rel => exact ⟨j' + 1 + 1, by go_num, by omega, rfl, HOf.out.ext ((Ext.refl _).drewN nq), Ext.drewN HXo3.out nq⟩
        · obtain rfl : j = ns.length := by omega
          have ho := HO.out
          rw [List.take_length] at ho
          obtain ⟨a8, c8, rfl, _, _, hs8⟩ := OwnStrs.form ho
          have HS8 := Lib.hid hs8; clear hs8 ho
          go_wp2_with fail
          refine (names_any d S _ b e0 fs hfN wr (HDX.out.ext HXq.out) (HFS2.out.ext HXq.out)).mono ?_
          rintro e w3 ⟨v, rfl, ho, hx⟩
          have hnn : namesOf S fs = ns.filter (beginsN fs) := by rw [HNM.out]; rfl
          rw [hnn] at ho
          obtain ⟨a9, c9, rfl, _, _, hs9⟩ := OwnStrs.form ho
          have HS9 := Lib.hid hs9; clear hs9 ho
          have HX3 := Lib.hid hx; clear hx
          have hfl : (ns.filter (beginsN fs)).length ≤ 140737488355328 := by have := List.length_filter_le (beginsN fs) ns; omega
          go_wp2_with fail
          refine (same_any a9 c9 _ a8 c8 _ hfl w3 HS9.out (HS8.out.ext HX3.out)).mono ?_
          rintro e w4 ⟨rfl, hx4⟩
          have HX4 := Lib.hid hx4; clear hx4
          have hdt : decide (ns.filter (beginsN fs) = ns.filter (beginsN fs)) = true := by simp
          rw [hdt]
          go_wp2_with fail
          go_ret
          exact ⟨rfl, H1.out.trans (HX2.out.trans (HXq.out.trans (HX3.out.trans HX4.out)))⟩
end Go.Proofs.Ytmdkjcigmhgpeaa
