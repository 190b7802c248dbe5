/- The walk of Append. -/
import Derived.Test.YtmdkjcigmhgpeaaGreatDoorDiskCut
import Derived.Test.YtmdkjcigmhgpeaaGreatDoorJoin
namespace Go.Proofs.YtmdkjcigmhgpeaaGreatDoor
open Go.RowKit Go.Maps Dsk

theorem StrsAt.onlyN {F : Nat → Prop} {w w' : World} {a : Option Addr} {xs : List ByteArray} (h : StrsAt w a xs) (k : Only F w w') (hF : xs ≠ [] → ∀ bk o, a = some ⟨bk, o, none⟩ → ¬ F bk) : StrsAt w' a xs := by
  cases xs with
  | nil => exact StrsAt.nil _ _
  | cons x r => exact h.only k (hF (List.cons_ne_nil _ _))
theorem cats_take {xs : List ByteArray} {k : Nat} (hk : k < xs.length) : (cats (xs.take (k + 1))).size = (cats (xs.take k)).size + xs[k].size := by
  rw [cats_size, cats_size, List.take_succ_eq_append_getElem hk, List.map_append, List.sum_append]; rfl
theorem cats_take_le (xs : List ByteArray) (k : Nat) : (cats (xs.take k)).size ≤ (cats xs).size := by
  rw [cats_size, cats_size]
  conv => rhs; rw [← List.take_append_drop k xs, List.map_append, List.sum_append]
  exact Nat.le_add_right _ _
set_option maxHeartbeats 1600000 in
/-- Append. -/
theorem append_gen (d : Nat) (S : DS) (F : Nat → Prop) (n : ByteArray) (a : Option Addr) (c : Nat) (xs : List ByteArray) (hn : n.size ≤ 140737488355328) (hN : xs.length ≤ 140737488355328) (hcap : xs.length ≤ c) (hM : ∀ x ∈ xs, x.size ≤ 140737488355328) (hu : S.uses < 4611686018427387904)
    (w : World) (h : DiskAt w d S F) (hs : StrsAt w a xs) (hNF : xs ≠ [] → ∀ bk o, a = some ⟨bk, o, none⟩ → ¬ F bk) :
    Calls Tryz.prog 59 #[.pointer (some ⟨d, 0, none⟩), .string n, .slice a xs.length c] w fun e w' => e = .returned (.int .i64 ((append S n xs).1 : Nat)) ∧ Left F d w (append S n xs).2 w' := by
  obtain ⟨mb, β, h, hF⟩ := h
  have hlt : ∀ b, foot d mb β S.files b → b < w.heap.size := fun b hb => h.foot_lt hb
  have h0 : DiskAt (w.alloc (.cells #[.string n] 9)) d S (foot d mb β S.files) := DiskAt.ext ⟨mb, β, h, fun _ hb => hb⟩ ((Ext.refl w).alloc _)
  have hcall := begin_any d S (foot d mb β S.files) (some ⟨w.heap.size, 0, none⟩) 1 [n] (by simp) (fun x hx => by
    simp at hx; subst hx; omega) hu _ h0 (StrsAt.one w n 9) (fun bk o e => by
    simp at e; rw [← e.1]; exact not_new hlt (Nat.le_refl _))
  rw [begin_snd] at hcall
  have hmay : (Dsk.begin S [n]).1 = 0 → may n = true := by
    unfold Dsk.begin
    rcases use S with ⟨b, T⟩
    cases b
    · intro e; cases e
    · simp only
      split
      · intro e; cases e
      · rename_i e
        intro _
        cases hmm : may n with
        | true => rfl
        | false => exact absurd (by simp [hmm]) e
  have hd1 : append S n xs = if (Dsk.begin S [n]).1 = 0 then (if 1048576 < ((get S.files n).getD ⟨n, ⟨#[]⟩, 0⟩).data.size + (cats xs).size then (5, (use S).2) else if fits (use S).2 n (((get S.files n).getD ⟨n, ⟨#[]⟩, 0⟩).data.size + (cats xs).size) ((get S.files n).getD ⟨n, ⟨#[]⟩, 0⟩).data.size = 0 then (0, files (use S).2 (put ⟨n, ((get S.files n).getD ⟨n, ⟨#[]⟩, 0⟩).data ++ cats xs, ((get S.files n).getD ⟨n, ⟨#[]⟩, 0⟩).kept⟩ S.files)) else (fits (use S).2 n (((get S.files n).getD ⟨n, ⟨#[]⟩, 0⟩).data.size + (cats xs).size) ((get S.files n).getD ⟨n, ⟨#[]⟩, 0⟩).data.size, (use S).2)) else ((Dsk.begin S [n]).1, (use S).2) := rfl
  generalize append S n xs = p at hd1
  obtain ⟨rc, R⟩ := p
  have hfiles := (use_files S).1
  generalize (use S).2 = T at hcall hfiles hd1
  generalize (Dsk.begin S [n]).1 = bc at hcall hmay hd1
  rw [← hfiles] at hd1
  have HFI := Lib.hid hfiles
  have HRC := Lib.hid hd1
  have HF := Lib.hid (And.intro hF hlt)
  have HMY := Lib.hid hmay
  have HM := Lib.hid hM
  have HS := Lib.hid hs
  have HNF := Lib.hid (fun (hne : xs ≠ []) bk o (e : a = some ⟨bk, o, none⟩) hf => hNF hne bk o e (hF bk hf))
  clear h0 hu hfiles hF hlt h hmay hd1 hM hs hNF
  go_enter Tryz.func59, Tryz.ntmps59
  go_wp2_with fail
  refine hcall.mono ?_
  rintro e w' ⟨rfl, hd, ho⟩
  have HO := Lib.hid ho; clear ho hcall
  have HS1 := Lib.hid (StrsAt.onlyN (HS.out.ext ((Ext.refl w).alloc _)) HO.out HNF.out); clear HS
  by_cases hb : bc = 0
  · subst hb
    have hrc := HRC.out
    simp only [if_true] at hrc
    have HMY1 := Lib.hid (HMY.out rfl)
    obtain ⟨mb', β', hd, hfoot⟩ := hd
    have c5 := Own.c5 hd.row
    have hmap := hd.map
    have HD := Lib.hid hd; clear hd
    have HFT := Lib.hid hfoot; clear hfoot
    cases hg : get T.files n with
    | none =>
      rw [hg] at hrc
      simp only [Option.getD_none] at hrc
      have HRC' := Lib.hid hrc; clear hrc HRC
      go_wp2_with (first | (at_lookup; refine wpList_nofile rfl _ _ rfl mb' _ _ β' n rfl hmap rfl (by unfold maxLen; omega) hg ?_) | go_in)
      have hx1 : Ext w' (w'.alloc (.cells #[.string ⟨#[]⟩, .int .i64 0] 120)) := (Ext.refl w').alloc _
      have hrow : (w'.alloc (.cells #[.string ⟨#[]⟩, .int .i64 0] 120)).heap[w'.heap.size]? = some (.cells (fcells ⟨n, ⟨#[]⟩, 0⟩) 120 (0, 0)) := heap_alloc_new w' _
      have hnew : w'.heap.size ≤ w'.heap.size := Nat.le_refl _
      have hfd : ∀ x ∈ T.files, β' x.key ≠ w'.heap.size := fun x hx e => by have := lt_of_heap (HD.out.file x hx); omega
      obtain ⟨fb, hfb⟩ : ∃ fb, fb = w'.heap.size := ⟨_, rfl⟩
      rw [← hfb] at hrow hfd ⊢
      generalize (w'.alloc (.cells #[.string ⟨#[]⟩, .int .i64 0] 120)) = v1 at hx1 hrow ⊢
      have HG := Lib.hid hg; clear hg hnew c5 hmap
      have HFB := Lib.hid hfb; clear hfb
      have HFD := Lib.hid hfd; clear hfd
      have hfdata : (⟨#[]⟩ : ByteArray).size ≤ 1048576 := by decide
      have HD1 := Lib.hid (HD.out.ext hx1)
      have HS2 := Lib.hid (HS1.out.ext hx1); clear HS1
      have HX1 := Lib.hid hx1; clear hx1
      have HROW := Lib.hid hrow
      go_loopg [9, 11, 37] (xs.length) (fun k s r i wr => ∃ (m q : Nat), s = .int .i64 q ∧ i = .int .i64 m ∧ m ≤ xs.length ∧ k = xs.length - m ∧ q ≤ 1048576 ∧ Hid (q = (⟨#[]⟩ : ByteArray).size + (cats (xs.take m)).size) ∧ wr = v1)
      case atStart => exact ⟨0, (⟨#[]⟩ : ByteArray).size, rfl, rfl, Nat.zero_le _, rfl, hfdata, rfl, rfl⟩
      case round =>
        obtain ⟨m, q, rfl, rfl, hm, rfl, hq, HQ, rfl⟩ := hrel
        by_cases hlt : m < xs.length
        · obtain ⟨bk, o, rfl, _, hcell⟩ := HS2.out m _ (List.getElem?_eq_getElem hlt)
          have hsz := HM.out _ (List.getElem_mem hlt)
          have HT := Lib.hid (cats_take hlt)
          generalize hxx : xs[m] = x at hcell hsz
          have HXX := Lib.hid hxx; clear hxx hrow
          by_cases hbig : (1048576 : Int) - (q : Int) < (x.size : Int)
          · obtain ⟨rfl, rfl⟩ : rc = 5 ∧ R = T := by
              have := HRC'.out
              rw [if_pos (by
                have h1 := cats_take_le xs (m + 1)
                have h2 := HT.out
                have h3 := HQ.out
                rw [HXX.out] at h2
                show 1048576 < (⟨#[]⟩ : ByteArray).size + (cats xs).size
                omega)] at this
              simpa using this
            go_wp2
            go_ret
            exact ⟨rfl, Left.of (G := foot d mb β S.files) (DiskAt.mono ⟨mb', β', HD1.out, HFT.out⟩ (fun b _ hb => .inl hb)) ((Only.ext ((Ext.refl w).alloc _)).andThen (HO.out.andThen (Only.ext HX1.out))) (fun b _ hb => HF.out.1 b hb)⟩
          · go_wp2
            go_roundg (xs.length - (m + 1))
            case measure => omega
            case rel => exact ⟨m + 1, q + x.size, by go_num, by go_num, by omega, rfl, by omega, (show _ = _ from by
              have h2 := HT.out
              have h3 := HQ.out
              rw [HXX.out] at h2
              omega), rfl⟩
        · have hqe : q = (⟨#[]⟩ : ByteArray).size + (cats xs).size := by
            have h1 := HQ.out
            rw [List.take_of_length_le (by omega)] at h1
            exact h1
          have hrc := HRC'.out
          rw [if_neg (by show ¬ 1048576 < (⟨#[]⟩ : ByteArray).size + (cats xs).size; omega)] at hrc
          have hrc' : (rc, R) = if fits T n q (⟨#[]⟩ : ByteArray).size = 0 then (0, files T (put ⟨n, (⟨#[]⟩ : ByteArray) ++ cats xs, 0⟩ T.files)) else (fits T n q (⟨#[]⟩ : ByteArray).size, T) := by rw [hqe]; exact hrc
          clear hrc
          have c0f : wr.cell? ⟨fb, 0, none⟩ = some (.string (⟨#[]⟩ : ByteArray)) := Go.Joins.cell_of_block hrow 0
          have f0f := frozen_row hrow 0
          have c5 := Own.c5 HD1.out.row
          have hcf := fits_any d T (foot d mb' β' T.files) n hn q (⟨#[]⟩ : ByteArray).size (by omega) (by omega) wr ⟨mb', β', HD1.out, fun _ hb => hb⟩
          have hfits : fits T n q (⟨#[]⟩ : ByteArray).size = 0 → (get T.files n).isSome = true ∨ T.files.length < 100 := by
            unfold Dsk.fits
            split
            · intro e; cases e
            · rename_i e
              intro _
              cases hgg : get T.files n with
              | none => right; simp [hgg] at e; omega
              | some g => left; rfl
          generalize fits T n q (⟨#[]⟩ : ByteArray).size = fc at hcf hrc' hfits
          have HRC2 := Lib.hid hrc'; clear hrc' HRC'
          have HFIT := Lib.hid hfits; clear hfits
          have HQE := Lib.hid hqe; clear hqe hrow
          by_cases hb : fc = 0
          · subst hb
            obtain ⟨rfl, rfl⟩ : rc = 0 ∧ R = files T (put ⟨n, (⟨#[]⟩ : ByteArray) ++ cats xs, 0⟩ T.files) := by simpa using HRC2.out
            clear HRC2
            have HC := Lib.hid hcap; clear hcap
            go_wp2_with (first | (go_at_call 85; refine hcf.mono ?_; rintro e v ⟨rfl, hx2⟩; have HX2 := Lib.hid hx2; clear hx2 hcf; have c0g := HX2.out.cell c0f; have c5g := HX2.out.cell c5; have f0g := frozen_row ((HX2.out.block _ (lt_of_heap HROW.out)).trans HROW.out) 0; clear c0f f0f c5) | go_in)
            go_region_with ((go_at_call 50; refine (joined_any a c xs _ (by first | exact (HS2.out.ext HX2.out) | exact (HS2.out.ext HX2.out).ext ((Ext.refl _).drew)) hN HC.out (by rw [← lst_cats]; have := HQE.out; rw [lst_length]; omega)).mono ?_; rintro e u ⟨r, rfl, hr, hx3⟩; have hrs : (⟨#[]⟩ : ByteArray).size + r.size ≤ 1048576 := (by have h1 := HQE.out; rw [← lst_length (cats xs), lst_cats, ← hr, lst_length] at h1; omega); have HR := Lib.hid hr; clear hr; have c0h : u.cell? ⟨fb, 0, none⟩ = some (.string (⟨#[]⟩ : ByteArray)) := Ext.cell hx3 c0g; have f0h : u.frozen? ⟨fb, 0, none⟩ = false := (World.frozen?_of_block (hx3.block fb (cell_lt c0g))).trans f0g; have c5h : u.cell? ⟨d, 5, none⟩ = some (.map (some mb')) := Ext.cell hx3 c5g))
            all_goals
              have hx3' : Ext v u := by first | exact hx3 | exact ((Ext.refl v).drew).trans hx3
              clear hx3
              obtain rfl : r = cats xs := lst_inj (HR.out.trans (lst_cats xs).symm)
              have HX3 := Lib.hid (HX2.out.trans hx3'); clear hx3'
              have hrow3 := (HX3.out.block _ (lt_of_heap HROW.out)).trans HROW.out
              have hrow4 := Go.Joins.block_setCell (i := 0) hrow3 (.string ((⟨#[]⟩ : ByteArray) ++ cats xs))
              have hon : Only (fun b => b = fb) u (u.setCell ⟨fb, 0, none⟩ (.string ((⟨#[]⟩ : ByteArray) ++ cats xs))) := (Only.refl _ u).at _ _
              simp only [fcells, List.setIfInBounds_toArray, List.set_cons_zero] at hrow4
              obtain ⟨u4, hu4⟩ : ∃ u4, u4 = u.setCell ⟨fb, 0, none⟩ (.string ((⟨#[]⟩ : ByteArray) ++ cats xs)) := ⟨_, rfl⟩
              rw [← hu4] at hon hrow4 ⊢
              clear hu4 c0g c5g f0g c0h f0h c5h hrow3
              have HON := Lib.hid hon; clear hon
              have HR4 := Lib.hid hrow4; clear hrow4
              have HDU := Lib.hid (HD1.out.ext HX3.out)
              have HD4 := Lib.hid (HDU.out.stays (w' := u4) (fun b hb => HON.out.block b (HDU.out.foot_lt hb) (by
                rintro rfl
                rcases hb with e | e | ⟨x, hx, e⟩
                · have := lt_of_heap HD.out.row; have := HFB.out; omega
                · have := HD.out.map.lt; have := HFB.out; omega
                · exact HFD.out x hx e.symm)))
              have c5i := Own.c5 HD4.out.row
              have hmap4 := HD4.out.map
              go_wp2_with (first | (at_mapUpdate; refine wpList_mapUpdate_own _ rfl _ _ _ 92 rfl 9 115 keyed Tryz.underlying92 _ mb' _ _ rfl hmap4 (by unfold maxLen; have := HD4.out.good.many; omega) _ _ _ rfl rfl (key_of n hn) _ [] (ptrElem_mk fb) ?_; intro w2 hown2 hgrow2) | go_in)
              go_ret
              have hsz1 := HO.out.size
              have hsz2 := HX1.out.size
              have hsz3 := HX3.out.size
              have hsz0 : (w.alloc (.cells #[.string n] 9)).heap.size = w.heap.size + 1 := by simp
              obtain ⟨hd5, hf5, ho5⟩ := HD4.out.laid ⟨n, (⟨#[]⟩ : ByteArray) ++ cats xs, 0⟩ fb ⟨HMY1.out, (by show ((⟨#[]⟩ : ByteArray) ++ cats xs).size ≤ _; rw [ByteArray.size_append]; have := HQE.out; omega), Nat.zero_le _⟩ (HFIT.out trivial) HR4.out (fun g hg _ e => HFD.out g hg e) hown2 hgrow2
              have hfb := HFB.out
              refine ⟨rfl, Left.of (G := foot d mb β S.files) ⟨mb', upd β' (lst n) fb, hd5, fun b hb => foot_upd (hf5 b hb) HFT.out (by omega)⟩ ?_ (fun b _ hb => HF.out.1 b hb)⟩
              refine (Only.ext ((Ext.refl w).alloc _)).andThen (HO.out.andThen (Only.trans (Only.ext HX1.out) (Only.trans (Only.ext HX3.out) (Only.trans (HON.out.mono ?_) (ho5.mono ?_)))))
              · intro b _ e; left; right; exact Nat.le_of_eq (HFB.out.symm.trans e.symm)
              · intro b _ e; left; left; left; exact HFT.out b (.inr (.inl e))
          · have e1 : ((fc : Int) = 0) = False := eq_false (by omega)
            have e2 : (fc = 0) = False := eq_false hb
            have e0 : ((fc : Int) == 0) = false := by simpa using hb
            obtain ⟨rfl, rfl⟩ : rc = fc ∧ R = T := by have := HRC2.out; rw [if_neg hb] at this; simpa using this
            go_wp2_with (first | (go_at_call 85; refine hcf.mono ?_; rintro e v ⟨rfl, hx2⟩) | go_in)
            go_ret
            exact ⟨rfl, Left.of (G := foot d mb β S.files) (DiskAt.mono ⟨mb', β', HD1.out.ext hx2, HFT.out⟩ (fun b _ hb => .inl hb)) ((Only.ext ((Ext.refl w).alloc _)).andThen (HO.out.andThen (Only.ext (HX1.out.trans hx2)))) (fun b _ hb => HF.out.1 b hb)⟩
    | some f =>
      rw [hg] at hrc
      simp only [Option.getD_some] at hrc
      have HRC' := Lib.hid hrc; clear hrc HRC
      obtain ⟨hfm, hfk⟩ := get_mem hg
      have hrow := HD.out.file f hfm
      rw [hfk] at hrow
      have hfine := HD.out.good.fine f hfm
      have hfdata := hfine.data
      have HFINE := Lib.hid hfine; clear hfine
      have c0i : w'.cell? ⟨β' (lst n), 0, none⟩ = some (.string f.data) := Go.Joins.cell_of_block hrow 0
      have HFM := Lib.hid hfm; clear hfm
      have HFK := Lib.hid hfk; clear hfk
      have hx1 := Ext.refl w'
      obtain ⟨v1, hv1⟩ : ∃ v1, v1 = w' := ⟨_, rfl⟩
      obtain ⟨fb, hfb⟩ : ∃ fb, fb = β' (lst n) := ⟨_, rfl⟩
      go_wp2_with (first | (at_lookup; refine wpList_file rfl _ _ rfl mb' _ _ β' n f rfl hmap rfl (by unfold maxLen; omega) hg ?_) | go_in)
      rw [← hfb] at hrow ⊢
      rw [← hv1] at hrow ⊢
      rw [← hv1] at hx1
      have hx1 : Ext w' v1 := by rw [hv1]; exact Ext.refl w'
      have HG := Lib.hid hg; clear hg c5 hmap c0i
      have HFB := Lib.hid hfb; clear hfb
      have HV := Lib.hid hv1; clear hv1
      have HD1 := Lib.hid (HD.out.ext hx1)
      have HS2 := Lib.hid (HS1.out.ext hx1); clear HS1
      have HX1 := Lib.hid hx1; clear hx1
      have HROW := Lib.hid hrow
      go_loopg [9, 11, 37] (xs.length) (fun k s r i wr => ∃ (m q : Nat), s = .int .i64 q ∧ i = .int .i64 m ∧ m ≤ xs.length ∧ k = xs.length - m ∧ q ≤ 1048576 ∧ Hid (q = f.data.size + (cats (xs.take m)).size) ∧ wr = v1)
      case atStart => exact ⟨0, f.data.size, rfl, rfl, Nat.zero_le _, rfl, hfdata, rfl, rfl⟩
      case round =>
        obtain ⟨m, q, rfl, rfl, hm, rfl, hq, HQ, rfl⟩ := hrel
        by_cases hlt : m < xs.length
        · obtain ⟨bk, o, rfl, _, hcell⟩ := HS2.out m _ (List.getElem?_eq_getElem hlt)
          have hsz := HM.out _ (List.getElem_mem hlt)
          have HT := Lib.hid (cats_take hlt)
          generalize hxx : xs[m] = x at hcell hsz
          have HXX := Lib.hid hxx; clear hxx hrow
          by_cases hbig : (1048576 : Int) - (q : Int) < (x.size : Int)
          · obtain ⟨rfl, rfl⟩ : rc = 5 ∧ R = T := by
              have := HRC'.out
              rw [if_pos (by
                have h1 := cats_take_le xs (m + 1)
                have h2 := HT.out
                have h3 := HQ.out
                rw [HXX.out] at h2
                show 1048576 < f.data.size + (cats xs).size
                omega)] at this
              simpa using this
            go_wp2
            go_ret
            exact ⟨rfl, Left.of (G := foot d mb β S.files) (DiskAt.mono ⟨mb', β', HD1.out, HFT.out⟩ (fun b _ hb => .inl hb)) ((Only.ext ((Ext.refl w).alloc _)).andThen (HO.out.andThen (Only.ext HX1.out))) (fun b _ hb => HF.out.1 b hb)⟩
          · go_wp2
            go_roundg (xs.length - (m + 1))
            case measure => omega
            case rel => exact ⟨m + 1, q + x.size, by go_num, by go_num, by omega, rfl, by omega, (show _ = _ from by
              have h2 := HT.out
              have h3 := HQ.out
              rw [HXX.out] at h2
              omega), rfl⟩
        · have hqe : q = f.data.size + (cats xs).size := by
            have h1 := HQ.out
            rw [List.take_of_length_le (by omega)] at h1
            exact h1
          have hrc := HRC'.out
          rw [if_neg (by show ¬ 1048576 < f.data.size + (cats xs).size; omega)] at hrc
          have hrc' : (rc, R) = if fits T n q f.data.size = 0 then (0, files T (put ⟨n, f.data ++ cats xs, f.kept⟩ T.files)) else (fits T n q f.data.size, T) := by rw [hqe]; exact hrc
          clear hrc
          have c0f : wr.cell? ⟨fb, 0, none⟩ = some (.string f.data) := Go.Joins.cell_of_block hrow 0
          have f0f := frozen_row hrow 0
          have c5 := Own.c5 HD1.out.row
          have hcf := fits_any d T (foot d mb' β' T.files) n hn q f.data.size (by omega) (by omega) wr ⟨mb', β', HD1.out, fun _ hb => hb⟩
          have hfits : fits T n q f.data.size = 0 → (get T.files n).isSome = true ∨ T.files.length < 100 := by
            unfold Dsk.fits
            split
            · intro e; cases e
            · rename_i e
              intro _
              cases hgg : get T.files n with
              | none => right; simp [hgg] at e; omega
              | some g => left; rfl
          generalize fits T n q f.data.size = fc at hcf hrc' hfits
          have HRC2 := Lib.hid hrc'; clear hrc' HRC'
          have HFIT := Lib.hid hfits; clear hfits
          have HQE := Lib.hid hqe; clear hqe hrow
          by_cases hb : fc = 0
          · subst hb
            obtain ⟨rfl, rfl⟩ : rc = 0 ∧ R = files T (put ⟨n, f.data ++ cats xs, f.kept⟩ T.files) := by simpa using HRC2.out
            clear HRC2
            have HC := Lib.hid hcap; clear hcap
            go_wp2_with (first | (go_at_call 85; refine hcf.mono ?_; rintro e v ⟨rfl, hx2⟩; have HX2 := Lib.hid hx2; clear hx2 hcf; have c0g := HX2.out.cell c0f; have c5g := HX2.out.cell c5; have f0g := frozen_row ((HX2.out.block _ (lt_of_heap HROW.out)).trans HROW.out) 0; clear c0f f0f c5) | go_in)
            go_region_with ((go_at_call 50; refine (joined_any a c xs _ (by first | exact (HS2.out.ext HX2.out) | exact (HS2.out.ext HX2.out).ext ((Ext.refl _).drew)) hN HC.out (by rw [← lst_cats]; have := HQE.out; rw [lst_length]; omega)).mono ?_; rintro e u ⟨r, rfl, hr, hx3⟩; have hrs : f.data.size + r.size ≤ 1048576 := (by have h1 := HQE.out; rw [← lst_length (cats xs), lst_cats, ← hr, lst_length] at h1; omega); have HR := Lib.hid hr; clear hr; have c0h : u.cell? ⟨fb, 0, none⟩ = some (.string f.data) := Ext.cell hx3 c0g; have f0h : u.frozen? ⟨fb, 0, none⟩ = false := (World.frozen?_of_block (hx3.block fb (cell_lt c0g))).trans f0g; have c5h : u.cell? ⟨d, 5, none⟩ = some (.map (some mb')) := Ext.cell hx3 c5g))
            all_goals
              have hx3' : Ext v u := by first | exact hx3 | exact ((Ext.refl v).drew).trans hx3
              clear hx3
              obtain rfl : r = cats xs := lst_inj (HR.out.trans (lst_cats xs).symm)
              have HX3 := Lib.hid (HX2.out.trans hx3'); clear hx3'
              have hrow3 := (HX3.out.block _ (lt_of_heap HROW.out)).trans HROW.out
              have hrow4 := Go.Joins.block_setCell (i := 0) hrow3 (.string (f.data ++ cats xs))
              have hon : Only (fun b => b = fb) u (u.setCell ⟨fb, 0, none⟩ (.string (f.data ++ cats xs))) := (Only.refl _ u).at _ _
              simp only [fcells, List.setIfInBounds_toArray, List.set_cons_zero] at hrow4
              obtain ⟨u4, hu4⟩ : ∃ u4, u4 = u.setCell ⟨fb, 0, none⟩ (.string (f.data ++ cats xs)) := ⟨_, rfl⟩
              rw [← hu4] at hon hrow4 ⊢
              clear hu4 c0g c5g f0g c0h f0h c5h hrow3
              have HON := Lib.hid hon; clear hon
              have HR4 := Lib.hid hrow4; clear hrow4
              have HDU := Lib.hid (HD1.out.ext HX3.out)
              have HH := Lib.hid (HDU.out.inPlace (w' := u4) HFM.out (g := ⟨n, f.data ++ cats xs, f.kept⟩) HFK.out.symm (by
                refine ⟨HMY1.out, ?_, ?_⟩
                · show (f.data ++ cats xs).size ≤ _
                  rw [ByteArray.size_append]; have := HQE.out; omega
                · show f.kept ≤ (f.data ++ cats xs).size
                  have := HFINE.out.kept
                  rw [ByteArray.size_append]; omega) (by rw [HFK.out, ← HFB.out]; exact HR4.out) (by rw [HFK.out, ← HFB.out]; exact HON.out))
              have HD4 := Lib.hid HH.out.1
              have c5i := Own.c5 HD4.out.row
              have hmap4 := HD4.out.map
              go_wp2_with (first | (at_mapUpdate; refine wpList_mapUpdate_own _ rfl _ _ _ 92 rfl 9 115 keyed Tryz.underlying92 _ mb' _ _ rfl hmap4 (by unfold maxLen; have := HD4.out.good.many; omega) _ _ _ rfl rfl (key_of n hn) _ [] (ptrElem_mk fb) ?_; intro w2 hown2 hgrow2) | go_in)
              go_ret
              have hsz1 := HO.out.size
              have hsz2 := HX1.out.size
              have hsz3 := HX3.out.size
              have hsz0 : (w.alloc (.cells #[.string n] 9)).heap.size = w.heap.size + 1 := by simp
              obtain ⟨hd5, hf5, ho5⟩ := HD4.out.laid ⟨n, f.data ++ cats xs, f.kept⟩ fb (HD4.out.good.fine _ (mem_put.2 (.inl rfl))) (.inl (by
                show (get (put _ T.files) n).isSome = true
                rw [get_put HD1.out.good.sorted, if_pos (show FD.key ⟨n, f.data ++ cats xs, f.kept⟩ = lst n from rfl)]; rfl)) HR4.out (fun g hg hne e => by
                have hg' : g ∈ put ⟨n, f.data ++ cats xs, f.kept⟩ T.files := hg
                rcases mem_put.1 hg' with rfl | ⟨h1, h2⟩
                · exact hne rfl
                · have := HD1.out.one g h1 f HFM.out (by rw [e, HFB.out, HFK.out])
                  exact h2 (this.trans HFK.out)) hown2 hgrow2
              have hf4 := HH.out.2
              have hpp := put_put HD1.out.good.sorted ⟨n, f.data ++ cats xs, f.kept⟩
              have hfoot5 : ∀ b, foot d mb' (upd β' (lst n) fb) (put ⟨n, f.data ++ cats xs, f.kept⟩ T.files) b → foot d mb β S.files b := fun b hb => by
                rcases hf5 b (by rw [show (files T (put ⟨n, f.data ++ cats xs, f.kept⟩ T.files)).files = put ⟨n, f.data ++ cats xs, f.kept⟩ T.files from rfl, hpp]; exact hb) with h | h
                · exact HFT.out b (hf4 b h)
                · exact HFT.out b (.inr (.inr ⟨f, HFM.out, by rw [HFK.out, ← HFB.out]; exact h⟩))
              refine ⟨rfl, Left.of (G := foot d mb β S.files) ⟨mb', upd β' (lst n) fb, ?_, fun b hb => .inl (hfoot5 b hb)⟩ ?_ (fun b _ hb => HF.out.1 b hb)⟩
              · have h6 := hd5
                rw [show (files T (put ⟨n, f.data ++ cats xs, f.kept⟩ T.files)).files = put ⟨n, f.data ++ cats xs, f.kept⟩ T.files from rfl, hpp] at h6
                exact h6
              refine (Only.ext ((Ext.refl w).alloc _)).andThen (HO.out.andThen ((Only.ext HX1.out).andThen ((Only.ext HX3.out).andThen ((HON.out.mono ?_).andThen (ho5.mono ?_)))))
              · intro b _ e; exact HFT.out b (.inr (.inr ⟨f, HFM.out, by rw [HFK.out, ← HFB.out]; exact e⟩))
              · intro b _ e; exact HFT.out b (.inr (.inl e))
          · have e1 : ((fc : Int) = 0) = False := eq_false (by omega)
            have e2 : (fc = 0) = False := eq_false hb
            have e0 : ((fc : Int) == 0) = false := by simpa using hb
            obtain ⟨rfl, rfl⟩ : rc = fc ∧ R = T := by have := HRC2.out; rw [if_neg hb] at this; simpa using this
            go_wp2_with (first | (go_at_call 85; refine hcf.mono ?_; rintro e v ⟨rfl, hx2⟩) | go_in)
            go_ret
            exact ⟨rfl, Left.of (G := foot d mb β S.files) (DiskAt.mono ⟨mb', β', HD1.out.ext hx2, HFT.out⟩ (fun b _ hb => .inl hb)) ((Only.ext ((Ext.refl w).alloc _)).andThen (HO.out.andThen (Only.ext (HX1.out.trans hx2)))) (fun b _ hb => HF.out.1 b hb)⟩
  · have e1 : ((bc : Int) = 0) = False := eq_false (by omega)
    have e2 : (bc = 0) = False := eq_false hb
    have e0 : ((bc : Int) == 0) = false := by simpa using hb
    obtain ⟨rfl, rfl⟩ : rc = bc ∧ R = T := by have := HRC.out; rw [if_neg hb] at this; simpa using this
    have HD := Lib.hid hd; clear hd
    go_wp2
    go_ret
    exact ⟨rfl, Left.of (G := foot d mb β S.files) (HD.out.mono (fun b _ hb => .inl hb)) ((Only.ext ((Ext.refl w).alloc _)).andThen HO.out) (fun b _ hb => HF.out.1 b hb)⟩
theorem append_any (d : Nat) (S : DS) (F : Nat → Prop) (n : ByteArray) (a : Option Addr) (c : Nat) (xs : List ByteArray) (hn : n.size ≤ 140737488355328) (hN : xs.length ≤ 140737488355328) (hcap : xs.length ≤ c) (hM : ∀ x ∈ xs, x.size ≤ 140737488355328) (hu : S.uses < 4611686018427387904)
    (w : World) (h : DiskAt w d S F) (hs : StrsAt w a xs) (hNF : ∀ bk o, a = some ⟨bk, o, none⟩ → ¬ F bk) :
    Calls Tryz.prog 59 #[.pointer (some ⟨d, 0, none⟩), .string n, .slice a xs.length c] w fun e w' => e = .returned (.int .i64 ((append S n xs).1 : Nat)) ∧ Left F d w (append S n xs).2 w' :=
  append_gen d S F n a c xs hn hN hcap hM hu w h hs (fun _ => hNF)
end Go.Proofs.YtmdkjcigmhgpeaaGreatDoor
