/- Several texts in one (each under its own head): the first: The walk of snap.Load. -/
import Derived.Test.YtmdkjcigmhgpeaaGreatDoorSnapFiles
import Derived.Test.YtmdkjcigmhgpeaaGreatDoorDiskLaw
import Derived.Test.YtmdkjcigmhgpeaaGreatDoorSnapPlain
import Derived.Deep.RegionHeld3
/- The walk of snap.Load. -/
namespace Go.Proofs.YtmdkjcigmhgpeaaGreatDoor
open Go.RowKit Snp SealMath Dsk

theorem read_size {S : DS} (h : Dsk.Good S) (n : ByteArray) : (Dsk.read S n).1.size ≤ 1048576 := by
  unfold Dsk.read
  split
  · exact Nat.zero_le _
  · cases hg : get S.files n with
    | none => exact Nat.zero_le _
    | some f => exact (h.fine f (get_mem hg).1).data
/-- A slice of texts, without its first one. -/
theorem slice_tail (bk o n c : Nat) (h1 : 1 ≤ n) (w : World) : (Instr.sliceAt 28 (.slice (some ⟨bk, o, none⟩) n c) (some (.int .i64 1)) none none).run Tryz.prog w = .ok (.slice (some ⟨bk, if c = 1 then o else o + 1, none⟩) (n - 1) (c - 1)) w := by
  have h2 : (1 : Int) ≤ (n : Int) := by omega
  go_simp
  split <;> rfl
theorem strs_tail {w : World} {bk o c : Nat} {x : ByteArray} {l : List ByteArray} (h : StrsAt w (some ⟨bk, o, none⟩) (x :: l)) (hc : (x :: l).length ≤ c) : StrsAt w (some ⟨bk, if c = 1 then o else o + 1, none⟩) l := by
  intro j y hj
  obtain ⟨bk', o', e, h1, h2⟩ := h (j + 1) y (by simpa using hj)
  injection e with e; injection e with e1 e2
  subst e1; subst e2
  have : c ≠ 1 := by
    have := (List.getElem?_eq_some_iff.1 hj).1
    simp at hc; omega
  rw [if_neg this]
  exact ⟨_, _, rfl, h1, by rw [Nat.add_assoc, Nat.add_comm 1 j]; exact h2⟩

/-- What Load answers, and that it lays new memory at most. -/
def LoadDone (S : DS) (w : World) (e : Ending) (w' : World) : Prop :=
  ∃ r : ByteArray, e = .returned (.tuple #[.int .i64 ((loadS S).1 : Nat), .string r, .int .i64 ((loadS S).2.2 : Nat)]) ∧ lst r = (loadS S).2.1 ∧ Ext w w'
set_option maxRecDepth 20000 in
set_option maxHeartbeats 1000000 in
theorem load_any (d : Nat) (S : DS) (F : Nat → Prop) (w : World) (h : DiskAt w d S F) (hn : Nibs w) :
    Calls Tryz.prog 17 #[.pointer (some ⟨d, 0, none⟩)] w (LoadDone S w) := by
  have hcall := read_any d S F nMark (by decide) w h
  have HS : Hid (loadS S = (if (Dsk.read S nMark).2 ≠ 0 then (0, [], (Dsk.read S nMark).2) else match markOf (lst (Dsk.read S nMark).1) with
    | none => (0, [], 11)
    | some n => if (Dsk.read S (nSnap n)).2 ≠ 0 then (0, [], 11) else match dataOf n (lst (Dsk.read S (nSnap n)).1) with
      | none => (0, [], 11)
      | some d => (n, d, 0))) := rfl
  have hgood := h.good
  have hsz := read_size hgood nMark
  generalize Dsk.read S nMark = q at hcall HS hsz
  obtain ⟨s, e1⟩ := q
  simp only at hcall hsz
  have HD := Lib.hid h; clear h
  have HN := Lib.hid hn; clear hn
  by_cases h1 : e1 = 0
  · subst h1
    go_enter Tryz.func17, Tryz.ntmps17
    go_wp2_with fail
    refine hcall.mono ?_
    clear hcall
    rintro e w1 ⟨rfl, rfl⟩
    have hcall := marked_any s (by omega) w HN.out
    go_wp2_with fail
    refine hcall.mono ?_
    clear hcall
    rintro e w1 ⟨n, b, rfl, hn, hb, hk, hx⟩
    have HX := Lib.hid hx
    have HB := Lib.hid hb
    have HK := Lib.hid hk
    clear hx hb hk
    cases b with
    | false =>
      go_wp2_with fail
      go_ret3
      have e0 : markOf (lst s) = none := by
        have := HB.out
        cases hm : markOf (lst s) with
        | none => rfl
        | some k => rw [hm] at this; cases this
      have e : loadS S = (0, [], 11) := by rw [HS.out]; simp only [e0]; rfl
      exact ⟨⟨#[]⟩, by rw [e]; rfl, by rw [e], HX.out⟩
    | true =>
      have hm : markOf (lst s) = some n := by
        have := HB.out
        cases hm : markOf (lst s) with
        | none => rw [hm] at this; cases this
        | some k => rw [HK.out k hm]
      have HS2 : Hid (loadS S = (if (Dsk.read S (nSnap n)).2 ≠ 0 then (0, [], 11) else match dataOf n (lst (Dsk.read S (nSnap n)).1) with
        | none => (0, [], 11)
        | some d => (n, d, 0))) := by
        show _ = _
        rw [HS.out]; simp only [hm]; rfl
      clear HS HB HK hm
      have hcall := name_any n hn w1
      go_wp2_with fail
      refine hcall.mono ?_
      clear hcall
      rintro e w2 ⟨rfl, hx2⟩
      have HX2 := Lib.hid (HX.out.trans hx2)
      have hns := nSnap_size n hn
      have hcall := read_any d S F (nSnap n) (by omega) w2 (HD.out.ext HX2.out)
      have hsz2 := read_size hgood (nSnap n)
      clear hx2
      generalize Dsk.read S (nSnap n) = q at hcall HS2 hsz2
      obtain ⟨t, e2⟩ := q
      simp only at hcall hsz2
      generalize nSnap n = nm at hcall hns
      by_cases h2 : e2 = 0
      · subst h2
        go_wp2_with fail
        refine hcall.mono ?_
        clear hcall
        rintro e w3 ⟨rfl, rfl⟩
        have hcall := all_any t (by omega) w2 (HN.out.ext HX2.out)
        go_wp2_with fail
        refine hcall.mono ?_
        clear hcall
        rintro e w3 ⟨l, a, c, p, y, rfl, ha, hst, hc, hp, hx3⟩
        have HX3 := Lib.hid (HX2.out.trans hx3)
        have HA := Lib.hid ha
        clear hx3 ha
        by_cases hy : y = 0
        · subst hy
          cases l with
          | nil =>
            clear hst hc hp
            go_wp2_with fail
            go_ret3
            have e0 : dataOf n (lst t) = none := by
              unfold dataOf
              rw [HA.out, if_neg (by simp)]
            have e : loadS S = (0, [], 11) := by rw [HS2.out]; simp only [e0]; rfl
            exact ⟨⟨#[]⟩, by rw [e]; rfl, by rw [e], HX3.out⟩
          | cons x l =>
            obtain ⟨bk, o, rfl, _, _⟩ := hst 0 x rfl
            have hsl := fun W => slice_tail bk o (x :: l).length c (by simp) W
            have hst2 := strs_tail hst hc
            have hll : (((x :: l).length : Nat) : Int) ≠ 0 := by simp; omega
            have hll2 : ((((x :: l).length : Nat) : Int) == 0) = false := by rw [beq_eq_false_iff_ne]; exact hll
            have hlen : (x :: l).length - 1 = l.length := by simp
            have hflat : ((l.map lst).flatten).length ≤ 2000000 := by
              have h1 := (allL_framed (s := lst t) (by rw [HA.out])).1
              have h2 := congrArg List.length h1
              rw [framesL_length, HA.out, lst_length] at h2
              simp at h2 ⊢
              omega
            have hcc : l.length ≤ c - 1 := by simp at hc; omega
            have hcall := joined_any (some ⟨bk, if c = 1 then o else o + 1, none⟩) (c - 1) l w3 hst2 (by simp at hp; omega) hcc (by omega)
            rw [hlen] at hsl
            generalize (if c = 1 then o else o + 1) = o2 at hsl hcall
            generalize (x :: l).length = n2 at hsl hll hll2
            clear hst hst2 hlen hcc hc hp
            go_wp2_with fail
            refine hcall.mono ?_
            clear hcall
            rintro e w4 ⟨r, rfl, hr, hx4⟩
            have HX4 := Lib.hid (HX3.out.trans hx4)
            have HD2 : Hid (dataOf n (lst t) = if (lst r).length ≤ 960000 ∧ fileL n (lst r) = lst t then some (lst r) else none) := by
              show _ = _
              unfold dataOf
              rw [HA.out, if_pos ⟨rfl, by simp⟩, hr]; rfl
            clear hx4 hr hflat hsl
            by_cases hbig : 960000 < r.size
            · have hbig2 : (960000 : Int) < (r.size : Int) := by omega
              have HBIG := Lib.hid hbig
              clear hbig
              go_wp2_with fail
              go_ret3
              have e0 : dataOf n (lst t) = none := by
                rw [HD2.out, if_neg (by rw [lst_length]; intro h; have := HBIG.out; omega)]
              have e : loadS S = (0, [], 11) := by rw [HS2.out]; simp only [e0]; rfl
              exact ⟨⟨#[]⟩, by rw [e]; rfl, by rw [e], HX4.out⟩
            · have hbig2 : ¬ (960000 : Int) < (r.size : Int) := by omega
              have hcall := file_any n hn r (by omega) w4 (HN.out.ext HX4.out)
              have HF : Hid (lst (bts (fileL n (lst r))) = fileL n (lst r)) := rfl
              generalize bts (fileL n (lst r)) = f at hcall HF
              by_cases heq : f = t
              · subst heq
                have HBIG := Lib.hid hbig
                clear hbig
                go_wp2_with fail
                refine hcall.mono ?_
                clear hcall
                rintro e w5 ⟨rfl, hx5⟩
                have HX5 := Lib.hid (HX4.out.trans hx5)
                clear hx5
                go_wp2_with fail
                go_ret3
                have e0 : dataOf n (lst f) = some (lst r) := by
                  rw [HD2.out, if_pos ⟨by rw [lst_length]; have := HBIG.out; omega, HF.out.symm⟩]
                have e : loadS S = (n, lst r, 0) := by rw [HS2.out]; simp only [e0]; rfl
                exact ⟨r, by rw [e]; rfl, by rw [e], HX5.out⟩
              · have hne : (f.toList == t.toList) = false := by
                  rw [beq_eq_false_iff_ne, ByteArray.toList_eq, ByteArray.toList_eq]
                  exact fun h => heq (lst_inj h)
                have hne2 : (f.toList = t.toList) = False := eq_false (by
                  rw [ByteArray.toList_eq, ByteArray.toList_eq]
                  exact fun h => heq (lst_inj h))
                have HBIG := Lib.hid hbig
                have HEQ := Lib.hid heq
                clear hbig heq
                go_wp2_with fail
                refine hcall.mono ?_
                clear hcall
                rintro e w5 ⟨rfl, hx5⟩
                have HX5 := Lib.hid (HX4.out.trans hx5)
                clear hx5
                go_wp2_with fail
                go_ret3
                have e0 : dataOf n (lst t) = none := by
                  rw [HD2.out, if_neg (fun h => HEQ.out (lst_inj (HF.out.trans h.2)))]
                have e : loadS S = (0, [], 11) := by rw [HS2.out]; simp only [e0]; rfl
                exact ⟨⟨#[]⟩, by rw [e]; rfl, by rw [e], HX5.out⟩
        · have hy2 : ((y : Int) != 0) = true := by rw [bne_iff_ne]; omega
          have HY := Lib.hid hy
          clear hst hc hp hy
          go_wp2_with fail
          go_ret3
          have e0 : dataOf n (lst t) = none := by
            unfold dataOf
            rw [HA.out, if_neg (by simp; intro h; exact absurd h HY.out)]
          have e : loadS S = (0, [], 11) := by rw [HS2.out]; simp only [e0]; rfl
          exact ⟨⟨#[]⟩, by rw [e]; rfl, by rw [e], HX3.out⟩
      · have e2' : ((e2 : Int) != 0) = true := by rw [bne_iff_ne]; omega
        have H2 := Lib.hid h2
        clear h2
        go_wp2_with fail
        refine hcall.mono ?_
        clear hcall
        rintro e w3 ⟨rfl, rfl⟩
        go_wp2_with fail
        go_ret3
        have e : loadS S = (0, [], 11) := by rw [HS2.out, if_pos H2.out]
        exact ⟨⟨#[]⟩, by rw [e]; rfl, by rw [e], HX2.out⟩
  · have e1' : ((e1 : Int) != 0) = true := by rw [bne_iff_ne]; omega
    go_enter Tryz.func17, Tryz.ntmps17
    go_wp2_with fail
    refine hcall.mono ?_
    clear hcall
    rintro e w1 ⟨rfl, rfl⟩
    go_wp2_with fail
    go_ret3
    have e : loadS S = (0, [], e1) := by rw [HS.out, if_pos h1]
    exact ⟨⟨#[]⟩, by rw [e]; rfl, by rw [e], Ext.refl _⟩
end Go.Proofs.YtmdkjcigmhgpeaaGreatDoor

/- The walks of snap.counts, drop, others. -/
namespace Go.Proofs.YtmdkjcigmhgpeaaGreatDoor
open Go.RowKit Snp SealMath Dsk

theorem counts_any (d : Nat) (S : DS) (F : Nat → Prop) (n : Nat) (w : World) (h : DiskAt w d S F) (hn : Nibs w) :
    Calls Tryz.prog 52 #[.pointer (some ⟨d, 0, none⟩), .int .i64 (n : Nat)] w fun e w' => e = .returned (.bool (decide ((loadS S).2.2 = 0 ∧ (loadS S).1 = n))) ∧ Ext w w' := by
  have hcall := load_any d S F w h hn
  unfold LoadDone at hcall
  generalize loadS S = q at hcall
  obtain ⟨m, dd, e⟩ := q
  simp only at hcall ⊢
  clear h hn
  by_cases he : e = 0
  · subst he
    have HE : Hid (decide (0 = 0 ∧ m = n) = ((m : Int) == (n : Int))) := by
      show _ = _
      rw [Bool.eq_iff_iff, decide_eq_true_eq, beq_iff_eq]; omega
    go_enter Tryz.func52, Tryz.ntmps52
    go_wp2_with fail
    refine hcall.mono ?_
    clear hcall
    rintro e w1 ⟨r, rfl, _, hx⟩
    have HX := Lib.hid hx; clear hx
    go_wp2_with fail
    go_ret
    exact ⟨ret_bool HE.out.symm, HX.out⟩
  · have he2 : ((e : Int) == 0) = false := by rw [beq_eq_false_iff_ne]; omega
    have HE : Hid (decide (e = 0 ∧ m = n) = false) := decide_eq_false (fun h => he h.1)
    clear he
    go_enter Tryz.func52, Tryz.ntmps52
    go_wp2_with fail
    refine hcall.mono ?_
    clear hcall
    rintro e w1 ⟨r, rfl, _, hx⟩
    have HX := Lib.hid hx; clear hx
    go_wp2_with fail
    go_ret
    exact ⟨ret_bool HE.out.symm, HX.out⟩
theorem drop_any (d : Nat) (S : DS) (F : Nat → Prop) (n : ByteArray) (hn : n.size ≤ 140737488355328) (hu : S.uses < 4611686018427387904) (w : World) (h : DiskAt w d S F) :
    Calls Tryz.prog 56 #[.pointer (some ⟨d, 0, none⟩), .string n] w fun e w' => e = .returned (.int .i64 ((dropS S n).1 : Nat)) ∧ Left F d w (dropS S n).2 w' := by
  have hcall := delete_any d S F n hn hu w h
  unfold dropS
  generalize delete S n = q at hcall
  obtain ⟨e, T⟩ := q
  simp only at hcall ⊢
  clear h hu
  by_cases he : e = 8
  · subst he
    go_enter Tryz.func56, Tryz.ntmps56
    go_wp2_with fail
    refine hcall.mono ?_
    clear hcall
    rintro e w1 ⟨rfl, hl⟩
    have HL := Lib.hid hl; clear hl
    go_wp2_with fail
    go_ret
    exact ⟨rfl, HL.out⟩
  · have he2 : ((e : Int) == 8) = false := by rw [beq_eq_false_iff_ne]; omega
    rw [if_neg he]
    clear he
    go_enter Tryz.func56, Tryz.ntmps56
    go_wp2_with fail
    refine hcall.mono ?_
    clear hcall
    rintro e w1 ⟨rfl, hl⟩
    have HL := Lib.hid hl; clear hl
    go_wp2_with fail
    go_ret
    exact ⟨rfl, HL.out⟩
theorem delete_uses (S : DS) (n : ByteArray) : (delete S n).2.uses ≤ S.uses + 1 := by
  have h := (use_goes S).uses
  unfold Dsk.delete
  split
  · exact h
  · rw [there_snd]; exact h
theorem othersL_off (but : ByteArray) : ∀ (xs : List ByteArray) (k : Nat) (S : DS), (othersL but xs k S).2.2.uses ≤ S.uses + xs.length
  | [], k, S => Nat.le_refl _
  | x :: r, k, S => by
    unfold othersL
    split
    · have := othersL_off but r k S; simp; omega
    · split
      · have := othersL_off but r (k + 1) (delete S x).2
        have := delete_uses S x
        simp; omega
      · have := delete_uses S x
        simp; omega

theorem others_left {F G : Nat → Prop} {d : Nat} {w w2 w3 : World} {U : DS} (hx : Ext w w2) (hG : G = fun b => (F b ∧ b < w.heap.size) ∨ w2.heap.size ≤ b) (h : DiskAt w3 d U G) (ho : Only G w2 w3) : Left F d w U w3 := by
  have hs := hx.size
  refine Left.of (G := fun b => F b ∧ b < w.heap.size) (h.mono (fun b _ hb => ?_)) (Only.mono (F := fun b => (F b ∧ b < w.heap.size)) ((Only.ext hx).trans (ho.mono (fun b _ hb => ?_))) (fun b _ hb => hb)) (fun b _ hb => hb.1)
  · rw [hG] at hb
    rcases hb with hb | hb
    · exact .inl hb
    · exact .inr (by omega)
  · rw [hG] at hb
    rcases hb with hb | hb
    · exact .inl hb
    · exact .inr (by omega)
set_option maxRecDepth 20000 in
set_option maxHeartbeats 1000000 in
theorem others_any (d : Nat) (S : DS) (F : Nat → Prop) (but : ByteArray) (hu : S.uses + 200 < 4611686018427387904) (w : World) (h : DiskAt w d S F) :
    Calls Tryz.prog 69 #[.pointer (some ⟨d, 0, none⟩), .string but] w fun e w' => e = .returned (.tuple #[.int .i64 ((othersS S but).1 : Nat), .int .i64 ((othersS S but).2.1 : Nat)]) ∧ Left F d w (othersS S but).2.2 w' := by
  have hgood := h.good
  have hx1 : Ext w (w.alloc (.cells #[.string nFront] 9)) := (Ext.refl w).alloc _
  have hcall := names_any d S F (some ⟨w.heap.size, 0, none⟩) 1 [nFront] (by simp) _ (h.ext hx1) (StrsAt.one w nFront 9)
  have hcnt := names_count S [nFront]
  have hmany := hgood.many
  have HO : Hid (othersL but (namesOf S [nFront]) 0 S = othersS S but) := rfl
  have HM : Hid (∀ x ∈ namesOf S [nFront], x.size ≤ 20) := fun x hx => by
    obtain ⟨f, hf, rfl⟩ := names_mem hx
    exact (may_size (hgood.fine f hf).name).2
  generalize namesOf S [nFront] = xs at hcall HO HM hcnt
  generalize othersS S but = R at HO
  have HX1 := Lib.hid hx1
  have HD := Lib.hid (DiskAt.mono (G := fun b => F b ∧ b < w.heap.size) h (fun b hb k => ⟨k, hb⟩))
  clear h hx1 hgood
  go_enter Tryz.func69, Tryz.ntmps69
  go_wp2_with fail
  refine hcall.mono ?_
  clear hcall
  rintro e w2 ⟨v, rfl, ho, hx2⟩
  have hlt := World.ownsRow.lt ho
  obtain ⟨a, c, rfl, _, _, hst⟩ := ho.form
  have hs1 : (w.alloc (.cells #[.string nFront] 9)).heap.size = w.heap.size + 1 := by simp
  have hx12 : Ext w w2 := HX1.out.trans hx2
  have hsz := hx2.size
  have hNG : ∀ bk o, a = some ⟨bk, o, none⟩ → ¬ ((F bk ∧ bk < w.heap.size) ∨ w2.heap.size ≤ bk) := fun bk o e => by
    subst e
    have := hlt bk rfl
    rintro (h1 | h1)
    · omega
    · omega
  obtain ⟨G, hG⟩ : ∃ G : Nat → Prop, G = fun b => (F b ∧ b < w.heap.size) ∨ w2.heap.size ≤ b := ⟨_, rfl⟩
  have HG := Lib.hid hG
  have HNG : Hid (∀ bk o, a = some ⟨bk, o, none⟩ → ¬ G bk) := by rw [hG]; exact hNG
  have HD2 : Hid (DiskAt w2 d S G) := by
    show DiskAt _ _ _ _
    rw [hG]
    exact (HD.out.ext hx12).mono (fun b _ hb => .inl hb)
  have HX := Lib.hid hx12
  have HST := Lib.hid hst
  have HS2 : Hid (w.heap.size ≤ w2.heap.size) := hx12.size
  clear hG hNG hlt ho hst hx12 hx2 hs1 hsz HD HX1
  go_wp2_with fail
  go_loopg [6, 14] (xs.length) (fun gg cn i wr => ∃ (k cnt : Nat) (T : DS), cn = .int .i64 cnt ∧ i = .int .i64 k ∧ k ≤ xs.length ∧ gg = xs.length - k ∧ cnt ≤ k ∧ T.uses ≤ S.uses + k ∧ Hid (othersL but (xs.drop k) cnt T = R) ∧ Hid (DiskAt wr d T G) ∧ Hid (Only G w2 wr))
  case atStart => exact ⟨0, 0, S, rfl, rfl, Nat.zero_le _, rfl, Nat.le_refl _, Nat.le_refl _, HO, HD2, Only.refl _ _⟩
  case round =>
    obtain ⟨k, cnt, T, rfl, rfl, hk, rfl, hck, hu2, HR, HDT, HON⟩ := hrel
    by_cases hlt : k < xs.length
    · obtain ⟨bk, o, rfl, _, hcell⟩ := (HST.out.only HON.out HNG.out) k _ (List.getElem?_eq_getElem hlt)
      have hxm := HM.out _ (List.getElem_mem hlt)
      have HT : Hid (xs.drop k = xs[k] :: xs.drop (k + 1)) := List.drop_eq_getElem_cons hlt
      generalize xs[k] = x at hcell hxm HT
      by_cases heq : x = but
      · have hb1 : (x.toList == but.toList) = true := by rw [heq]; simp
        have hb2 : (x.toList = but.toList) = True := by rw [heq]; simp
        have HE := Lib.hid heq
        clear heq
        go_wp2_with fail
        go_roundg (xs.length - (k + 1))
        case measure => omega
        case rel => exact ⟨k + 1, cnt, T, rfl, by go_num, by omega, rfl, by omega, by omega, (show Hid _ from by
          show _ = _
          rw [← HR.out, HT.out, othersL, if_pos HE.out]), HDT, HON⟩
      · have hb1 : (x.toList == but.toList) = false := by
          rw [beq_eq_false_iff_ne, ByteArray.toList_eq, ByteArray.toList_eq]
          exact fun h => heq (lst_inj h)
        have hb2 : (x.toList = but.toList) = False := eq_false (by
          rw [ByteArray.toList_eq, ByteArray.toList_eq]
          exact fun h => heq (lst_inj h))
        have HE := Lib.hid heq
        clear heq
        have hcall := delete_any d T G x (by omega) (by omega) wr HDT.out
        have hdu := delete_uses T x
        have HR2 : Hid ((if (delete T x).1 = 0 then othersL but (xs.drop (k + 1)) (cnt + 1) (delete T x).2 else (0, (delete T x).1, (delete T x).2)) = R) := by
          show _ = _
          rw [← HR.out, HT.out, othersL, if_neg HE.out]
        clear HR
        generalize delete T x = q at hcall hdu HR2
        obtain ⟨ec, U⟩ := q
        simp only at hcall hdu
        by_cases he : ec = 0
        · subst he
          go_wp2_with fail
          refine hcall.mono ?_
          clear hcall
          rintro e w3 ⟨rfl, hl⟩
          have hws : w2.heap.size ≤ wr.heap.size := HON.out.size
          have HD3 : Hid (DiskAt w3 d U G) := hl.1.mono (fun b _ hb => by
            rcases hb with hb | hb
            · exact hb
            · rw [HG.out]; exact .inr (by omega))
          have HON3 : Hid (Only G w2 w3) := HON.out.andThen hl.2
          clear hl hws
          go_wp2_with fail
          go_roundg (xs.length - (k + 1))
          case measure => omega
          case rel => exact ⟨k + 1, cnt + 1, U, by go_num, by go_num, by omega, rfl, by omega, by omega, (show Hid _ from by
            show _ = _
            rw [← HR2.out]; rfl), HD3, HON3⟩
        · have he2 : ((ec : Int) != 0) = true := by rw [bne_iff_ne]; omega
          have HEC := Lib.hid he
          clear he
          go_wp2_with fail
          refine hcall.mono ?_
          clear hcall
          rintro e w3 ⟨rfl, hl⟩
          have hws : w2.heap.size ≤ wr.heap.size := HON.out.size
          have HD3 : Hid (DiskAt w3 d U G) := hl.1.mono (fun b _ hb => by
            rcases hb with hb | hb
            · exact hb
            · rw [HG.out]; exact .inr (by omega))
          have HON3 : Hid (Only G w2 w3) := HON.out.andThen hl.2
          clear hl hws
          go_wp2_with fail
          go_ret2
          have er : R = (0, ec, U) := by rw [← HR2.out]; exact if_neg HEC.out
          rw [er]
          exact ⟨rfl, others_left HX.out HG.out HD3.out HON3.out⟩
    · have ek : k = xs.length := by omega
      subst ek
      have er : Hid (R = (cnt, 0, T)) := by
        show _ = _
        rw [← HR.out, List.drop_length]; rfl
      go_wp2_with fail
      go_ret2
      rw [er.out]
      exact ⟨rfl, others_left HX.out HG.out HDT.out HON.out⟩
end Go.Proofs.YtmdkjcigmhgpeaaGreatDoor

/- The walk of snap.all: things done one by one, up to the first error. -/
namespace Go.Proofs.YtmdkjcigmhgpeaaGreatDoor
open Go.RowKit Snp SealMath Dsk

/-- The slice at a holds these functions. -/
def FuncsAt (w : World) (a : Option Addr) (fs : List (Nat × Array Value)) : Prop :=
  ∀ (j : Nat) p, fs[j]? = some p → ∃ bk o, a = some ⟨bk, o, none⟩ ∧ w.cell? ⟨bk, o + j, none⟩ = some (.func (.func p.1) #[] p.2)
/-- What all comes to. -/
def AllOut (n : Nat) (I : Nat → World → Prop) (Q : Nat → World → Prop) (e : Ending) (w' : World) : Prop := (e = .returned (.int .i64 0) ∧ I n w') ∨ ∃ k : Nat, k ≠ 0 ∧ e = .returned (.int .i64 (k : Nat)) ∧ Q k w'
def StepDone (I : Nat → World → Prop) (Q : Nat → World → Prop) (i : Nat) (e : Ending) (w' : World) : Prop := ∃ k : Nat, e = .returned (.int .i64 (k : Nat)) ∧ (k = 0 → I (i + 1) w') ∧ (k ≠ 0 → Q k w')
set_option maxRecDepth 20000 in
set_option maxHeartbeats 1000000 in
theorem all_steps (a : Option Addr) (c : Nat) (fs : List (Nat × Array Value)) (hN : fs.length ≤ 1000) (I : Nat → World → Prop) (Q : Nat → World → Prop)
    (hf : ∀ i w, I i w → FuncsAt w a fs) (hs : ∀ i p, fs[i]? = some p → Ent p.1 ∧ ∀ w, I i w → Calls Tryz.prog p.1 p.2 w (StepDone I Q i)) (w : World) (h0 : I 0 w) :
    Calls Tryz.prog 54 #[.slice a fs.length c] w (AllOut fs.length I Q) := by
  have H0 := Lib.hid h0
  have HF := Lib.hid hf
  have HS := Lib.hid hs
  clear h0 hf hs
  go_enter Tryz.func54, Tryz.ntmps54
  go_wp2_with fail
  go_loopg [8] (fs.length) (fun gg i wr => ∃ k : Nat, i = .int .i64 k ∧ k ≤ fs.length ∧ gg = fs.length - k ∧ Hid (I k wr))
  case atStart => exact ⟨0, rfl, Nat.zero_le _, rfl, H0⟩
  case round =>
    obtain ⟨k, rfl, hk, rfl, HI⟩ := hrel
    by_cases hlt : k < fs.length
    · obtain ⟨bk, o, rfl, hcell⟩ := HF.out k wr HI.out k _ (List.getElem?_eq_getElem hlt)
      obtain ⟨eg, hcall⟩ := HS.out k _ (List.getElem?_eq_getElem hlt)
      have hcall := hcall wr HI.out
      generalize fs[k] = p at hcell eg hcall
      obtain ⟨g, cp⟩ := p
      simp only at hcell eg hcall
      go_wp2_with (go_at_fn g; refine Calls.mono (by simpa using hcall) ?_; rintro e w' ⟨j, rfl, hj0, hj1⟩)
      · have hq : ((j : Int) != 0) = true := by assumption
        have hj : j ≠ 0 := by rintro rfl; simp at hq
        go_ret
        exact .inr ⟨j, hj, rfl, hj1 hj⟩
      · have hq : ((j : Int) != 0) = false := by assumption
        have hj : j = 0 := by
          rw [bne_eq_false_iff_eq] at hq; omega
        go_roundg (fs.length - (k + 1))
        case measure => omega
        case rel => exact ⟨k + 1, by go_num, by omega, rfl, hj0 hj⟩
    · have ek : k = fs.length := by omega
      subst ek
      go_wp2_with fail
      go_ret
      exact .inl ⟨rfl, HI.out⟩
end Go.Proofs.YtmdkjcigmhgpeaaGreatDoor

/- The walks of Save's eight functions. -/
namespace Go.Proofs.YtmdkjcigmhgpeaaGreatDoor
open Go.RowKit Snp SealMath Dsk

theorem left_ext {F : Nat → Prop} {d : Nat} {w w1 w2 : World} {U : DS} (hx : Ext w w1) (hl : Left F d w1 U w2) : Left F d w U w2 :=
  ⟨hl.1.mono (fun b _ hb => by
    have := hx.size
    rcases hb with hb | hb
    · exact .inl hb
    · exact .inr (by omega)), (Only.ext hx).andThen hl.2⟩
theorem left_small {F : Nat → Prop} {d : Nat} {w w2 : World} {U : DS} {B : Nat} (hl : Left (fun b => F b ∧ b < B) d w U w2) : Left F d w U w2 :=
  ⟨hl.1.mono (fun _ _ hb => hb.imp (fun h => h.1) id), hl.2.mono (fun _ _ hb => hb.1)⟩
theorem disk_small {F : Nat → Prop} {d : Nat} {w : World} {S : DS} (h : DiskAt w d S F) : DiskAt w d S (fun b => F b ∧ b < w.heap.size) := h.mono (fun _ hb k => ⟨k, hb⟩)
/-- Append of one text, in a new row. -/
theorem append_new (d : Nat) (S : DS) (F : Nat → Prop) (n x : ByteArray) (hn : n.size ≤ 140737488355328) (hx : x.size ≤ 140737488355328) (hu : S.uses < 4611686018427387904) (w : World) (h : DiskAt w d S F) (t : TypeId) :
    Calls Tryz.prog 59 #[.pointer (some ⟨d, 0, none⟩), .string n, .slice (some ⟨w.heap.size, 0, none⟩) 1 1] (w.alloc (.cells #[.string x] t)) fun e w' => e = .returned (.int .i64 ((append S n [x]).1 : Nat)) ∧ Left F d w (append S n [x]).2 w' := by
  refine (append_any d S (fun b => F b ∧ b < w.heap.size) n (some ⟨w.heap.size, 0, none⟩) 1 [x] hn (by simp) (by simp) (by simpa using hx) hu _ ((disk_small h).ext ((Ext.refl w).alloc _)) (StrsAt.one w x t) (fun bk o e hb => ?_)).mono ?_
  · injection e with e; injection e with e1 _; have := hb.2; omega
  · rintro e w' ⟨rfl, hl⟩
    exact ⟨rfl, left_small (left_ext ((Ext.refl w).alloc _) hl)⟩
theorem sync_new (d : Nat) (S : DS) (F : Nat → Prop) (n : ByteArray) (hn : n.size ≤ 140737488355328) (hu : S.uses < 4611686018427387904) (w : World) (h : DiskAt w d S F) (t : TypeId) :
    Calls Tryz.prog 20 #[.pointer (some ⟨d, 0, none⟩), .slice (some ⟨w.heap.size, 0, none⟩) 1 1] (w.alloc (.cells #[.string n] t)) fun e w' => e = .returned (.int .i64 ((sync S [n]).1 : Nat)) ∧ Left F d w (sync S [n]).2 w' := by
  refine (sync_any d S (fun b => F b ∧ b < w.heap.size) (some ⟨w.heap.size, 0, none⟩) 1 [n] (by simp) (by simpa using hn) hu _ ((disk_small h).ext ((Ext.refl w).alloc _)) (StrsAt.one w n t) (fun bk o e hb => ?_)).mono ?_
  · injection e with e; injection e with e1 _; have := hb.2; omega
  · rintro e w' ⟨rfl, h1, h2⟩
    exact ⟨rfl, left_small (left_ext ((Ext.refl w).alloc _) ⟨h1.mono (fun b _ hb => .inl hb), h2⟩)⟩

theorem save1_any (d : Nat) (S : DS) (F : Nat → Prop) (cd cn : Nat) (nm : ByteArray) (hn : nm.size ≤ 140737488355328) (hu : S.uses < 4611686018427387904) (w : World) (h : DiskAt w d S F)
    (h1 : w.cell? ⟨cd, 0, none⟩ = some (.pointer (some ⟨d, 0, none⟩))) (h2 : w.cell? ⟨cn, 0, none⟩ = some (.string nm)) :
    Calls Tryz.prog 55 #[.pointer (some ⟨cd, 0, none⟩), .pointer (some ⟨cn, 0, none⟩)] w fun e w' => e = .returned (.int .i64 ((dropS S nm).1 : Nat)) ∧ Left F d w (dropS S nm).2 w' := by
  have hcall := drop_any d S F nm hn hu w h
  generalize dropS S nm = q at hcall ⊢
  clear h hu
  go_enter Tryz.func55, Tryz.ntmps55
  go_wp2_with fail
  refine hcall.mono ?_
  clear hcall
  rintro e w1 ⟨rfl, hl⟩
  have HL := Lib.hid hl; clear hl
  go_wp2_with fail
  go_ret
  exact ⟨rfl, HL.out⟩
theorem save2_any (d : Nat) (S : DS) (F : Nat → Prop) (cd : Nat) (hu : S.uses < 4611686018427387904) (w : World) (h : DiskAt w d S F)
    (h1 : w.cell? ⟨cd, 0, none⟩ = some (.pointer (some ⟨d, 0, none⟩))) :
    Calls Tryz.prog 57 #[.pointer (some ⟨cd, 0, none⟩)] w fun e w' => e = .returned (.int .i64 ((step1 S).1 : Nat)) ∧ Left F d w (step1 S).2 w' := by
  have hcall := drop_any d S F nFresh (by decide) hu w h
  unfold step1
  generalize dropS S nFresh = q at hcall ⊢
  clear h hu
  go_enter Tryz.func57, Tryz.ntmps57
  go_wp2_with fail
  refine hcall.mono ?_
  clear hcall
  rintro e w1 ⟨rfl, hl⟩
  have HL := Lib.hid hl; clear hl
  go_wp2_with fail
  go_ret
  exact ⟨rfl, HL.out⟩
theorem save4_any (d : Nat) (S : DS) (F : Nat → Prop) (cd cn : Nat) (nm : ByteArray) (hn : nm.size ≤ 140737488355328) (hu : S.uses < 4611686018427387904) (w : World) (h : DiskAt w d S F)
    (h1 : w.cell? ⟨cd, 0, none⟩ = some (.pointer (some ⟨d, 0, none⟩))) (h2 : w.cell? ⟨cn, 0, none⟩ = some (.string nm)) :
    Calls Tryz.prog 61 #[.pointer (some ⟨cd, 0, none⟩), .pointer (some ⟨cn, 0, none⟩)] w fun e w' => e = .returned (.int .i64 ((sync S [nm]).1 : Nat)) ∧ Left F d w (sync S [nm]).2 w' := by
  have hcall := sync_new d S F nm hn hu w h 9
  generalize sync S [nm] = q at hcall ⊢
  clear h hu
  go_enter Tryz.func61, Tryz.ntmps61
  go_wp2_with fail
  refine hcall.mono ?_
  clear hcall
  rintro e w1 ⟨rfl, hl⟩
  have HL := Lib.hid hl; clear hl
  go_wp2_with fail
  go_ret
  exact ⟨rfl, HL.out⟩
theorem save6_any (d : Nat) (S : DS) (F : Nat → Prop) (cd : Nat) (hu : S.uses < 4611686018427387904) (w : World) (h : DiskAt w d S F)
    (h1 : w.cell? ⟨cd, 0, none⟩ = some (.pointer (some ⟨d, 0, none⟩))) :
    Calls Tryz.prog 65 #[.pointer (some ⟨cd, 0, none⟩)] w fun e w' => e = .returned (.int .i64 ((step5 S).1 : Nat)) ∧ Left F d w (step5 S).2 w' := by
  have hcall := sync_new d S F nFresh (by decide) hu w h 9
  unfold step5
  generalize sync S [nFresh] = q at hcall ⊢
  clear h hu
  go_enter Tryz.func65, Tryz.ntmps65
  go_wp2_with fail
  refine hcall.mono ?_
  clear hcall
  rintro e w1 ⟨rfl, hl⟩
  have HL := Lib.hid hl; clear hl
  go_wp2_with fail
  go_ret
  exact ⟨rfl, HL.out⟩
theorem save7_any (d : Nat) (S : DS) (F : Nat → Prop) (cd : Nat) (hu : S.uses < 4611686018427387904) (w : World) (h : DiskAt w d S F)
    (h1 : w.cell? ⟨cd, 0, none⟩ = some (.pointer (some ⟨d, 0, none⟩))) :
    Calls Tryz.prog 66 #[.pointer (some ⟨cd, 0, none⟩)] w fun e w' => e = .returned (.int .i64 ((step6 S).1 : Nat)) ∧ Left F d w (step6 S).2 w' := by
  have hcall := rename_any d S F nFresh nMark (by decide) (by decide) hu w h
  unfold step6
  generalize rename S nFresh nMark = q at hcall ⊢
  clear h hu
  go_enter Tryz.func66, Tryz.ntmps66
  go_wp2_with fail
  refine hcall.mono ?_
  clear hcall
  rintro e w1 ⟨rfl, hl⟩
  have HL := Lib.hid hl; clear hl
  go_wp2_with fail
  go_ret
  exact ⟨rfl, HL.out⟩
theorem save8_any (d : Nat) (S : DS) (F : Nat → Prop) (cd cn : Nat) (nm : ByteArray) (hu : S.uses + 200 < 4611686018427387904) (w : World) (h : DiskAt w d S F)
    (h1 : w.cell? ⟨cd, 0, none⟩ = some (.pointer (some ⟨d, 0, none⟩))) (h2 : w.cell? ⟨cn, 0, none⟩ = some (.string nm)) :
    Calls Tryz.prog 68 #[.pointer (some ⟨cd, 0, none⟩), .pointer (some ⟨cn, 0, none⟩)] w fun e w' => e = .returned (.int .i64 ((othersS S nm).2.1 : Nat)) ∧ Left F d w (othersS S nm).2.2 w' := by
  have hcall := others_any d S F nm hu w h
  generalize othersS S nm = q at hcall ⊢
  clear h hu
  go_enter Tryz.func68, Tryz.ntmps68
  go_wp2_with fail
  refine hcall.mono ?_
  clear hcall
  rintro e w1 ⟨rfl, hl⟩
  have HL := Lib.hid hl; clear hl
  go_wp2_with fail
  go_ret
  exact ⟨rfl, HL.out⟩

set_option maxRecDepth 20000 in
set_option maxHeartbeats 1000000 in
theorem save3_any (d : Nat) (S : DS) (F : Nat → Prop) (cd cn ci ct : Nat) (nm : ByteArray) (n : Nat) (txt : ByteArray) (hn : n ≤ 99999999) (ht : txt.size ≤ 960000) (hnm : nm.size ≤ 140737488355328) (hu : S.uses < 4611686018427387904) (w : World) (h : DiskAt w d S F) (hnb : Nibs w)
    (h1 : w.cell? ⟨cd, 0, none⟩ = some (.pointer (some ⟨d, 0, none⟩))) (h2 : w.cell? ⟨cn, 0, none⟩ = some (.string nm)) (h3 : w.cell? ⟨ci, 0, none⟩ = some (.int .i64 (n : Nat))) (h4 : w.cell? ⟨ct, 0, none⟩ = some (.string txt))
    (f1 : ¬ F cd) (f2 : ¬ F cn) (f3 : ¬ F ci) (f4 : ¬ F ct) :
    Calls Tryz.prog 58 #[.pointer (some ⟨cd, 0, none⟩), .pointer (some ⟨cn, 0, none⟩), .pointer (some ⟨ci, 0, none⟩), .pointer (some ⟨ct, 0, none⟩)] w fun e w' => e = .returned (.int .i64 ((append S nm [bts (fileL n (lst txt))]).1 : Nat)) ∧ Left F d w (append S nm [bts (fileL n (lst txt))]).2 w' := by
  have hfl := fileL_le n (lst txt) (by rw [lst_length]; exact ht)
  have HFS : Hid ((bts (fileL n (lst txt))).size ≤ 960222) := by show _ ≤ _; rw [bts_size]; exact hfl
  have HFC : Hid (∀ u, Nibs u → Calls Tryz.prog 60 #[.int .i64 (n : Nat), .string txt] u fun e w' => e = .returned (.string (bts (fileL n (lst txt)))) ∧ Ext u w') := fun u hu => file_any n hn txt ht u hu
  clear hfl
  generalize bts (fileL n (lst txt)) = x at HFS HFC
  have hxs : x.size ≤ 140737488355328 := by have := HFS.out; omega
  have HD := Lib.hid h; clear h
  have HN := Lib.hid hnb; clear hnb
  generalize hq : append S nm [x] = q
  have HQ := Lib.hid hq; clear hq
  go_enter Tryz.func58, Tryz.ntmps58
  go_wp2_with fail
  go_region_held3 (fun u => u.cell? ⟨cd, 0, none⟩ = some (.pointer (some ⟨d, 0, none⟩)) ∧ u.cell? ⟨cn, 0, none⟩ = some (.string nm) ∧ u.cell? ⟨ci, 0, none⟩ = some (.int .i64 (n : Nat)) ∧ u.cell? ⟨ct, 0, none⟩ = some (.string txt))
    (first | exact ⟨h1, h2, h3, h4⟩ | exact ⟨Ext.cell hx h1, Ext.cell hx h2, Ext.cell hx h3, Ext.cell hx h4⟩ | exact ⟨Ext.cell (Ext.alloc hx _) h1, Ext.cell (Ext.alloc hx _) h2, Ext.cell (Ext.alloc hx _) h3, Ext.cell (Ext.alloc hx _) h4⟩ | exact ⟨Only.cell hl.2 (Ext.cell hx h1) f1, Only.cell hl.2 (Ext.cell hx h2) f2, Only.cell hl.2 (Ext.cell hx h3) f3, Only.cell hl.2 (Ext.cell hx h4) f4⟩)
    (first
    | (go_at_call 60; refine (HFC.out _ (HN.out.ext (by first | exact Ext.refl _ | exact (Ext.refl _).drew))).mono ?_; rintro e v ⟨rfl, hx⟩)
    | (go_at_call 59; refine (append_new d S F nm x hnm hxs hu _ (HD.out.ext (by first | exact hx | exact ((Ext.refl _).drew).trans hx)) _).mono ?_; rintro e v2 ⟨rfl, hl⟩))
  have HL := Lib.hid (show Left F d w q.2 v2 by rw [← HQ.out]; first | exact left_ext hx hl | exact left_ext (((Ext.refl _).drew).trans hx) hl)
  rw [HQ.out]
  clear hl hx h1 h2 h3 h4
  go_wp2_with fail
  go_ret
  exact ⟨rfl, HL.out⟩

theorem IntsAt.drew {u : World} {a : Option Addr} {k : List Int} (h : IntsAt u a k) : IntsAt u.drew a k := h
theorem sizes1_new (n : Nat) (hn : n ≤ 99999999) (b : Nat) (u : World) (hi : IntsAt u (some ⟨b, 0, none⟩) [(n : Int)]) (hb : b < u.heap.size) :
    Calls Tryz.prog 64 #[.slice (some ⟨b, 0, none⟩) 1 1] u fun e w' => e = .returned (.string (bts (numL n))) ∧ Ext u w' := by
  refine (sizes_any (some ⟨b, 0, none⟩) 1 [n] (by simp) (by intro x hx; simp at hx; omega) _ hi (by intro bk o e; simp at e; omega)).mono ?_
  rintro e w' ⟨r, rfl, hr, hx⟩
  have e1 : r = bts (numL n) := lst_inj (by rw [hr, lst_bts]; simp)
  exact ⟨by rw [e1], hx⟩
theorem markf_any (n : Nat) (w : World) (hn : Nibs w) :
    Calls Tryz.prog 63 #[.string (bts (numL n))] w fun e w' => e = .returned (.string (bts (markL n))) ∧ Ext w w' :=
  framed_any (bts (numL n)) (by rw [bts_size]; have := numL_length n; omega) w hn
set_option maxRecDepth 20000 in
set_option maxHeartbeats 1000000 in
theorem save5_any (d : Nat) (S : DS) (F : Nat → Prop) (cd ci : Nat) (n : Nat) (hn : n ≤ 99999999) (hu : S.uses < 4611686018427387904) (w : World) (h : DiskAt w d S F) (hnb : Nibs w)
    (h1 : w.cell? ⟨cd, 0, none⟩ = some (.pointer (some ⟨d, 0, none⟩))) (h3 : w.cell? ⟨ci, 0, none⟩ = some (.int .i64 (n : Nat)))
    (f1 : ¬ F cd) (f3 : ¬ F ci) :
    Calls Tryz.prog 62 #[.pointer (some ⟨cd, 0, none⟩), .pointer (some ⟨ci, 0, none⟩)] w fun e w' => e = .returned (.int .i64 ((step4 n S).1 : Nat)) ∧ Left F d w (step4 n S).2 w' := by
  have HXS : Hid ((bts (markL n)).size ≤ 21) := by show _ ≤ _; rw [bts_size]; exact markL_length n
  have HFC : Hid (∀ u, Nibs u → Calls Tryz.prog 63 #[.string (bts (numL n))] u fun e w' => e = .returned (.string (bts (markL n))) ∧ Ext u w') := fun u hu => markf_any n u hu
  have HSC : Hid (∀ (b : Nat) (u : World), IntsAt u (some ⟨b, 0, none⟩) [(n : Int)] → b < u.heap.size → Calls Tryz.prog 64 #[.slice (some ⟨b, 0, none⟩) 1 1] u fun e w' => e = .returned (.string (bts (numL n))) ∧ Ext u w') := fun b u => sizes1_new n hn b u
  unfold step4
  generalize bts (markL n) = x at HXS HFC
  generalize bts (numL n) = y at HFC HSC
  have hxs : x.size ≤ 140737488355328 := by have := HXS.out; omega
  have HD := Lib.hid h; clear h
  have HN := Lib.hid hnb; clear hnb
  generalize hq : append S nFresh [x] = q
  have HQ := Lib.hid hq; clear hq
  go_enter Tryz.func62, Tryz.ntmps62
  go_wp2_with fail
  go_region_held3 (fun u => u.cell? ⟨cd, 0, none⟩ = some (.pointer (some ⟨d, 0, none⟩)) ∧ u.cell? ⟨ci, 0, none⟩ = some (.int .i64 (n : Nat)))
    (first | exact ⟨h1, h3⟩ | exact ⟨Ext.cell (Ext.alloc (Ext.refl _) _) h1, Ext.cell (Ext.alloc (Ext.refl _) _) h3⟩ | exact ⟨Ext.cell (Ext.alloc ((Ext.refl _).drew) _) h1, Ext.cell (Ext.alloc ((Ext.refl _).drew) _) h3⟩ | exact ⟨Ext.cell hx h1, Ext.cell hx h3⟩ | exact ⟨Ext.cell (hx.trans hx2) h1, Ext.cell (hx.trans hx2) h3⟩ | exact ⟨Ext.cell (Ext.alloc (hx.trans hx2) _) h1, Ext.cell (Ext.alloc (hx.trans hx2) _) h3⟩ | exact ⟨Only.cell hl.2 (Ext.cell (hx.trans hx2) h1) f1, Only.cell hl.2 (Ext.cell (hx.trans hx2) h3) f3⟩)
    (first
    | (go_at_call 64; refine (HSC.out _ _ (by first | exact IntsAt.one _ _ _ | exact (IntsAt.one _ _ _).drew) (by simp)).mono ?_; rintro e v ⟨rfl, hx0⟩; have hx : Ext w v := Ext.trans (by first | exact (Ext.refl _).alloc _ | exact ((Ext.refl _).alloc _).drew | exact ((Ext.refl _).drew).alloc _) hx0)
    | (go_at_call 63; refine (HFC.out _ (HN.out.ext hx)).mono ?_; rintro e v2 ⟨rfl, hx2⟩)
    | (go_at_call 59; refine (append_new d S F nFresh x (by decide) hxs hu _ (HD.out.ext (hx.trans hx2)) _).mono ?_; rintro e v3 ⟨rfl, hl⟩))
  have HL := Lib.hid (show Left F d w q.2 v3 by rw [← HQ.out]; exact left_ext (hx.trans hx2) hl)
  rw [HQ.out]
  clear hl hx hx0 hx2 h1 h3
  go_wp2_with fail
  go_ret
  exact ⟨rfl, HL.out⟩
end Go.Proofs.YtmdkjcigmhgpeaaGreatDoor

/- The walk of Save's end: all eight functions, one by one. -/
namespace Go.Proofs.YtmdkjcigmhgpeaaGreatDoor
open Go.RowKit Snp SealMath Dsk

theorem append_uses (S : DS) (n : ByteArray) (xs : List ByteArray) : (append S n xs).2.uses ≤ S.uses + 1 := by
  have h := (use_goes S).uses
  unfold Dsk.append
  split
  · simp only
    split
    · exact h
    · split
      · exact h
      · exact h
  · exact h
theorem sync_uses (S : DS) (ns : List ByteArray) : (sync S ns).2.uses ≤ S.uses + 1 := by
  have h := (use_goes S).uses
  unfold Dsk.sync
  split
  · exact h
  · rw [there_snd]; exact h
theorem rename_uses (S : DS) (a b : ByteArray) : (rename S a b).2.uses ≤ S.uses + 1 := by
  have h := (use_goes S).uses
  unfold Dsk.rename
  split
  · split
    · exact h
    · exact h
  · rw [begin_snd]; exact h
theorem dropS_uses (S : DS) (n : ByteArray) : (dropS S n).2.uses ≤ S.uses + 1 := by
  have h := delete_uses S n
  unfold dropS
  split
  · exact h
  · exact h

/-- Save's eight functions, with what they caught. -/
def saveFs (cd cn ci ct : Nat) : List (Nat × Array Value) :=
  [(55, #[.pointer (some ⟨cd, 0, none⟩), .pointer (some ⟨cn, 0, none⟩)]),
   (57, #[.pointer (some ⟨cd, 0, none⟩)]),
   (58, #[.pointer (some ⟨cd, 0, none⟩), .pointer (some ⟨cn, 0, none⟩), .pointer (some ⟨ci, 0, none⟩), .pointer (some ⟨ct, 0, none⟩)]),
   (61, #[.pointer (some ⟨cd, 0, none⟩), .pointer (some ⟨cn, 0, none⟩)]),
   (62, #[.pointer (some ⟨cd, 0, none⟩), .pointer (some ⟨ci, 0, none⟩)]),
   (65, #[.pointer (some ⟨cd, 0, none⟩)]),
   (66, #[.pointer (some ⟨cd, 0, none⟩)]),
   (68, #[.pointer (some ⟨cd, 0, none⟩), .pointer (some ⟨cn, 0, none⟩)])]
theorem ent_save1 : Ent 55 := enters_of Tryz.func55 (by kernel_rfl) rfl
theorem ent_save2 : Ent 57 := enters_of Tryz.func57 (by kernel_rfl) rfl
theorem ent_save3 : Ent 58 := enters_of Tryz.func58 (by kernel_rfl) rfl
theorem ent_save4 : Ent 61 := enters_of Tryz.func61 (by kernel_rfl) rfl
theorem ent_save5 : Ent 62 := enters_of Tryz.func62 (by kernel_rfl) rfl
theorem ent_save6 : Ent 65 := enters_of Tryz.func65 (by kernel_rfl) rfl
theorem ent_save7 : Ent 66 := enters_of Tryz.func66 (by kernel_rfl) rfl
theorem ent_save8 : Ent 68 := enters_of Tryz.func68 (by kernel_rfl) rfl

/-- Where the steps stand: what is still to be done, and the disk. -/
structure At8 (d : Nat) (G : Nat → Prop) (v : World) (us : Nat) (l : List (DS → Nat × DS)) (R : Nat × DS) (k : Nat) (w : World) : Prop where
  ex : ∃ T, seqS (l.drop k) T = R ∧ DiskAt w d T G ∧ T.uses ≤ us + 101 * k
  only : Only G v w
structure Out8 (d : Nat) (G : Nat → Prop) (v : World) (R : Nat × DS) (k : Nat) (w : World) : Prop where
  code : R.1 = k
  disk : DiskAt w d R.2 G
  only : Only G v w
theorem step8 {d : Nat} {G : Nat → Prop} {v : World} {us : Nat} {l : List (DS → Nat × DS)} {R : Nat × DS} {k : Nat} {w : World} {T : DS} {f : DS → Nat × DS} {e : Ending} {w' : World}
    (hf : l[k]? = some f) (hq : seqS (l.drop k) T = R) (ho : Only G v w) (hu : (f T).2.uses ≤ us + 101 * (k + 1)) (hsz : ∀ b, v.heap.size ≤ b → G b)
    (he : e = .returned (.int .i64 ((f T).1 : Nat))) (hl : Left G d w (f T).2 w') : StepDone (At8 d G v us l R) (Out8 d G v R) k e w' := by
  have hlt : k < l.length := (List.getElem?_eq_some_iff.1 hf).1
  have hd : l.drop k = f :: l.drop (k + 1) := by
    rw [List.drop_eq_getElem_cons hlt, (List.getElem?_eq_some_iff.1 hf).2]
  rw [hd] at hq
  have hq : (if (f T).1 = 0 then seqS (l.drop (k + 1)) (f T).2 else f T) = R := hq
  have hw := ho.size
  have hD : DiskAt w' d (f T).2 G := hl.1.mono (fun b _ hb => by
    rcases hb with hb | hb
    · exact hb
    · exact hsz b (by omega))
  have hO : Only G v w' := ho.andThen hl.2
  refine ⟨(f T).1, he, fun h0 => ?_, fun h0 => ?_⟩
  · rw [if_pos h0] at hq
    exact ⟨⟨_, hq, hD, hu⟩, hO⟩
  · rw [if_neg h0] at hq
    exact ⟨by rw [← hq], by rw [← hq]; exact hD, hO⟩

theorem Below.nibs {B : Nat} {w w' : World} (h : Nibs w) (hb : 0 < B) (k : Below B w w') : Nibs w' := fun i hi => by
  rw [Below.cell k (p := ⟨0, i, none⟩) hb]; exact h i hi
theorem Only.nibs {G : Nat → Prop} {w w' : World} (h : Nibs w) (hg : ¬ G 0) (k : Only G w w') : Nibs w' := fun i hi => k.cell (h i hi) hg
set_option maxRecDepth 20000 in
theorem save_all (d : Nat) (S : DS) (F : Nat → Prop) (cd cn ci ct : Nat) (n : Nat) (txt : ByteArray) (hn : n ≤ 99999999) (ht : txt.size ≤ 960000) (hu : S.uses + 1000 < 4611686018427387904) (w : World) (h : DiskAt w d S F) (hnb : Nibs w) (hFn : ¬ F 0)
    (h1 : w.cell? ⟨cd, 0, none⟩ = some (.pointer (some ⟨d, 0, none⟩))) (h2 : w.cell? ⟨cn, 0, none⟩ = some (.string (nSnap n))) (h3 : w.cell? ⟨ci, 0, none⟩ = some (.int .i64 (n : Nat))) (h4 : w.cell? ⟨ct, 0, none⟩ = some (.string txt))
    (f1 : ¬ F cd) (f2 : ¬ F cn) (f3 : ¬ F ci) (f4 : ¬ F ct) (cs : Array Value) (hcs : cs = ((saveFs cd cn ci ct).map (fun p => Value.func (.func p.1) #[] p.2)).toArray) (t : TypeId) :
    Calls Tryz.prog 54 #[.slice (some ⟨w.heap.size, 0, none⟩) 8 8] (w.alloc (.cells cs t)) fun e w' => e = .returned (.int .i64 ((seqS (steps n (lst txt)) S).1 : Nat)) ∧ Left F d w (seqS (steps n (lst txt)) S).2 w' := by
  obtain ⟨v, hv⟩ : ∃ v, v = w.alloc (.cells cs t) := ⟨_, rfl⟩
  have hx : Ext w v := by rw [hv]; exact (Ext.refl w).alloc _
  have hvs : v.heap.size = w.heap.size + 1 := by rw [hv]; simp
  obtain ⟨G, hG⟩ : ∃ G : Nat → Prop, G = fun b => (F b ∧ b < w.heap.size) ∨ v.heap.size ≤ b := ⟨_, rfl⟩
  have hGF : ∀ b, b < v.heap.size → ¬ F b → ¬ G b := fun b hb hf => by
    rw [hG]; rintro (k | k)
    · exact hf k.1
    · omega
  have hGs : ∀ b, v.heap.size ≤ b → G b := fun b hb => by rw [hG]; exact .inr hb
  have hGr : ¬ G w.heap.size := by
    rw [hG]; rintro (k | k) <;> omega
  have lt : ∀ b u, w.cell? ⟨b, 0, none⟩ = some u → b < v.heap.size := fun b u hc => by have := cell_lt hc; omega
  have hnm := nSnap_size n hn
  have hrow : FuncsAt v (some ⟨w.heap.size, 0, none⟩) (saveFs cd cn ci ct) := fun j p hj => by
    refine ⟨w.heap.size, 0, rfl, ?_⟩
    rw [hv, Nat.zero_add, cell_new, hcs, List.getElem?_toArray, List.getElem?_map, hj]; rfl
  rw [← hv]
  have key := all_steps (some ⟨w.heap.size, 0, none⟩) 8 (saveFs cd cn ci ct) (by simp [saveFs]) (At8 d G v S.uses (steps n (lst txt)) (seqS (steps n (lst txt)) S)) (Out8 d G v (seqS (steps n (lst txt)) S))
    (fun i u hi j p hj => by
      obtain ⟨bk, o, e, hc⟩ := hrow j p hj
      refine ⟨bk, o, e, hi.only.cell hc ?_⟩
      injection e with e; injection e with e1 _; rw [← e1]; exact hGr)
    (fun i p hp => by
      have c1 : ∀ u, Only G v u → u.cell? ⟨cd, 0, none⟩ = some (.pointer (some ⟨d, 0, none⟩)) := fun u hu => hu.cell (hx.cell h1) (hGF _ (lt _ _ h1) f1)
      have c2 : ∀ u, Only G v u → u.cell? ⟨cn, 0, none⟩ = some (.string (nSnap n)) := fun u hu => hu.cell (hx.cell h2) (hGF _ (lt _ _ h2) f2)
      have c3 : ∀ u, Only G v u → u.cell? ⟨ci, 0, none⟩ = some (.int .i64 (n : Nat)) := fun u hu => hu.cell (hx.cell h3) (hGF _ (lt _ _ h3) f3)
      have c4 : ∀ u, Only G v u → u.cell? ⟨ct, 0, none⟩ = some (.string txt) := fun u hu => hu.cell (hx.cell h4) (hGF _ (lt _ _ h4) f4)
      have cN : ∀ u, Only G v u → Nibs u := fun u hu => hu.nibs (hnb.ext hx) (hGF _ (by have := cell_lt (hnb 0 (by omega)); omega) hFn)
      match i, hp with
      | 0, hp =>
        obtain rfl := Option.some.inj hp
        refine ⟨ent_save1, fun u hI => ?_⟩
        obtain ⟨T, hq, hD, hU⟩ := hI.ex
        refine (save1_any d T G cd cn (nSnap n) (by omega) (by omega) u hD (c1 u hI.only) (c2 u hI.only)).mono ?_
        rintro e u' ⟨he, hl⟩
        exact step8 (f := step0 n) rfl hq hI.only (by have := dropS_uses T (nSnap n); unfold step0; omega) hGs he hl
      | 1, hp =>
        obtain rfl := Option.some.inj hp
        refine ⟨ent_save2, fun u hI => ?_⟩
        obtain ⟨T, hq, hD, hU⟩ := hI.ex
        refine (save2_any d T G cd (by omega) u hD (c1 u hI.only)).mono ?_
        rintro e u' ⟨he, hl⟩
        exact step8 (f := step1) rfl hq hI.only (by have := dropS_uses T nFresh; unfold step1; omega) hGs he hl
      | 2, hp =>
        obtain rfl := Option.some.inj hp
        refine ⟨ent_save3, fun u hI => ?_⟩
        obtain ⟨T, hq, hD, hU⟩ := hI.ex
        refine (save3_any d T G cd cn ci ct (nSnap n) n txt hn ht (by omega) (by omega) u hD (cN u hI.only) (c1 u hI.only) (c2 u hI.only) (c3 u hI.only) (c4 u hI.only) (hGF _ (lt _ _ h1) f1) (hGF _ (lt _ _ h2) f2) (hGF _ (lt _ _ h3) f3) (hGF _ (lt _ _ h4) f4)).mono ?_
        rintro e u' ⟨he, hl⟩
        exact step8 (f := step2 n (lst txt)) rfl hq hI.only (by have := append_uses T (nSnap n) [bts (fileL n (lst txt))]; unfold step2; omega) hGs he hl
      | 3, hp =>
        obtain rfl := Option.some.inj hp
        refine ⟨ent_save4, fun u hI => ?_⟩
        obtain ⟨T, hq, hD, hU⟩ := hI.ex
        refine (save4_any d T G cd cn (nSnap n) (by omega) (by omega) u hD (c1 u hI.only) (c2 u hI.only)).mono ?_
        rintro e u' ⟨he, hl⟩
        exact step8 (f := step3 n) rfl hq hI.only (by have := sync_uses T [nSnap n]; unfold step3; omega) hGs he hl
      | 4, hp =>
        obtain rfl := Option.some.inj hp
        refine ⟨ent_save5, fun u hI => ?_⟩
        obtain ⟨T, hq, hD, hU⟩ := hI.ex
        refine (save5_any d T G cd ci n hn (by omega) u hD (cN u hI.only) (c1 u hI.only) (c3 u hI.only) (hGF _ (lt _ _ h1) f1) (hGF _ (lt _ _ h3) f3)).mono ?_
        rintro e u' ⟨he, hl⟩
        exact step8 (f := step4 n) rfl hq hI.only (by have := append_uses T nFresh [bts (markL n)]; unfold step4; omega) hGs he hl
      | 5, hp =>
        obtain rfl := Option.some.inj hp
        refine ⟨ent_save6, fun u hI => ?_⟩
        obtain ⟨T, hq, hD, hU⟩ := hI.ex
        refine (save6_any d T G cd (by omega) u hD (c1 u hI.only)).mono ?_
        rintro e u' ⟨he, hl⟩
        exact step8 (f := step5) rfl hq hI.only (by have := sync_uses T [nFresh]; unfold step5; omega) hGs he hl
      | 6, hp =>
        obtain rfl := Option.some.inj hp
        refine ⟨ent_save7, fun u hI => ?_⟩
        obtain ⟨T, hq, hD, hU⟩ := hI.ex
        refine (save7_any d T G cd (by omega) u hD (c1 u hI.only)).mono ?_
        rintro e u' ⟨he, hl⟩
        exact step8 (f := step6) rfl hq hI.only (by have := rename_uses T nFresh nMark; unfold step6; omega) hGs he hl
      | 7, hp =>
        obtain rfl := Option.some.inj hp
        refine ⟨ent_save8, fun u hI => ?_⟩
        obtain ⟨T, hq, hD, hU⟩ := hI.ex
        refine (save8_any d T G cd cn (nSnap n) (by omega) u hD (c1 u hI.only) (c2 u hI.only)).mono ?_
        rintro e u' ⟨he, hl⟩
        exact step8 (f := step7 n) rfl hq hI.only (by
          have h1 := othersL_off (nSnap n) (namesOf T [nFront]) 0 T
          have h2 := names_count T [nFront]
          have h3 := hD.good.many
          show (othersL (nSnap n) (namesOf T [nFront]) 0 T).2.2.uses ≤ _
          omega) hGs he hl)
    v ⟨⟨S, rfl, by rw [hG]; exact (disk_small h).ext hx |>.mono (fun b _ hb => .inl hb), by omega⟩, Only.refl _ _⟩
  refine key.mono ?_
  rintro e w' (⟨rfl, hI⟩ | ⟨k, hk, rfl, hO⟩)
  · obtain ⟨T, hq, hD, _⟩ := hI.ex
    have hq : ((0, T) : Nat × DS) = seqS (steps n (lst txt)) S := hq
    rw [← hq]
    exact ⟨rfl, others_left hx hG hD hI.only⟩
  · exact ⟨by rw [hO.code], others_left hx hG hO.disk hO.only⟩
end Go.Proofs.YtmdkjcigmhgpeaaGreatDoor
