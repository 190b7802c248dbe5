/- The walks of Delete, Sync, Rename, Put. -/
import Derived.Test.YtmdkjcigmhgpeaaGreatDoorDiskTurn
namespace Go.Proofs.YtmdkjcigmhgpeaaGreatDoor
open Go.RowKit Go.Maps Dsk

/-- What a use leaves: the disk as it is told, within its own blocks and new ones. -/
def Left (F : Nat → Prop) (d : Nat) (w : World) (S : DS) (w' : World) : Prop := DiskAt w' d S (More F w) ∧ Only F w w'
theorem Left.of {F G : Nat → Prop} {d : Nat} {w w' : World} {S : DS} (h : DiskAt w' d S (More G w)) (ho : Only G w w') (hG : ∀ b, b < w.heap.size → G b → F b) : Left F d w S w' :=
  ⟨h.mono (fun b _ hb => by
    by_cases hl : b < w.heap.size
    · rcases hb with hb | hb
      · exact .inl (hG b hl hb)
      · omega
    · exact .inr (by omega)), ho.mono hG⟩
theorem key_of (n : ByteArray) (hn : n.size ≤ 140737488355328) : keyOf Tryz.prog 9 (.string n) = some (.string (lst n)) := Go.WideMaps.keyOf_string_mk Tryz.underlying9 (by unfold maxLen; omega)
theorem not_new {F : Nat → Prop} {w : World} (h : ∀ b, F b → b < w.heap.size) {b : Nat} (hb : w.heap.size ≤ b) : ¬ F b := fun k => by have := h b k; omega

/-- Delete. -/
theorem delete_any (d : Nat) (S : DS) (F : Nat → Prop) (n : ByteArray) (hn : n.size ≤ 140737488355328) (hu : S.uses < 4611686018427387904) (w : World) (h : DiskAt w d S F) :
    Calls Tryz.prog 79 #[.pointer (some ⟨d, 0, none⟩), .string n] w fun e w' => e = .returned (.int .i64 ((delete S n).1 : Nat)) ∧ Left F d w (delete S n).2 w' := by
  obtain ⟨mb, β, h, hF⟩ := h
  have hlt : ∀ b, foot d mb β S.files b → b < w.heap.size := fun b hb => h.foot_lt hb
  have h0 : DiskAt (w.alloc (.cells #[.string n] 9)) d S (foot d mb β S.files) := DiskAt.ext ⟨mb, β, h, fun _ hb => hb⟩ ((Ext.refl w).alloc _)
  have hcall := there_any d S (foot d mb β S.files) (some ⟨w.heap.size, 0, none⟩) 1 [n] (by simp) (fun x hx => by simp at hx; subst hx; exact hn) hu _ h0 (StrsAt.one w n 9) (fun bk o e => by
    simp at e; rw [← e.1]; exact not_new hlt (Nat.le_refl _))
  rw [there_snd] at hcall
  have hd1 : delete S n = if (there S [n]).1 = 0 then (0, files (use S).2 (drop n S.files)) else ((there S [n]).1, (use S).2) := by
    unfold Dsk.delete; split
    · rfl
    · rw [← there_snd S [n]]
  rw [hd1]
  have hfiles := (use_files S).1
  generalize (use S).2 = T at hcall hfiles
  generalize (there S [n]).1 = bc at hcall
  have HFI := Lib.hid hfiles
  have HF := Lib.hid (And.intro hF hlt)
  clear h0 hd1 hu hfiles hF hlt h
  go_enter Tryz.func79, Tryz.ntmps79
  go_wp2_with fail
  refine hcall.mono ?_
  rintro e w' ⟨rfl, hd, ho⟩
  have HO := Lib.hid ho; clear ho hcall
  by_cases hb : bc = 0
  · subst hb
    obtain ⟨mb', β', hd, hfoot⟩ := hd
    have c5 := Own.c5 hd.row
    have hmap := hd.map
    have HD := Lib.hid hd; clear hd
    have HFT := Lib.hid hfoot; clear hfoot
    go_wp2_with (first | (at_delete; refine wpList_delete_own _ rfl _ _ 92 9 rfl 115 keyed Tryz.underlying92 _ mb' _ _ rfl hmap _ _ rfl (key_of n hn) ?_; intro w1 hown1 hturn1) | go_in)
    go_ret
    obtain ⟨hd2, hf2, ho2⟩ := HD.out.struck n hown1 hturn1
    refine ⟨rfl, Left.of (G := foot d mb β S.files) ⟨mb', β', ?_, fun b hb => .inl (HFT.out b (hf2 b (by rw [HFI.out]; exact hb)))⟩ ?_ (fun b _ hb => HF.out.1 b hb)⟩
    · rw [← HFI.out]; exact hd2
    · exact (Only.ext ((Ext.refl w).alloc _)).andThen (HO.out.andThen (ho2.mono (fun b _ e => HFT.out b (.inr (.inl e)))))
  · have e1 : ((bc : Int) = 0) = False := eq_false (by omega)
    have e2 : (bc = 0) = False := eq_false hb
    have e0 : ((bc : Int) == 0) = false := by simpa using hb
    have HD := Lib.hid hd; clear hd
    go_wp2
    go_ret
    exact ⟨rfl, Left.of (G := foot d mb β S.files) (HD.out.mono (fun b _ hb => .inl hb)) ((Only.ext ((Ext.refl w).alloc _)).andThen HO.out) (fun b _ hb => HF.out.1 b hb)⟩

/-- Rename. -/
theorem rename_any (d : Nat) (S : DS) (F : Nat → Prop) (n m : ByteArray) (hn : n.size ≤ 140737488355328) (hm : m.size ≤ 140737488355328) (hu : S.uses < 4611686018427387904) (w : World) (h : DiskAt w d S F) :
    Calls Tryz.prog 67 #[.pointer (some ⟨d, 0, none⟩), .string n, .string m] w fun e w' => e = .returned (.int .i64 ((rename S n m).1 : Nat)) ∧ Left F d w (rename S n m).2 w' := by
  obtain ⟨mb, β, h, hF⟩ := h
  have hlt : ∀ b, foot d mb β S.files b → b < w.heap.size := fun b hb => h.foot_lt hb
  have h0 : DiskAt (w.alloc (.cells #[.string n, .string m] 9)) d S (foot d mb β S.files) := DiskAt.ext ⟨mb, β, h, fun _ hb => hb⟩ ((Ext.refl w).alloc _)
  have hcall := begin_any d S (foot d mb β S.files) (some ⟨w.heap.size, 0, none⟩) 2 [n, m] (by simp) (fun x hx => by
    simp at hx; rcases hx with rfl | rfl <;> omega) hu _ h0 (StrsAt.two w n m 9) (fun bk o e => by
    simp at e; rw [← e.1]; exact not_new hlt (Nat.le_refl _))
  rw [begin_snd] at hcall
  have hmay : (Dsk.begin S [n, m]).1 = 0 → may m = true := by
    unfold Dsk.begin
    rcases use S with ⟨b, T⟩
    cases b
    · intro e; cases e
    · simp only
      split
      · intro e; cases e
      · rename_i e
        intro _
        cases hmm : may m with
        | true => rfl
        | false => exact absurd (by simp [hmm]) e
  have hd1 : rename S n m = if (Dsk.begin S [n, m]).1 = 0 then (match get S.files n with | none => (8, (use S).2) | some f => (0, files (use S).2 (put { f with name := m } (drop n S.files)))) else ((Dsk.begin S [n, m]).1, (use S).2) := by
    unfold Dsk.rename; split
    · rfl
    · rw [← begin_snd S [n, m]]
  generalize rename S n m = p at hd1
  obtain ⟨rc, R⟩ := p
  have hfiles := (use_files S).1
  generalize (use S).2 = T at hcall hfiles hd1
  generalize (Dsk.begin S [n, m]).1 = bc at hcall hmay hd1
  have HFI := Lib.hid hfiles
  have HRC := Lib.hid hd1
  have HF := Lib.hid (And.intro hF hlt)
  have HMY := Lib.hid hmay
  clear h0 hu hfiles hF hlt h hmay hd1
  go_enter Tryz.func67, Tryz.ntmps67
  go_wp2_with fail
  refine hcall.mono ?_
  rintro e w' ⟨rfl, hd, ho⟩
  have HO := Lib.hid ho; clear ho hcall
  by_cases hb : bc = 0
  · subst hb
    obtain ⟨mb', β', hd, hfoot⟩ := hd
    have c5 := Own.c5 hd.row
    have hmap := hd.map
    have HD := Lib.hid hd; clear hd
    have HFT := Lib.hid hfoot; clear hfoot
    cases hg : get S.files n with
    | none =>
      have hg' : get T.files n = none := by rw [HFI.out]; exact hg
      obtain ⟨rfl, rfl⟩ : rc = 8 ∧ R = T := by have := HRC.out; rw [hg] at this; simpa using this
      clear hg HRC
      go_wp2_with (first | (at_lookup; refine wpList_nofile rfl _ _ rfl mb' _ _ β' n rfl hmap rfl (by unfold maxLen; omega) hg' ?_) | go_in)
      go_ret
      exact ⟨rfl, Left.of (G := foot d mb β S.files) (DiskAt.mono ⟨mb', β', HD.out, HFT.out⟩ (fun b _ hb => .inl hb)) ((Only.ext ((Ext.refl w).alloc _)).andThen HO.out) (fun b _ hb => HF.out.1 b hb)⟩
    | some f =>
      have hg' : get T.files n = some f := by rw [HFI.out]; exact hg
      obtain ⟨rfl, rfl⟩ : rc = 0 ∧ R = files T (put { f with name := m } (drop n S.files)) := by have := HRC.out; rw [hg] at this; simpa using this
      clear HRC
      have HG := Lib.hid hg'
      clear hg
      go_wp2_with (first | (at_lookup; refine wpList_file rfl _ _ rfl mb' _ _ β' n f rfl hmap rfl (by unfold maxLen; omega) hg' ?_) | (at_delete; refine wpList_delete_own _ rfl _ _ 92 9 rfl 115 keyed Tryz.underlying92 _ mb' _ _ rfl hmap _ _ rfl (key_of n hn) ?_; intro w1 hown1 hturn1; have hst := HD.out.struck n hown1 hturn1; have c5' := Own.c5 hst.1.row; have hmap2 := hst.1.map; have HST := Lib.hid hst; clear hst hown1 hturn1 c5 hmap) | (at_mapUpdate; refine wpList_mapUpdate_own _ rfl _ _ _ 92 rfl 9 115 keyed Tryz.underlying92 _ mb' _ _ rfl hmap2 (by unfold maxLen; have := HST.out.1.good.many; omega) _ _ _ rfl rfl (key_of m hm) _ [] (ptrElem_mk (β' (lst n))) ?_; intro w2 hown2 hgrow2) | go_in)
      go_ret
      obtain ⟨hd2, hf2, ho2⟩ := HST.out
      obtain ⟨hfm, hfk⟩ := get_mem HG.out
      have hfile := HD.out.file f hfm
      rw [hfk] at hfile
      have hfile2 := (ho2.block _ (lt_of_heap hfile) (by rw [← hfk]; exact HD.out.mb_file hfm)).trans hfile
      have hfine := HD.out.good.fine f hfm
      have hcount : (files T (drop n T.files)).files.length < 100 := by
        have h1 := (drop_count HD.out.good.sorted HG.out).1
        have h2 := HD.out.good.many
        show (drop n T.files).length < 100
        omega
      obtain ⟨hd3, hf3, ho3⟩ := hd2.laid { f with name := m } (β' (lst n)) ⟨HMY.out trivial, hfine.data, hfine.kept⟩ (.inr hcount) hfile2 (fun g hg _ e => by
        have hg1 := (mem_drop.1 hg).1
        have := HD.out.one g hg1 f hfm (by rw [hfk]; exact e)
        exact (mem_drop.1 hg).2 (this.trans hfk)) hown2 hgrow2
      refine ⟨rfl, Left.of (G := foot d mb β S.files) ⟨mb', upd β' (lst m) (β' (lst n)), ?_, fun b hb => .inl ?_⟩ ?_ (fun b _ hb => HF.out.1 b hb)⟩
      · rw [← HFI.out]; exact hd3
      · rcases hf3 b (by rw [HFI.out]; exact hb) with h1 | h1
        · exact HFT.out b (hf2 b h1)
        · exact HFT.out b (.inr (.inr ⟨f, hfm, by rw [hfk]; exact h1⟩))
      · exact (Only.ext ((Ext.refl w).alloc _)).andThen (HO.out.andThen ((ho2.mono (fun b _ e => HFT.out b (.inr (.inl e)))).andThen (ho3.mono (fun b _ e => HFT.out b (.inr (.inl e))))))
  · have e1 : ((bc : Int) = 0) = False := eq_false (by omega)
    have e2 : (bc = 0) = False := eq_false hb
    have e0 : ((bc : Int) == 0) = false := by simpa using hb
    obtain ⟨rfl, rfl⟩ : rc = bc ∧ R = T := by have := HRC.out; rw [if_neg hb] at this; simpa using this
    have HD := Lib.hid hd; clear hd
    go_wp2
    go_ret
    exact ⟨rfl, Left.of (G := foot d mb β S.files) (HD.out.mono (fun b _ hb => .inl hb)) ((Only.ext ((Ext.refl w).alloc _)).andThen HO.out) (fun b _ hb => HF.out.1 b hb)⟩

theorem foot_upd {d mb : Nat} {β : List UInt8 → Nat} {l : List FD} {x : Nat} {G : Nat → Prop} {n b : Nat} (h : foot d mb β l x ∨ x = b) (hG : ∀ y, foot d mb β l y → G y) (hb : n ≤ b) : G x ∨ n ≤ x := by
  rcases h with h | rfl
  · exact .inl (hG x h)
  · exact .inr hb
/-- Put. -/
theorem put_any (d : Nat) (S : DS) (F : Nat → Prop) (n x : ByteArray) (hn : n.size ≤ 140737488355328) (hx : x.size ≤ 140737488355328) (w : World) (h : DiskAt w d S F) :
    Calls Tryz.prog 23 #[.pointer (some ⟨d, 0, none⟩), .string n, .string x] w fun e w' => e = .returned (.int .i64 ((lay S n x).1 : Nat)) ∧ Left F d w (lay S n x).2 w' := by
  have hp : lay S n x = (if may n then (if fits S n x.size (((get S.files n).map (fun f => f.data.size)).getD 0) = 0 then (0, files S (put ⟨n, x, x.size⟩ S.files)) else (fits S n x.size (((get S.files n).map (fun f => f.data.size)).getD 0), S)) else (1, S)) := rfl
  generalize lay S n x = p at hp
  obtain ⟨rc, R⟩ := p
  obtain ⟨mb, β, h, hF⟩ := h
  have hcm := may_any n (by omega) w
  have HRC := Lib.hid hp; clear hp
  have HF := Lib.hid hF; clear hF
  have c5 := Own.c5 h.row
  have hmap := h.map
  have HD := Lib.hid h; clear h
  go_enter Tryz.func23, Tryz.ntmps23
  cases hm : may n with
  | false =>
    obtain ⟨rfl, rfl⟩ : rc = 1 ∧ R = S := by have := HRC.out; rw [hm] at this; simpa using this
    rw [hm] at hcm
    clear HRC hm
    go_wp2_with (first | (go_at_call 84; refine hcm.mono ?_; rintro e w' ⟨rfl, rfl⟩) | go_in)
    go_ret
    exact ⟨rfl, ⟨mb, β, HD.out, fun b hb => .inl (HF.out b hb)⟩, Only.refl _ _⟩
  | true =>
    have hrc := HRC.out
    rw [hm] at hrc hcm
    simp only [if_true] at hrc
    have HM := Lib.hid hm; clear hm HRC
    cases hg : get S.files n with
    | none =>
      rw [hg] at hrc
      simp only [Option.map_none, Option.getD_none] at hrc
      have hcf := fits_any d S F n hn x.size 0 (by omega) (by omega) w ⟨mb, β, HD.out, HF.out⟩
      have hfits : fits S n x.size 0 = 0 → x.size ≤ 1048576 ∧ S.files.length < 100 := by
        unfold Dsk.fits
        split
        · intro e; cases e
        · rename_i e
          intro _
          simp [hg] at e
          omega
      generalize fits S n x.size 0 = fc at hrc hcf hfits
      have HRC := Lib.hid hrc; clear hrc
      have HFT := Lib.hid hfits; clear hfits
      by_cases hb : fc = 0
      · subst hb
        obtain ⟨rfl, rfl⟩ : rc = 0 ∧ R = files S (put ⟨n, x, x.size⟩ S.files) := by simpa using HRC.out
        have HG := Lib.hid hg
        clear HRC
        go_wp2_with (first | (go_at_call 84; refine hcm.mono ?_; rintro e w' ⟨rfl, rfl⟩) | (at_lookup; refine wpList_nofile rfl _ _ rfl mb _ _ β n rfl hmap rfl (by unfold maxLen; omega) hg ?_) | (go_at_call 85; refine hcf.mono ?_; rintro e v ⟨rfl, hx1⟩; have c5' := hx1.cell c5; have hd' := HD.out.ext hx1; have hmap' := hd'.map; have HD' := Lib.hid hd'; clear hd'; have HX1 := Lib.hid hx1; clear hx1 c5 hmap hg hcf) | (at_mapUpdate; refine wpList_mapUpdate_own _ rfl _ _ _ 92 rfl 9 115 keyed Tryz.underlying92 _ mb _ _ rfl (hmap'.alloc _) (by unfold maxLen; have := HD'.out.good.many; omega) _ _ _ rfl rfl (key_of n hn) _ [] (ptrElem_mk v.heap.size) ?_; intro w2 hown2 hgrow2) | go_in)
        go_ret
        obtain ⟨hd3, hf3, ho3⟩ := (HD'.out.ext ((Ext.refl v).alloc (.cells (fcells ⟨n, x, x.size⟩) 120))).laid ⟨n, x, x.size⟩ v.heap.size ⟨HM.out, (HFT.out trivial).1, Nat.le_refl _⟩ (.inr (HFT.out trivial).2) (heap_alloc_new v _) (fun g hg _ e => by
          have := lt_of_heap (HD'.out.file g hg)
          omega) hown2 hgrow2
        have hsz := HX1.out.size
        refine ⟨rfl, ⟨mb, upd β (lst n) v.heap.size, hd3, fun b hb => foot_upd (hf3 b hb) HF.out hsz⟩, (Only.ext HX1.out).andThen ((Only.ext ((Ext.refl v).alloc _)).andThen (ho3.mono (fun b _ e => HF.out b (.inr (.inl e)))))⟩
      · have e1 : ((fc : Int) = 0) = False := eq_false (by omega)
        have e2 : (fc = 0) = False := eq_false hb
        have e0 : ((fc : Int) == 0) = false := by simpa using hb
        obtain ⟨rfl, rfl⟩ : rc = fc ∧ R = S := by have := HRC.out; rw [if_neg hb] at this; simpa using this
        clear HRC
        go_wp2_with (first | (go_at_call 84; refine hcm.mono ?_; rintro e w' ⟨rfl, rfl⟩) | (at_lookup; refine wpList_nofile rfl _ _ rfl mb _ _ β n rfl hmap rfl (by unfold maxLen; omega) hg ?_) | (go_at_call 85; refine hcf.mono ?_; rintro e v ⟨rfl, hx1⟩) | go_in)
        go_ret
        exact ⟨rfl, ⟨mb, β, HD.out.ext hx1, fun b hb => .inl (HF.out b hb)⟩, Only.ext hx1⟩
    | some f =>
      rw [hg] at hrc
      simp only [Option.map_some, Option.getD_some] at hrc
      have hfile := HD.out.file f (get_mem hg).1
      have hfs := (HD.out.good.fine f (get_mem hg).1).data
      rw [(get_mem hg).2] at hfile
      have c0f : w.cell? ⟨β (lst n), 0, none⟩ = some (.string f.data) := Go.Joins.cell_of_block hfile 0
      clear hfile
      have hcf := fits_any d S F n hn x.size f.data.size (by omega) hfs w ⟨mb, β, HD.out, HF.out⟩
      have hfits : fits S n x.size f.data.size = 0 → x.size ≤ 1048576 := by
        unfold Dsk.fits
        split
        · intro e; cases e
        · rename_i e
          intro _
          simp [hg] at e
          omega
      generalize fits S n x.size f.data.size = fc at hrc hcf hfits
      have HRC := Lib.hid hrc; clear hrc
      have HFT := Lib.hid hfits; clear hfits
      by_cases hb : fc = 0
      · subst hb
        obtain ⟨rfl, rfl⟩ : rc = 0 ∧ R = files S (put ⟨n, x, x.size⟩ S.files) := by simpa using HRC.out
        have HG := Lib.hid hg
        clear HRC
        go_wp2_with (first | (go_at_call 84; refine hcm.mono ?_; rintro e w' ⟨rfl, rfl⟩) | (at_lookup; refine wpList_file rfl _ _ rfl mb _ _ β n f rfl hmap rfl (by unfold maxLen; omega) hg ?_) | (go_at_call 85; refine hcf.mono ?_; rintro e v ⟨rfl, hx1⟩; have c5' := hx1.cell c5; have hd' := HD.out.ext hx1; have hmap' := hd'.map; have HD' := Lib.hid hd'; clear hd'; have HX1 := Lib.hid hx1; clear hx1 c5 hmap hg hcf c0f) | (at_mapUpdate; refine wpList_mapUpdate_own _ rfl _ _ _ 92 rfl 9 115 keyed Tryz.underlying92 _ mb _ _ rfl (hmap'.alloc _) (by unfold maxLen; have := HD'.out.good.many; omega) _ _ _ rfl rfl (key_of n hn) _ [] (ptrElem_mk v.heap.size) ?_; intro w2 hown2 hgrow2) | go_in)
        go_ret
        obtain ⟨hd3, hf3, ho3⟩ := (HD'.out.ext ((Ext.refl v).alloc (.cells (fcells ⟨n, x, x.size⟩) 120))).laid ⟨n, x, x.size⟩ v.heap.size ⟨HM.out, (HFT.out trivial), Nat.le_refl _⟩ (.inl (by show (get S.files n).isSome = true; rw [HG.out]; rfl)) (heap_alloc_new v _) (fun g hg _ e => by
          have := lt_of_heap (HD'.out.file g hg)
          omega) hown2 hgrow2
        have hsz := HX1.out.size
        refine ⟨rfl, ⟨mb, upd β (lst n) v.heap.size, hd3, fun b hb => foot_upd (hf3 b hb) HF.out hsz⟩, (Only.ext HX1.out).andThen ((Only.ext ((Ext.refl v).alloc _)).andThen (ho3.mono (fun b _ e => HF.out b (.inr (.inl e)))))⟩
      · have e1 : ((fc : Int) = 0) = False := eq_false (by omega)
        have e2 : (fc = 0) = False := eq_false hb
        have e0 : ((fc : Int) == 0) = false := by simpa using hb
        obtain ⟨rfl, rfl⟩ : rc = fc ∧ R = S := by have := HRC.out; rw [if_neg hb] at this; simpa using this
        clear HRC
        go_wp2_with (first | (go_at_call 84; refine hcm.mono ?_; rintro e w' ⟨rfl, rfl⟩) | (at_lookup; refine wpList_file rfl _ _ rfl mb _ _ β n f rfl hmap rfl (by unfold maxLen; omega) hg ?_) | (go_at_call 85; refine hcf.mono ?_; rintro e v ⟨rfl, hx1⟩) | go_in)
        go_ret
        exact ⟨rfl, ⟨mb, β, HD.out.ext hx1, fun b hb => .inl (HF.out b hb)⟩, Only.ext hx1⟩

theorem keepOne_take {xs : List ByteArray} {k : Nat} (hk : k < xs.length) (f : FD) : keepOne (xs.take (k + 1)) f = if f.key = lst xs[k] then { f with kept := f.data.size } else keepOne (xs.take k) f := by
  unfold keepOne
  rw [List.take_succ_eq_append_getElem hk, List.any_append]
  by_cases e : f.key = lst xs[k]
  · simp [e]
  · simp [e]
theorem keepOne_key (xs : List ByteArray) (f : FD) : (keepOne xs f).key = f.key ∧ (keepOne xs f).data = f.data ∧ (keepOne xs f).name = f.name := by unfold keepOne; split <;> exact ⟨rfl, rfl, rfl⟩
theorem get_map {l : List FD} (hs : Sorted l) (φ : FD → FD) (hk : ∀ x ∈ l, (φ x).key = x.key) {n : ByteArray} {f : FD} (h : get l n = some f) : get (l.map φ) n = some (φ f) :=
  (sorted_map hs φ hk).get (List.mem_map.2 ⟨f, (get_mem h).1, rfl⟩) ((hk f (get_mem h).1).trans (get_mem h).2)
theorem there_zero {S : DS} {xs : List ByteArray} (h : (there S xs).1 = 0) : ∀ j (hj : j < xs.length), ∃ f, get S.files xs[j] = some f := by
  unfold Dsk.there at h
  split at h
  · split at h
    · cases h
    · rename_i e
      intro j hj
      cases hg : get S.files xs[j] with
      | none => exact absurd (any_none_hit hj hg) (by simpa using e)
      | some f => exact ⟨f, rfl⟩
  · rename_i e; exact absurd h e

def syncF (n : ByteArray) (f : FD) : FD := if f.key = lst n then { f with kept := f.data.size } else f
/-- Sync. -/
theorem sync_any (d : Nat) (S : DS) (F : Nat → Prop) (a : Option Addr) (c : Nat) (xs : List ByteArray) (hN : xs.length ≤ 140737488355328) (hM : ∀ x ∈ xs, x.size ≤ 140737488355328) (hu : S.uses < 4611686018427387904)
    (w : World) (h : DiskAt w d S F) (hs : StrsAt w a xs) (hNF : ∀ bk o, a = some ⟨bk, o, none⟩ → ¬ F bk) :
    Calls Tryz.prog 20 #[.pointer (some ⟨d, 0, none⟩), .slice a xs.length c] w fun e w' => e = .returned (.int .i64 ((sync S xs).1 : Nat)) ∧ DiskAt w' d (sync S xs).2 F ∧ Only F w w' := by
  have hcall := there_any d S F a c xs hN hM hu w h hs hNF
  rw [there_snd] at hcall
  have hz : (there S xs).1 = 0 → ∀ j (hj : j < xs.length), ∃ f, get S.files xs[j] = some f := there_zero
  have hd1 : sync S xs = if (there S xs).1 = 0 then (0, files (use S).2 (S.files.map (keepOne xs))) else ((there S xs).1, (use S).2) := by
    unfold Dsk.sync; split
    · rfl
    · rw [← there_snd S xs]
  generalize sync S xs = p at hd1
  obtain ⟨rc, R⟩ := p
  have hfiles := (use_files S).1
  generalize (use S).2 = T at hcall hfiles hd1
  generalize (there S xs).1 = bc at hcall hd1 hz
  have HFI := Lib.hid hfiles
  have HRC := Lib.hid hd1
  have HM := Lib.hid hM
  have HS := Lib.hid hs
  have HNF := Lib.hid hNF
  have HZ := Lib.hid hz
  clear h hu hfiles hd1 hM hs hNF hz
  go_enter Tryz.func20, Tryz.ntmps20
  go_wp2_with fail
  refine hcall.mono ?_
  rintro e w' ⟨rfl, hd, ho⟩
  have HO := Lib.hid ho; clear ho hcall
  by_cases hb : bc = 0
  · subst hb
    obtain ⟨rfl, rfl⟩ : rc = 0 ∧ R = files T (S.files.map (keepOne xs)) := by simpa using HRC.out
    have HZ' := Lib.hid (HZ.out rfl)
    clear HRC HZ
    obtain ⟨mb, β, hd, hfoot⟩ := hd
    have c5 := Own.c5 hd.row
    have HD := Lib.hid hd; clear hd
    have HFT := Lib.hid hfoot; clear hfoot
    have HS' := Lib.hid (StrsAt.only HS.out HO.out HNF.out); clear HS
    have hkk : ∀ (n : Nat) (x : FD), (keepOne (xs.take n) x).key = x.key := fun n x => (keepOne_key _ x).1
    have HKK := Lib.hid hkk; clear hkk
    go_wp2
    go_loopg [7, 8, 17] (xs.length) (fun k r r2 i wr => ∃ (n : Nat), i = .int .i64 n ∧ n ≤ xs.length ∧ k = xs.length - n ∧ Hid (DiskIn wr d mb β (files T (T.files.map (keepOne (xs.take n))))) ∧ Hid (Only F w' wr))
    case atStart =>
      refine ⟨0, rfl, Nat.zero_le _, rfl, ?_, Only.refl _ _⟩
      have e : T.files.map (keepOne (xs.take 0)) = T.files := by
        rw [List.take_zero]
        have : keepOne [] = id := by funext f; simp [keepOne]
        rw [this, List.map_id]
      rw [e]
      exact HD.out
    case round =>
      obtain ⟨n, rfl, hn, rfl, HDn, HOn⟩ := hrel
      by_cases hlt : n < xs.length
      · obtain ⟨bk, o, rfl, _, hcell⟩ := (StrsAt.only HS'.out HOn.out HNF.out) n _ (List.getElem?_eq_getElem hlt)
        have hsz := HM.out _ (List.getElem_mem hlt)
        obtain ⟨f, hg⟩ := HZ'.out n hlt
        rw [← HFI.out] at hg
        have hgn := get_map HD.out.good.sorted (keepOne (xs.take n)) (fun x _ => HKK.out n x) hg
        generalize hxx : xs[n] = x at hcell hsz hg hgn
        have HXX := Lib.hid hxx; clear hxx
        have c5' := Own.c5 HDn.out.row
        have hmap := HDn.out.map
        obtain ⟨hfm, hfk⟩ := get_mem hgn
        have hfile := HDn.out.file _ hfm
        rw [hfk] at hfile
        have c0f : wr.cell? ⟨β (lst x), 0, none⟩ = some (.string f.data) := by
          have := Go.Joins.cell_of_block hfile 0
          simpa [fcells, (keepOne_key (xs.take n) f).2.1] using this
        have c1f := Go.Joins.cell_of_block hfile 1
        have f1f := frozen_row hfile 1
        have HFILE := Lib.hid hfile; clear hfile
        have HFM := Lib.hid hfm; clear hfm
        have HFK := Lib.hid hfk; clear hfk
        have HG := Lib.hid hg; clear hg
        have hfs : f.data.size ≤ 1048576 := (HD.out.good.fine f (get_mem HG.out).1).data
        go_wp2_with (first | (at_lookup; refine wpList_file rfl _ _ rfl mb _ _ β x _ rfl hmap rfl (by unfold maxLen; omega) hgn ?_) | go_in)
        go_roundg (xs.length - (n + 1))
        case measure => omega
        case rel =>
          have hrow := Go.Joins.block_setCell (i := 1) HFILE.out (.int .i64 (f.data.size : Nat))
          have hφk : ∀ y : FD, (syncF x y).key = y.key := fun y => by unfold syncF; split <;> rfl
          have hdata := (keepOne_key (xs.take n) f).2.1
          have hstep := HDn.out.each (w' := wr.setCell ⟨β (lst x), 1, none⟩ (.int .i64 (f.data.size : Nat))) (syncF x) HFM.out (fun y _ => hφk y) (fun y _ e => by unfold syncF; rw [if_neg]; rw [← HFK.out]; exact e) (by
            have hfi := HD.out.good.fine f (get_mem HG.out).1
            have e1 : syncF x (keepOne (xs.take n) f) = { keepOne (xs.take n) f with kept := (keepOne (xs.take n) f).data.size } := by unfold syncF; rw [if_pos HFK.out]
            rw [e1]
            exact ⟨by show may (keepOne (xs.take n) f).name = true; rw [(keepOne_key (xs.take n) f).2.2]; exact hfi.name, by show (keepOne (xs.take n) f).data.size ≤ _; rw [hdata]; exact hfi.data, Nat.le_refl _⟩) (by
            have e1 : syncF x (keepOne (xs.take n) f) = { keepOne (xs.take n) f with kept := (keepOne (xs.take n) f).data.size } := by unfold syncF; rw [if_pos HFK.out]
            rw [e1, HFK.out, hrow]
            simp [fcells, hdata]) (by rw [HFK.out]; exact (Only.refl _ wr).at _ _)
          refine ⟨n + 1, by go_num, by omega, rfl, ?_, HOn.out.andThen (((Only.refl _ wr).at (d := β (lst x)) _ _).mono (fun b _ e => HFT.out b (.inr (.inr ⟨f, (get_mem HG.out).1, by rw [(get_mem HG.out).2]; exact e⟩))))⟩
          have e2 : T.files.map (keepOne (xs.take (n + 1))) = (T.files.map (keepOne (xs.take n))).map (syncF x) := by
            rw [List.map_map]
            refine List.map_congr_left (fun y _ => ?_)
            rw [keepOne_take hlt, HXX.out]
            show _ = syncF x (keepOne (xs.take n) y)
            unfold syncF
            rw [(keepOne_key (xs.take n) y).1, (keepOne_key (xs.take n) y).2.1]
            split
            · unfold keepOne; split <;> rfl
            · rfl
          rw [e2]
          exact hstep
      · obtain rfl : n = xs.length := by omega
        go_wp2
        go_ret
        refine ⟨rfl, ⟨mb, β, ?_, ?_⟩, HO.out.andThen HOn.out⟩
        · have := HDn.out
          rw [List.take_length, HFI.out] at this
          exact this
        · intro b hb
          exact HFT.out b (foot_map (φ := keepOne xs) (fun x _ => (keepOne_key _ x).1) (by rw [HFI.out]; exact hb))
  · have e1 : ((bc : Int) = 0) = False := eq_false (by omega)
    have e2 : (bc = 0) = False := eq_false hb
    have e0 : ((bc : Int) == 0) = false := by simpa using hb
    obtain ⟨rfl, rfl⟩ : rc = bc ∧ R = T := by have := HRC.out; rw [if_neg hb] at this; simpa using this
    have HD := Lib.hid hd; clear hd
    go_wp2
    go_ret
    exact ⟨rfl, HD.out, HO.out⟩
end Go.Proofs.YtmdkjcigmhgpeaaGreatDoor
