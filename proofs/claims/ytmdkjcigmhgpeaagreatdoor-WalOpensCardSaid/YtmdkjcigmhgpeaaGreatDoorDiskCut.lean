/- The walks of Cut and Append. -/
import Derived.Test.YtmdkjcigmhgpeaaGreatDoorDiskWrite
namespace Go.Proofs.YtmdkjcigmhgpeaaGreatDoor
open Go.RowKit Go.Maps Dsk

/-- A string's first bytes. -/
def takeB (s : ByteArray) (k : Nat) : ByteArray := ⟨((lst s).take k).toArray⟩
theorem takeB_size (s : ByteArray) (k : Nat) (h : k ≤ s.size) : (takeB s k).size = k := by
  show ((lst s).take k).toArray.size = k
  have := lst_length s
  simp; omega
theorem extract_take (s : ByteArray) (j : Nat) : s.extract 0 j = ⟨((lst s).take j).toArray⟩ := by
  refine lst_inj ?_
  unfold lst
  rw [ByteArray.data_extract, Array.toList_extract]
  simp [List.extract]
/-- Cut. -/
theorem cut_any (d : Nat) (S : DS) (F : Nat → Prop) (n : ByteArray) (k : Int) (hn : n.size ≤ 140737488355328) (hu : S.uses < 4611686018427387904) (w : World) (h : DiskAt w d S F) :
    Calls Tryz.prog 133 #[.pointer (some ⟨d, 0, none⟩), .string n, .int .i64 k] w fun e w' => e = .returned (.int .i64 ((cut S n k).1 : Nat)) ∧ Left F d w (cut S n k).2 w' := by
  obtain ⟨mb, β, h, hF⟩ := h
  have hlt : ∀ b, foot d mb β S.files b → b < w.heap.size := fun b hb => h.foot_lt hb
  have h0 : DiskAt (w.alloc (.cells #[.string n] 9)) d S (foot d mb β S.files) := DiskAt.ext ⟨mb, β, h, fun _ hb => hb⟩ ((Ext.refl w).alloc _)
  have hcall := there_any d S (foot d mb β S.files) (some ⟨w.heap.size, 0, none⟩) 1 [n] (by simp) (fun x hx => by simp at hx; subst hx; exact hn) hu _ h0 (StrsAt.one w n 9) (fun bk o e => by
    simp at e; rw [← e.1]; exact not_new hlt (Nat.le_refl _))
  rw [there_snd] at hcall
  have hz : (there S [n]).1 = 0 → ∃ f, get S.files n = some f := fun e => there_zero e 0 (by simp)
  have hd1 : cut S n k = if (there S [n]).1 = 0 then (match get S.files n with | none => (8, (use S).2) | some f => if k < 0 ∨ (f.data.size : Int) < k then (1, (use S).2) else (0, files (use S).2 (put (cutF k.toNat f) S.files))) else ((there S [n]).1, (use S).2) := by
    unfold Dsk.cut; split
    · rfl
    · rw [← there_snd S [n]]
  generalize cut S n k = p at hd1
  obtain ⟨rc, R⟩ := p
  have hfiles := (use_files S).1
  generalize (use S).2 = T at hcall hfiles hd1
  generalize (there S [n]).1 = bc at hcall hd1 hz
  have HFI := Lib.hid hfiles
  have HRC := Lib.hid hd1
  have HZ := Lib.hid hz
  have HF := Lib.hid (And.intro hF hlt)
  clear h0 hd1 hu hfiles hF hlt h hz
  go_enter Tryz.func133, Tryz.ntmps133
  go_wp2_with fail
  refine hcall.mono ?_
  rintro e w' ⟨rfl, hd, ho⟩
  have HO := Lib.hid ho; clear ho hcall
  by_cases hb : bc = 0
  · subst hb
    obtain ⟨f, hg⟩ := HZ.out rfl
    have hrc := HRC.out
    rw [hg] at hrc
    simp only [if_true] at hrc
    have HRC' := Lib.hid hrc; clear hrc HRC HZ
    rw [← HFI.out] at hg
    obtain ⟨mb', β', hd, hfoot⟩ := hd
    have c5 := Own.c5 hd.row
    have hmap := hd.map
    obtain ⟨hfm, hfk⟩ := get_mem hg
    have hfile := hd.file _ hfm
    rw [hfk] at hfile
    have c0f : w'.cell? ⟨β' (lst n), 0, none⟩ = some (.string f.data) := Go.Joins.cell_of_block hfile 0
    have c1f : w'.cell? ⟨β' (lst n), 1, none⟩ = some (.int .i64 (f.kept : Nat)) := Go.Joins.cell_of_block hfile 1
    have f0f := frozen_row hfile 0
    have f1f := frozen_row hfile 1
    have hfine := hd.good.fine f hfm
    have hfs := hfine.data
    have hfkp := hfine.kept
    have HFINE := Lib.hid hfine; clear hfine
    have HFILE := Lib.hid hfile; clear hfile
    have HFM := Lib.hid hfm; clear hfm
    have HFK := Lib.hid hfk; clear hfk
    have HD := Lib.hid hd; clear hd
    have HFT := Lib.hid hfoot; clear hfoot
    by_cases h1 : k < 0
    · obtain ⟨rfl, rfl⟩ : rc = 1 ∧ R = T := by have := HRC'.out; rw [if_pos (.inl h1)] at this; simpa using this
      clear HRC'
      go_wp2_with (first | (at_lookup; refine wpList_file rfl _ _ rfl mb' _ _ β' n f rfl hmap rfl (by unfold maxLen; omega) hg ?_) | go_in)
      go_ret
      exact ⟨rfl, Left.of (G := foot d mb β S.files) (DiskAt.mono ⟨mb', β', HD.out, HFT.out⟩ (fun b _ hb => .inl hb)) ((Only.ext ((Ext.refl w).alloc _)).andThen HO.out) (fun b _ hb => HF.out.1 b hb)⟩
    · by_cases h2 : (f.data.size : Int) < k
      · obtain ⟨rfl, rfl⟩ : rc = 1 ∧ R = T := by have := HRC'.out; rw [if_pos (.inr h2)] at this; simpa using this
        clear HRC'
        go_wp2_with (first | (at_lookup; refine wpList_file rfl _ _ rfl mb' _ _ β' n f rfl hmap rfl (by unfold maxLen; omega) hg ?_) | go_in)
        go_ret
        exact ⟨rfl, Left.of (G := foot d mb β S.files) (DiskAt.mono ⟨mb', β', HD.out, HFT.out⟩ (fun b _ hb => .inl hb)) ((Only.ext ((Ext.refl w).alloc _)).andThen HO.out) (fun b _ hb => HF.out.1 b hb)⟩
      · obtain ⟨rfl, rfl⟩ : rc = 0 ∧ R = files T (put (cutF k.toNat f) S.files) := by have := HRC'.out; rw [if_neg (by omega)] at this; simpa using this
        clear HRC'
        obtain ⟨j, rfl⟩ : ∃ j : Nat, k = (j : Int) := ⟨k.toNat, by omega⟩
        go_wp2_with (first | (at_lookup; refine wpList_file rfl _ _ rfl mb' _ _ β' n f rfl hmap rfl (by unfold maxLen; omega) hg ?_) | go_in)
        go_region
        go_wp2
        go_ret
        have hrow := Go.Joins.block_setCell (i := 1) (Go.Joins.block_setCell (i := 0) HFILE.out (.string (f.data.extract 0 j))) (.int .i64 (min (f.kept : Int) (j : Int)))
        have hjs : j ≤ f.data.size := by omega
        have ho2 : Only (fun b => b = β' (lst n)) w' (((w'.setCell ⟨β' (lst n), 0, none⟩ (.string (f.data.extract 0 j))).setCell ⟨β' (lst n), 1, none⟩ (.int .i64 (min (f.kept : Int) (j : Int)))).drew) := (((Only.refl _ w').at _ _).at _ _).andThen (Only.ext ((Ext.refl _).drew))
        obtain ⟨hd3, hf3⟩ := HD.out.inPlace (w' := ((w'.setCell ⟨β' (lst n), 0, none⟩ (.string (f.data.extract 0 j))).setCell ⟨β' (lst n), 1, none⟩ (.int .i64 (min (f.kept : Int) (j : Int)))).drew) HFM.out (g := cutF j f) rfl (by
          refine ⟨HFINE.out.name, ?_, ?_⟩
          · show (takeB f.data j).size ≤ _
            rw [takeB_size f.data j hjs]; omega
          · show min f.kept j ≤ (takeB f.data j).size
            rw [takeB_size f.data j hjs]; omega) (by
          have e : fcells (cutF j f) = #[.string (f.data.extract 0 j), .int .i64 (min (f.kept : Int) (j : Int))] := by
            unfold fcells cutF
            rw [extract_take, show ((min f.kept j : Nat) : Int) = min (f.kept : Int) (j : Int) by omega]
          rw [HFK.out, e]
          have h := hrow
          simp only [fcells, List.setIfInBounds_toArray, List.set_cons_zero, List.set_cons_succ] at h
          exact h) (by rw [HFK.out]; exact ho2)
        refine ⟨rfl, Left.of (G := foot d mb β S.files) ⟨mb', β', ?_, fun b hb => .inl (HFT.out b (hf3 b (by rw [HFI.out]; exact hb)))⟩ ?_ (fun b _ hb => HF.out.1 b hb)⟩
        · rw [← HFI.out]; exact hd3
        · exact (Only.ext ((Ext.refl w).alloc _)).andThen (HO.out.andThen (ho2.mono (fun b _ e => HFT.out b (.inr (.inr ⟨f, HFM.out, by rw [HFK.out]; exact e⟩)))))
  · have e1 : ((bc : Int) = 0) = False := eq_false (by omega)
    have e2 : (bc = 0) = False := eq_false hb
    have e0 : ((bc : Int) == 0) = false := by simpa using hb
    obtain ⟨rfl, rfl⟩ : rc = bc ∧ R = T := by have := HRC.out; rw [if_neg hb] at this; simpa using this
    have HD := Lib.hid hd; clear hd
    go_wp2
    go_ret
    exact ⟨rfl, Left.of (G := foot d mb β S.files) (HD.out.mono (fun b _ hb => .inl hb)) ((Only.ext ((Ext.refl w).alloc _)).andThen HO.out) (fun b _ hb => HF.out.1 b hb)⟩
end Go.Proofs.YtmdkjcigmhgpeaaGreatDoor
