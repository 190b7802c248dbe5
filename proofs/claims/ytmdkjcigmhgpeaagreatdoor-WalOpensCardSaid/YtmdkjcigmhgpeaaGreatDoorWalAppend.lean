/- The walk of wal's Append. -/
import Derived.Test.YtmdkjcigmhgpeaaGreatDoorWalOps
namespace Go.Proofs.YtmdkjcigmhgpeaaGreatDoor
open Go.RowKit Snp SealMath Dsk Wal

/-- What Append answers and leaves. -/
def ADone (F : Nat → Prop) (b d : Nat) (name : ByteArray) (w : World) (R : (Nat × Nat) × LG × DS) (e : Ending) (w' : World) : Prop :=
  e = .returned (.tuple #[.int .i64 (R.1.1 : Nat), .int .i64 (R.1.2 : Nat)]) ∧ LogAt w' b d name R.2.1 ∧ DiskAt w' d R.2.2 (More F w) ∧ Only (fun x => F x ∨ x = b) w w'
theorem names_all_len (S : DS) : (namesOf S []).length = S.files.length := by
  unfold namesOf names
  rw [List.filter_eq_self.2 (by intro a _; rfl), List.length_map]
/-- A record's frame. -/
theorem frame2_any (n : Nat) (r x : ByteArray) (hr : lst r = be8 n) (u : World) (bk c : Nat) (hs : StrsAt u (some ⟨bk, 0, none⟩) [r, x]) (hc : 2 ≤ c) (hn : Nibs u) (hx : x.size ≤ 65528) :
    Calls Tryz.prog 91 #[.slice (some ⟨bk, 0, none⟩) 2 c] u fun e w' => e = .returned (.tuple #[.string (bts (recB n (lst x))), .bool true]) ∧ Ext u w' := by
  have h8 : r.size = 8 := by rw [← lst_length, hr, be8_length]
  have hcat : cat [r, x] = be8 n ++ lst x := by
    show lst r ++ (lst x ++ []) = _
    rw [List.append_nil, hr]
  refine (frame_any (some ⟨bk, 0, none⟩) c [r, x] (by simp) hc u hs hn (by rw [hcat, List.length_append, be8_length, lst_length]; omega)).mono ?_
  rintro e w' ⟨f, rfl, hf, hx⟩
  refine ⟨?_, hx⟩
  have : f = bts (recB n (lst x)) := lst_inj (by rw [hf, hcat]; rfl)
  rw [this]
theorem frame2_long (n : Nat) (r x : ByteArray) (hr : lst r = be8 n) (u : World) (bk c : Nat) (hs : StrsAt u (some ⟨bk, 0, none⟩) [r, x]) (hx : 65528 < x.size) (hx2 : x.size ≤ 70000) :
    Calls Tryz.prog 91 #[.slice (some ⟨bk, 0, none⟩) 2 c] u fun e w' => e = .returned (.tuple #[.string ⟨#[]⟩, .bool false]) ∧ Ext u w' := by
  have h8 : r.size = 8 := by rw [← lst_length, hr, be8_length]
  have hcat : cat [r, x] = be8 n ++ lst x := by
    show lst r ++ (lst x ++ []) = _
    rw [List.append_nil, hr]
  refine (frame_long (some ⟨bk, 0, none⟩) c [r, x] (by simp) (by intro y hy; simp at hy; rcases hy with rfl | rfl <;> omega) u hs (by rw [hcat, List.length_append, be8_length, lst_length]; omega)).mono ?_
  rintro e w' ⟨rfl, rfl⟩
  exact ⟨rfl, Ext.refl _⟩
set_option maxRecDepth 20000 in
set_option maxHeartbeats 8000000 in
theorem lappend_any (b d : Nat) (name : ByteArray) (hname : name.size ≤ 6) (L : LG) (S : DS) (F : Nat → Prop) (x : ByteArray) (hx9 : x.size ≤ 70000) (hu : S.uses + 10 < 4611686018427387904) (hfs : L.file.size ≤ 140737488355328) (hls : L.size ≤ 1000000000) (w : World) (h : DiskAt w d S F) (hl : LogAt w b d name L) (hFb : ¬ F b) (hnb : Nibs w) :
    Calls Tryz.prog 35 #[.pointer (some ⟨b, 0, none⟩), .string x] w (ADone F b d name w (appendW name S L (lst x))) := by
  have hcall := lerr_any b d name L w hl
  by_cases he : L.err = 0
  · have c2 := hl.c2
    rw [he] at hcall
    go_enter Tryz.func35, Tryz.ntmps35
    go_wp2_with fail
    refine hcall.mono ?_
    clear hcall
    rintro e w1 ⟨rfl, rfl⟩
    go_wp2_with fail
    refine (number8_any L.next w).mono ?_
    rintro e w2 ⟨r, rfl, hr, hx2⟩
    have hst2 : ∀ (t : TypeId), StrsAt (w2.alloc (.cells #[.string r, .string x] t)) (some ⟨w2.heap.size, 0, none⟩) [r, x] := fun t => StrsAt.two w2 r x t
    have HN2 := Lib.hid (hnb.ext hx2)
    have HL2 : Hid (LogAt w2 b d name L) := hl.ext hx2
    have HD2 : Hid (DiskAt w2 d S F) := h.ext hx2
    have HX2 := Lib.hid hx2
    have HFB := Lib.hid hFb
    have HBW : Hid (b < w.heap.size) := lt_of_heap hl
    clear hl h hFb hnb
    by_cases h65 : 65000 < x.size
    · have h65i : (65000 : Int) < (x.size : Int) := by omega
      have HR : Hid (appendW name S L (lst x) = ((0, 5), L, S)) := by
        show _ = _
        unfold appendW
        rw [if_neg (fun k => k he), if_pos (.inl (by rw [lst_length]; exact h65))]
      by_cases h28 : 65528 < x.size
      · go_wp2_with fail
        refine (frame2_long L.next r x hr _ w2.heap.size 2 (hst2 _) h28 hx9).mono ?_
        rintro e w3 ⟨rfl, hx3⟩
        have HX3 := Lib.hid (((Ext.refl w2).alloc (.cells #[.string r, .string x] 9)).trans hx3)
        clear hx3
        go_wp2_with fail
        go_ret2
        rw [HR.out]
        exact ⟨rfl, HL2.out.ext HX3.out, (HD2.out.ext HX3.out).mono (fun x _ hx => .inl hx), Only.ext (HX2.out.trans HX3.out)⟩
      · go_wp2_with fail
        refine (frame2_any L.next r x hr _ w2.heap.size 2 (hst2 _) (Nat.le_refl _) (HN2.out.ext ((Ext.refl w2).alloc _)) (by omega)).mono ?_
        rintro e w3 ⟨rfl, hx3⟩
        have HX3 := Lib.hid (((Ext.refl w2).alloc (.cells #[.string r, .string x] 9)).trans hx3)
        clear hx3
        generalize bts (recB L.next (lst x)) = f
        go_wp2_with fail
        go_ret2
        rw [HR.out]
        exact ⟨rfl, HL2.out.ext HX3.out, (HD2.out.ext HX3.out).mono (fun x _ hx => .inl hx), Only.ext (HX2.out.trans HX3.out)⟩
    · have h65i : ¬ (65000 : Int) < (x.size : Int) := by omega
      go_wp2_with fail
      refine (frame2_any L.next r x hr _ w2.heap.size 2 (hst2 _) (Nat.le_refl _) (HN2.out.ext ((Ext.refl w2).alloc _)) (by omega)).mono ?_
      rintro e w3 ⟨rfl, hx3⟩
      have HX3 := Lib.hid (((Ext.refl w2).alloc (.cells #[.string r, .string x] 9)).trans hx3)
      have HL3 : Hid (LogAt w3 b d name L) := HL2.out.ext HX3.out
      have HD3 : Hid (DiskAt w3 d S F) := HD2.out.ext HX3.out
      have HX03 := Lib.hid (HX2.out.trans HX3.out)
      have c2 := HL3.out.c2
      have c4 := HL3.out.c4
      obtain ⟨f, HF⟩ : ∃ f, Hid (f = bts (recB L.next (lst x))) := ⟨_, rfl⟩
      have HFZ : Hid (f.size = x.size + 20) := by show _ = _; rw [HF.out, bts_size, recB_length, lst_length]
      have hfz : f.size ≤ 70000 := by have := HFZ.out; omega
      rw [← HF.out]
      clear hx3 hst2 HL2 HD2 HX2 HX3 HN2 hr
      by_cases hnx : 99999999 ≤ L.next
      · have hnxi : (99999999 : Int) ≤ (L.next : Int) := by omega
        have HR : Hid (appendW name S L (lst x) = ((0, 5), L, S)) := by
          show _ = _
          unfold appendW
          rw [if_neg (fun k => k he), if_pos (.inr hnx)]
        go_wp2_with fail
        go_ret2
        rw [HR.out]
        exact ⟨rfl, HL3.out, HD3.out.mono (fun x _ hx => .inl hx), Only.ext HX03.out⟩
      · have hnxi : ¬ (99999999 : Int) ≤ (L.next : Int) := by omega
        have HNX := Lib.hid hnx
        have H65 := Lib.hid h65
        have HHX9 := Lib.hid hx9
        have HLS := Lib.hid hls
        have HFSS := Lib.hid hfs
        have h65d : decide ((65000 : Int) < (x.size : Int)) = false := decide_eq_false (by omega)
        have hnd : decide ((99999999 : Int) ≤ (L.next : Int)) = false := decide_eq_false hnxi
        have HU9 : Hid (S.uses < 4611686018427387904) := by show _ < _; omega
        have HU99 : Hid (S.uses + 10 < 4611686018427387904) := hu
        clear hnx h65 hx9 hls hfs hfz hu
        have hend := Lib.hid (fun u k => lends_any b d name L u (HL3.out.ext k))
        go_wp2_with fail
        refine (free_any d S F w3 HD3.out).mono ?_
        rintro e w4 ⟨rfl, hx4⟩
        have HX4 := Lib.hid (HX03.out.trans hx4)
        have HE34 := Lib.hid hx4
        have HD4 : Hid (DiskAt w4 d S F) := HD3.out.ext hx4
        have HL4 : Hid (LogAt w4 b d name L) := HL3.out.ext hx4
        have c2 := HL4.out.c2
        have c4 := HL4.out.c4
        have HEND := hend
        clear hx4 hend
        obtain ⟨fs, HFR⟩ : ∃ fs, Hid (free S = fs) := ⟨_, rfl⟩
        rw [HFR.out]
        by_cases hfr : fs < (f.size : Int)
        · have HR : Hid (appendW name S L (lst x) = ((0, 6), L, S)) := by
            show _ = _
            have h1 := HFZ.out
            unfold appendW
            rw [if_neg (fun k => k he), if_neg (by rw [lst_length]; have := H65.out; have := HNX.out; omega), if_pos (.inl (by rw [HFR.out, lst_length]; omega))]
          have hfd : decide (fs < (f.size : Int)) = true := decide_eq_true hfr
          go_wp2_with fail
          go_ret2
          rw [HR.out]
          exact ⟨rfl, HL4.out, HD4.out.mono (fun x _ hx => .inl hx), Only.ext HX4.out⟩
        · have hfd : decide (fs < (f.size : Int)) = false := decide_eq_false hfr
          have hcall := HEND.out w4 HE34.out
          cases hen : ends L with
          | false =>
            rw [hen] at hcall
            have HEN := Lib.hid hen
            clear hen
            go_wp2_with fail
            refine hcall.mono ?_
            rintro e w5 ⟨rfl, rfl⟩
            go_wp2_with fail
            refine hcall.mono ?_
            clear hcall
            rintro e w6 ⟨rfl, rfl⟩
            have HAP : Hid (appendW name S L (lst x) = putW S L (lst x)) := by
              show _ = _
              have h1 := HFZ.out
              unfold appendW
              have hh : headW name S L = (0, L, S) := by unfold headW; rw [HEN.out, if_neg (by simp)]
              rw [if_neg (fun k => k he), if_neg (by rw [lst_length]; have := H65.out; have := HNX.out; omega), if_neg (by rw [HFR.out, lst_length, HEN.out]; rintro (k | k); omega; cases k.1), hh, if_pos rfl]
            have hfl : L.file.size ≤ 140737488355328 := HFSS.out
            have hll : L.size ≤ 1000000000 := HLS.out
            have hln : L.next ≤ 99999999 := by have := HNX.out; omega
            obtain ⟨mf, mz, mn, mfr, ms, me⟩ := L
            obtain rfl : me = 0 := he
            obtain ⟨wh, hwh⟩ : ∃ u, u = w4 := ⟨_, rfl⟩
            obtain ⟨U, hUS⟩ : ∃ U, U = S := ⟨_, rfl⟩
            have HLM : Hid (LogAt wh b d name ⟨mf, mz, mn, mfr, ms, 0⟩) := by rw [hwh]; exact HL4
            have HDM : Hid (DiskAt wh d U (More F w)) := by rw [hwh, hUS]; exact HD4.out.mono (fun x _ hx => .inl hx)
            have HOM : Hid (Only (fun y => F y ∨ y = b) w wh) := by rw [hwh]; exact Only.ext HX4.out
            have HAP2 : Hid (appendW name S ⟨mf, mz, mn, mfr, ms, 0⟩ (lst x) = putW U ⟨mf, mz, mn, mfr, ms, 0⟩ (lst x)) := by rw [hUS]; exact HAP
            have HFF : Hid (f = bts (recB mn (lst x))) := HF
            have HMF : Hid (mf.size ≤ 140737488355328) := hfl
            have HMZ : Hid (mz ≤ 1000000000) := hll
            have HMN2 : Hid (mn ≤ 99999999) := hln
            have HUU : Hid (U.uses < 4611686018427387904) := by rw [hUS]; exact HU9.out
            rw [← hwh]
            have HR9 := HAP2
            clear hfl hll hln hwh hUS HAP HAP2 HL4 HD4 HL3 HD3 HEND c2 c4 hfr hfd HF
            have c0 := HLM.out.c0
            have c4 := HLM.out.c4
            have HGD : Hid (DiskAt wh d U (fun y => More F w y ∧ y < wh.heap.size)) := disk_small HDM.out
            have HGB : Hid (¬ (More F w b ∧ b < wh.heap.size)) := by
              show ¬ _
              rintro ⟨k | k, _⟩
              · exact HFB.out k
              · have := HBW.out; omega
            have HGR : Hid (∀ bk o, (some ⟨wh.heap.size, 0, none⟩ : Option Addr) = some ⟨bk, o, none⟩ → ¬ (More F w bk ∧ bk < wh.heap.size)) := fun bk o e k => by
              injection e with e; injection e with e1 _
              have := k.2; omega
            have HXM : Hid (∀ y ∈ [f], y.size ≤ 140737488355328) := by
              intro y hy; simp at hy; rw [hy]; have := HFZ.out; have := HHX9.out; omega
            have HPW : Hid (appendW name S ⟨mf, mz, mn, mfr, ms, 0⟩ (lst x) = if (append U mf [f]).1 = 0 then ((mn, 0), ⟨mf, mz + (x.size + 20), mn + 1, mfr, ms, 0⟩, (append U mf [f]).2) else ((0, (append U mf [f]).1), ⟨mf, mz, mn, mfr, ms, (append U mf [f]).1⟩, (append U mf [f]).2)) := by
              show _ = _
              rw [HR9.out]
              unfold putW
              simp only
              rw [← HFF.out, lst_length]
            go_wp2_with fail
            go_region_held3 (fun u => u.cell? ⟨b, 4, none⟩ = some (.pointer (some ⟨d, 0, none⟩)) ∧ u.cell? ⟨b, 0, none⟩ = some (.string mf))
              (first | exact ⟨c4, c0⟩ | exact ⟨Ext.cell ((Ext.refl _).alloc _) c4, Ext.cell ((Ext.refl _).alloc _) c0⟩ | exact ⟨Ext.cell (((Ext.refl _).drew).alloc _) c4, Ext.cell (((Ext.refl _).drew).alloc _) c0⟩ | exact ⟨Only.cell ho6 c4 HGB.out, Only.cell ho6 c0 HGB.out⟩)
              (first | (go_at_call 59; refine (append_any d U (fun y => More F w y ∧ y < wh.heap.size) mf (some ⟨wh.heap.size, 0, none⟩) 1 [f] HMF.out (by simp) (by simp) HXM.out HUU.out _ (HGD.out.ext (by first | exact (Ext.refl _).alloc _ | exact ((Ext.refl _).alloc _).drew | exact ((Ext.refl _).drew).alloc _)) (by first | exact StrsAt.one _ _ _ | exact (StrsAt.one _ _ _).drew) HGR.out).mono ?_; rintro e v ⟨rfl, hl60⟩; have ho6 : Only (fun y => More F w y ∧ y < wh.heap.size) wh v := Only.andThen (Only.ext (by first | exact (Ext.refl _).alloc _ | exact ((Ext.refl _).alloc _).drew | exact ((Ext.refl _).drew).alloc _)) hl60.2))
            have hd6 : DiskAt v d (append U mf [f]).2 (More F w) := hl60.1.mono (fun y _ hy => by
              rcases hy with k | k
              · exact k.1
              · refine .inr ?_
                have h1 := HOM.out.size
                simp at k
                omega)
            have HO6 : Hid (Only (fun y => F y ∨ y = b) w v) := HOM.out.trans (ho6.mono (fun y _ k => k.1.imp (fun h => .inl h) id))
            have HL6 : Hid (LogAt v b d name ⟨mf, mz, mn, mfr, ms, 0⟩) := HLM.out.only ho6 HGB.out
            have HD6 := Lib.hid hd6
            clear ho6 hl60 hd6 c0 c4
            generalize append U mf [f] = qs at HD6 HPW
            obtain ⟨es, T⟩ := qs
            by_cases hes : es = 0
            · subst hes
              have HRF : Hid (appendW name S ⟨mf, mz, mn, mfr, ms, 0⟩ (lst x) = ((mn, 0), ⟨mf, mz + (x.size + 20), mn + 1, mfr, ms, 0⟩, T)) := by rw [HPW.out]; rfl
              have c1 := HL6.out.c1
              have c2 := HL6.out.c2
              have q1 := HL6.out.free 1
              have q2 := HL6.out.free 2
              simp only at c1 c2
              have hmz : mz ≤ 1000000000 := HMZ.out
              have hmn : mn ≤ 99999999 := HMN2.out
              have hfz : f.size ≤ 100000 := by have := HFZ.out; have := HHX9.out; omega
              have HW1 : Hid (IntKind.i64.wrap ((mz : Int) + (f.size : Int)) = (mz : Int) + (f.size : Int)) := by show _ = _; rw [IntKind.wrap_i64]; omega
              have HW2 : Hid (IntKind.i64.wrap ((mn : Int) + 1) = (mn : Int) + 1) := by show _ = _; rw [IntKind.wrap_i64]; omega
              go_wp2_with fail
              go_ret2
              rw [HRF.out]
              refine ⟨?_, ?_, ?_, ?_⟩
              · rfl
              · have e1 : ((mz + (x.size + 20) : Nat) : Int) = (mz : Int) + (f.size : Int) := by have := HFZ.out; omega
                have e2 : ((mn + 1 : Nat) : Int) = (mn : Int) + 1 := by omega
                have := Go.Joins.block_setCell (i := 2) (Go.Joins.block_setCell (i := 1) HL6.out (.int .i64 ((mz : Int) + (f.size : Int)))) (.int .i64 ((mn : Int) + 1))
                show LogAt _ b d name ⟨mf, mz + (x.size + 20), mn + 1, mfr, ms, 0⟩
                unfold LogAt lcells
                simp only [e1, e2]
                simpa [lcells] using this
              · exact HD6.out.only (((Only.refl (fun y => y = b) v).at _ _).at _ _) (fun y hy e => by
                  subst e
                  rcases hy with hy | hy
                  · exact HFB.out hy
                  · have := HBW.out; omega)
              · exact HO6.out.andThen ((((Only.refl (fun y => y = b) v).at _ _).at _ _).mono (fun y _ k => .inr k))
            · have hes2 : ((es : Int) != 0) = true := by rw [bne_iff_ne]; omega
              have HRF : Hid (appendW name S ⟨mf, mz, mn, mfr, ms, 0⟩ (lst x) = ((0, es), ⟨mf, mz, mn, mfr, ms, es⟩, T)) := by rw [HPW.out]; exact if_neg hes
              have hstay := stays_any b d name ⟨mf, mz, mn, mfr, ms, 0⟩ es v HL6.out
              go_wp2_with fail
              refine hstay.mono ?_
              clear hstay
              rintro e w8 ⟨rfl, hl8, ho8⟩
              have HL8 := Lib.hid hl8
              have HO8 := Lib.hid ho8
              clear hl8 ho8
              go_wp2_with fail
              go_ret2
              rw [HRF.out]
              refine ⟨rfl, HL8.out, ?_, HO6.out.andThen (HO8.out.mono (fun y _ k => .inr k))⟩
              exact HD6.out.only HO8.out (fun y hy e => by
                subst e
                rcases hy with hy | hy
                · exact HFB.out hy
                · have := HBW.out; omega)
          | true =>
            rw [hen] at hcall
            have HEN := Lib.hid hen
            clear hen
            have hnames := names_any d S F none 0 [] (by simp) w4 HD4.out (StrsAt.nil _ _)
            have hnl : (namesOf S []).length = S.files.length := names_all_len S
            go_wp2_with fail
            refine hcall.mono ?_
            clear hcall
            rintro e w5 ⟨rfl, rfl⟩
            go_wp2_with fail
            refine hnames.mono ?_
            clear hnames
            rintro e w5 ⟨vn, rfl, hown, hx5⟩
            obtain ⟨an, cn, rfl, _, _, _⟩ := hown.form
            rw [hnl]
            have HX5 := Lib.hid (HX4.out.trans hx5)
            have HL5 : Hid (LogAt w5 b d name L) := HL4.out.ext hx5
            have HD5 : Hid (DiskAt w5 d S F) := HD4.out.ext hx5
            have hcall := HEND.out w5 (HE34.out.trans hx5)
            rw [HEN.out] at hcall
            clear hown hx5 hnl
            by_cases h100 : 100 ≤ S.files.length
            · have h100i : (100 : Int) ≤ (S.files.length : Int) := by omega
              have HR : Hid (appendW name S L (lst x) = ((0, 6), L, S)) := by
                show _ = _
                unfold appendW
                rw [if_neg (fun k => k he), if_neg (by rw [lst_length]; have := H65.out; have := HNX.out; omega), if_pos (.inr ⟨HEN.out, h100⟩)]
              have h1d : decide ((100 : Int) ≤ (S.files.length : Int)) = true := decide_eq_true h100i
              go_wp2_with fail
              go_ret2
              rw [HR.out]
              exact ⟨rfl, HL5.out, HD5.out.mono (fun x _ hx => .inl hx), Only.ext HX5.out⟩
            · have h100i : ¬ (100 : Int) ≤ (S.files.length : Int) := by omega
              have h1d : decide ((100 : Int) ≤ (S.files.length : Int)) = false := decide_eq_false h100i
              have H100 := Lib.hid h100
              clear h100
              go_wp2_with fail
              refine hcall.mono ?_
              clear hcall
              rintro e w6 ⟨rfl, rfl⟩
              have hcom := lcommit_any b d name L S F HU9.out HFSS.out w5 HD5.out HL5.out HFB.out
              have HCN := Lib.hid (commit_next S L)
              have HCE := Lib.hid (commit_err S L)
              have HCU := Lib.hid (commit_uses S L)
              unfold WDone at hcom
              have HHW : Hid (headW name S L = if (commitW S L).1 = 0 then (0, ⟨seg name (commitW S L).2.1.next, 0, (commitW S L).2.1.next, false, (commitW S L).2.1.safe, (commitW S L).2.1.err⟩, (commitW S L).2.2) else commitW S L) := by
                show _ = _
                unfold headW; rw [HEN.out, if_pos rfl]
              have HAPP : Hid (appendW name S L (lst x) = if (headW name S L).1 = 0 then putW (headW name S L).2.2 (headW name S L).2.1 (lst x) else ((0, (headW name S L).1), (headW name S L).2.1, (headW name S L).2.2)) := by
                show _ = _
                have h1 := HFZ.out
                unfold appendW
                rw [if_neg (fun k => k he), if_neg (by rw [lst_length]; have := H65.out; have := HNX.out; omega), if_neg (by rw [HFR.out, lst_length]; have := H100.out; omega)]
              generalize commitW S L = qc at hcom HCN HCE HCU HHW
              obtain ⟨ec, M, U⟩ := qc
              go_wp2_with fail
              refine hcom.mono ?_
              clear hcom
              rintro e w7 ⟨rfl, hl7, hd7, ho7⟩
              have HL7 : Hid (LogAt w7 b d name M) := hl7
              have HD7 : Hid (DiskAt w7 d U (More F w)) := hd7.mono (fun y _ hy => hy.imp id (fun h => Nat.le_trans HX5.out.size h))
              have HO7 : Hid (Only (fun y => F y ∨ y = b) w w7) := (Only.ext HX5.out).andThen ho7
              have hnx : M.next = L.next := HCN.out
              have hln : M.next ≤ 99999999 := by rw [hnx]; have := HNX.out; omega
              have c2 := HL7.out.c2
              clear hl7 hd7 ho7 hnx
              by_cases hec : ec = 0
              · subst hec
                have c5 := HL7.out.c5
                have HSG : Hid (∀ u, u.cell? ⟨b, 5, none⟩ = some (.string name) → Calls Tryz.prog 94 #[.pointer (some ⟨b, 0, none⟩), .int .i64 (M.next : Nat)] u fun e w' => e = .returned (.string (seg name M.next)) ∧ Ext u w') := fun u hu => segment_any b name hname M.next hln u hu
                go_wp2_with fail
                go_region_held3 (fun u => u.cell? ⟨b, 2, none⟩ = some (.int .i64 (M.next : Nat)) ∧ u.cell? ⟨b, 5, none⟩ = some (.string name))
                  (first | exact ⟨c2, c5⟩ | exact ⟨Ext.cell hx8 c2, Ext.cell hx8 c5⟩ | exact ⟨(LogAt.place hl8 (seg name M.next) 0 M.next _ rfl).c2, (LogAt.place hl8 (seg name M.next) 0 M.next _ rfl).c5⟩)
                  (first | (go_at_call 94; refine (HSG.out _ (by first | exact c5 | exact Ext.cell ((Ext.refl _).drew) c5)).mono ?_; rintro e v ⟨rfl, hx80⟩; have hx8 : Ext w7 v := Ext.trans (by first | exact Ext.refl _ | exact (Ext.refl _).drew) hx80; have hl8 : LogAt v b d name M := HL7.out.ext hx8; have p0 := hl8.c0; have p1 := hl8.c1; have p2 := hl8.c2; have p3 := hl8.c3; have q0 := hl8.free 0; have q1 := hl8.free 1; have q2 := hl8.free 2; have q3 := hl8.free 3))
                have hM0 : M.err = 0 := HCE.out trivial
                obtain ⟨wh, hwh⟩ : ∃ u, u = ((((v.setCell ⟨b, 0, none⟩ (.string (seg name M.next))).setCell ⟨b, 1, none⟩ (.int .i64 0)).setCell ⟨b, 2, none⟩ (.int .i64 (M.next : Nat))).setCell ⟨b, 3, none⟩ (.bool false)) := ⟨_, rfl⟩
                obtain ⟨mf, mz, mn, mfr, ms, HMM⟩ : ∃ mf mz mn mfr ms, Hid ((⟨seg name M.next, 0, M.next, false, M.safe, M.err⟩ : LG) = ⟨mf, mz, mn, mfr, ms, 0⟩) := ⟨seg name M.next, 0, M.next, false, M.safe, by show _ = _; rw [hM0]⟩
                have hmf : seg name M.next = mf := congrArg LG.file HMM.out
                have hmz0 : 0 = mz := congrArg LG.size HMM.out
                have hmn0 : M.next = mn := congrArg LG.next HMM.out
                have HLM : Hid (LogAt wh b d name ⟨mf, mz, mn, mfr, ms, 0⟩) := by
                  show LogAt _ _ _ _ _
                  rw [hwh, ← HMM.out]
                  exact LogAt.place hl8 (seg name M.next) 0 M.next _ rfl
                have hob : Only (fun y => y = b) v wh := by rw [hwh]; exact ((((Only.refl _ v).at _ _).at _ _).at _ _).at _ _
                have HNB9 : Hid (∀ y, More F w y → ¬ y = b) := fun y hy e => by
                  subst e
                  rcases hy with hy | hy
                  · exact HFB.out hy
                  · have := HBW.out; omega
                have HDM : Hid (DiskAt wh d U (More F w)) := (HD7.out.ext hx8).only hob HNB9.out
                have HOM : Hid (Only (fun y => F y ∨ y = b) w wh) := (HO7.out.andThen (Only.ext hx8)).andThen (hob.mono (fun y _ k => .inr k))
                have HR9 : Hid (appendW name S L (lst x) = putW U ⟨mf, mz, mn, mfr, ms, 0⟩ (lst x)) := by
                  show _ = _
                  have hh : headW name S L = (0, ⟨seg name M.next, 0, M.next, false, M.safe, M.err⟩, U) := by rw [HHW.out]; rfl
                  rw [HAPP.out, hh, if_pos rfl, HMM.out]
                have HFF : Hid (f = bts (recB mn (lst x))) := by
                  show _ = _
                  rw [← hmn0, HCN.out]; exact HF.out
                have HMF : Hid (mf.size ≤ 140737488355328) := by show _ ≤ _; rw [← hmf, seg_size _ _ hln]; omega
                have HMZ : Hid (mz ≤ 1000000000) := by show _ ≤ _; omega
                have HMN2 : Hid (mn ≤ 99999999) := by show _ ≤ _; omega
                have HUU : Hid (U.uses < 4611686018427387904) := by
                  have h1 : U.uses ≤ S.uses + 1 := HCU.out
                  have := HU99.out
                  show _ < _; omega
                rw [← hwh]
                clear hM0 hmf hmz0 hmn0 hln hob hwh hx8 hx80 hl8 p0 p1 p2 p3 q0 q1 q2 q3 HL7 HD7 HO7 HSG HCN HCE HCU HHW HAPP HL5 HD5 HX5 HL4 HD4 HX4 HE34 HL3 HD3 HX03 HEND HF hfr hfd h100i h1d c2 c4 c5
                have c0 := HLM.out.c0
                have c4 := HLM.out.c4
                have HGD : Hid (DiskAt wh d U (fun y => More F w y ∧ y < wh.heap.size)) := disk_small HDM.out
                have HGB : Hid (¬ (More F w b ∧ b < wh.heap.size)) := by
                  show ¬ _
                  rintro ⟨k | k, _⟩
                  · exact HFB.out k
                  · have := HBW.out; omega
                have HGR : Hid (∀ bk o, (some ⟨wh.heap.size, 0, none⟩ : Option Addr) = some ⟨bk, o, none⟩ → ¬ (More F w bk ∧ bk < wh.heap.size)) := fun bk o e k => by
                  injection e with e; injection e with e1 _
                  have := k.2; omega
                have HXM : Hid (∀ y ∈ [f], y.size ≤ 140737488355328) := by
                  intro y hy; simp at hy; rw [hy]; have := HFZ.out; have := HHX9.out; omega
                have HPW : Hid (appendW name S L (lst x) = if (append U mf [f]).1 = 0 then ((mn, 0), ⟨mf, mz + (x.size + 20), mn + 1, mfr, ms, 0⟩, (append U mf [f]).2) else ((0, (append U mf [f]).1), ⟨mf, mz, mn, mfr, ms, (append U mf [f]).1⟩, (append U mf [f]).2)) := by
                  show _ = _
                  rw [HR9.out]
                  unfold putW
                  simp only
                  rw [← HFF.out, lst_length]
                go_wp2_with fail
                go_region_held3 (fun u => u.cell? ⟨b, 4, none⟩ = some (.pointer (some ⟨d, 0, none⟩)) ∧ u.cell? ⟨b, 0, none⟩ = some (.string mf))
                  (first | exact ⟨c4, c0⟩ | exact ⟨Ext.cell ((Ext.refl _).alloc _) c4, Ext.cell ((Ext.refl _).alloc _) c0⟩ | exact ⟨Ext.cell (((Ext.refl _).drew).alloc _) c4, Ext.cell (((Ext.refl _).drew).alloc _) c0⟩ | exact ⟨Only.cell ho6 c4 HGB.out, Only.cell ho6 c0 HGB.out⟩)
                  (first | (go_at_call 59; refine (append_any d U (fun y => More F w y ∧ y < wh.heap.size) mf (some ⟨wh.heap.size, 0, none⟩) 1 [f] HMF.out (by simp) (by simp) HXM.out HUU.out _ (HGD.out.ext (by first | exact (Ext.refl _).alloc _ | exact ((Ext.refl _).alloc _).drew | exact ((Ext.refl _).drew).alloc _)) (by first | exact StrsAt.one _ _ _ | exact (StrsAt.one _ _ _).drew) HGR.out).mono ?_; rintro e v ⟨rfl, hl60⟩; have ho6 : Only (fun y => More F w y ∧ y < wh.heap.size) wh v := Only.andThen (Only.ext (by first | exact (Ext.refl _).alloc _ | exact ((Ext.refl _).alloc _).drew | exact ((Ext.refl _).drew).alloc _)) hl60.2))
                have hd6 : DiskAt v d (append U mf [f]).2 (More F w) := hl60.1.mono (fun y _ hy => by
                  rcases hy with k | k
                  · exact k.1
                  · refine .inr ?_
                    have h1 := HOM.out.size
                    simp at k
                    omega)
                have HO6 : Hid (Only (fun y => F y ∨ y = b) w v) := HOM.out.trans (ho6.mono (fun y _ k => k.1.imp (fun h => .inl h) id))
                have HL6 : Hid (LogAt v b d name ⟨mf, mz, mn, mfr, ms, 0⟩) := HLM.out.only ho6 HGB.out
                have HD6 := Lib.hid hd6
                clear ho6 hl60 hd6 c0 c4
                generalize append U mf [f] = qs at HD6 HPW
                obtain ⟨es, T⟩ := qs
                by_cases hes : es = 0
                · subst hes
                  have HRF : Hid (appendW name S L (lst x) = ((mn, 0), ⟨mf, mz + (x.size + 20), mn + 1, mfr, ms, 0⟩, T)) := by rw [HPW.out]; rfl
                  have c1 := HL6.out.c1
                  have c2 := HL6.out.c2
                  have q1 := HL6.out.free 1
                  have q2 := HL6.out.free 2
                  simp only at c1 c2
                  have hmz : mz ≤ 1000000000 := HMZ.out
                  have hmn : mn ≤ 99999999 := HMN2.out
                  have hfz : f.size ≤ 100000 := by have := HFZ.out; have := HHX9.out; omega
                  have HW1 : Hid (IntKind.i64.wrap ((mz : Int) + (f.size : Int)) = (mz : Int) + (f.size : Int)) := by show _ = _; rw [IntKind.wrap_i64]; omega
                  have HW2 : Hid (IntKind.i64.wrap ((mn : Int) + 1) = (mn : Int) + 1) := by show _ = _; rw [IntKind.wrap_i64]; omega
                  go_wp2_with fail
                  go_ret2
                  rw [HRF.out]
                  refine ⟨?_, ?_, ?_, ?_⟩
                  · rfl
                  · have e1 : ((mz + (x.size + 20) : Nat) : Int) = (mz : Int) + (f.size : Int) := by have := HFZ.out; omega
                    have e2 : ((mn + 1 : Nat) : Int) = (mn : Int) + 1 := by omega
                    have := Go.Joins.block_setCell (i := 2) (Go.Joins.block_setCell (i := 1) HL6.out (.int .i64 ((mz : Int) + (f.size : Int)))) (.int .i64 ((mn : Int) + 1))
                    show LogAt _ b d name ⟨mf, mz + (x.size + 20), mn + 1, mfr, ms, 0⟩
                    unfold LogAt lcells
                    simp only [e1, e2]
                    simpa [lcells] using this
                  · exact HD6.out.only (((Only.refl (fun y => y = b) v).at _ _).at _ _) (fun y hy e => by
                      subst e
                      rcases hy with hy | hy
                      · exact HFB.out hy
                      · have := HBW.out; omega)
                  · exact HO6.out.andThen ((((Only.refl (fun y => y = b) v).at _ _).at _ _).mono (fun y _ k => .inr k))
                · have hes2 : ((es : Int) != 0) = true := by rw [bne_iff_ne]; omega
                  have HRF : Hid (appendW name S L (lst x) = ((0, es), ⟨mf, mz, mn, mfr, ms, es⟩, T)) := by rw [HPW.out]; exact if_neg hes
                  have hstay := stays_any b d name ⟨mf, mz, mn, mfr, ms, 0⟩ es v HL6.out
                  go_wp2_with fail
                  refine hstay.mono ?_
                  clear hstay
                  rintro e w8 ⟨rfl, hl8, ho8⟩
                  have HL8 := Lib.hid hl8
                  have HO8 := Lib.hid ho8
                  clear hl8 ho8
                  go_wp2_with fail
                  go_ret2
                  rw [HRF.out]
                  refine ⟨rfl, HL8.out, ?_, HO6.out.andThen (HO8.out.mono (fun y _ k => .inr k))⟩
                  exact HD6.out.only HO8.out (fun y hy e => by
                    subst e
                    rcases hy with hy | hy
                    · exact HFB.out hy
                    · have := HBW.out; omega)
              · have hec2 : ((ec : Int) != 0) = true := by rw [bne_iff_ne]; omega
                have HRF : Hid (appendW name S L (lst x) = ((0, ec), M, U)) := by
                  have hh : headW name S L = (ec, M, U) := by rw [HHW.out]; exact if_neg hec
                  rw [HAPP.out, hh]
                  exact if_neg hec
                go_wp2_with fail
                go_ret2
                rw [HRF.out]
                exact ⟨rfl, HL7.out, HD7.out, HO7.out⟩
  · have he1 : ((L.err : Int) != 0) = true := by rw [bne_iff_ne]; omega
    have HR : Hid (appendW name S L (lst x) = ((0, L.err), L, S)) := by
      show _ = _
      unfold appendW
      rw [if_pos he]
    have HL := Lib.hid hl
    have HD := Lib.hid h
    clear h hl hnb hFb
    generalize appendW name S L (lst x) = R at HR ⊢
    generalize L.err = err at *
    go_enter Tryz.func35, Tryz.ntmps35
    go_wp2_with fail
    refine hcall.mono ?_
    clear hcall
    rintro e w1 ⟨rfl, rfl⟩
    go_wp2_with fail
    go_ret2
    rw [HR.out]
    exact ⟨rfl, HL.out, HD.out.mono (fun x _ hx => .inl hx), Only.refl _ _⟩
end Go.Proofs.YtmdkjcigmhgpeaaGreatDoor
