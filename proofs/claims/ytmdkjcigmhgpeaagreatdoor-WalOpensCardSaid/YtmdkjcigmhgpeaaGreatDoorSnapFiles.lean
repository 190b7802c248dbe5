/- Several texts in one (each under its own head): the first: The walks of snap.Name, snap.framed. -/
import Derived.Test.YtmdkjcigmhgpeaaGreatDoorSnapPlain
import Derived.Test.YtmdkjcigmhgpeaaGreatDoorCodecs
import Derived.Test.YtmdkjcigmhgpeaaGreatDoorSealFrame
import Derived.Deep.AppendLies
import Derived.Deep.RegionLaw
import Derived.Test.YtmdkjcigmhgpeaaGreatDoorJoin
import Derived.Test.YtmdkjcigmhgpeaaGreatDoorSealAll
/- The walks of snap.Name, snap.framed. -/
namespace Go.Proofs.YtmdkjcigmhgpeaaGreatDoor
open Go.RowKit Snp SealMath

theorem ret_str {a b : ByteArray} (h : a = b) : Ending.returned (.string a) = .returned (.string b) := by rw [h]
theorem repeat_one (c : UInt8) (k : Nat) : Lib.repeatL [c] k = List.replicate k c := by
  induction k with
  | zero => rfl
  | succ k ih => rw [List.replicate_succ, ← ih]; rfl
theorem name_any (n : Nat) (hn : n ≤ 99999999) (w : World) :
    Calls Tryz.prog 22 #[.int .i64 (n : Nat)] w fun e w' => e = .returned (.string (nSnap n)) ∧ Ext w w' := by
  have h0 : ¬ ((n : Nat) : Int) < 0 := by omega
  have h1 : ¬ (99999999 : Int) < ((n : Nat) : Int) := by omega
  have hcall := print_any n hn w
  go_enter Tryz.func22, Tryz.ntmps22
  go_wp2_with fail
  refine hcall.mono ?_
  rintro e w1 ⟨r, rfl, hr, hx⟩
  have HX := Lib.hid hx; clear hx hcall
  have hsz : r.size ≤ 8 := by rw [← lst_length, hr]; exact dec_len n (by omega)
  have HR := Lib.hid hr; clear hr
  have hcall := Tryz.strings_Repeat ⟨#[48]⟩ (8 - r.size) w1 (by omega) (by show 1 * _ ≤ _; omega)
  have e8 : ((8 - r.size : Nat) : Int) = 8 - (r.size : Int) := by omega
  rw [e8] at hcall
  go_wp2_with fail
  refine hcall.mono ?_
  rintro e w2 ⟨rfl, hx2⟩
  have HX2 := Lib.hid (HX.out.trans hx2); clear hx2 hcall e8
  have HL : Hid (lst (⟨(Lib.repeatL (⟨#[48]⟩ : ByteArray).data.toList (8 - r.size)).toArray⟩ : ByteArray) = List.replicate (8 - r.size) 48) := by
    exact repeat_one 48 _
  generalize (⟨(Lib.repeatL (⟨#[48]⟩ : ByteArray).data.toList (8 - r.size)).toArray⟩ : ByteArray) = z at HL
  have hz : z.size ≤ 8 := by rw [← lst_length, HL.out]; simp
  go_wp2_with fail
  go_ret
  refine ⟨ret_str (lst_inj ?_), HX2.out⟩
  rw [lst_append, lst_append, HL.out, HR.out, lst_nSnap]
  unfold dec8
  rw [← HR.out, lst_length]; rfl
theorem name_out (n : Int) (hn : mayN n = false) (w : World) :
    Calls Tryz.prog 22 #[.int .i64 n] w fun e w' => e = .returned (.string ⟨#[]⟩) ∧ w' = w := by
  unfold mayN at hn
  by_cases h0 : n < 0
  · clear hn
    go_enter Tryz.func22, Tryz.ntmps22
    go_wp2_with fail
    go_ret
    exact ⟨rfl, rfl⟩
  · have h1 : (99999999 : Int) < n := by
      apply Classical.byContradiction; intro h
      rw [decide_eq_true (by omega), decide_eq_true (by omega)] at hn
      cases hn
    clear hn
    go_enter Tryz.func22, Tryz.ntmps22
    go_wp2_with fail
    go_ret
    exact ⟨rfl, rfl⟩

/-- framed: bytes in a frame. -/
theorem framed_any (s : ByteArray) (hs : s.size ≤ 65536) (w : World) (hn : Nibs w) :
    Calls Tryz.prog 63 #[.string s] w fun e w' => e = .returned (.string (bts (frameL (lst s)))) ∧ Ext w w' := by
  have hx : Ext w (w.alloc (.cells #[.string s] 9)) := (Ext.refl w).alloc _
  have hcall := frame_any (some ⟨w.heap.size, 0, none⟩) 1 [s] (by simp) (by simp) _ (StrsAt.one w s 9) (hn.ext hx) (by simpa [cat] using hs)
  have HX := Lib.hid hx
  clear hx
  go_enter Tryz.func63, Tryz.ntmps63
  go_wp2_with fail
  refine hcall.mono ?_
  rintro e w2 ⟨r, rfl, hr, hx2⟩
  have HX2 := Lib.hid (HX.out.trans hx2)
  have HR := Lib.hid hr; clear hr hx2 hcall
  go_wp2_with fail
  go_ret
  refine ⟨ret_str (lst_inj ?_), HX2.out⟩
  rw [HR.out, lst_bts]
  simp [cat]
end Go.Proofs.YtmdkjcigmhgpeaaGreatDoor

/- The walk of snap.pieces: data, cut. -/
namespace Go.Proofs.YtmdkjcigmhgpeaaGreatDoor
open Go.RowKit Snp SealMath

set_option maxRecDepth 20000 in
set_option maxHeartbeats 1000000 in
theorem pieces_any (s : ByteArray) (hs : s.size ≤ 100000000) (w : World) :
    Calls Tryz.prog 109 #[.string s] w fun e w' => ∃ v ps, e = .returned v ∧ OwnStrs w' w.heap.size v ps ∧ ps.map lst = piecesL (lst s) ∧ Ext w w' := by
  obtain ⟨i0, hi, hz0, hz1, hz2⟩ := info_parts info_string
  go_enter Tryz.func109, Tryz.ntmps109
  go_wp2_with fail
  go_loopg [0, 3] (s.size) (fun g x v wr => ∃ (d : ByteArray) (ps : List ByteArray), x = .string d ∧ d.size ≤ s.size ∧ d.size = g ∧ ps.length + d.size ≤ s.size ∧ OwnStrs wr w.heap.size v ps ∧ Hid (ps.map lst ++ piecesL (lst d) = piecesL (lst s)) ∧ Ext w wr)
  case atStart => exact ⟨s, [], rfl, Nat.le_refl _, rfl, by simp, OwnStrs.nil _ _, rfl, Ext.refl _⟩
  case round =>
    obtain ⟨d, ps, rfl, hd, rfl, hps, hown, HD, hx⟩ := hrel
    have e1 : d.toList.length = d.size := by rw [Lib.toList_data]; rfl
    by_cases h0 : d.size = 0
    · have e2 : d.toList = [] := List.eq_nil_of_length_eq_zero (by omega)
      have HE : Hid (lst d = []) := List.eq_nil_of_length_eq_zero (by rw [lst_length]; exact h0)
      clear e1
      obtain ⟨a, c, rfl, _, _, _⟩ := hown.form
      have HOWN := Lib.hid hown; clear hown
      have HX := Lib.hid hx; clear hx
      go_wp2_with fail
      go_ret
      refine ⟨_, ps, rfl, HOWN.out, ?_, HX.out⟩
      have := HD.out
      rw [HE.out, piecesL_nil, List.append_nil] at this
      exact this
    · have e2 : (d.toList = []) = False := by
        refine eq_false (fun e => h0 ?_)
        rw [e] at e1; exact e1.symm
      have e3 : d.toList.isEmpty = false := by simp [e2]
      clear e1
      obtain ⟨n, hn, hnd, hmin⟩ : ∃ n : Nat, Hid (n = min d.size 60000) ∧ n ≤ d.size ∧ min (d.size : Int) 60000 = (n : Int) := ⟨min d.size 60000, rfl, by omega, by omega⟩
      have hn0 : 0 < n := by have := hn.out; omega
      go_wp2_with fail
      go_region_law (refine step_append_lies _ rfl (.tmp 10) (.tmp 14) 28 rfl w.heap.size 9 i0 (.string ⟨#[]⟩) 1 16 Tryz.underlying28 hi hz0 hz1 hz2 rfl (by decide) _ _ _ (by rfl) ((World.ownsRow.drew hown).alloc _) ⟨wr.heap.size, 0, none⟩ 1 1 [.string (d.extract 0 n)] (by rfl) rfl (cell_one_new _ _ _) (by intro u hu; simp at hu; subst hu; rfl) (by decide) (by unfold maxLen; omega) (by omega) (by have := hx.size; simp; omega) _ rfl ?_; intro g cap w1 hown1 hg1 hat1 hlt1)
      have hlt2 := World.ownsRow.lt hown
      have k2 : Ext w w1 := Below.grown (hx.drew.alloc _) hg1 (by have := hx.size; simp; omega) (fun k e => (hlt2 k e).1)
      have HO2 : Hid (OwnStrs w1 w.heap.size (.slice (some ⟨g, 0, none⟩) (ps.length + 1) cap) (ps ++ [d.extract 0 n])) := by
        show OwnStrs _ _ _ _
        unfold OwnStrs
        rw [List.length_append, List.map_append]
        exact hown1
      have K2 := Lib.hid k2
      have HE : Hid (piecesL (lst d) = lst (d.extract 0 n) :: piecesL (lst (d.extract n d.size))) := by
        show _ = _
        have hne : lst d ≠ [] := fun e => h0 (by rw [← lst_length, e]; rfl)
        have e1 : lst (d.extract 0 n) = (lst d).take n := by rw [extract_take]
        have e2 : lst (d.extract n d.size) = (lst d).drop n := by
          rw [show lst (d.extract n d.size) = (d.extract n d.size).data.toList from rfl, Lib.extract_data, List.take_of_length_le (by simp)]
        have e3 : (lst d).take n = (lst d).take 60000 := by
          rw [hn.out]
          by_cases hb : d.size ≤ 60000
          · rw [Nat.min_eq_left hb, List.take_of_length_le (by rw [lst_length]; exact Nat.le_refl _), List.take_of_length_le (by rw [lst_length]; exact hb)]
          · rw [Nat.min_eq_right (by omega)]
        have e4 : (lst d).drop n = (lst d).drop 60000 := by
          rw [hn.out]
          by_cases hb : d.size ≤ 60000
          · rw [Nat.min_eq_left hb, List.drop_eq_nil_of_le (by rw [lst_length]; exact Nat.le_refl _), List.drop_eq_nil_of_le (by rw [lst_length]; exact hb)]
          · rw [Nat.min_eq_right (by omega)]
        rw [piecesL_cons _ hne, e1, e2, e3, e4]
      have hsz : (d.extract n d.size).size = d.size - n := by simp [ByteArray.size_extract]
      have HD2 : Hid ((ps ++ [d.extract 0 n]).map lst ++ piecesL (lst (d.extract n d.size)) = piecesL (lst s)) := by
        show _ = _
        rw [← HD.out, HE.out]; simp
      clear hown1 hg1 hat1 hlt1 hlt2 k2 hown HE HD
      generalize d.extract n d.size = d2 at hsz HD2
      generalize d.extract 0 n = d1 at HO2 HD2
      go_wp2_with fail
      go_roundg (d.size - n)
      case measure => omega
      case rel => exact ⟨d2, ps ++ [d1], rfl, by omega, hsz, by simp; omega, HO2.out, HD2, K2.out⟩
end Go.Proofs.YtmdkjcigmhgpeaaGreatDoor

/- The walks of snap.file, need, Need: a snapshot's bytes, and how many. -/
namespace Go.Proofs.YtmdkjcigmhgpeaaGreatDoor
open Go.RowKit Snp SealMath

/-- A builder at b that holds these bytes. -/
abbrev Bld (w : World) (b : Nat) (l : List UInt8) : Prop := Lib.IsBuilderF 140 5 b b (Lib.byteCells l) w
theorem Bld.ext {w w' : World} {b : Nat} {l : List UInt8} (h : Bld w b l) (k : Ext w w') : Bld w' b l := by
  have key : ∀ p, Lib.BuilderAtF 140 5 b b p (Lib.byteCells l) w → Lib.BuilderAtF 140 5 b b p (Lib.byteCells l) w' := by
    rintro p ⟨h1, v, h2, h3, h4⟩
    exact ⟨h1, v, (k.block b (Array.getElem?_eq_some_iff.1 h2).1).trans h2, h3.kept k.grownBy (by cases v.ownBlock <;> simp), h4⟩
  exact h.elim (fun x => .inl (key _ x)) (fun x => .inr (key _ x))
theorem wrstr_any (b : Nat) (l : List UInt8) (s : ByteArray) (w : World) (h : Bld w b l) (hlen : l.length + s.size ≤ 140737488355328) :
    Calls Tryz.prog 104 #[.pointer (some ⟨b, 0, none⟩), .string s] w fun e w' => (∃ v, e = .returned v) ∧ Bld w' b (l ++ lst s) ∧ Below b w w' ∧ Lib.OthersKept 5 (some b) w w' := by
  have hb : b ≤ w.heap.size := by
    rcases h with ⟨_, v, h2, _⟩ | ⟨_, v, h2, _⟩ <;> exact Nat.le_of_lt (Array.getElem?_eq_some_iff.1 h2).1
  refine (Any.Builder_WriteString_k { Tryz.lays156 with } Tryz.Builder_Extra_156 b b (Lib.byteCells l) s w h (by rw [Lib.byteCells_length]; exact hlen) hb).mono ?_
  rintro e w' ⟨rfl, h1, h2, h3⟩
  refine ⟨⟨_, rfl⟩, .inr ?_, h2, h3⟩
  rw [Lib.byteCells_append]
  exact h1
theorem OwnStrs.others {w w' : World} {B b : Nat} {v : Value} {ps : List ByteArray} (h : OwnStrs w B v ps) (hb : b < B) (k : Lib.OthersKept 5 (some b) w w') : OwnStrs w' B v ps := by
  obtain ⟨h0, h | ⟨g, cap, cur, rfl, hB, hg, h1, h2, h3, h4⟩⟩ := h
  · exact ⟨h0, .inl h⟩
  · refine ⟨h0, .inr ⟨g, cap, cur, rfl, hB, ?_, h1, h2, h3, h4⟩⟩
    refine k g _ hg (by simp; omega) (fun c fz e => ?_)
    injection e with _ e2 _
    exact absurd e2 (by decide)
theorem bstr_any (b : Nat) (l : List UInt8) (w : World) (h : Bld w b l) :
    Calls Tryz.prog 105 #[.pointer (some ⟨b, 0, none⟩)] w fun e w' => e = .returned (.string (bts l)) ∧ Below b w w' := by
  have hb : b ≤ w.heap.size := by
    rcases h with ⟨_, v, h2, _⟩ | ⟨_, v, h2, _⟩ <;> exact Nat.le_of_lt (Array.getElem?_eq_some_iff.1 h2).1
  refine (Tryz.Builder_String_any_f b b l w h hb).mono ?_
  rintro e w' ⟨rfl, _, h2⟩
  exact ⟨rfl, h2⟩

theorem IntsAt.two (w : World) (x y : Int) (t : TypeId) {b : Nat} (hb : b = w.heap.size) : IntsAt (w.alloc (.cells #[.int .i64 x, .int .i64 y] t)) (some ⟨b, 0, none⟩) [x, y] := by
  subst hb
  intro j z hj
  match j, hj with
  | 0, hj =>
    simp at hj; subst hj
    exact ⟨_, _, rfl, by simp, by rw [cell_new]; rfl⟩
  | 1, hj =>
    simp at hj; subst hj
    exact ⟨_, _, rfl, by simp, by rw [cell_new]; rfl⟩
theorem Bld.new (w : World) : Bld (w.alloc (.cells #[.pointer none, .slice none 0 0] 140)) w.heap.size [] :=
  .inl ⟨Nat.le_refl _, .slice none 0 0, heap_alloc_new w _, World.ownsRowF_nil _ _ _ _, by simp [Value.ownBlock]⟩
theorem pieces_take {s : List UInt8} {ps : List ByteArray} (h : ps.map lst = piecesL s) (k : Nat) : (framesL ((ps.take k).map lst)).length ≤ 60012 * k := by
  have hle : ∀ x ∈ ps, (lst x).length ≤ 60000 := fun x hx => piecesL_le s _ (by rw [← h]; exact List.mem_map_of_mem hx)
  clear h
  induction ps generalizing k with
  | nil => simp [framesL]
  | cons x r ih =>
    cases k with
    | zero => simp [framesL]
    | succ k =>
      have := ih k (fun y hy => hle y (by simp [hy]))
      have := hle x (by simp)
      rw [List.take_succ_cons, List.map_cons, framesL_cons, List.length_append, frameL_length]
      omega
theorem framesL_append (a b : List (List UInt8)) : framesL (a ++ b) = framesL a ++ framesL b := by simp [framesL]

set_option maxRecDepth 20000 in
set_option maxHeartbeats 1000000 in
/-- file: a snapshot's bytes. -/
theorem file_any (n : Nat) (hn : n ≤ 99999999) (s : ByteArray) (hs : s.size ≤ 960000) (w : World) (hnb : Nibs w) :
    Calls Tryz.prog 60 #[.int .i64 (n : Nat), .string s] w fun e w' => e = .returned (.string (bts (fileL n (lst s)))) ∧ Ext w w' := by
  have HN := Lib.hid hnb; clear hnb
  go_enter Tryz.func60, Tryz.ntmps60
  have hx1 : Ext w (w.alloc (.cells #[.pointer none, .slice none 0 0] 140)) := (Ext.refl w).alloc _
  have hb1 := Bld.new w
  have hz1 : (w.alloc (.cells #[.pointer none, .slice none 0 0] 140)).heap.size = w.heap.size + 1 := by simp
  have hcall := sizes_any (some ⟨w.heap.size + 1, 0, none⟩) 2 [n, s.size] (by simp) (by intro x hx; simp at hx; rcases hx with rfl | rfl <;> omega) ((w.alloc (.cells #[.pointer none, .slice none 0 0] 140)).alloc (.cells #[.int .i64 (n : Int), .int .i64 (s.size : Int)] 3)) (IntsAt.two _ _ _ _ (by simp)) (by intro bk o e; simp at e; simp; omega)
  go_wp2_with fail
  refine hcall.mono ?_
  clear hcall
  rintro e w2 ⟨r1, rfl, hr1, hx2⟩
  have hsz1 : r1.size ≤ 18 := by
    rw [← lst_length, hr1]
    have := numL_length n; have := numL_length s.size
    simp; omega
  have HX2 := Lib.hid (Below.trans (hx1.alloc _) (Below.mono hx2 (by simp; omega)))
  have HB2 := Lib.hid ((hb1.ext ((Ext.refl _).alloc _)).ext hx2)
  have hcall := framed_any r1 (by omega) w2 (HN.out.ext HX2.out)
  clear hx2 hb1 hx1 hz1
  go_wp2_with fail
  refine hcall.mono ?_
  clear hcall
  rintro e w3 ⟨rfl, hx3⟩
  have HR1 : Hid (lst (bts (frameL (lst r1))) = framesL [headL n (lst s)]) := by
    show _ = _
    rw [lst_bts, hr1]
    simp [framesL, headL]
  clear hr1
  have hszf : (bts (frameL (lst r1))).size ≤ 30 := by rw [bts_size, frameL_length, lst_length]; omega
  generalize bts (frameL (lst r1)) = f1 at HR1 hszf
  have HX3 := Lib.hid (Ext.trans HX2.out hx3)
  have hcall := wrstr_any w.heap.size [] f1 w3 (HB2.out.ext hx3) (by simp; omega)
  clear hx3 HX2 HB2
  go_wp2_with fail
  refine hcall.mono ?_
  clear hcall
  rintro e w4 ⟨⟨rv, rfl⟩, hb4, hx4, _⟩
  rw [List.nil_append] at hb4
  have HX4 := Lib.hid (Below.trans HX3.out hx4)
  have HB4 := Lib.hid hb4
  have hcall := pieces_any s (by omega) w4
  clear hb4 hx4 HX3
  go_wp2_with fail
  refine hcall.mono ?_
  clear hcall
  rintro e w5 ⟨v, ps, rfl, hown, hps, hx5⟩
  have hlt4 : w.heap.size < w4.heap.size := by
    rcases HB4.out with ⟨_, v, h2, _⟩ | ⟨_, v, h2, _⟩ <;> exact (Array.getElem?_eq_some_iff.1 h2).1
  have HX5 := Lib.hid (Ext.trans HX4.out hx5)
  have HB5 := Lib.hid (HB4.out.ext hx5)
  have HO5 := Lib.hid hown
  have HPS := Lib.hid hps
  have hcount : ps.length ≤ 16 := by
    have := piecesL_count (lst s) 16 (by rw [lst_length]; omega)
    rw [← hps, List.length_map] at this; exact this
  clear hx5 hps HX4 HB4
  obtain ⟨a, c, rfl, _, _, _⟩ := hown.form
  clear hown
  go_wp2_with fail
  go_loopg [18] (ps.length) (fun g i wr => ∃ k : Nat, k ≤ ps.length ∧ i = .int .i64 k ∧ g = ps.length - k ∧ Hid (Bld wr w.heap.size (lst f1 ++ framesL ((ps.take k).map lst))) ∧ Hid (OwnStrs wr w4.heap.size (.slice a ps.length c) ps) ∧ Hid (Ext w wr))
  case atStart => exact ⟨0, Nat.zero_le _, rfl, rfl, (show Hid _ from by show Bld _ _ _; simpa [framesL] using HB5.out), HO5, HX5⟩
  case round =>
    obtain ⟨k, hk, rfl, rfl, HB, HO, HX⟩ := hrel
    by_cases hlt : k < ps.length
    · obtain ⟨a', c', hv, _, _, hst⟩ := HO.out.form
      injection hv with hv1 _ hv3
      subst hv1
      subst hv3
      obtain ⟨bk, o, rfl, _, hcell⟩ := hst k _ (List.getElem?_eq_getElem hlt)
      have hxs : ps[k].size ≤ 60000 := by rw [← lst_length]; exact piecesL_le _ _ (by rw [← HPS.out]; exact List.mem_map_of_mem (List.getElem_mem hlt))
      have HT : Hid (ps.take (k + 1) = ps.take k ++ [ps[k]]) := List.take_succ_eq_append_getElem hlt
      have HL := Lib.hid (pieces_take HPS.out k)
      generalize ps[k] = x at hcell hxs HT
      have hcall := framed_any x (by omega) wr (HN.out.ext HX.out)
      clear hst
      go_wp2_with fail
      refine hcall.mono ?_
      clear hcall
      rintro e w6 ⟨rfl, hx6⟩
      have HB6 := Lib.hid (HB.out.ext hx6)
      have HO6 := Lib.hid (HO.out.ext hx6)
      have HX6 := Lib.hid (Ext.trans HX.out hx6)
      have hcall := wrstr_any w.heap.size _ (bts (frameL (lst x))) w6 HB6.out (by
        rw [bts_size, frameL_length, lst_length, List.length_append, lst_length]
        have := HL.out; omega)
      clear hx6
      go_wp2_with fail
      refine hcall.mono ?_
      clear hcall
      rintro e w7 ⟨⟨rv2, rfl⟩, hb7, hx7, hk7⟩
      have HB7 := Lib.hid hb7
      have HO7 := Lib.hid (HO6.out.others hlt4 hk7)
      have HX7 := Lib.hid (Below.trans HX6.out hx7)
      clear hb7 hx7 hk7
      go_wp2_with fail
      go_roundg (ps.length - (k + 1))
      case measure => omega
      case rel => exact ⟨k + 1, by omega, by go_num, rfl, (show Hid _ from by
        show Bld _ _ _
        have := HB7.out
        rw [HT.out, List.map_append, framesL_append]
        simpa [framesL, lst_bts] using this), HO7, HX7⟩
    · have ek : k = ps.length := by omega
      subst ek
      have hcall := bstr_any w.heap.size _ wr HB.out
      go_wp2_with fail
      refine hcall.mono ?_
      clear hcall
      rintro e w8 ⟨rfl, hx8⟩
      have HX8 := Lib.hid (Below.trans HX.out hx8)
      clear hx8
      go_wp2_with fail
      go_ret
      refine ⟨ret_str ?_, HX8.out⟩
      apply lst_inj
      rw [lst_bts, lst_bts, HPS.out, HR1.out, ← framesL_append]
      rfl
end Go.Proofs.YtmdkjcigmhgpeaaGreatDoor

/- The walks of snap.need, Need: how many bytes a snapshot has. -/
namespace Go.Proofs.YtmdkjcigmhgpeaaGreatDoor
open Go.RowKit Snp SealMath

theorem IntsAt.oneB (w : World) (x : Int) (t : TypeId) {b : Nat} (hb : b = w.heap.size) : IntsAt (w.alloc (.cells #[.int .i64 x] t)) (some ⟨b, 0, none⟩) [x] := by
  subst hb; exact IntsAt.one w x t
theorem file_len (n : Nat) (s : List UInt8) : (bts (fileL n s)).size = (fileL n s).length := rfl
set_option maxRecDepth 20000 in
set_option maxHeartbeats 1000000 in
theorem need_any (n : Nat) (hn : n ≤ 99999999) (s : ByteArray) (hs : s.size ≤ 960000) (w : World) (hnb : Nibs w) :
    Calls Tryz.prog 107 #[.int .i64 (n : Nat), .string s] w fun e w' => e = .returned (.int .i64 (((fileL n (lst s)).length + (markL n).length : Nat))) ∧ Ext w w' := by
  have hfl := fileL_le n (lst s) (by rw [lst_length]; exact hs)
  have hml := markL_length n
  have HN := Lib.hid hnb
  have hcall := file_any n hn s hs w hnb
  have HF : Hid ((bts (fileL n (lst s))).size = (fileL n (lst s)).length) := rfl
  have HM : Hid (frameL (numL n) = markL n) := rfl
  generalize hq : (fileL n (lst s)).length = q at hfl HF
  generalize hr : (markL n).length = r at hml
  clear hq
  have HRR := Lib.hid hr
  clear hr
  generalize bts (fileL n (lst s)) = f at hcall HF
  go_enter Tryz.func107, Tryz.ntmps107
  go_wp2_with fail
  refine hcall.mono ?_
  clear hcall
  rintro e w1 ⟨rfl, hx1⟩
  have hcall := sizes_any (some ⟨w1.heap.size, 0, none⟩) 1 [n] (by simp) (by intro x hx; simp at hx; omega) (w1.alloc (.cells #[.int .i64 (n : Int)] 3)) (IntsAt.one w1 _ _) (by intro bk o e; simp at e; simp; omega)
  have HX1 := Lib.hid (Ext.alloc hx1 (.cells #[.int .i64 (n : Int)] 3))
  clear hx1 hnb
  go_wp2_with fail
  refine hcall.mono ?_
  clear hcall
  rintro e w2 ⟨r1, rfl, hr1, hx2⟩
  have HX2 := Lib.hid (HX1.out.trans hx2)
  have hsz : r1.size ≤ 9 := by rw [← lst_length, hr1]; have := numL_length n; simpa using this
  have hcall := framed_any r1 (by omega) w2 (HN.out.ext HX2.out)
  clear hx2
  go_wp2_with fail
  refine hcall.mono ?_
  clear hcall
  rintro e w3 ⟨rfl, hx3⟩
  have HX3 := Lib.hid (HX2.out.trans hx3)
  have HG : Hid ((bts (frameL (lst r1))).size = r) := by
    show _ = _
    rw [bts_size, hr1, ← HRR.out]
    simp [markL]
  clear hx3 hr1
  generalize bts (frameL (lst r1)) = g at HG
  have hf : f.size = q := HF.out
  have hg : g.size = r := HG.out
  go_wp2_with fail
  go_ret
  refine ⟨ret_int ?_, HX3.out⟩
  rw [Int.natCast_add]
theorem Need_any (a : Option Addr) (c : Nat) (xs : List ByteArray) (hN : xs.length ≤ 140737488355328) (hcap : xs.length ≤ c) (w : World) (h1 : StrsAt w a xs) (hl : ((xs.map lst).flatten).length ≤ 960000) (hnb : Nibs w) :
    Calls Tryz.prog 53 #[.slice a xs.length c] w fun e w' => e = .returned (.int .i64 ((needS ((xs.map lst).flatten) : Nat))) ∧ Ext w w' := by
  have hcall := joined_any a c xs w h1 hN hcap (by omega)
  have HN := Lib.hid hnb; clear hnb
  clear h1 hN hcap
  generalize (xs.map lst).flatten = D at hl hcall
  go_enter Tryz.func53, Tryz.ntmps53
  go_wp2_with fail
  refine hcall.mono ?_
  clear hcall
  rintro e w1 ⟨r, rfl, hr, hx1⟩
  have HX1 := Lib.hid hx1
  subst hr
  have hcall := need_any 99999999 (by omega) r (by rw [← lst_length]; exact hl) w1 (HN.out.ext hx1)
  clear hx1 hl
  go_wp2_with fail
  refine hcall.mono ?_
  clear hcall
  rintro e w2 ⟨rfl, hx2⟩
  have HX2 := Lib.hid (HX1.out.trans hx2)
  clear hx2
  go_wp2_with fail
  go_ret
  exact ⟨rfl, HX2.out⟩
end Go.Proofs.YtmdkjcigmhgpeaaGreatDoor

/- The walks of codec.Reader's Size, End; codec.Read; snap.marked. -/
namespace Go.Proofs.YtmdkjcigmhgpeaaGreatDoor
open Go.RowKit Snp SealMath

theorem rnumber_any (b : Nat) (s : Option (List UInt8)) (w : World) (h : RAt w b s) :
    Calls Tryz.prog 146 #[.pointer (some ⟨b, 0, none⟩)] w (NumDone b s w) := by
  match s, h with
  | none, h => exact rnumber_bad b _ (.inl rfl) w h
  | some [], h => exact rnumber_bad b _ (.inr rfl) w h
  | some (c :: r), h =>
    by_cases h1 : 8 < c.toNat
    · exact rnumber_long b c r h1 w h
    by_cases h2 : r.length < c.toNat
    · exact rnumber_short b c r h1 h2 w h
    by_cases h3 : (r.take c.toNat).head? = some 0
    · exact rnumber_zero b c r h1 h2 h3 w h
    · exact rnumber_good b c r h1 h2 h3 w h
theorem numR_lt (s : Option (List UInt8)) : (numR s).1 < 18446744073709551616 := by
  cases s with
  | none => simp [numR]
  | some x =>
    cases hx : readN x with
    | none => rw [numR_no hx]; simp
    | some p => obtain ⟨n, r⟩ := p; rw [numR_yes hx]; exact (readN_some hx).2
/-- A number of at most so much. -/
def sizeR (most : Nat) (s : Option (List UInt8)) : Nat × Option (List UInt8) :=
  if (numR s).2.isSome && decide ((numR s).1 ≤ most) then numR s else (0, none)
set_option maxRecDepth 20000 in
theorem rsize_any (b : Nat) (s : Option (List UInt8)) (most : Nat) (hm : most ≤ 9223372036854775807) (w : World) (h : RAt w b s) :
    Calls Tryz.prog 118 #[.pointer (some ⟨b, 0, none⟩), .int .i64 (most : Nat)] w fun e w' => e = .returned (.int .i64 ((sizeR most s).1 : Nat)) ∧ RAt w' b (sizeR most s).2 ∧ Only (fun x => x = b) w w' := by
  have hcall := rnumber_any b s w h
  have hlt := numR_lt s
  unfold sizeR
  unfold NumDone at hcall
  generalize numR s = p at hcall hlt
  obtain ⟨n, t⟩ := p
  simp only at hcall hlt ⊢
  have hm0 : ¬ ((most : Nat) : Int) < 0 := by omega
  clear h
  cases t with
  | none =>
    go_enter Tryz.func118, Tryz.ntmps118
    go_wp2_with fail
    refine hcall.mono ?_
    clear hcall
    rintro e w1 ⟨rfl, h1, h2⟩
    have hg := good_any b _ w1 h1
    have H1 := Lib.hid h1; clear h1
    have H2 := Lib.hid h2; clear h2
    go_wp2_with fail
    refine hg.mono ?_
    rintro e w2 ⟨rfl, rfl⟩
    go_wp2_with fail
    refine hg.mono ?_
    clear hg
    rintro e w3 ⟨rfl, rfl⟩
    go_wp2_with fail
    go_ret
    exact ⟨rfl, H1.out, H2.out⟩
  | some r =>
    by_cases hle : n ≤ most
    · have hd : decide (n ≤ most) = true := decide_eq_true hle
      have hle2 : ¬ ((most : Nat) : Int) < (n : Int) := by omega
      rw [hd]
      clear hd
      go_enter Tryz.func118, Tryz.ntmps118
      go_wp2_with fail
      refine hcall.mono ?_
      clear hcall
      rintro e w1 ⟨rfl, h1, h2⟩
      have hg := good_any b _ w1 h1
      have H1 := Lib.hid h1; clear h1
      have H2 := Lib.hid h2; clear h2
      go_wp2_with fail
      refine hg.mono ?_
      rintro e w2 ⟨rfl, rfl⟩
      go_wp2_with fail
      refine hg.mono ?_
      clear hg
      rintro e w3 ⟨rfl, rfl⟩
      go_wp2_with fail
      go_ret
      exact ⟨rfl, H1.out, H2.out⟩
    · have hd : decide (n ≤ most) = false := decide_eq_false hle
      have hle2 : ((most : Nat) : Int) < (n : Int) := by omega
      rw [hd]
      clear hd
      go_enter Tryz.func118, Tryz.ntmps118
      go_wp2_with fail
      refine hcall.mono ?_
      clear hcall
      rintro e w1 ⟨rfl, h1, h2⟩
      have hg := good_any b _ w1 h1
      have hf := fail_any b _ w1 h1
      have H2 := Lib.hid h2; clear h2 h1
      go_wp2_with fail
      refine hg.mono ?_
      clear hg
      rintro e w2 ⟨rfl, rfl⟩
      go_wp2_with fail
      refine hf.mono ?_
      clear hf
      rintro e w3 ⟨rfl, h3, h4⟩
      have hg := good_any b _ w3 h3
      have H3 := Lib.hid h3; clear h3
      have H4 := Lib.hid (H2.out.andThen h4); clear h4
      go_wp2_with fail
      refine hg.mono ?_
      clear hg
      rintro e w4 ⟨rfl, rfl⟩
      go_wp2_with fail
      go_ret
      exact ⟨rfl, H3.out, H4.out⟩
theorem blen_any (b : Nat) (l : List UInt8) (w : World) (h : RAt w b (some l)) :
    Calls Tryz.prog 184 #[.pointer (some ⟨b, 0, none⟩)] w fun e w' => e = .returned (.int .i64 (l.length : Nat)) ∧ w' = w := by
  obtain ⟨g, o, c, hv, _⟩ := h
  have hc0 : w.cell? ⟨b, 0, none⟩ = some (.slice (some ⟨g, o, none⟩) l.length c) := cell_of_row _ _ _ _ _ _ hv
  clear hv
  go_enter Tryz.func184, Tryz.ntmps184
  go_wp2_with fail
  go_ret
  exact ⟨rfl, rfl⟩
theorem rlen_any (b : Nat) (l : List UInt8) (w : World) (h : RAt w b (some l)) :
    Calls Tryz.prog 149 #[.pointer (some ⟨b, 0, none⟩)] w fun e w' => e = .returned (.int .i64 (l.length : Nat)) ∧ w' = w := by
  have hcall := blen_any b l w h
  clear h
  go_enter Tryz.func149, Tryz.ntmps149
  go_wp2_with fail
  refine hcall.mono ?_
  clear hcall
  rintro e w2 ⟨rfl, rfl⟩
  go_wp2_with fail
  go_ret
  exact ⟨rfl, rfl⟩
def endR : Option (List UInt8) → Bool
  | some [] => true
  | _ => false
theorem end_any (b : Nat) (s : Option (List UInt8)) (w : World) (h : RAt w b s) :
    Calls Tryz.prog 119 #[.pointer (some ⟨b, 0, none⟩)] w fun e w' => e = .returned (.bool (endR s)) ∧ w' = w := by
  have hg := good_any b s w h
  cases s with
  | none =>
    clear h
    go_enter Tryz.func119, Tryz.ntmps119
    go_wp2_with fail
    refine hg.mono ?_
    clear hg
    rintro e w2 ⟨rfl, rfl⟩
    go_wp2_with fail
    go_ret
    exact ⟨rfl, rfl⟩
  | some l =>
    have hl := rlen_any b l w h
    have HE : Hid (endR (some l) = ((l.length : Int) == 0)) := by
      cases l with
      | nil => rfl
      | cons c r =>
        show false = _
        symm; rw [beq_eq_false_iff_ne]; simp; omega
    clear h
    go_enter Tryz.func119, Tryz.ntmps119
    go_wp2_with fail
    refine hg.mono ?_
    clear hg
    rintro e w2 ⟨rfl, rfl⟩
    go_wp2_with fail
    refine hl.mono ?_
    clear hl
    rintro e w3 ⟨rfl, rfl⟩
    go_wp2_with fail
    go_ret
    exact ⟨ret_bool HE.out.symm, rfl⟩
theorem read_reader (s : ByteArray) (hs : s.size ≤ 1099511627776) (w : World) :
    Calls Tryz.prog 117 #[.string s] w fun e w' => ∃ b, e = .returned (.pointer (some ⟨b, 0, none⟩)) ∧ w.heap.size ≤ b ∧ RAt w' b (some (lst s)) ∧ Ext w w' := by
  have hcv := run_bytes_of_string w 9 25 5 s Tryz.underlying9 Tryz.underlying25 Tryz.underlying5
  have hcap := grownCap_ge w s.size 0 5
  have hcm := grownCap_le_maxLen w s.size 0 5 (by unfold maxLen; omega)
  generalize grownCap w s.size 0 5 = cap at hcv hcap hcm
  generalize hmm : (bytesRow s cap).size = m at hcv
  clear hmm
  have HC := Lib.hid (And.intro hcap hcm)
  clear hcap hcm
  go_enter Tryz.func117, Tryz.ntmps117
  go_wp2_with fail
  go_ret
  have hx : Ext w ((w.alloc (.cells (bytesRow s cap) 5 (m, m + 1))).alloc (.cells #[.slice (some ⟨w.heap.size, 0, none⟩) s.size cap, .bool false] 184)).drew := (((Ext.refl w).alloc _).alloc _).drew
  refine ⟨w.heap.size + 1, rfl, by omega, ⟨w.heap.size, 0, cap, ?_, by omega, by rw [lst_length]; exact HC.out.1, HC.out.2, ?_⟩, hx⟩
  · show ((w.alloc _).alloc _).heap[w.heap.size + 1]? = _
    have h1 : (w.alloc (.cells (bytesRow s cap) 5 (m, m + 1))).heap.size = w.heap.size + 1 := by simp
    rw [← h1, heap_alloc_new, lst_length]
  · intro j c hj
    have hj2 : j < s.data.size := by
      have := (List.getElem?_eq_some_iff.1 hj).1
      simpa [lst] using this
    have h0 : (w.alloc (.cells (bytesRow s cap) 5 (m, m + 1))).cell? ⟨w.heap.size, j, none⟩ = some (.int .u8 (c.toNat : Int)) := by
      rw [cell_of_row _ _ _ _ _ _ (heap_alloc_new w _), bytesRow_at s cap j hj2]
      have : s.data[j] = c := by
        have := (List.getElem?_eq_some_iff.1 hj).2
        simpa [lst] using this
      rw [this]
    rw [Nat.zero_add]
    exact ((Ext.refl _).alloc (.cells #[.slice (some ⟨w.heap.size, 0, none⟩) s.size cap, .bool false] 184)).cell h0

theorem sizeR_mark (x : List UInt8) : endR (sizeR 99999999 (some x)).2 = (markOne x).isSome ∧ (∀ k, markOne x = some k → (sizeR 99999999 (some x)).1 = k) := by
  unfold sizeR markOne
  cases hx : readN x with
  | none => rw [numR_no hx]; exact ⟨rfl, by intro k h; cases h⟩
  | some p =>
    obtain ⟨n, r⟩ := p
    rw [numR_yes hx]
    by_cases hn : n ≤ 99999999
    · cases r with
      | nil => simp [hn, endR]
      | cons c r => simp [hn, endR]
    · cases r with
      | nil => simp [hn, endR]
      | cons c r => simp [hn, endR]
theorem sizeR_le (most : Nat) (s : Option (List UInt8)) : (sizeR most s).1 ≤ most := by
  unfold sizeR
  split
  · rename_i h; simp at h; exact h.2
  · exact Nat.zero_le _

/-- What marked answers: a number, whether there is one. -/
def MarkDone (s : ByteArray) (w : World) (e : Ending) (w' : World) : Prop :=
  ∃ (n : Nat) (b : Bool), e = .returned (.tuple #[.int .i64 (n : Nat), .bool b]) ∧ n ≤ 99999999 ∧ b = (markOf (lst s)).isSome ∧ (∀ k, markOf (lst s) = some k → n = k) ∧ Ext w w'
set_option maxRecDepth 20000 in
set_option maxHeartbeats 1000000 in
theorem marked_any (s : ByteArray) (hs : s.size ≤ 4294967296) (w : World) (hn : Nibs w) :
    Calls Tryz.prog 77 #[.string s] w (MarkDone s w) := by
  have hcall := all_any s hs w hn
  go_enter Tryz.func77, Tryz.ntmps77
  go_wp2_with fail
  refine hcall.mono ?_
  clear hcall
  rintro e w1 ⟨l, a, c, p, y, rfl, ha, hst, hc, hp, hx⟩
  have HX := Lib.hid hx
  have HA := Lib.hid ha
  clear hx hp hc
  by_cases hy : y = 0
  · subst hy
    by_cases hl : l.length = 1
    · obtain ⟨x, rfl⟩ : ∃ x, l = [x] := List.length_eq_one_iff.1 hl
      obtain ⟨bk, o, rfl, _, hcell⟩ := hst 0 x rfl
      rw [Nat.add_zero] at hcell
      have hw : (allL (lst s)).2.2 = 0 := by rw [ha]
      have hxs : x.size ≤ 65536 := (allL_framed hw).2 (lst x) (by rw [ha]; simp)
      have HM : Hid (markOf (lst s) = markOne (lst x)) := by
        show _ = _
        unfold markOf
        rw [ha, if_pos ⟨rfl, rfl⟩]; rfl
      have hcall := read_reader x (by omega) w1
      clear hst ha hw hl
      go_wp2_with fail
      refine hcall.mono ?_
      clear hcall
      rintro e w2 ⟨b, rfl, hb, hr, hx2⟩
      have HX2 := Lib.hid (HX.out.trans hx2)
      have hcall := rsize_any b _ 99999999 (by omega) w2 hr
      have HSM := Lib.hid (sizeR_mark (lst x))
      have hle := sizeR_le 99999999 (some (lst x))
      generalize sizeR 99999999 (some (lst x)) = q at hcall HSM hle
      obtain ⟨n, t⟩ := q
      have HB := Lib.hid (Nat.le_trans (hx2.size) (Nat.le_refl _))
      have hsz : w1.heap.size ≤ w2.heap.size := hx2.size
      have HBB : Hid (w.heap.size ≤ b) := Nat.le_trans HX.out.size hb
      clear hx2 hr hb HB hsz
      simp only at hcall hle
      go_wp2_with fail
      refine hcall.mono ?_
      clear hcall
      rintro e w3 ⟨rfl, h1, h2⟩
      have hcall := end_any b t w3 h1
      have HX3 : Hid (Ext w w3) := Below.trans HX2.out (h2.below HX2.out.size (fun k e => by rw [e]; exact HBB.out))
      clear h1 h2
      go_wp2_with fail
      refine hcall.mono ?_
      clear hcall
      rintro e w4 ⟨rfl, rfl⟩
      go_wp2_with fail
      go_ret2
      refine ⟨n, endR t, rfl, hle, ?_, ?_, HX3.out⟩
      · rw [HM.out]; exact HSM.out.1
      · intro k hk
        rw [HM.out] at hk
        exact HSM.out.2 k hk
    · have hl2 : ((l.length : Int) != 1) = true := by rw [bne_iff_ne]; omega
      have HL := Lib.hid hl
      clear hst ha hl
      go_wp2_with fail
      go_ret2
      have hno : markOf (lst s) = none := by
        unfold markOf
        rw [HA.out, if_neg (by simp; exact HL.out)]
      exact ⟨0, false, rfl, Nat.zero_le _, by rw [hno]; rfl, (fun k h => by rw [hno] at h; cases h), HX.out⟩
  · have hy2 : ((y : Int) != 0) = true := by rw [bne_iff_ne]; omega
    have HY := Lib.hid hy
    clear hst ha hy
    go_wp2_with fail
    go_ret2
    have hno : markOf (lst s) = none := by
      unfold markOf
      rw [HA.out, if_neg (by simp; exact fun e => absurd e HY.out)]
    exact ⟨0, false, rfl, Nat.zero_le _, by rw [hno]; rfl, (fun k h => by rw [hno] at h; cases h), HX.out⟩
end Go.Proofs.YtmdkjcigmhgpeaaGreatDoor
