/- The walks of seal.Open and seal.All. -/
import Derived.Test.YtmdkjcigmhgpeaaGreatDoorSealFrame
namespace Go.Proofs.YtmdkjcigmhgpeaaGreatDoor
open Go.RowKit SealMath

/-- What an opening answers. -/
def Opened (s : ByteArray) (w : World) (e : Ending) (w' : World) : Prop :=
  ∃ (r : ByteArray) (n y : Nat), e = .returned (.tuple #[.string r, .int .i64 n, .int .i64 y]) ∧ openL (lst s) = (lst r, n, y) ∧ Ext w w'

theorem told_lt (s : ByteArray) : toldL (lst s) < 4294967296 := by
  unfold toldL
  split
  · rename_i a b c d _ _
    have := a.toNat_lt; have := b.toNat_lt; have := c.toNat_lt; have := d.toNat_lt
    omega
  · omega

set_option maxHeartbeats 400000 in
theorem open_short4 (s : ByteArray) (h : s.size < 4) (w : World) :
    Calls Tryz.prog 120 #[.string s] w (Opened s w) := by
  go_enter Tryz.func120, Tryz.ntmps120
  go_wp2_with fail
  refine bodyPost_ret (v := .tuple #[.string ⟨#[]⟩, .int .i64 0, .int .i64 1]) (by simp [results, Tryz.results120, go_sem]) rfl ⟨⟨#[]⟩, 0, 1, rfl, ?_, Ext.refl _⟩
  unfold openL
  rw [if_pos (by rw [lst_length]; exact h)]

set_option maxHeartbeats 400000 in
/-- seal.Open. -/
theorem open_long (s : ByteArray) (h : 4 ≤ s.size) (hm : s.size ≤ 9223372036854775807) (w : World) (hn : Nibs w) :
    Calls Tryz.prog 120 #[.string s] w (Opened s w) := by
  have HN := Lib.hid hn; clear hn
  have htl := told_lt s
  go_enter Tryz.func120, Tryz.ntmps120
  go_wp2_with fail
  refine (told_any s h hm _).mono ?_
  rintro e w1 ⟨rfl, k1⟩
  obtain ⟨t, ht⟩ : ∃ t, toldL (lst s) = t := ⟨_, rfl⟩
  rw [ht]
  rw [ht] at htl
  have HT := Lib.hid ht; clear ht
  by_cases h1 : 65536 < t
  · go_wp2_with fail
    go_ret3
    refine ⟨_, 0, 2, rfl, ?_, k1⟩
    unfold openL
    rw [if_neg (by rw [lst_length]; omega), if_pos (by rw [HT.out]; exact h1)]
  · by_cases h2 : s.size < t + 12
    · go_wp2_with fail
      go_ret3
      refine ⟨_, 0, 1, rfl, ?_, k1⟩
      unfold openL
      rw [if_neg (by rw [lst_length]; omega), if_neg (by rw [HT.out]; exact h1), if_pos (by rw [HT.out, lst_length]; exact h2)]
    · go_wp2_with fail
      have g1 : IntKind.i64.wrap (4 + (t : Int)) = 4 + (t : Int) := IntWalk.i64_in _ (by omega)
      have g2 : (0 : Int) ≤ 4 + (t : Int) := by omega
      have g3 : 4 + (t : Int) ≤ s.size := by omega
      have g4 : (4 + (t : Int)).toNat = 4 + t := by omega
      have g5 : 4 + (t : Int) + 8 ≤ s.size := by omega
      have g6 : (4 + (t : Int) + 8).toNat = 4 + t + 8 := by omega
      have g7 : (4 + (t : Int)) ≤ 4 + (t : Int) + 8 := by omega
      have g8 : (0 : Int) ≤ 4 + (t : Int) + 8 := by omega
      have hx : (s.extract 0 (4 + t)).size ≤ 9223372036854775807 := by rw [ByteArray.size_extract]; omega
      go_region_held3 (fun _ => True) (trivial) (first
        | (go_at_call 130; refine (of_any (some ⟨w1.heap.size, 0, none⟩) 1 [s.extract 0 (4 + t)] (by simp) (by simpa using hx) _ ((StrsAt.one w1 _ _).ext ((Ext.refl _).drew)) (HN.out.ext ((k1.alloc _).drew))).mono ?_; rintro e w3 ⟨rfl, k4⟩)
        | (go_at_call 129; refine (ends_any _ _).mono ?_; rintro e w4 ⟨g, rfl, hg, k6⟩))
      have k7 : Ext w w4 := (((k1.alloc _).drew).trans k4).trans k6
      generalize hb : (!g.toList == (s.extract (4 + t) (4 + t + 8)).toList) = b
      have HB : Hid (b = decide (le 8 (crc ((lst s).take (4 + t))) ≠ ((lst s).take (t + 12)).drop (4 + t))) := by
        show _ = _
        rw [← hb, ByteArray.toList_eq, ByteArray.toList_eq, show g.data.toList = lst g from rfl, hg, Lib.extract_data]
        have e1 : cat [s.extract 0 (4 + t)] = (lst s).take (4 + t) := by simp [cat]
        have e2 : ((lst s).drop (4 + t)).take (4 + t + 8 - (4 + t)) = ((lst s).take (t + 12)).drop (4 + t) := by
          rw [List.drop_take, show 4 + t + 8 - (4 + t) = t + 12 - (4 + t) by omega]
        rw [e1, e2]
        simp [Bool.beq_eq_decide_eq]
      clear hb hg
      have h3 : ¬ (lst s).length < 4 := by rw [lst_length]; omega
      have h4 : ¬ (lst s).length < t + 12 := by rw [lst_length]; omega
      have HO : Hid (openL (lst s) = if le 8 (crc ((lst s).take (4 + t))) ≠ ((lst s).take (t + 12)).drop (4 + t) then ([], 0, 2) else (((lst s).take (4 + t)).drop 4, t + 12, 0)) := by
        show _ = _
        unfold openL
        rw [if_neg h3, HT.out, if_neg h1, if_neg h4]
      clear h3 h4
      cases b
      · go_wp2_with fail
        go_ret3
        refine ⟨s.extract 4 (4 + t), t + 12, 0, ?_, ?_, k7⟩
        · show Ending.returned (.tuple #[.string (s.extract 4 (4 + t)), .int .i64 (4 + (t : Int) + 8), .int .i64 0]) = _
          rw [show (4 + (t : Int) + 8) = ((t + 12 : Nat) : Int) by omega]; rfl
        · have := HB.out
          rw [HO.out, if_neg (of_decide_eq_false this.symm)]
          rw [show lst (s.extract 4 (4 + t)) = ((lst s).take (4 + t)).drop 4 from by rw [show lst (s.extract 4 (4 + t)) = (s.extract 4 (4 + t)).data.toList from rfl, Lib.extract_data, List.drop_take]]
      · go_wp2_with fail
        go_ret3
        refine ⟨_, 0, 2, rfl, ?_, k7⟩
        have := HB.out
        rw [HO.out, if_pos (of_decide_eq_true this.symm)]

theorem open_any (s : ByteArray) (hm : s.size ≤ 9223372036854775807) (w : World) (hn : Nibs w) :
    Calls Tryz.prog 120 #[.string s] w (Opened s w) := by
  by_cases h : s.size < 4
  · exact open_short4 s h w
  · exact open_long s (by omega) hm w hn
end Go.Proofs.YtmdkjcigmhgpeaaGreatDoor
