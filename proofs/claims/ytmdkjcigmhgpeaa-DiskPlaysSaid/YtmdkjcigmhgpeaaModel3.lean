/- The model of law 06, on: may, join; what its power does. -/
import Derived.Test.YtmdkjcigmhgpeaaModel2
import Derived.Test.YtmdkjcigmhgpeaaAct
import Derived.Deep.CutRange
namespace Go.Proofs.Ytmdkjcigmhgpeaa
open Go.RowKit Go.Maps Dsk

theorem mmay_any (s : ByteArray) (hs : s.size ≤ 9223372036854775807) (w : World) :
    Calls Try.prog 23 #[.string s] w fun e w' => e = .returned (.bool (may s)) ∧ w = w' := by
  go_enter Try.func23, Try.ntmps23
  unfold may
  by_cases h0 : 0 < s.size
  · have h0' : (0 : Int) < (s.size : Int) := by omega
    by_cases h1 : s.size ≤ 20
    · have h1' : (s.size : Int) < 21 := by omega
      rw [show (decide (0 < s.size) && decide (s.size ≤ 20)) = true by simp [h0, h1]]
      go_wp2_with fail
      go_ret
      exact ⟨rfl, rfl⟩
    · have h1' : ¬ (s.size : Int) < 21 := by omega
      rw [show (decide (0 < s.size) && decide (s.size ≤ 20)) = false by simp [h1]]
      go_wp2_with fail
      go_ret
      exact ⟨rfl, rfl⟩
  · have h0' : ¬ (0 : Int) < (s.size : Int) := by omega
    rw [show (decide (0 < s.size) && decide (s.size ≤ 20)) = false by simp [h0]]
    go_wp2_with fail
    go_ret
    exact ⟨rfl, rfl⟩

theorem flat_take {xs : List ByteArray} {i : Nat} (hi : i < xs.length) : ((xs.take (i + 1)).map lst).flatten = ((xs.take i).map lst).flatten ++ lst xs[i] := by
  rw [List.take_succ_eq_append_getElem hi, List.map_append, List.flatten_append]; simp
set_option maxHeartbeats 400000 in
/-- join: the texts, one behind the other. -/
theorem mjoin_any (a : Option Addr) (c : Nat) (xs : List ByteArray) (hN : xs.length ≤ 140737488355328) (hM : (cats xs).size ≤ 140737488355328) (w : World) (hs : StrsAt w a xs) :
    Calls Try.prog 25 #[.slice a xs.length c] w fun e w' => e = .returned (.string (cats xs)) ∧ Ext w w' := by
  have HS := Lib.hid hs; clear hs
  go_enter Try.func25, Try.ntmps25
  go_wp2_with fail
  go_loopg [3, 4] (xs.length) (fun k s3 s4 wr => ∃ (i : Nat) (s : ByteArray), s3 = .string s ∧ s4 = .int .i64 i ∧ i ≤ xs.length ∧ k = xs.length - i ∧ s.size ≤ (cats xs).size ∧ Hid (lst s = ((xs.take i).map lst).flatten) ∧ Hid (Ext w wr))
  case atStart => exact ⟨0, ⟨#[]⟩, rfl, rfl, Nat.zero_le _, rfl, Nat.zero_le _, (show _ = _ by simp [lst]), Ext.refl _⟩
  case round =>
    obtain ⟨i, s, rfl, rfl, hi, rfl, hz, HL, HX⟩ := hrel
    by_cases hlt : i < xs.length
    · obtain ⟨g, o, rfl, _, hc⟩ := (HS.out.ext HX.out) i _ (List.getElem?_eq_getElem hlt)
      have HT := Lib.hid (flat_take hlt)
      have hz2 : s.size + xs[i].size ≤ (cats xs).size := by
        have h1 := cats_size (xs.take (i + 1))
        have h2 := cats_take_le xs (i + 1)
        have h3 := cats_take hlt
        have h4 : s.size = (cats (xs.take i)).size := by
          rw [← lst_length, HL.out, cats_size, List.length_flatten, List.map_map]; rfl
        omega
      generalize xs[i] = x at hc HT hz2
      go_wp2_with fail
      go_roundg (xs.length - (i + 1))
      case measure => omega
      case rel => exact ⟨i + 1, s ++ x, rfl, by go_num, by omega, rfl, by rw [ByteArray.size_append]; omega, (show _ = _ by
        rw [lst_append, HL.out, HT.out]), HX.out⟩
    · have hlt' : ¬ (i : Int) < ((xs.length : Nat) : Int) := by omega
      go_wp2_with fail
      go_ret
      refine ⟨?_, HX.out⟩
      have h := HL.out
      rw [List.take_of_length_le (by omega), ← lst_cats] at h
      rw [lst_inj h]
      rfl
end Go.Proofs.Ytmdkjcigmhgpeaa
