/- The walks of All, the program's and the document's. -/
import Derived.Test.YtmdkjcigmhgpeaaGreatDoorSealOpen
import Derived.Test.YtmdkjcigmhgpeaaGreatDoorSealRef
namespace Go.Proofs.YtmdkjcigmhgpeaaGreatDoor
open Go.RowKit SealMath

/-- What is told of frames, one behind the other. -/
def AllDone (s : ByteArray) (w : World) (e : Ending) (w' : World) : Prop :=
  ∃ (l : List ByteArray) (a : Option Addr) (c n y : Nat), e = .returned (.tuple #[.slice a l.length c, .int .i64 n, .int .i64 y]) ∧ allL (lst s) = (l.map lst, n, y) ∧ StrsAt w' a l ∧ l.length ≤ c ∧ l.length * 12 ≤ s.size ∧ Ext w w'

set_option maxRecDepth 20000 in
set_option maxHeartbeats 800000 in
/-- afflux/seal.All. -/
theorem all_any (s : ByteArray) (hm : s.size ≤ 4294967296) (w : World) (hn : Nibs w) :
    Calls Tryz.prog 78 #[.string s] w (AllDone s w) := by
  obtain ⟨i0, hi, hz0, hz1, hz2⟩ := info_parts info_string
  have HN := Lib.hid hn; clear hn
  go_enter Tryz.func78, Tryz.ntmps78
  go_wp2_with fail
  go_loopg [5, 6] (s.size) (fun k v i wr => ∃ (p : Nat) (done : List ByteArray), i = .int .i64 p ∧ p ≤ s.size ∧ k = s.size - p ∧ done.length * 12 ≤ p ∧ OwnStrs wr w.heap.size v done ∧ Ext w wr ∧
    Hid (allL (lst s) = (done.map lst ++ (allL ((lst s).drop p)).1, p + (allL ((lst s).drop p)).2.1, (allL ((lst s).drop p)).2.2)))
  case atStart => exact ⟨0, [], rfl, Nat.zero_le _, rfl, by simp, OwnStrs.nil _ _, Ext.refl _, by show _ = _; simp⟩
  case round =>
    obtain ⟨p, done, rfl, hp, rfl, hd, hown, hk, HA⟩ := hrel
    by_cases hlt : p < s.size
    · go_wp2_with fail
      obtain ⟨x, hx⟩ : ∃ x, s.extract p s.size = x := ⟨_, rfl⟩
      rw [hx]
      have hxs : x.size ≤ 4294967296 := by rw [← hx, ByteArray.size_extract]; omega
      have HX : Hid (lst x = (lst s).drop p) := by
        show _ = _
        rw [← hx, show lst (s.extract p s.size) = (s.extract p s.size).data.toList from rfl, Lib.extract_data]
        rw [List.take_of_length_le (by simp)]
      clear hx
      refine (open_any x (by omega) _ (HN.out.ext hk)).mono ?_
      rintro e w1 ⟨r, n, y, rfl, ho, k1⟩
      have hle : y = 0 → 12 ≤ n ∧ p + n ≤ s.size := fun hy => by
        have := openL_le (lst x) (lst r) n (by rw [ho, hy])
        rw [HX.out, List.length_drop, lst_length] at this
        omega
      have HO := Lib.hid ho; clear ho
      cases y with
      | zero =>
        obtain ⟨h12, hpn⟩ := hle rfl
        clear hle
        go_wp2_with (at_builtin; refine wpList_append_own _ rfl _ _ 28 rfl w.heap.size 9 i0 (.string ⟨#[]⟩) 1 16 Tryz.underlying28 hi hz0 hz1 hz2 rfl (by decide) _ _ _ rfl ((hown.ext k1).alloc _) ⟨w1.heap.size, 0, none⟩ 1 1 [.string r] rfl rfl ?c1 ?c2 ?c3 ?c4 ?c5 ?_)
        case c1 => exact cell_one_new _ _ _
        case c2 => intro u hu; simp at hu; subst hu; rfl
        case c3 => unfold maxLen; omega
        case c4 => omega
        case c5 => have := hk.size; have := k1.size; simp; omega
        intro v' w2 hown2 hg2 _
        have hlt2 := (hown.ext k1).lt
        have k2 : Ext w w2 := Below.grown ((hk.trans k1).alloc _) hg2 (by have := hk.size; have := k1.size; simp; omega) (fun k e => (hlt2 k e).1)
        have HO2 : OwnStrs w2 w.heap.size v' (done ++ [r]) := by
          unfold OwnStrs
          rw [List.length_append, List.map_append]
          exact hown2
        clear hown2 hown hlt2
        go_wp2_with fail
        go_roundg (s.size - (p + n))
        case measure => omega
        case rel => exact ⟨p + n, done ++ [r], by go_num, hpn, rfl, by simp; omega, HO2, k2, by
          show _ = _
          have h0 : openL ((lst s).drop p) = (lst r, n, 0) := by rw [← HX.out]; exact HO.out
          have h1 := allL_whole _ _ _ h0
          rw [HA.out, h1, List.drop_drop]
          simp [Nat.add_assoc]⟩
      | succ y =>
        clear hle
        go_wp2_with fail
        go_ret3
        obtain ⟨a, c, hv, hc, _, hst⟩ := (hown.ext k1).form
        refine ⟨done, a, c, p, y + 1, by rw [← hv]; rfl, ?_, hst, hc, by omega, hk.trans k1⟩
        have h0 : openL ((lst s).drop p) = (lst r, n, y + 1) := by rw [← HX.out]; exact HO.out
        have h1 := allL_stop ((lst s).drop p) (by rw [h0]; simp) (by
          intro e
          have := congrArg List.length e
          rw [List.length_drop, lst_length, List.length_nil] at this
          omega)
        rw [HA.out, h1, h0]
        simp
    · go_wp2_with fail
      go_ret3
      obtain ⟨a, c, hv, hc, _, hst⟩ := hown.form
      refine ⟨done, a, c, p, 0, by rw [← hv]; rfl, ?_, hst, hc, by omega, hk⟩
      have h0 : (lst s).drop p = [] := List.drop_eq_nil_of_le (by rw [lst_length]; omega)
      rw [HA.out, h0, allL_nil]
      simp

set_option maxRecDepth 20000 in
set_option maxHeartbeats 800000 in
/-- afflux/affluxref05.All. -/
theorem refall_any (s : ByteArray) (hm : s.size ≤ 4294967296) (w : World) :
    Calls Tryz.prog 87 #[.string s] w (AllDone s w) := by
  obtain ⟨i0, hi, hz0, hz1, hz2⟩ := info_parts info_string
  go_enter Tryz.func87, Tryz.ntmps87
  go_wp2_with fail
  go_loopg [5, 6] (s.size) (fun k v i wr => ∃ (p : Nat) (done : List ByteArray), i = .int .i64 p ∧ p ≤ s.size ∧ k = s.size - p ∧ done.length * 12 ≤ p ∧ OwnStrs wr w.heap.size v done ∧ Ext w wr ∧
    Hid (allL (lst s) = (done.map lst ++ (allL ((lst s).drop p)).1, p + (allL ((lst s).drop p)).2.1, (allL ((lst s).drop p)).2.2)))
  case atStart => exact ⟨0, [], rfl, Nat.zero_le _, rfl, by simp, OwnStrs.nil _ _, Ext.refl _, by show _ = _; simp⟩
  case round =>
    obtain ⟨p, done, rfl, hp, rfl, hd, hown, hk, HA⟩ := hrel
    by_cases hlt : p < s.size
    · go_wp2_with fail
      obtain ⟨x, hx⟩ : ∃ x, s.extract p s.size = x := ⟨_, rfl⟩
      rw [hx]
      have hxs : x.size ≤ 4294967296 := by rw [← hx, ByteArray.size_extract]; omega
      have HX : Hid (lst x = (lst s).drop p) := by
        show _ = _
        rw [← hx, show lst (s.extract p s.size) = (s.extract p s.size).data.toList from rfl, Lib.extract_data]
        rw [List.take_of_length_le (by simp)]
      clear hx
      refine (refopen_any x (by omega) _).mono ?_
      rintro e w1 ⟨r, n, y, rfl, ho, k1⟩
      have hle : y = 0 → 12 ≤ n ∧ p + n ≤ s.size := fun hy => by
        have := openL_le (lst x) (lst r) n (by rw [ho, hy])
        rw [HX.out, List.length_drop, lst_length] at this
        omega
      have HO := Lib.hid ho; clear ho
      cases y with
      | zero =>
        obtain ⟨h12, hpn⟩ := hle rfl
        clear hle
        go_wp2_with (at_builtin; refine wpList_append_own _ rfl _ _ 28 rfl w.heap.size 9 i0 (.string ⟨#[]⟩) 1 16 Tryz.underlying28 hi hz0 hz1 hz2 rfl (by decide) _ _ _ rfl ((hown.ext k1).alloc _) ⟨w1.heap.size, 0, none⟩ 1 1 [.string r] rfl rfl ?c1 ?c2 ?c3 ?c4 ?c5 ?_)
        case c1 => exact cell_one_new _ _ _
        case c2 => intro u hu; simp at hu; subst hu; rfl
        case c3 => unfold maxLen; omega
        case c4 => omega
        case c5 => have := hk.size; have := k1.size; simp; omega
        intro v' w2 hown2 hg2 _
        have hlt2 := (hown.ext k1).lt
        have k2 : Ext w w2 := Below.grown ((hk.trans k1).alloc _) hg2 (by have := hk.size; have := k1.size; simp; omega) (fun k e => (hlt2 k e).1)
        have HO2 : OwnStrs w2 w.heap.size v' (done ++ [r]) := by
          unfold OwnStrs
          rw [List.length_append, List.map_append]
          exact hown2
        clear hown2 hown hlt2
        go_wp2_with fail
        go_roundg (s.size - (p + n))
        case measure => omega
        case rel => exact ⟨p + n, done ++ [r], by go_num, hpn, rfl, by simp; omega, HO2, k2, by
          show _ = _
          have h0 : openL ((lst s).drop p) = (lst r, n, 0) := by rw [← HX.out]; exact HO.out
          have h1 := allL_whole _ _ _ h0
          rw [HA.out, h1, List.drop_drop]
          simp [Nat.add_assoc]⟩
      | succ y =>
        clear hle
        go_wp2_with fail
        go_ret3
        obtain ⟨a, c, hv, hc, _, hst⟩ := (hown.ext k1).form
        refine ⟨done, a, c, p, y + 1, by rw [← hv]; rfl, ?_, hst, hc, by omega, hk.trans k1⟩
        have h0 : openL ((lst s).drop p) = (lst r, n, y + 1) := by rw [← HX.out]; exact HO.out
        have h1 := allL_stop ((lst s).drop p) (by rw [h0]; simp) (by
          intro e
          have := congrArg List.length e
          rw [List.length_drop, lst_length, List.length_nil] at this
          omega)
        rw [HA.out, h1, h0]
        simp
    · go_wp2_with fail
      go_ret3
      obtain ⟨a, c, hv, hc, _, hst⟩ := hown.form
      refine ⟨done, a, c, p, 0, by rw [← hv]; rfl, ?_, hst, hc, by omega, hk⟩
      have h0 : (lst s).drop p = [] := List.drop_eq_nil_of_le (by rw [lst_length]; omega)
      rw [HA.out, h0, allL_nil]
      simp
end Go.Proofs.YtmdkjcigmhgpeaaGreatDoor
