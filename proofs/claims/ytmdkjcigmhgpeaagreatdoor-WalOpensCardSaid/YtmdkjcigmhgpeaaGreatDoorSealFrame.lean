/- The walks of seal.Frame, Open and All. -/
import Derived.Test.YtmdkjcigmhgpeaaGreatDoorShelf
import Derived.Test.YtmdkjcigmhgpeaaGreatDoorSealAdd
import Derived.Test.YtmdkjcigmhgpeaaGreatDoorSealLeaf
namespace Go.Proofs.YtmdkjcigmhgpeaaGreatDoor
open Go.RowKit SealMath

theorem join_cat (xs : List ByteArray) : Lib.join (xs.map (·.data.toList)) (ByteArray.mk #[]).data.toList = cat xs := by
  unfold Lib.join cat
  generalize xs.map (·.data.toList) = l
  show List.intercalate [] l = l.flatten
  induction l with
  | nil => rfl
  | cons x l ih =>
    cases l with
    | nil => simp [List.intercalate]
    | cons y l =>
      simp only [List.intercalate, List.intersperse_cons_cons, List.flatten_cons] at ih ⊢
      rw [ih]; simp

/-- strings.Join, nothing between. -/
theorem join_any (a : Option Addr) (c : Nat) (xs : List ByteArray) (w : World) (hs : StrsAt w a xs) (hN : xs.length ≤ 140737488355328) (hcap : xs.length ≤ c) (hlen : (cat xs).length ≤ 140737488355328) :
    Calls Tryz.prog 50 #[.slice a xs.length c, .string ⟨#[]⟩] w fun e w' => ∃ r, e = .returned (.string r) ∧ lst r = cat xs ∧ Ext w w' := by
  by_cases h0 : xs = []
  · subst h0
    refine (Tryz.strings_Join_none a c ⟨#[]⟩ w).mono ?_
    rintro e w' ⟨rfl, rfl⟩
    exact ⟨_, rfl, rfl, Ext.refl _⟩
  · have hp : 0 < xs.length := List.length_pos_iff.2 h0
    obtain ⟨bk, o, rfl, hl, _⟩ := hs 0 xs[0] (List.getElem?_eq_getElem hp)
    refine (Tryz.strings_Join bk o c xs ⟨#[]⟩ w ?_ hl hN hcap (by rw [join_cat]; exact hlen)).mono ?_
    · intro j x hj
      obtain ⟨bk', o', he, _, hc⟩ := hs j x hj
      injection he with he
      injection he with h1 h2
      subst h1 h2
      exact hc
    · rintro e w' ⟨rfl, hb⟩
      rw [join_cat]
      exact ⟨_, rfl, rfl, hb⟩

theorem cat_take_len (xs : List ByteArray) (n : Nat) : (cat (xs.take n)).length ≤ (cat xs).length := by
  have : cat xs = cat (xs.take n) ++ cat (xs.drop n) := by
    conv => lhs; rw [← List.take_append_drop n xs]
    simp only [cat, List.map_append, List.flatten_append]
  rw [this]; simp

set_option maxHeartbeats 400000 in
/-- seal.Frame: of at most 65536 bytes. -/
theorem frame_any (a : Option Addr) (c : Nat) (xs : List ByteArray) (hN : xs.length ≤ 140737488355328) (hcap : xs.length ≤ c) (w : World)
    (hs : StrsAt w a xs) (hn : Nibs w) (hl : (cat xs).length ≤ 65536) :
    Calls Tryz.prog 91 #[.slice a xs.length c] w fun e w' => ∃ r, e = .returned (.tuple #[.string r, .bool true]) ∧ lst r = frameL (cat xs) ∧ Ext w w' := by
  have HS := Lib.hid hs; clear hs
  have HN := Lib.hid hn; clear hn
  have HC := Lib.hid hcap; clear hcap
  have HL := Lib.hid hl; clear hl
  go_enter Tryz.func91, Tryz.ntmps91
  go_wp2
  go_loopg [4, 10] (xs.length) (fun k s i wr => ∃ (q n : Nat), s = .int .i64 q ∧ q ≤ 65536 ∧ i = .int .i64 n ∧ n ≤ xs.length ∧ k = xs.length - n ∧ Hid (q = (cat (xs.take n)).length) ∧ wr = w)
  case atStart => exact ⟨0, 0, rfl, by omega, rfl, Nat.zero_le _, rfl, rfl, rfl⟩
  case round =>
    obtain ⟨q, n, rfl, hq, rfl, hnl, rfl, HQ, rfl⟩ := hrel
    by_cases hlt : n < xs.length
    · obtain ⟨bk, o, rfl, _, hx⟩ := HS.out n _ (List.getElem?_eq_getElem hlt)
      have hsum : q + xs[n].size ≤ 65536 := by
        have h1 := cat_take_len xs (n + 1)
        rw [cat_take xs n hlt, List.length_append, ← HQ.out, lst_length] at h1
        have := HL.out
        omega
      have H2 : Hid (q + xs[n].size = (cat (xs.take (n + 1))).length) := by
        show _ = _
        rw [cat_take xs n hlt, List.length_append, ← HQ.out, lst_length]
      generalize hxx : xs[n] = x at hx hsum H2
      clear hxx
      go_wp2
      go_roundg (xs.length - (n + 1))
      case measure => omega
      case rel => exact ⟨q + x.size, n + 1, by go_num, by omega, by go_num, by omega, rfl, H2, rfl⟩
    · have hq2 : Hid (q = (cat xs).length) := by
        show _ = _
        rw [HQ.out, List.take_of_length_le (by omega)]
      go_wp2_with fail
      refine (length_any q hq _).mono ?_
      rintro e w1 ⟨h, rfl, hh, k1⟩
      have HH := Lib.hid hh; clear hh
      go_wp2_with fail
      refine (join_any a c xs _ (HS.out.ext k1) hN HC.out (by have := HL.out; omega)).mono ?_
      rintro e w2 ⟨j, rfl, hj, k2⟩
      have hhs : h.size ≤ 4 := by rw [← lst_length, HH.out]; exact Nat.le_refl 4
      have hjs : j.size ≤ 65536 := by rw [← lst_length, hj]; exact HL.out
      have HJ := Lib.hid hj; clear hj
      go_wp2_with fail
      obtain ⟨y, hy⟩ : ∃ y, h ++ j = y := ⟨_, rfl⟩
      rw [hy]
      have hys : y.size ≤ 65540 := by rw [← hy, ByteArray.size_append]; omega
      have HY : Hid (lst y = be4 (cat xs).length ++ cat xs) := by
        show _ = _
        rw [← hy, lst_append, HH.out, HJ.out, hq2.out]
      clear hy
      have k3 := (k1.trans k2).alloc (.cells #[.string y] 9)
      refine (of_any (some ⟨w2.heap.size, 0, none⟩) 1 [y] (by simp) (by simp; omega) _ (StrsAt.one w2 y _) (HN.out.ext k3)).mono ?_
      rintro e w3 ⟨rfl, k4⟩
      have k5 := k3.trans k4
      generalize hs : crc (cat [y]) = s
      have HSS := Lib.hid hs; clear hs
      go_wp2_with fail
      refine (ends_any s _).mono ?_
      rintro e w4 ⟨g, rfl, hg, k6⟩
      have hgs : g.size ≤ 8 := by rw [← lst_length, hg, le_length]; exact Nat.le_refl 8
      have HG := Lib.hid hg; clear hg
      go_wp2_with fail
      go_ret2
      refine ⟨_, rfl, ?_, k5.trans k6⟩
      rw [lst_append, HG.out, ← HSS.out]
      show _ = sealed (be4 (cat xs).length ++ cat xs)
      rw [← HY.out]
      unfold sealed
      rw [show cat [y] = lst y by simp [cat]]

set_option maxHeartbeats 400000 in
/-- seal.Frame: of more bytes than may be. -/
theorem frame_long (a : Option Addr) (c : Nat) (xs : List ByteArray) (hN : xs.length ≤ 140737488355328) (hM : ∀ x ∈ xs, x.size ≤ 9223372036854775807) (w : World)
    (hs : StrsAt w a xs) (hl : 65536 < (cat xs).length) :
    Calls Tryz.prog 91 #[.slice a xs.length c] w fun e w' => e = .returned (.tuple #[.string ⟨#[]⟩, .bool false]) ∧ w' = w := by
  have HS := Lib.hid hs; clear hs
  have HL := Lib.hid hl; clear hl
  have HM := Lib.hid hM; clear hM
  go_enter Tryz.func91, Tryz.ntmps91
  go_wp2
  go_loopg [4, 10] (xs.length) (fun k s i wr => ∃ (q n : Nat), s = .int .i64 q ∧ q ≤ 65536 ∧ i = .int .i64 n ∧ n ≤ xs.length ∧ k = xs.length - n ∧ Hid (q = (cat (xs.take n)).length) ∧ wr = w)
  case atStart => exact ⟨0, 0, rfl, by omega, rfl, Nat.zero_le _, rfl, rfl, rfl⟩
  case round =>
    obtain ⟨q, n, rfl, hq, rfl, hnl, rfl, HQ, rfl⟩ := hrel
    by_cases hlt : n < xs.length
    · obtain ⟨bk, o, rfl, _, hx⟩ := HS.out n _ (List.getElem?_eq_getElem hlt)
      have hxm := HM.out _ (List.getElem_mem hlt)
      have H2 : Hid (q + xs[n].size = (cat (xs.take (n + 1))).length) := by
        show _ = _
        rw [cat_take xs n hlt, List.length_append, ← HQ.out, lst_length]
      generalize hxx : xs[n] = x at hx hxm H2
      clear hxx
      by_cases hsum : q + x.size ≤ 65536
      · go_wp2
        go_roundg (xs.length - (n + 1))
        case measure => omega
        case rel => exact ⟨q + x.size, n + 1, by go_num, by omega, by go_num, by omega, rfl, H2, rfl⟩
      · go_wp2
        go_ret2
        exact ⟨rfl, rfl⟩
    · exfalso
      have h1 := HQ.out
      rw [List.take_of_length_le (by omega)] at h1
      have := HL.out
      omega
end Go.Proofs.YtmdkjcigmhgpeaaGreatDoor
