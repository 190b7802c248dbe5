/- DiskKeeps: what was synced is there behind any crash: the plain law, and the walk. -/
import Derived.Test.YtmdkjcigmhgpeaaDiskAwake
namespace Go.Proofs.Ytmdkjcigmhgpeaa
open Go.RowKit Go.Maps Dsk

def nF : ByteArray := ⟨#[102]⟩
theorem cats_one (a : ByteArray) : cats [a] = a := lst_inj (by rw [lst_cats]; simp)
theorem empty_app (a : ByteArray) : (⟨#[]⟩ : ByteArray) ++ a = a := lst_inj (by rw [lst_append]; rfl)
def kS (u : Nat) (x : ByteArray) (k : Nat) : DS := ⟨false, false, 0, u, 1000, [⟨nF, x, k⟩]⟩
theorem get_kS (u : Nat) (x : ByteArray) (k : Nat) : get (kS u x k).files nF = some ⟨nF, x, k⟩ := by simp [Dsk.get, kS, FD.key]
theorem put_kS (u : Nat) (x y : ByteArray) (k j : Nat) : put ⟨nF, y, j⟩ (kS u x k).files = [⟨nF, y, j⟩] := by simp [put, drop, kS, FD.key, ins]
theorem begin_kS (u : Nat) (x : ByteArray) (k : Nat) : Dsk.begin (kS u x k) [nF] = (0, kS (u + 1) x k) := by
  have : may nF = true := by decide
  simp [Dsk.begin, use, kS, this]
theorem keeps1 (a : ByteArray) (h : a.size ≤ 300) : append (new 1000) nF [a] = (0, kS 1 a 0) := by
  have h1 : Dsk.begin (new 1000) [nF] = (0, ⟨false, false, 0, 1, 1000, []⟩) := by
    have : may nF = true := by decide
    simp [Dsk.begin, use, new, this]
  have h2 : (use (new 1000)).2 = ⟨false, false, 0, 1, 1000, []⟩ := by rw [← begin_snd (new 1000) [nF], h1]
  unfold append
  rw [h1, h2]
  have h3 : get (new 1000).files nF = none := rfl
  simp only [h3, Option.getD_none, cats_one, empty_app, if_true]
  have h4 : fits ⟨false, false, 0, 1, 1000, []⟩ nF ((⟨#[]⟩ : ByteArray).size + a.size) (⟨#[]⟩ : ByteArray).size = 0 := by
    unfold fits
    have e0 : (⟨#[]⟩ : ByteArray).size = 0 := rfl
    rw [e0]
    rw [if_neg (by simp; omega), if_neg (by simp [used]; omega)]
  rw [if_neg (by show ¬ 1048576 < 0 + a.size; omega), h4, if_pos rfl]
  rfl
theorem keeps2 (a : ByteArray) : sync (kS 1 a 0) [nF] = (0, kS 2 a a.size) := by
  have h1 : there (kS 1 a 0) [nF] = (0, kS 2 a 0) := by
    unfold Dsk.there
    rw [begin_kS, ← begin_snd (kS 1 a 0) [nF], begin_kS]
    simp [get_kS]
  unfold Dsk.sync
  rw [h1, ← there_snd (kS 1 a 0) [nF], h1, if_pos rfl]
  simp [kS, files, keepOne, FD.key]
theorem keeps3 (a b : ByteArray) (ha : a.size ≤ 300) (hb : b.size ≤ 300) : append (kS 2 a a.size) nF [b] = (0, kS 3 (a ++ b) a.size) := by
  unfold append
  rw [begin_kS, ← begin_snd (kS 2 a a.size) [nF], begin_kS]
  simp only [get_kS, Option.getD_some, cats_one, if_true]
  have h4 : fits (kS 3 a a.size) nF (a.size + b.size) a.size = 0 := by
    unfold fits
    rw [get_kS]
    rw [if_neg (by simp; omega), if_neg (by simp [used, kS]; omega)]
  rw [if_neg (by omega), h4, if_pos rfl, put_kS]
  rfl
theorem crash_kS (u : Nat) (x : ByteArray) (k : Nat) (j : Int) : crash (kS u x k) [j] = kS u (takeB x (k + min j.toNat (x.size - k))) (k + min j.toNat (x.size - k)) := rfl
theorem read_kS (u : Nat) (x : ByteArray) (k : Nat) : Dsk.read (kS u x k) nF = (x, 0) := by
  unfold Dsk.read
  rw [get_kS]; rfl
theorem used_kS (u : Nat) (x : ByteArray) (k : Nat) : used (kS u x k).files = x.size := by simp [used, kS]
theorem takeB_all (x : ByteArray) (n : Nat) (h : x.size ≤ n) : takeB x n = x := lst_inj (by
  show ((lst x).take n).toArray.toList = _
  rw [List.take_of_length_le (by rw [lst_length]; exact h)])
theorem takeB_app (a b : ByteArray) (n : Nat) : takeB (a ++ b) (a.size + n) = a ++ takeB b n := lst_inj (by
  show ((lst (a ++ b)).take (a.size + n)).toArray.toList = _
  rw [lst_append, lst_append, ← lst_length a, List.take_append]
  simp [takeB, lst]
  exact List.take_of_length_le (by show a.data.toList.length ≤ _; have := lst_length a; unfold lst at this; omega))
/-- Behind the crashes. -/
def keepN (b : ByteArray) (k : Int) : Nat := min k.toNat b.size
theorem keeps4 (a b : ByteArray) (k : Int) : crash (kS 3 (a ++ b) a.size) [k] = kS 3 (a ++ takeB b (keepN b k)) (a.size + keepN b k) := by
  rw [crash_kS]
  have e : (a ++ b).size - a.size = b.size := by rw [ByteArray.size_append]; omega
  rw [e, takeB_app]; rfl
theorem keeps5 (a b : ByteArray) (k : Int) : crash (kS 3 (a ++ takeB b (keepN b k)) (a.size + keepN b k)) [1000] = kS 3 (a ++ takeB b (keepN b k)) (a.size + keepN b k) := by
  rw [crash_kS]
  have hs : (takeB b (keepN b k)).size = keepN b k := takeB_size b _ (by unfold keepN; omega)
  have e : (a ++ takeB b (keepN b k)).size - (a.size + keepN b k) = 0 := by rw [ByteArray.size_append, hs]; omega
  rw [e]
  have e2 : a.size + keepN b k + min (1000 : Int).toNat 0 = a.size + keepN b k := by simp
  rw [e2, takeB_all _ _ (by rw [ByteArray.size_append, hs]; exact Nat.le_refl _)]

set_option maxHeartbeats 1000000 in
theorem diskkeeps_any (a b : ByteArray) (k : Int) (hk : -9223372036854775808 ≤ k ∧ k ≤ 9223372036854775807) (ha : a.size ≤ 9223372036854775807) (hb : b.size ≤ 9223372036854775807) (w : World) :
    Calls Try.prog 4 #[.string a, .string b, .int .i64 k] w fun e w' => e = .returned (.bool true) ∧ Ext w w' := by
  go_enter Try.func4, Try.ntmps4
  by_cases h1 : 300 < a.size
  · have h1' : (300 : Int) < (a.size : Int) := by omega
    go_wp2_with fail
    refine (awake06_any w).mono ?_
    rintro e w1 ⟨rfl, hx⟩
    go_wp2_with fail
    go_ret
    exact ⟨rfl, hx⟩
  by_cases h2 : 300 < b.size
  · have h2' : (300 : Int) < (b.size : Int) := by omega
    have h1' : ¬ (300 : Int) < (a.size : Int) := by omega
    go_wp2_with fail
    refine (awake06_any w).mono ?_
    rintro e w1 ⟨rfl, hx⟩
    go_wp2_with fail
    go_ret
    exact ⟨rfl, hx⟩
  have h1' : ¬ (300 : Int) < (a.size : Int) := by omega
  have h2' : ¬ (300 : Int) < (b.size : Int) := by omega
  go_wp2_with fail
  refine (awake06_any w).mono ?_
  rintro e w1 ⟨rfl, hx⟩
  have H1 := Lib.hid hx; clear hx
  go_wp2_with fail
  refine (new_held 1000 (by decide) w1).mono ?_
  rintro e w2 ⟨d, rfl, hd, hx⟩
  have H2 := Lib.hid (And.intro hd hx); clear hd hx
  go_wp2_with fail
  refine (append_held w1.heap.size d (new 1000) nF _ _ [a] (by decide) (by simp) (by simp; omega) (by decide) w2 H2.out.1 H2.out.2.size (StrsAt.one w2 _ _)).mono ?_
  rintro e w3 ⟨rfl, hd, hb3⟩
  rw [keeps1 a (by omega)] at hd ⊢
  have H3 := Lib.hid (And.intro hd (Below.trans H2.out.2 hb3)); clear hd hb3 H2
  go_wp2_with fail
  refine (sync_held w1.heap.size d _ _ _ [nF] (by decide) (by simp; decide) (by show 1 < _; decide) w3 H3.out.1 H3.out.2.size (StrsAt.one w3 _ _)).mono ?_
  rintro e w4 ⟨rfl, hd, hb4⟩
  rw [keeps2 a] at hd ⊢
  have H4 := Lib.hid (And.intro hd (Below.trans H3.out.2 hb4)); clear hd hb4 H3
  go_wp2_with fail
  refine (append_held w1.heap.size d _ nF _ _ [b] (by decide) (by simp) (by simp; omega) (by show 2 < _; decide) w4 H4.out.1 H4.out.2.size (StrsAt.one w4 _ _)).mono ?_
  rintro e w5 ⟨rfl, hd, hb5⟩
  rw [keeps3 a b (by omega) (by omega)] at hd ⊢
  have H5 := Lib.hid (And.intro hd (Below.trans H4.out.2 hb5)); clear hd hb5 H4
  go_wp2_with fail
  refine (crash_held w1.heap.size d _ k hk _ w5 H5.out.1 H5.out.2.size).mono ?_
  rintro e w6 ⟨rfl, hd, hb6⟩
  rw [keeps4 a b k] at hd
  have H6 := Lib.hid (And.intro hd (Below.trans H5.out.2 hb6)); clear hd hb6 H5
  go_wp2_with fail
  obtain ⟨n, hn⟩ : ∃ n, n = keepN b k := ⟨_, rfl⟩
  have hnb : n ≤ b.size := by rw [hn]; unfold keepN; omega
  have hni : min (max k 0) (b.size : Int) = (n : Int) := by rw [hn]; unfold keepN; omega
  have h5 := keeps5 a b k
  have h6 := H6.out
  rw [← hn] at h5 h6
  have hts := takeB_size b n hnb
  have hex : b.extract 0 n = takeB b n := extract_take b n
  generalize takeB b n = x at h5 h6 hts hex
  have hxs : x.size ≤ 300 := by omega
  have HH6 := Lib.hid h6
  have HH5 := Lib.hid h5
  have HTS := Lib.hid hts
  clear h5 h6 hts hn H6
  refine (read_any d _ _ nF (by decide) w6 HH6.out.1).mono ?_
  rintro e w7 ⟨rfl, rfl⟩
  rw [read_kS]
  go_wp2_with fail
  refine (crash_held w1.heap.size d _ 1000 (by decide) _ w6 HH6.out.1 HH6.out.2.size).mono ?_
  rintro e w8 ⟨rfl, hd, hb8⟩
  rw [HH5.out] at hd
  have H8 := Lib.hid (And.intro hd (Below.trans HH6.out.2 hb8)); clear hd hb8 HH6
  go_wp2_with fail
  refine (read_any d _ _ nF (by decide) w8 H8.out.1).mono ?_
  rintro e w9 ⟨rfl, rfl⟩
  rw [read_kS]
  go_wp2_with fail
  refine (used_any d _ _ w8 H8.out.1).mono ?_
  rintro e w9 ⟨rfl, hx9⟩
  rw [used_kS]
  have H9 := Lib.hid (H8.out.2.trans (Below.mono hx9 H8.out.2.size)); clear hx9
  go_wp2_with fail
  go_ret
  exact ⟨rfl, H1.out.trans H9.out⟩
end Go.Proofs.Ytmdkjcigmhgpeaa
