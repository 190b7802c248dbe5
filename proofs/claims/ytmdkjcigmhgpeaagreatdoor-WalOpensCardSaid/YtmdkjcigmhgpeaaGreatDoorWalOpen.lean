/- The walk of wal.Open. -/
import Derived.Test.YtmdkjcigmhgpeaaGreatDoorWalLoad
import Derived.Test.YtmdkjcigmhgpeaaGreatDoorWalLeaf
namespace Go.Proofs.YtmdkjcigmhgpeaaGreatDoor
open Go.RowKit Snp SealMath Dsk Wal

/-- What Open answers and leaves: a log in a block of its own, over a disk that has no part in it, nor in the records. -/
def ODone (d : Nat) (name : ByteArray) (F : Nat → Prop) (R : Nat × List RC × LG × DS) (w : World) (e : Ending) (w' : World) : Prop :=
  ∃ p v, e = .returned (.tuple #[.pointer p, v, .int .i64 (R.1 : Nat)]) ∧ OwnRecs w' w.heap.size v R.2.1 ∧
    (R.1 = 0 → ∃ b, p = some ⟨b, 0, none⟩ ∧ w.heap.size ≤ b ∧ LogAt w' b d name R.2.2.1 ∧
      ∃ G, DiskAt w' d R.2.2.2 G ∧ (∀ x, G x → (F x ∧ x < w.heap.size) ∨ w.heap.size ≤ x) ∧ ¬ G b ∧ (∀ g, v.ownBlock = some g → ¬ G g ∧ g ≠ b)) ∧
    (R.1 ≠ 0 → p = none ∧ v = .slice none 0 0) ∧ Only F w w'
theorem right_size {s : ByteArray} (h : rightB (lst s) = true) : 1 ≤ s.size ∧ s.size ≤ 6 := by
  unfold rightB at h
  simp only [Bool.and_eq_true, decide_eq_true_eq, lst_length] at h
  exact ⟨h.1.1, h.1.2⟩
theorem loadL_bad (name : ByteArray) (S : DS) : ∀ (ns : List Nat) (out : List RC) (L : LG), (loadL name S ns out L).1 ≠ 0 → (loadL name S ns out L).2.1 = []
  | [], _, _, h => absurd rfl h
  | [n], out, L, h => by
    rw [loadL_one] at h ⊢
    exact if_neg h
  | n :: m :: r, out, L, h => by
    rw [loadL_more] at h ⊢
    split at h
    · rename_i hc
      rw [if_pos hc]
      exact loadL_bad name S (m :: r) _ _ h
    · rename_i hc
      rw [if_neg hc]
theorem lopen_nil (name : ByteArray) (first : Int) (w : World) :
    Calls Tryz.prog 37 #[.pointer none, .string name, .int .i64 first] w fun e w' => e = .returned (.tuple #[.pointer none, .slice none 0 0, .int .i64 1]) ∧ Ext w w' := by
  go_enter Tryz.func37, Tryz.ntmps37
  go_wp2_with fail
  go_ret3
  exact ⟨rfl, Ext.refl _⟩
theorem lopen_bad (d : Nat) (name : ByteArray) (hs : name.size ≤ 9223372036854775807) (first : Int) (hb : rightB (lst name) = false ∨ first < 0 ∨ 99999999 < first) (w : World) :
    Calls Tryz.prog 37 #[.pointer (some ⟨d, 0, none⟩), .string name, .int .i64 first] w fun e w' => e = .returned (.tuple #[.pointer none, .slice none 0 0, .int .i64 1]) ∧ Ext w w' := by
  have hcall := right_any name hs w
  generalize rightB (lst name) = r at hcall hb
  cases r with
  | false =>
    go_enter Tryz.func37, Tryz.ntmps37
    go_wp2_with fail
    refine hcall.mono ?_
    clear hcall
    rintro e w1 ⟨rfl, hx⟩
    have HX := Lib.hid hx; clear hx
    go_wp2_with fail
    go_ret3
    exact ⟨rfl, HX.out⟩
  | true =>
    by_cases h0 : first < 0
    · clear hb
      go_enter Tryz.func37, Tryz.ntmps37
      go_wp2_with fail
      refine hcall.mono ?_
      clear hcall
      rintro e w1 ⟨rfl, hx⟩
      have HX := Lib.hid hx; clear hx
      go_wp2_with fail
      go_ret3
      exact ⟨rfl, HX.out⟩
    · have h1 : (99999999 : Int) < first := by
        rcases hb with hb | hb | hb
        · cases hb
        · exact absurd hb h0
        · exact hb
      clear hb
      go_enter Tryz.func37, Tryz.ntmps37
      go_wp2_with fail
      refine hcall.mono ?_
      clear hcall
      rintro e w1 ⟨rfl, hx⟩
      have HX := Lib.hid hx; clear hx
      go_wp2_with fail
      go_ret3
      exact ⟨rfl, HX.out⟩
/-- Of a disk that is off. -/
theorem lopen_off (d : Nat) (name : ByteArray) (hr : rightB (lst name) = true) (first : Nat) (hf : first ≤ 99999999) (S : DS) (F : Nat → Prop) (ho : S.off = true) (w : World) (h : DiskAt w d S F) :
    Calls Tryz.prog 37 #[.pointer (some ⟨d, 0, none⟩), .string name, .int .i64 (first : Nat)] w fun e w' => e = .returned (.tuple #[.pointer none, .slice none 0 0, .int .i64 7]) ∧ Ext w w' := by
  obtain ⟨hs1, hs2⟩ := right_size hr
  have hcall := right_any name (by omega) w
  rw [hr] at hcall
  have hf0 : ¬ ((first : Nat) : Int) < 0 := by omega
  have hf1 : ¬ (99999999 : Int) < ((first : Nat) : Int) := by omega
  have hon : ∀ u, Ext w u → Calls Tryz.prog 51 #[.pointer (some ⟨d, 0, none⟩)] u fun e w' => e = .returned (.bool false) ∧ u = w' := fun u k => by
    have := on_any d S F u (h.ext k)
    rw [ho] at this
    exact this
  have HON := Lib.hid hon
  clear hf h hon
  go_enter Tryz.func37, Tryz.ntmps37
  go_wp2_with fail
  refine hcall.mono ?_
  clear hcall
  rintro e w1 ⟨rfl, hx⟩
  have HX := Lib.hid hx
  go_wp2_with fail
  refine (HON.out w1 hx).mono ?_
  rintro e w2 ⟨rfl, rfl⟩
  clear hx
  go_wp2_with fail
  go_ret3
  exact ⟨rfl, HX.out⟩
set_option maxRecDepth 20000 in
set_option maxHeartbeats 4000000 in
theorem lopen_any (d : Nat) (name : ByteArray) (hr : rightB (lst name) = true) (first : Nat) (hf : first ≤ 99999999) (S : DS) (F : Nat → Prop) (ho : S.off = false) (hu : S.uses + 10 < 4611686018427387904) (w : World) (h : DiskAt w d S F) (hnb : Nibs w) (hFn : ¬ F 0) :
    Calls Tryz.prog 37 #[.pointer (some ⟨d, 0, none⟩), .string name, .int .i64 (first : Nat)] w (ODone d name F (openW S name first) w) := by
  obtain ⟨hs1, hs2⟩ := right_size hr
  have hcall := right_any name (by omega) w
  rw [hr] at hcall
  have hf0 : ¬ ((first : Nat) : Int) < 0 := by omega
  have hf1 : ¬ (99999999 : Int) < ((first : Nat) : Int) := by omega
  have hon : ∀ u, Ext w u → Calls Tryz.prog 51 #[.pointer (some ⟨d, 0, none⟩)] u fun e w' => e = .returned (.bool true) ∧ u = w' := fun u k => by
    have := on_any d S F u (h.ext k)
    rw [ho] at this
    exact this
  have HON := Lib.hid hon
  have HF1 := Lib.hid hf
  have HD := Lib.hid h
  have HNB := Lib.hid hnb
  have HFN := Lib.hid hFn
  have HU := Lib.hid hu
  have HR : Hid (openW S name first = ((loadL name S (segs S name) [] (emptyL first)).1, (loadL name S (segs S name) [] (emptyL first)).2.1,
    { (loadL name S (segs S name) [] (emptyL first)).2.2.1 with safe := (loadL name S (segs S name) [] (emptyL first)).2.2.1.next }, (loadL name S (segs S name) [] (emptyL first)).2.2.2)) := rfl
  clear hf hon h hnb hFn hu
  go_enter Tryz.func37, Tryz.ntmps37
  go_wp2_with fail
  refine hcall.mono ?_
  clear hcall
  rintro e w1 ⟨rfl, hx⟩
  have HX := Lib.hid hx
  go_wp2_with fail
  refine (HON.out w1 hx).mono ?_
  rintro e w2 ⟨rfl, rfl⟩
  clear hx
  go_wp2_with fail
  have hsz : w.heap.size ≤ w1.heap.size := HX.out.size
  have hnlt : 0 < w.heap.size := cell_lt (HNB.out 0 (by omega))
  obtain ⟨W, hW⟩ : ∃ u, u = w1.alloc (.cells #[.string ⟨#[]⟩, .int .i64 0, .int .i64 (first : Nat), .bool false, .pointer (some ⟨d, 0, none⟩), .string name, .int .i64 0, .int .i64 0] 132) := ⟨_, rfl⟩
  have hxW : Ext w W := by rw [hW]; exact HX.out.alloc _
  have hzW : W.heap.size = w1.heap.size + 1 := by rw [hW]; simp
  have hlog : LogAt W w1.heap.size d name (emptyL first) := by rw [hW]; exact heap_alloc_new w1 _
  have hload := lload_any w1.heap.size d name hs2 (emptyL first) S (fun x => F x ∧ x < w.heap.size) ho HU.out W ((disk_small HD.out).ext hxW) hlog (fun k => by have := k.2; omega) (HNB.out.ext hxW) (fun k => HFN.out k.1) (by omega)
  have HBAD := Lib.hid (loadL_bad name S (segs S name) [] (emptyL first))
  generalize loadL name S (segs S name) [] (emptyL first) = R at hload HR HBAD
  obtain ⟨re, rl, RL, RT⟩ := R
  rw [← hW]
  refine hload.mono ?_
  clear hload
  rintro e w3 ⟨v, L, rfl, hown, hl3, hle, ⟨G, hG1, hG2, hG3⟩, ho3⟩
  simp only at hown hle hG1
  have hgb : ∀ g, v.ownBlock = some g → W.heap.size ≤ g := fun g hg => (OwnRecs.lt hown g hg).1
  obtain ⟨av, cv, rfl, _, _, _⟩ := hown.form
  have HO : Hid (Only F w w3) := (Only.ext hxW).trans (ho3.mono (fun x _ k => by
    rcases k with k | k
    · exact .inl k.1
    · exact .inr (by omega)))
  have HOW : Hid (OwnRecs w3 w.heap.size (.slice av rl.length cv) rl) := hown.base (by omega)
  by_cases hre : re = 0
  · subst hre
    obtain rfl := hle rfl
    have c2 := hl3.c2
    have c6 := hl3.c6
    have q6 := hl3.free 6
    have HL3 := Lib.hid hl3
    have HZ : Hid (W.heap.size = w1.heap.size + 1 ∧ w.heap.size ≤ w1.heap.size) := ⟨hzW, hsz⟩
    have HG1 := Lib.hid hG1
    have HG2 := Lib.hid hG2
    have HG3 := Lib.hid hG3
    have HGB := Lib.hid hgb
    clear hG1 hG2 hG3 hgb hl3 ho3 hown hle hxW hlog hzW hsz
    go_wp2_with fail
    go_ret3
    have hnb : ¬ G w1.heap.size := fun k => by
      have h1 := HZ.out
      rcases HG2.out _ k with ⟨k1, _⟩ | k1
      · have := k1.2; omega
      · omega
    have hob : Only (fun x => x = w1.heap.size) w3 (w3.setCell ⟨w1.heap.size, 6, none⟩ (.int .i64 (L.next : Nat))) := (Only.refl _ w3).at _ _
    rw [HR.out]
    refine ⟨some ⟨w1.heap.size, 0, none⟩, _, rfl, ?_, fun _ => ⟨w1.heap.size, rfl, HZ.out.2, ?_, G, ?_, ?_, hnb, ?_⟩, fun k => absurd rfl k, ?_⟩
    · exact HOW.out.only hob (fun g hg e => by have := HGB.out g hg; have := HZ.out; omega)
    · have := Go.Joins.block_setCell (i := 6) HL3.out (.int .i64 (L.next : Nat))
      simpa [LogAt, lcells] using this
    · exact HG1.out.only hob (fun x hx e => hnb (e ▸ hx))
    · intro x hx
      have := HZ.out
      rcases HG2.out x hx with ⟨k1, _⟩ | k1
      · exact .inl k1
      · exact .inr (by omega)
    · intro g hg
      refine ⟨HG3.out g hg, ?_⟩
      have := HGB.out g hg; have := HZ.out; omega
    · exact HO.out.trans (hob.mono (fun x _ e => .inr (by have := HZ.out; omega)))
  · have hre2 : ((re : Int) != 0) = true := by rw [bne_iff_ne]; omega
    have HRE := Lib.hid hre
    clear hG1 hG2 hG3 hgb hl3 ho3 hown hle hxW hlog hzW hsz hre
    go_wp2_with fail
    go_ret3
    rw [HR.out]
    refine ⟨none, _, rfl, ?_, fun k => absurd k HRE.out, fun _ => ⟨rfl, rfl⟩, HO.out⟩
    have e : rl = [] := HBAD.out HRE.out
    subst e
    exact OwnRecs.nil _ _
end Go.Proofs.YtmdkjcigmhgpeaaGreatDoor
