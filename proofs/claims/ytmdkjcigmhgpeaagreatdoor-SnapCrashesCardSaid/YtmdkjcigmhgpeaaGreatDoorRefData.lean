/- The walk of the document's Data. -/
import Derived.Test.YtmdkjcigmhgpeaaGreatDoorRefMarked
namespace Go.Proofs.YtmdkjcigmhgpeaaGreatDoor
open Go.RowKit Snp SealMath

theorem allF_flat (f : Nat) (s : List UInt8) (hf : s.length ≤ f) : (allL s).1.flatten.length ≤ s.length := by
  induction f generalizing s with
  | zero =>
    have : s = [] := List.eq_nil_of_length_eq_zero (by omega)
    subst this; simp [allL_nil]
  | succ f ih =>
    by_cases h0 : s = []
    · subst h0; simp [allL_nil]
    rcases ho : openL s with ⟨d, n, y⟩
    by_cases hy : y = 0
    · subst hy
      obtain ⟨h1, h2, h3⟩ := openL_le s d n ho
      rw [allL_whole s d n ho]
      have := ih (s.drop n) (by simp; omega)
      simp at this ⊢; omega
    · rw [allL_stop s (by rw [ho]; exact hy) h0]; simp
def DataDone (n : Nat) (s : ByteArray) (w : World) (e : Ending) (w' : World) : Prop :=
  ∃ (d : ByteArray) (b : Bool), e = .returned (.tuple #[.string d, .bool b]) ∧ b = (dataOf n (lst s)).isSome ∧ (∀ x, dataOf n (lst s) = some x → lst d = x) ∧ Ext w w'
set_option maxRecDepth 20000 in
set_option maxHeartbeats 1000000 in
theorem rdata_any (n : Nat) (hn : n ≤ 99999999) (s : ByteArray) (hs : s.size ≤ 4000) (w : World) :
    Calls Tryz.prog 27 #[.int .i64 (n : Nat), .string s] w (DataDone n s w) := by
  have hcall := refall_any s (by omega) w
  go_enter Tryz.func27, Tryz.ntmps27
  go_wp2_with fail
  refine hcall.mono ?_
  clear hcall
  rintro e w1 ⟨l, a, c, p, y, rfl, ha, hst, hc, hp, hx⟩
  have HX := Lib.hid hx
  have HA := Lib.hid ha
  have hlB : l.length ≤ 4000 := by omega
  clear hx hp hc
  by_cases hy : y = 0
  · subst hy
    by_cases hl : l.length = 0
    · have hno : dataOf n (lst s) = none := by
        unfold dataOf
        rw [ha, if_neg (by rintro ⟨_, h⟩; exact h (by rw [List.eq_nil_of_length_eq_zero hl]; rfl))]
      have HL := Lib.hid hno
      have hl2 : ((l.length : Int) == 0) = true := by rw [beq_iff_eq]; omega
      clear hst ha hno hl
      go_wp2_with fail
      go_ret2
      exact ⟨⟨#[]⟩, false, rfl, by rw [HL.out]; rfl, (fun k h => by rw [HL.out] at h; cases h), HX.out⟩
    · have hl2 : ((l.length : Int) == 0) = false := by rw [beq_eq_false_iff_ne]; omega
      have hd : dataOf n (lst s) = if (l.map lst).tail.flatten.length ≤ 960000 ∧ fileL n (l.map lst).tail.flatten = lst s then some (l.map lst).tail.flatten else none := by
        unfold dataOf
        rw [ha, if_pos ⟨rfl, by intro h; apply hl; simpa using congrArg List.length h⟩]
      have hflat : (l.map lst).flatten.length ≤ s.size := by
        have := allF_flat _ (lst s) (Nat.le_refl _)
        rw [ha, lst_length] at this; exact this
      have HD := Lib.hid hd
      have hl1 : 1 ≤ l.length := by omega
      have HF := Lib.hid (And.intro hs hflat)
      have HT : ∀ j, Hid (((l.map lst).tail.take j).flatten.length ≤ 4000) := fun j => by
        have h1 : ((l.map lst).tail.take j).flatten.length + ((l.map lst).tail.drop j).flatten.length = (l.map lst).tail.flatten.length := by
          rw [← List.length_append, ← List.flatten_append, List.take_append_drop]
        have h2 : (l.map lst).tail.flatten.length ≤ (l.map lst).flatten.length := by
          cases l with
          | nil => exact Nat.le_refl _
          | cons x l => simp
        show _ ≤ _
        omega
      clear hd hflat ha hl
      have HST := Lib.hid hst
      clear hst
      go_wp2_with fail
      go_loopg [9, 10] (l.length - 1) (fun g v i wr => ∃ (r : ByteArray) (j : Nat), v = .string r ∧ i = .int .i64 j ∧ 1 ≤ j ∧ j ≤ l.length ∧ g = l.length - j ∧ r.size ≤ 4000 ∧ Hid (lst r = ((l.map lst).tail.take (j - 1)).flatten) ∧ w1 = wr)
      case atStart => exact ⟨⟨#[]⟩, 1, rfl, rfl, Nat.le_refl _, hl1, rfl, (by show 0 ≤ 4000; omega), rfl, rfl⟩
      case round =>
        obtain ⟨r, j, rfl, rfl, hj1, hj, rfl, hr, HR, rfl⟩ := hrel
        by_cases hlt : j < l.length
        · obtain ⟨bk, o, rfl, _, hcell⟩ := HST.out j _ (List.getElem?_eq_getElem hlt)
          have hlt2 : (j : Int) < (l.length : Int) := by omega
          have HN : Hid (lst (r ++ l[j]) = ((l.map lst).tail.take j).flatten) := by
            show _ = _
            have e1 : (l.map lst).tail.take j = (l.map lst).tail.take (j - 1) ++ [lst l[j]] := by
              have h1 : (l.map lst).tail[j - 1]? = some (lst l[j]) := by
                rw [List.getElem?_tail, show j - 1 + 1 = j by omega, List.getElem?_map, List.getElem?_eq_getElem hlt]; rfl
              have h2 := List.take_add_one (l := (l.map lst).tail) (i := j - 1)
              rw [show j - 1 + 1 = j by omega, h1] at h2
              exact h2
            rw [e1, List.flatten_append, ← HR.out, lst_append]; simp
          have hsz : (r ++ l[j]).size ≤ 4000 := by rw [← lst_length, HN.out]; exact (HT j).out
          have hxs : l[j].size ≤ 4000 := by rw [ByteArray.size_append] at hsz; omega
          generalize l[j] = x at hcell HN hsz hxs
          go_wp2_with fail
          go_roundg (l.length - (j + 1))
          case measure => omega
          case rel => exact ⟨r ++ x, j + 1, rfl, by go_num, by omega, by omega, rfl, hsz, HN, rfl⟩
        · have ej : j = l.length := by omega
          have hlt2 : ¬ (j : Int) < (l.length : Int) := by omega
          have HR2 : Hid (lst r = (l.map lst).tail.flatten) := by
            show _ = _
            rw [HR.out, List.take_of_length_le (by simp; omega)]
          have hle : (r.size : Int) ≤ 960000 := by omega
          have hcall := rfile_any n hn r (by omega) w1
          have HFL : Hid (lst (bts (fileL n (lst r))) = fileL n (l.map lst).tail.flatten) := by
            show _ = _
            rw [lst_bts, HR2.out]
          have HD2 : Hid (dataOf n (lst s) = if fileL n (l.map lst).tail.flatten = lst s then some (l.map lst).tail.flatten else none) := by
            show _ = _
            have h4 : (l.map lst).tail.flatten.length ≤ 960000 := by rw [← HR2.out, lst_length]; omega
            rw [HD.out]
            simp only [h4, true_and]
          generalize bts (fileL n (lst r)) = q at hcall HFL
          clear HD HT ej
          by_cases heq : fileL n (l.map lst).tail.flatten = lst s
          · have hqs : q = s := lst_inj (by rw [HFL.out, heq])
            have hb1 : (q.toList == s.toList) = true := by rw [hqs]; simp
            have hb2 : (q.toList = s.toList) = True := by rw [hqs]; simp
            have HD3 : Hid (dataOf n (lst s) = some (lst r)) := by
              show _ = _
              rw [HD2.out, if_pos heq, HR2.out]
            clear heq hqs
            go_wp2_with fail
            refine hcall.mono ?_
            clear hcall
            rintro e w2 ⟨rfl, hx⟩
            have HX2 := Lib.hid (Ext.trans HX.out hx)
            clear hx
            go_wp2_with fail
            go_ret2
            exact ⟨r, true, rfl, by rw [HD3.out]; rfl, (fun k h => by rw [HD3.out] at h; injection h), HX2.out⟩
          · have hne : ¬ lst q = lst s := fun e => heq (by rw [← HFL.out, e])
            have hb1 : (q.toList == s.toList) = false := by
              rw [beq_eq_false_iff_ne, ByteArray.toList_eq, ByteArray.toList_eq]
              exact hne
            have hb2 : (q.toList = s.toList) = False := eq_false (by
              rw [ByteArray.toList_eq, ByteArray.toList_eq]
              exact hne)
            have HD3 : Hid (dataOf n (lst s) = none) := by
              show _ = _
              rw [HD2.out, if_neg heq]
            clear heq hne
            go_wp2_with fail
            refine hcall.mono ?_
            clear hcall
            rintro e w2 ⟨rfl, hx⟩
            have HX2 := Lib.hid (Ext.trans HX.out hx)
            clear hx
            go_wp2_with fail
            go_ret2
            exact ⟨r, false, rfl, by rw [HD3.out]; rfl, (fun k h => by rw [HD3.out] at h; cases h), HX2.out⟩
  · have hy2 : ((y : Int) != 0) = true := by rw [bne_iff_ne]; omega
    have HY := Lib.hid hy
    clear hst ha hy
    go_wp2_with fail
    go_ret2
    have hno : dataOf n (lst s) = none := by
      unfold dataOf
      rw [HA.out, if_neg (by simp; exact fun e => absurd e HY.out)]
    exact ⟨⟨#[]⟩, false, rfl, by rw [hno]; rfl, (fun k h => by rw [hno] at h; cases h), HX.out⟩
end Go.Proofs.YtmdkjcigmhgpeaaGreatDoor
