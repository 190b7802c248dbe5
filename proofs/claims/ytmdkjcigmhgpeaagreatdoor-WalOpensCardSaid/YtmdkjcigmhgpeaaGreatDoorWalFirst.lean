/- Wal's number of a segment's file. -/
import Derived.Test.YtmdkjcigmhgpeaaGreatDoorWalSegment
import Derived.Test.YtmdkjcigmhgpeaaGreatDoorWalParse
namespace Go.Proofs.YtmdkjcigmhgpeaaGreatDoor
open Go.RowKit Snp SealMath Wal

/-! ### plain: what is left of a segment's file without its front and its noughts -/
def stripL (name file : List UInt8) : List UInt8 := Lib.trimLeftB (Lib.trimPrefix file (name ++ [46])) 48
theorem drop_noughts (k : Nat) (l : List UInt8) : (List.replicate k 48 ++ l).dropWhile (· == (48 : UInt8)) = l.dropWhile (· == (48 : UInt8)) := by
  induction k with
  | zero => rfl
  | succ k ih => rw [List.replicate_succ, List.cons_append, List.dropWhile_cons, if_pos (by decide), ih]
theorem decF_digs (f : Nat) : ∀ n, digs (decF f n) := by
  induction f with
  | zero => intro n c hc; simp [decF] at hc
  | succ f ih =>
    intro n c hc
    unfold decF at hc
    split at hc
    · simp at hc
    · rcases List.mem_append.1 hc with hc | hc
      · exact ih _ c hc
      · rw [List.mem_singleton.1 hc, digit_toNat _ (by omega)]; omega
theorem decF_head (f : Nat) : ∀ n, 0 < n → n < 10 ^ f → ∃ c r, decF f n = c :: r ∧ c ≠ 48 := by
  induction f with
  | zero => intro n h1 h2; simp at h2; omega
  | succ f ih =>
    intro n h1 h2
    unfold decF
    rw [if_neg (by omega)]
    by_cases h0 : n / 10 = 0
    · have e : decF f (n / 10) = [] := by rw [h0]; cases f <;> simp [decF]
      rw [e]
      refine ⟨_, [], rfl, fun e => ?_⟩
      have := congrArg UInt8.toNat e
      rw [digit_toNat _ (by omega)] at this
      have e48 : (48 : UInt8).toNat = 48 := rfl
      omega
    · obtain ⟨c, r, e, hc⟩ := ih (n / 10) (by omega) (by rw [Nat.pow_succ] at h2; omega)
      rw [e]
      exact ⟨c, r ++ [UInt8.ofNat (48 + n % 10)], rfl, hc⟩
theorem strip_seg (name : List UInt8) (m : Nat) (hm : m ≤ 99999999) : stripL name (segL name m) = if m = 0 then [] else decF 20 m := by
  have h1 : Lib.trimPrefix (segL name m) (name ++ [46]) = dec8 m := by
    have e : segL name m = (name ++ [46]) ++ dec8 m := by simp [segL]
    unfold Lib.trimPrefix Lib.hasPrefix
    rw [e]
    simp
  unfold stripL Lib.trimLeftB
  rw [h1]
  unfold dec8
  rw [drop_noughts]
  by_cases h0 : m = 0
  · subst h0; rfl
  · rw [if_neg h0]
    unfold dec
    rw [if_neg h0]
    obtain ⟨c, r, e, hc⟩ := decF_head 20 m (by omega) (by omega)
    rw [e, List.dropWhile_cons, if_neg (by simpa using hc)]
theorem strip_le (name file : List UInt8) : (stripL name file).length ≤ file.length := by
  unfold stripL Lib.trimLeftB
  have h1 := (List.dropWhile_sublist (p := (· == (48 : UInt8))) (l := Lib.trimPrefix file (name ++ [46]))).length_le
  have h2 := Lib.trimPrefix_le file (name ++ [46])
  omega
/-- What first must tell. -/
def FirstDone (name file : ByteArray) (w : World) (e : Ending) (w' : World) : Prop :=
  ∃ (n : Int) (y : Bool), e = .returned (.tuple #[.int .i64 n, .bool y]) ∧ (∀ k, numOf name file = some k → n = k ∧ y = true) ∧ (y = true → (numOf name file).isSome = true) ∧ Ext w w'
set_option maxRecDepth 20000 in
set_option maxHeartbeats 4000000 in
theorem first_any (b : Nat) (name : ByteArray) (hname : name.size ≤ 6) (file : ByteArray) (hf : file.size ≤ 20) (w : World) (hc : w.cell? ⟨b, 5, none⟩ = some (.string name)) :
    Calls Tryz.prog 136 #[.pointer (some ⟨b, 0, none⟩), .string file] w (FirstDone name file w) := by
  obtain ⟨fr, HFR⟩ : ∃ fr, Hid (name ++ (⟨#[46]⟩ : ByteArray) = fr) := ⟨_, rfl⟩
  have hfr : fr.size ≤ 7 := by rw [← HFR.out, ByteArray.size_append]; show _ + 1 ≤ _; omega
  have hs1 : ∀ u, (Op.stringOp .add name ⟨#[46]⟩).run Tryz.prog u = .ok (.string fr) u := fun u => by
    rw [← HFR.out]; exact run_string_add_sum _ _ _ (by show _ + 1 ≤ _; omega)
  have hp : ∀ u, Calls Tryz.prog 166 #[.string file, .string fr] u fun e w' => e = .returned (.string ⟨(Lib.trimPrefix file.data.toList fr.data.toList).toArray⟩) ∧ w' = u := fun u => Tryz.strings_TrimPrefix file fr u
  generalize hq : (⟨(Lib.trimPrefix file.data.toList fr.data.toList).toArray⟩ : ByteArray) = q at hp
  have ht : ∀ u, Calls Tryz.prog 165 #[.string q, .string ⟨#[48]⟩] u fun e w' => e = .returned (.string ⟨(Lib.trimLeftB q.data.toList 48).toArray⟩) ∧ w' = u := fun u => Tryz.strings_TrimLeft_one q 48 (by decide) u
  generalize hr : (⟨(Lib.trimLeftB q.data.toList 48).toArray⟩ : ByteArray) = r at ht
  have HST : Hid (lst r = stripL (lst name) (lst file)) := by
    show _ = _
    rw [← hr, ← hq, ← HFR.out]
    unfold stripL
    show Lib.trimLeftB (Lib.trimPrefix (lst file) (lst (name ++ (⟨#[46]⟩ : ByteArray)))) 48 = _
    rw [lst_append]
  have hr20 : r.size ≤ 20 := by
    rw [← lst_length, HST.out]
    have := strip_le (lst name) (lst file)
    rw [lst_length] at this
    omega
  clear hq hr
  have HP := Lib.hid hp
  have HT := Lib.hid ht
  clear hp ht
  go_enter Tryz.func136, Tryz.ntmps136
  go_wp2_with fail
  refine (HP.out _).mono ?_
  rintro e w1 ⟨rfl, rfl⟩
  go_wp2_with fail
  refine (HT.out _).mono ?_
  rintro e w2 ⟨rfl, rfl⟩
  have hcall := parse_any r (by omega) w2
  go_wp2_with fail
  refine hcall.mono ?_
  clear hcall
  rintro e w3 ⟨⟨v, k, rfl, hv1, hv2, hv3⟩, hx⟩
  have HX := Lib.hid hx
  have c1 := Ext.cell hx hc
  have HV := Lib.hid hv3
  clear hx hv3 HP HT
  -- what a segment's file comes to
  have HK : Hid (∀ m, numOf name file = some m → (r = ⟨#[]⟩ ∧ m = 0) ∨ (¬ r = ⟨#[]⟩ ∧ v = m ∧ k = 0)) := by
    intro m hm
    obtain ⟨hm1, rfl⟩ := numOf_some.1 hm
    have h1 := HST.out
    rw [lst_seg, strip_seg _ _ hm1] at h1
    by_cases h0 : m = 0
    · rw [if_pos h0] at h1
      exact .inl ⟨lst_inj h1, h0⟩
    · rw [if_neg h0] at h1
      obtain ⟨c, r', e1, e2⟩ := decF_head 20 m (by omega) (by omega)
      have hne : lst r ≠ [] := by rw [h1, e1]; simp
      obtain ⟨a1, a2⟩ := HV.out hne (by rw [h1]; exact decF_digs 20 m) (by rw [h1, e1]; simpa using e2) (by rw [lst_length]; have := decF_len 20 m 8 (by omega); rw [← h1, lst_length] at this; omega)
      refine .inr ⟨fun e => hne (congrArg lst e), ?_, a2⟩
      rw [a1, h1, valL_decF 20 m (by omega)]
  have HN : Hid (∀ m, m ≤ 99999999 → file = seg name m → numOf name file = some m) := fun m h1 h2 => numOf_some.2 ⟨h1, h2⟩
  clear HV HST
  by_cases hre : r = ⟨#[]⟩
  · subst hre
    have hcall := segment_any b name hname 0 (by omega) w3 c1
    by_cases heq : seg name 0 = file
    · have HM := Lib.hid (HN.out 0 (by omega) heq.symm)
      rw [heq] at hcall
      clear heq
      go_wp2_with fail
      refine hcall.mono ?_
      clear hcall
      rintro e w4 ⟨rfl, hx⟩
      have HX2 := Lib.hid (HX.out.trans hx); clear hx
      go_wp2_with fail
      go_ret2
      refine ⟨0, true, rfl, fun m hm => ?_, fun _ => by rw [HM.out]; rfl, HX2.out⟩
      rw [HM.out] at hm
      have := Option.some.inj hm
      exact ⟨by rw [← this]; rfl, rfl⟩
    · have hb1 : ((seg name 0).toList == file.toList) = false := by
        rw [beq_eq_false_iff_ne, ByteArray.toList_eq, ByteArray.toList_eq]
        exact fun h => heq (lst_inj h)
      have hb2 : ((seg name 0).toList = file.toList) = False := eq_false (by
        rw [ByteArray.toList_eq, ByteArray.toList_eq]
        exact fun h => heq (lst_inj h))
      have HM : Hid (∀ m, numOf name file = some m → False) := fun m hm => by
        rcases HK.out m hm with ⟨_, rfl⟩ | ⟨h, _⟩
        · exact heq ((numOf_some.1 hm).2).symm
        · exact h rfl
      clear heq
      generalize seg name 0 = sg at hcall hb1 hb2
      go_wp2_with fail
      refine hcall.mono ?_
      clear hcall
      rintro e w4 ⟨rfl, hx⟩
      have HX2 := Lib.hid (HX.out.trans hx); clear hx
      go_wp2_with fail
      go_ret2
      exact ⟨0, false, rfl, fun m hm => (HM.out m hm).elim, (fun h => by cases h), HX2.out⟩
  · have hb1 : (r.toList == []) = false := by
      rw [beq_eq_false_iff_ne, ByteArray.toList_eq]
      exact fun h => hre (lst_inj h)
    have hb2 : (r.toList = []) = False := eq_false (by
      rw [ByteArray.toList_eq]
      exact fun h => hre (lst_inj h))
    have hb3 : r.toList.isEmpty = false := by simp [hb2]
    have HK2 : Hid (∀ m, numOf name file = some m → v = m ∧ k = 0) := fun m hm => by
      rcases HK.out m hm with ⟨h, _⟩ | ⟨_, h⟩
      · exact absurd h hre
      · exact h
    clear hre HK
    by_cases hk : k = 0
    · subst hk
      by_cases hlo : v < 0
      · have HM : Hid (∀ m, numOf name file = some m → False) := fun m hm => by have := (HK2.out m hm).1; omega
        go_wp2_with fail
        go_ret2
        exact ⟨v, false, rfl, fun m hm => (HM.out m hm).elim, (fun h => by cases h), HX.out⟩
      · by_cases hhi : 99999999 < v
        · have HM : Hid (∀ m, numOf name file = some m → False) := fun m hm => by
            have := (HK2.out m hm).1
            have := (numOf_some.1 hm).1
            omega
          go_wp2_with fail
          go_ret2
          exact ⟨v, false, rfl, fun m hm => (HM.out m hm).elim, (fun h => by cases h), HX.out⟩
        · obtain ⟨n, rfl⟩ := Int.eq_ofNat_of_zero_le (show 0 ≤ v by omega)
          have hn : n ≤ 99999999 := by omega
          have hcall := segment_any b name hname n hn w3 c1
          by_cases heq : seg name n = file
          · have HM := Lib.hid (HN.out n hn heq.symm)
            rw [heq] at hcall
            clear heq
            go_wp2_with fail
            refine hcall.mono ?_
            clear hcall
            rintro e w4 ⟨rfl, hx⟩
            have HX2 := Lib.hid (HX.out.trans hx); clear hx
            go_wp2_with fail
            go_ret2
            refine ⟨n, true, rfl, fun m hm => ?_, fun _ => by rw [HM.out]; rfl, HX2.out⟩
            rw [HM.out] at hm
            have := Option.some.inj hm
            exact ⟨by rw [← this], rfl⟩
          · have hd1 : ((seg name n).toList == file.toList) = false := by
              rw [beq_eq_false_iff_ne, ByteArray.toList_eq, ByteArray.toList_eq]
              exact fun h => heq (lst_inj h)
            have hd2 : ((seg name n).toList = file.toList) = False := eq_false (by
              rw [ByteArray.toList_eq, ByteArray.toList_eq]
              exact fun h => heq (lst_inj h))
            have HM : Hid (∀ m, numOf name file = some m → False) := fun m hm => by
              have h1 := (HK2.out m hm).1
              have h2 : n = m := by omega
              subst h2
              exact heq ((numOf_some.1 hm).2).symm
            clear heq
            generalize seg name n = sg at hcall hd1 hd2
            go_wp2_with fail
            refine hcall.mono ?_
            clear hcall
            rintro e w4 ⟨rfl, hx⟩
            have HX2 := Lib.hid (HX.out.trans hx); clear hx
            go_wp2_with fail
            go_ret2
            exact ⟨n, false, rfl, fun m hm => (HM.out m hm).elim, (fun h => by cases h), HX2.out⟩
    · have hk1 : ((k : Int) == 0) = false := by rw [beq_eq_false_iff_ne]; omega
      have HM : Hid (∀ m, numOf name file = some m → False) := fun m hm => hk (HK2.out m hm).2
      clear hk
      go_wp2_with fail
      go_ret2
      exact ⟨v, false, rfl, fun m hm => (HM.out m hm).elim, (fun h => by cases h), HX.out⟩
end Go.Proofs.YtmdkjcigmhgpeaaGreatDoor
