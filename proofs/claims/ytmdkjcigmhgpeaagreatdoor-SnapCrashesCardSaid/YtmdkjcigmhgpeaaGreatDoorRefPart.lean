/- The walks of the document's Part: numbers taken from bytes; Marked, Data. -/
import Derived.Test.YtmdkjcigmhgpeaaGreatDoorRefFile
namespace Go.Proofs.YtmdkjcigmhgpeaaGreatDoor
open Go.RowKit Snp SealMath

def PAt (w : World) (b : Nat) (s : ByteArray) (bad : Bool) : Prop := w.heap[b]? = some (.cells #[.string s, .bool bad] 126 (0, 0))
theorem PAt.c0 {w : World} {b : Nat} {s : ByteArray} {bad : Bool} (h : PAt w b s bad) : w.cell? ⟨b, 0, none⟩ = some (.string s) := cell_of_row _ _ _ _ _ _ h
theorem PAt.c1 {w : World} {b : Nat} {s : ByteArray} {bad : Bool} (h : PAt w b s bad) : w.cell? ⟨b, 1, none⟩ = some (.bool bad) := cell_of_row _ _ _ _ _ _ h
theorem PAt.f {w : World} {b : Nat} {s : ByteArray} {bad : Bool} (h : PAt w b s bad) (i : Nat) : w.frozen? ⟨b, i, none⟩ = false := frozen_row h i
theorem PAt.ext {w w' : World} {b : Nat} {s : ByteArray} {bad : Bool} (h : PAt w b s bad) (k : Ext w w') : PAt w' b s bad := (k.block b (Array.getElem?_eq_some_iff.1 h).1).trans h
theorem pcut_no (b : Nat) (s : ByteArray) (bad : Bool) (k : Nat) (hk : bad = true ∨ s.size < k) (w : World) (h : PAt w b s bad) :
    Calls Tryz.prog 154 #[.pointer (some ⟨b, 0, none⟩), .int .i64 (k : Nat)] w fun e w' => e = .returned (.string ⟨#[]⟩) ∧ PAt w' b s true ∧ Only (fun x => x = b) w w' := by
  have c0 := h.c0
  have c1 := h.c1
  have f1 := h.f 1
  have H := Lib.hid h
  clear h
  cases bad with
  | true =>
    clear hk
    go_enter Tryz.func154, Tryz.ntmps154
    go_wp2_with fail
    go_ret
    refine ⟨rfl, ?_, Only.setCell (F := fun x => x = b) (Only.refl _ w) (.inl rfl) 1 _⟩
    show (World.setCell _ _ _).heap[b]? = _
    rw [setCell_heap H.out (j := 1) _]; rfl
  | false =>
    have hk2 : (s.size : Int) < (k : Int) := by
      rcases hk with h | h
      · cases h
      · omega
    clear hk
    go_enter Tryz.func154, Tryz.ntmps154
    go_wp2_with fail
    go_ret
    refine ⟨rfl, ?_, Only.setCell (F := fun x => x = b) (Only.refl _ w) (.inl rfl) 1 _⟩
    show (World.setCell _ _ _).heap[b]? = _
    rw [setCell_heap H.out (j := 1) _]; rfl
theorem pcut_ok (b : Nat) (s : ByteArray) (k : Nat) (hk : k ≤ s.size) (w : World) (h : PAt w b s false) :
    Calls Tryz.prog 154 #[.pointer (some ⟨b, 0, none⟩), .int .i64 (k : Nat)] w fun e w' => e = .returned (.string (s.extract 0 k)) ∧ PAt w' b (s.extract k s.size) false ∧ Only (fun x => x = b) w w' := by
  have c0 := h.c0
  have c1 := h.c1
  have f0 := h.f 0
  have H := Lib.hid h
  clear h
  have hk2 : ¬ (s.size : Int) < (k : Int) := by omega
  have hk3 : (k : Int) ≤ (s.size : Int) := by omega
  go_enter Tryz.func154, Tryz.ntmps154
  go_wp2_with fail
  go_ret
  refine ⟨rfl, ?_, Only.setCell (F := fun x => x = b) (Only.refl _ w) (.inl rfl) 0 _⟩
  show (World.setCell _ _ _).heap[b]? = _
  rw [setCell_heap H.out (j := 0) _]; rfl
theorem lst_head (s : ByteArray) (k : Nat) : lst (s.extract 0 k) = (lst s).take k := by rw [extract_take]
theorem lst_tail (s : ByteArray) (k : Nat) : lst (s.extract k s.size) = (lst s).drop k := by
  rw [show lst (s.extract k s.size) = (s.extract k s.size).data.toList from rfl, Lib.extract_data, List.take_of_length_le (by simp)]
/-- What is left behind a number's taking. -/
def PNum (b : Nat) (x : List UInt8) (w : World) (e : Ending) (w' : World) : Prop :=
  e = .returned (.int .u64 ((numR (some x)).1 : Nat)) ∧ (∃ s bad, PAt w' b s bad ∧ bad = (numR (some x)).2.isNone ∧ (∀ r, (numR (some x)).2 = some r → lst s = r)) ∧ Only (fun x => x = b) w w'
theorem PNum.no {b : Nat} {x : List UInt8} {w w' : World} {s : ByteArray} (h : readN x = none) (hp : PAt w' b s true) (ho : Only (fun x => x = b) w w') : PNum b x w (.returned (.int .u64 0)) w' := by
  have e := numR_no h
  exact ⟨by rw [e]; rfl, ⟨s, true, hp, by rw [e]; rfl, by rw [e]; intro r h; cases h⟩, ho⟩
set_option maxRecDepth 20000 in
set_option maxHeartbeats 1000000 in
theorem pnumber_none (b : Nat) (x : ByteArray) (hx : x.size = 0) (w : World) (h : PAt w b x false) :
    Calls Tryz.prog 126 #[.pointer (some ⟨b, 0, none⟩)] w (PNum b (lst x) w) := by
  have hcall := pcut_no b x false 1 (.inr (by omega)) w h
  have HR : Hid (readN (lst x) = none) := by
    have : lst x = [] := List.eq_nil_of_length_eq_zero (by rw [lst_length]; exact hx)
    show _ = _
    rw [this]; rfl
  clear h
  go_enter Tryz.func126, Tryz.ntmps126
  go_wp2_with fail
  refine hcall.mono ?_
  clear hcall
  rintro e w1 ⟨rfl, hp, ho⟩
  have c1 := hp.c1
  have f1 := hp.f 1
  have HP := Lib.hid hp
  have HO := Lib.hid ho
  clear hp ho
  go_wp2_with fail
  go_ret
  refine PNum.no HR.out (s := x) ?_ (HO.out.andThen (Only.setCell (F := fun x => x = b) (Only.refl _ w1) (.inl rfl) 1 _))
  show (World.setCell _ _ _).heap[b]? = _
  rw [setCell_heap HP.out (j := 1) _]; rfl
theorem head_one {x : ByteArray} {c : UInt8} {r : List UInt8} (h : lst x = c :: r) : (x.extract 0 1).size = 1 ∧ ∀ h0 : 0 < (x.extract 0 1).size, (x.extract 0 1)[0] = c := by
  have h1 : lst (x.extract 0 1) = [c] := by rw [lst_head, h]; rfl
  have h2 : (x.extract 0 1).size = 1 := by rw [← lst_length, h1]; rfl
  refine ⟨h2, fun h0 => ?_⟩
  have h3 : (lst (x.extract 0 1))[0]? = some c := by rw [h1]; rfl
  have h4 := (List.getElem?_eq_some_iff.1 h3).2
  exact h4
set_option maxRecDepth 20000 in
set_option maxHeartbeats 1000000 in
theorem pnumber_long (b : Nat) (x : ByteArray) (c : UInt8) (r : List UInt8) (hx : lst x = c :: r) (hc : 8 < c.toNat) (w : World) (h : PAt w b x false) :
    Calls Tryz.prog 126 #[.pointer (some ⟨b, 0, none⟩)] w (PNum b (lst x) w) := by
  have hsz : 1 ≤ x.size := by rw [← lst_length, hx]; simp
  have hcall := pcut_ok b x 1 hsz w h
  have HR : Hid (readN (lst x) = none) := by
    show _ = _
    rw [hx, readN_cons, if_pos (.inl hc)]
  obtain ⟨hz1, hz2⟩ := head_one hx
  generalize x.extract 0 1 = z at hcall hz1 hz2
  generalize x.extract 1 x.size = y at hcall
  have hz0 : 0 < z.size := by omega
  have hzc := hz2 hz0
  have hc2 : (8 : Int) < (z[0].toNat : Int) := by rw [hzc]; omega
  clear h hx hzc hz2
  go_enter Tryz.func126, Tryz.ntmps126
  go_wp2_with fail
  refine hcall.mono ?_
  clear hcall
  rintro e w1 ⟨rfl, hp, ho⟩
  have c1 := hp.c1
  have f1 := hp.f 1
  have HP := Lib.hid hp
  have HO := Lib.hid ho
  clear hp ho
  go_wp2_with fail
  go_ret
  refine PNum.no HR.out (s := y) ?_ (HO.out.andThen (Only.setCell (F := fun x => x = b) (Only.refl _ w1) (.inl rfl) 1 _))
  show (World.setCell _ _ _).heap[b]? = _
  rw [setCell_heap HP.out (j := 1) _]; rfl

set_option maxRecDepth 20000 in
set_option maxHeartbeats 1000000 in
theorem pnumber_short (b : Nat) (x : ByteArray) (c : UInt8) (r : List UInt8) (hx : lst x = c :: r) (hc : ¬ 8 < c.toNat) (hr : r.length < c.toNat) (w : World) (h : PAt w b x false) :
    Calls Tryz.prog 126 #[.pointer (some ⟨b, 0, none⟩)] w (PNum b (lst x) w) := by
  have hsz : 1 ≤ x.size := by rw [← lst_length, hx]; simp
  have hcall := pcut_ok b x 1 hsz w h
  have HR : Hid (readN (lst x) = none) := by
    show _ = _
    rw [hx, readN_cons, if_pos (.inr (.inl hr))]
  obtain ⟨hz1, hz2⟩ := head_one hx
  have hy : lst (x.extract 1 x.size) = r := by rw [lst_tail, hx]; rfl
  have hys : (x.extract 1 x.size).size < c.toNat := by rw [← lst_length, hy]; exact hr
  generalize x.extract 0 1 = z at hcall hz1 hz2
  generalize x.extract 1 x.size = y at hcall hy hys
  have hz0 : 0 < z.size := by omega
  have hzc := hz2 hz0
  have hc2 : ¬ (8 : Int) < (z[0].toNat : Int) := by rw [hzc]; omega
  have hz8 := z[0].toNat_lt
  have HZ : Hid (z[0].toNat = c.toNat) := by rw [hzc]; rfl
  clear h hx hz2
  go_enter Tryz.func126, Tryz.ntmps126
  go_wp2_with fail
  refine hcall.mono ?_
  clear hcall
  rintro e w1 ⟨rfl, hp, ho⟩
  have c1 := hp.c1
  have hcall := pcut_no b y false c.toNat (.inr hys) w1 hp
  have HO := Lib.hid ho
  clear hp ho
  go_wp2_with fail
  refine hcall.mono ?_
  clear hcall
  rintro e w2 ⟨rfl, hp, ho⟩
  have c1 := hp.c1
  have HP := Lib.hid hp
  have HO2 := Lib.hid (HO.out.andThen ho)
  clear hp ho
  go_wp2_with fail
  go_loopg [5, 6] 0 (fun g n i wr => n = .int .u64 0 ∧ i = .int .i64 0 ∧ g = 0 ∧ w2 = wr)
  case atStart => exact ⟨rfl, rfl, rfl, rfl⟩
  case round =>
    obtain ⟨rfl, rfl, rfl, rfl⟩ := hrel
    go_wp2_with fail
    go_ret
    exact PNum.no HR.out (s := y) HP.out HO2.out

theorem numL_valB (c : UInt8) (t : List UInt8) (hl : t.length = c.toNat) (hc : c.toNat ≤ 8) : numL (valB t) = c :: t ↔ t.head? ≠ some 0 := by
  constructor
  · intro h
    have h2 : be (valB t) = t := by
      unfold numL at h
      injection h
    rw [← h2]
    exact be_head _ (valB_lt8 t (by omega))
  · intro h
    unfold numL
    rw [be_valB t h (by omega), hl, UInt8.ofNat_toNat]
set_option maxRecDepth 20000 in
set_option maxHeartbeats 1000000 in
theorem pnumber_full (b : Nat) (x : ByteArray) (c : UInt8) (r : List UInt8) (hx : lst x = c :: r) (hc : ¬ 8 < c.toNat) (hr : ¬ r.length < c.toNat) (w : World) (h : PAt w b x false) :
    Calls Tryz.prog 126 #[.pointer (some ⟨b, 0, none⟩)] w (PNum b (lst x) w) := by
  have hsz : 1 ≤ x.size := by rw [← lst_length, hx]; simp
  have hcall := pcut_ok b x 1 hsz w h
  have HXX := Lib.hid hx
  obtain ⟨hz1, hz2⟩ := head_one hx
  have HZL : Hid (lst (x.extract 0 1) = [c]) := by
    show _ = _
    rw [lst_head, hx]; rfl
  have hy : lst (x.extract 1 x.size) = r := by rw [lst_tail, hx]; rfl
  have hys : c.toNat ≤ (x.extract 1 x.size).size := by rw [← lst_length, hy]; omega
  generalize x.extract 0 1 = z at hcall hz1 hz2 HZL
  generalize x.extract 1 x.size = y at hcall hy hys
  have hz0 : 0 < z.size := by omega
  have hzc := hz2 hz0
  have hc2 : ¬ (8 : Int) < (z[0].toNat : Int) := by rw [hzc]; omega
  have hz8 := z[0].toNat_lt
  have HZ : Hid (z[0].toNat = c.toNat) := by rw [hzc]; rfl
  have HY := Lib.hid hy
  clear h hx hz2 hy
  go_enter Tryz.func126, Tryz.ntmps126
  go_wp2_with fail
  refine hcall.mono ?_
  clear hcall
  rintro e w1 ⟨rfl, hp, ho⟩
  have c1 := hp.c1
  have hcall := pcut_ok b y c.toNat hys w1 hp
  have HO := Lib.hid ho
  clear hp ho
  have HTL : Hid (lst (y.extract 0 c.toNat) = r.take c.toNat) := by
    show _ = _
    rw [lst_head, HY.out]
  have HVL : Hid (lst (y.extract c.toNat y.size) = r.drop c.toNat) := by
    show _ = _
    rw [lst_tail, HY.out]
  have htz : (y.extract 0 c.toNat).size = c.toNat := by rw [← lst_length, HTL.out]; simp; omega
  generalize y.extract 0 c.toNat = t at hcall HTL htz
  generalize y.extract c.toNat y.size = v at hcall HVL
  go_wp2_with fail
  refine hcall.mono ?_
  clear hcall
  rintro e w2 ⟨rfl, hp, ho⟩
  have c1 := hp.c1
  have f1 := hp.f 1
  have HP := Lib.hid hp
  have HO2 := Lib.hid (HO.out.andThen ho)
  clear hp ho
  have ht8 : t.size ≤ 8 := by omega
  go_wp2_with fail
  go_loopg [5, 6] 9 (fun g n i wr => ∃ j m : Nat, n = .int .u64 m ∧ i = .int .i64 j ∧ j ≤ t.size ∧ g = 9 - j ∧ Hid (m = valB ((lst t).take j)) ∧ w2 = wr)
  case atStart => exact ⟨0, 0, rfl, rfl, Nat.zero_le _, rfl, rfl, rfl⟩
  case round =>
    obtain ⟨j, m, rfl, rfl, hj, rfl, HM, rfl⟩ := hrel
    by_cases hlt : j < t.size
    · have hm : m < 72057594037927936 := by
        have h1 := valB_lt ((lst t).take j) 7 (by simp; omega)
        rw [HM.out]; simpa using h1
      have HT : Hid (valB ((lst t).take (j + 1)) = 256 * valB ((lst t).take j) + t[j].toNat) := by
        show _ = _
        have := bytes_take t j hlt
        rw [show (lst t).take (j + 1) = (lst t).take j ++ [t[j]] from this, valB_snoc]
      have ht := t[j].toNat_lt
      have hlt2 : (j : Int) < (t.size : Int) := by omega
      go_wp2_with fail
      go_roundg (9 - (j + 1))
      case measure => omega
      case rel => exact ⟨j + 1, 256 * m + t[j].toNat, by go_num, by go_num, by omega, rfl, (show Hid _ from by
        show _ = _
        rw [HT.out, ← HM.out]), rfl⟩
    · have ej : j = t.size := by omega
      have hmm : m = valB (lst t) := by
        rw [HM.out, ej, ← lst_length, List.take_length]
      have hlt2 : ¬ (j : Int) < (t.size : Int) := by omega
      have hm64 : m < 18446744073709551616 := by rw [hmm]; exact valB_lt8 _ (by rw [lst_length]; exact ht8)
      have hcall := num4_any m hm64 w2
      have hzt : (z ++ t).size ≤ 9 := by rw [ByteArray.size_append]; omega
      have HZT : Hid (lst (z ++ t) = c :: lst t) := by
        show _ = _
        rw [lst_append, HZL.out]; rfl
      have HNL : Hid (lst (bts (numL m)) = numL (valB (lst t))) := by
        show _ = _
        rw [lst_bts, hmm]
      have HTT : Hid ((lst t).length = c.toNat) := by
        show _ = _
        rw [lst_length]; exact htz
      have HMM := Lib.hid hmm
      clear hmm ej HM
      generalize bts (numL m) = q at hcall HNL
      by_cases hhd : (lst t).head? = some 0
      · have hne : ¬ q = z ++ t := fun e => by
          have h2 := (numL_valB c (lst t) HTT.out (by omega)).1 (by rw [← HNL.out, e, HZT.out])
          exact h2 hhd
        have hb1 : (q.toList == (z ++ t).toList) = false := by
          rw [beq_eq_false_iff_ne, ByteArray.toList_eq, ByteArray.toList_eq]
          exact fun h => hne (lst_inj h)
        have hb2 : (q.toList = (z ++ t).toList) = False := eq_false (by
          rw [ByteArray.toList_eq, ByteArray.toList_eq]
          exact fun h => hne (lst_inj h))
        have HR : Hid (readN (lst x) = none) := by
          show _ = _
          rw [HXX.out, readN_cons, if_pos (.inr (.inr (by rw [← HTL.out]; exact hhd)))]
        clear hne hhd
        go_wp2_with fail
        refine hcall.mono ?_
        clear hcall
        rintro e w3 ⟨rfl, hx3⟩
        have HX3 := Lib.hid hx3
        have hp3 := PAt.ext HP.out hx3
        have c1 := hp3.c1
        have f1 := hp3.f 1
        have HP3 := Lib.hid hp3
        clear hx3 hp3
        go_wp2_with fail
        go_ret
        refine PNum.no HR.out (s := v) ?_ ((HO2.out.andThen (Only.ext HX3.out)).andThen (Only.setCell (F := fun x => x = b) (Only.refl _ w3) (.inl rfl) 1 _))
        show (World.setCell _ _ _).heap[b]? = _
        rw [setCell_heap HP3.out (j := 1) _]; rfl
      · have heq : q = z ++ t := lst_inj (by
          rw [HNL.out, HZT.out]
          exact (numL_valB c (lst t) HTT.out (by omega)).2 hhd)
        have HR : Hid (readN (lst x) = some (valB (lst t), r.drop c.toNat)) := by
          show _ = _
          rw [HXX.out, readN_cons, if_neg (by
            rintro (h | h | h)
            · exact hc h
            · exact hr h
            · rw [← HTL.out] at h; exact hhd h), HTL.out]
        have hb1 : (q.toList == (z ++ t).toList) = true := by rw [heq]; simp
        have hb2 : (q.toList = (z ++ t).toList) = True := by rw [heq]; simp
        clear heq hhd
        go_wp2_with fail
        refine hcall.mono ?_
        clear hcall
        rintro e w3 ⟨rfl, hx3⟩
        have HX3 := Lib.hid hx3
        have hp3 := PAt.ext HP.out hx3
        have c1 := hp3.c1
        have HP3 := Lib.hid hp3
        clear hx3 hp3
        go_wp2_with fail
        go_ret
        have en := numR_yes HR.out
        refine ⟨?_, ⟨v, false, HP3.out, by rw [en]; rfl, ?_⟩, HO2.out.andThen (Only.ext HX3.out)⟩
        · rw [en, ← HMM.out]; rfl
        · rw [en]
          intro r' hr'
          injection hr' with hr'
          rw [← hr']; exact HVL.out
end Go.Proofs.YtmdkjcigmhgpeaaGreatDoor
