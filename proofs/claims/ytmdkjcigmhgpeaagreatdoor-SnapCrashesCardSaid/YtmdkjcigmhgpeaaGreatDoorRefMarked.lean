/- The walks of the document's Part.Size, Marked, Data. -/
import Derived.Test.YtmdkjcigmhgpeaaGreatDoorRefPart
namespace Go.Proofs.YtmdkjcigmhgpeaaGreatDoor
open Go.RowKit Snp SealMath

theorem pnumber_any (b : Nat) (x : ByteArray) (w : World) (h : PAt w b x false) :
    Calls Tryz.prog 126 #[.pointer (some ⟨b, 0, none⟩)] w (PNum b (lst x) w) := by
  by_cases h0 : x.size = 0
  · exact pnumber_none b x h0 w h
  obtain ⟨c, r, hx⟩ : ∃ c r, lst x = c :: r := by
    cases hl : lst x with
    | nil => exact absurd (by rw [← lst_length, hl]; rfl) h0
    | cons c r => exact ⟨c, r, rfl⟩
  by_cases h1 : 8 < c.toNat
  · exact pnumber_long b x c r hx h1 w h
  by_cases h2 : r.length < c.toNat
  · exact pnumber_short b x c r hx h1 h2 w h
  · exact pnumber_full b x c r hx h1 h2 w h
/-- What is left behind a Size. -/
def PRes (b : Nat) (q : Nat × Option (List UInt8)) (w : World) (e : Ending) (w' : World) : Prop :=
  e = .returned (.int .i64 (q.1 : Nat)) ∧ (∃ s bad, PAt w' b s bad ∧ bad = q.2.isNone ∧ (∀ r, q.2 = some r → lst s = r)) ∧ Only (fun x => x = b) w w'
theorem PRes.bad {b : Nat} {w w' : World} {s : ByteArray} (n : Nat) (hp : PAt w' b s true) (ho : Only (fun x => x = b) w w') : PRes b (n, none) w (.returned (.int .i64 (n : Nat))) w' :=
  ⟨rfl, ⟨s, true, hp, rfl, by intro r hr; cases hr⟩, ho⟩
theorem PRes.good {b : Nat} {w w' : World} {s : ByteArray} (n : Nat) (r : List UInt8) (hp : PAt w' b s false) (hr : lst s = r) (ho : Only (fun x => x = b) w w') : PRes b (n, some r) w (.returned (.int .i64 (n : Nat))) w' :=
  ⟨rfl, ⟨s, false, hp, rfl, by intro r' hr'; injection hr' with hr'; rw [← hr']; exact hr⟩, ho⟩
set_option maxRecDepth 20000 in
set_option maxHeartbeats 1000000 in
theorem psize_any (b most : Nat) (hm : most ≤ 9223372036854775807) (x : ByteArray) (w : World) (h : PAt w b x false) :
    Calls Tryz.prog 88 #[.pointer (some ⟨b, 0, none⟩), .int .i64 (most : Nat)] w (PRes b (sizeR most (some (lst x))) w) := by
  have hcall := pnumber_any b x w h
  have hlt := numR_lt (some (lst x))
  unfold sizeR
  unfold PNum at hcall
  generalize numR (some (lst x)) = p at hcall hlt
  obtain ⟨n, t⟩ := p
  simp only at hcall hlt ⊢
  have hm0 : ¬ ((most : Nat) : Int) < 0 := by omega
  clear h
  by_cases hle : n ≤ most
  · have hd : decide (n ≤ most) = true := decide_eq_true hle
    have hle2 : ¬ ((most : Nat) : Int) < (n : Int) := by omega
    cases t with
    | none =>
      have e0 : (if (none : Option (List UInt8)).isSome && decide (n ≤ most) then (n, none) else (0, none)) = ((0 : Nat), (none : Option (List UInt8))) := rfl
      rw [e0]
      clear e0
      go_enter Tryz.func88, Tryz.ntmps88
      go_wp2_with fail
      refine hcall.mono ?_
      clear hcall
      rintro e w1 ⟨rfl, ⟨s, bad, hp, rfl, _⟩, ho⟩
      have c1 := hp.c1
      rw [show (none : Option (List UInt8)).isNone = true from rfl] at c1
      have HP := Lib.hid hp
      have HO := Lib.hid ho
      clear hp ho
      go_wp2_with fail
      go_ret
      exact PRes.bad 0 HP.out HO.out
    | some r =>
      have e0 : (if (some r : Option (List UInt8)).isSome && decide (n ≤ most) then (n, some r) else (0, none)) = (n, some r) := by rw [hd]; rfl
      rw [e0]
      clear e0 hd
      go_enter Tryz.func88, Tryz.ntmps88
      go_wp2_with fail
      refine hcall.mono ?_
      clear hcall
      rintro e w1 ⟨rfl, ⟨s, bad, hp, rfl, hr⟩, ho⟩
      have c1 := hp.c1
      rw [show (some r : Option (List UInt8)).isNone = false from rfl] at c1
      have HP := Lib.hid hp
      have HO := Lib.hid ho
      have HR := Lib.hid (hr r rfl)
      clear hp ho hr
      go_wp2_with fail
      go_ret
      exact PRes.good n r HP.out HR.out HO.out
  · have hle2 : ((most : Nat) : Int) < (n : Int) := by omega
    go_enter Tryz.func88, Tryz.ntmps88
    go_wp2_with fail
    refine hcall.mono ?_
    clear hcall
    rintro e w1 ⟨rfl, ⟨s, bad, hp, hb, _⟩, ho⟩
    have c1 := hp.c1
    have f1 := hp.f 1
    have HP := Lib.hid hp
    have HO := Lib.hid ho
    clear hp ho hb
    go_wp2_with fail
    all_goals
      go_ret
      refine PRes.bad 0 (s := s) ?_ (HO.out.andThen (Only.setCell (F := fun x => x = b) (Only.refl _ w1) (.inl rfl) 1 _))
      show (World.setCell _ _ _).heap[b]? = _
      rw [setCell_heap HP.out (j := 1) _]; rfl

set_option maxRecDepth 20000 in
set_option maxHeartbeats 1000000 in
theorem rmarked_any (s : ByteArray) (hs : s.size ≤ 4294967296) (w : World) :
    Calls Tryz.prog 25 #[.string s] w (MarkDone s w) := by
  have hcall := refall_any s hs w
  go_enter Tryz.func25, Tryz.ntmps25
  go_wp2_with fail
  refine hcall.mono ?_
  clear hcall
  rintro e w1 ⟨l, a, c, p, y, rfl, ha, hst, hc, hp, hx⟩
  have HX := Lib.hid hx
  have HA := Lib.hid ha
  clear hx hp hc
  by_cases hy : y = 0
  · subst hy
    by_cases hl : l.length = 1
    · obtain ⟨x, rfl⟩ : ∃ x, l = [x] := List.length_eq_one_iff.1 hl
      obtain ⟨bk, o, rfl, _, hcell⟩ := hst 0 x rfl
      rw [Nat.add_zero] at hcell
      have HM : Hid (markOf (lst s) = markOne (lst x)) := by
        show _ = _
        unfold markOf
        rw [ha, if_pos ⟨rfl, rfl⟩]; rfl
      have hpa : PAt (w1.alloc (.cells #[.string x, .bool false] 126)) w1.heap.size x false := heap_alloc_new w1 _
      have hcall := psize_any w1.heap.size 99999999 (by omega) x _ hpa
      have HSM := Lib.hid (sizeR_mark (lst x))
      have hle := sizeR_le 99999999 (some (lst x))
      unfold PRes at hcall
      generalize sizeR 99999999 (some (lst x)) = q at hcall HSM hle
      obtain ⟨n, t⟩ := q
      simp only at hcall hle
      clear hst ha hl hpa
      go_wp2_with fail
      refine hcall.mono ?_
      clear hcall
      rintro e w3 ⟨rfl, ⟨u, bad, hp, hb, hr⟩, ho⟩
      have HX3 : Hid (Ext w w3) := Below.trans (HX.out.alloc _) (ho.below (by have := HX.out.size; simp; omega) (fun k e => by rw [e]; exact HX.out.size))
      have c0 := hp.c0
      have c1 := hp.c1
      have HU : Hid (bad = t.isNone ∧ ∀ r, t = some r → lst u = r) := ⟨hb, hr⟩
      clear hp ho hb hr
      cases bad with
      | true =>
        have HE : Hid (endR t = false) := by
          have := HU.out.1
          cases t with
          | none => rfl
          | some r => cases this
        go_wp2_with fail
        go_quiet (fail)
        go_wp2_with fail
        go_ret2
        refine ⟨n, false, rfl, hle, ?_, ?_, HX3.out.drewN _⟩
        · rw [HM.out, ← HSM.out.1]; exact HE.out.symm
        · intro k hk
          rw [HM.out] at hk
          exact HSM.out.2 k hk
      | false =>
        have HE : Hid (endR t = ((u.size : Int) == 0)) := by
          have h1 := HU.out.1
          cases t with
          | none => cases h1
          | some r =>
            have h2 := HU.out.2 r rfl
            show _ = _
            rw [← lst_length, h2]
            cases r with
            | nil => rfl
            | cons c r =>
              show false = _
              symm; rw [beq_eq_false_iff_ne]; simp; omega
        go_wp2_with fail
        go_quiet (fail)
        go_wp2_with fail
        go_ret2
        refine ⟨n, ((u.size : Int) == 0), rfl, hle, ?_, ?_, HX3.out.drewN _⟩
        · rw [HM.out, ← HSM.out.1]; exact HE.out.symm
        · intro k hk
          rw [HM.out] at hk
          exact HSM.out.2 k hk
    · have hl2 : ((l.length : Int) != 1) = true := by rw [bne_iff_ne]; omega
      have HL := Lib.hid hl
      clear hst ha hl
      go_wp2_with fail
      go_ret2
      have hno : markOf (lst s) = none := by
        unfold markOf
        rw [HA.out, if_neg (by simp; exact HL.out)]
      exact ⟨0, false, rfl, Nat.zero_le _, by rw [hno]; rfl, (fun k h => by rw [hno] at h; cases h), HX.out⟩
  · have hy2 : ((y : Int) != 0) = true := by rw [bne_iff_ne]; omega
    have HY := Lib.hid hy
    clear hst ha hy
    go_wp2_with fail
    go_ret2
    have hno : markOf (lst s) = none := by
      unfold markOf
      rw [HA.out, if_neg (by simp; exact fun e => absurd e HY.out)]
    exact ⟨0, false, rfl, Nat.zero_le _, by rw [hno]; rfl, (fun k h => by rw [hno] at h; cases h), HX.out⟩
end Go.Proofs.YtmdkjcigmhgpeaaGreatDoor
