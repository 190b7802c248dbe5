/- law 26's great and join. -/
import Derived.Test.YtmdkjcigmhgpeaaGreatDoorSnapActs
import Derived.Test.YtmdkjcigmhgpeaaGreatDoorSnapSwept
namespace Go.Proofs.YtmdkjcigmhgpeaaGreatDoor
open Go.RowKit Go.Maps Dsk SealMath

def greatX (x : AS) : Bool := decide (6 < x.data.length) || x.data.any (fun s => decide (2000 < s.size))
def greatS (xs : List AS) : Bool := decide (12 < xs.length) || xs.any greatX
theorem greatX_true {x : AS} (h : 6 < x.data.length ∨ ∃ s ∈ x.data, 2000 < s.size) : greatX x = true := by
  unfold greatX
  rcases h with h | ⟨s, hs, h⟩
  · simp [h]
  · have : x.data.any (fun s => decide (2000 < s.size)) = true := List.any_eq_true.2 ⟨s, hs, by simpa using h⟩
    simp [this]
theorem greatX_false {x : AS} : greatX x = false ↔ x.data.length ≤ 6 ∧ ∀ s ∈ x.data, s.size ≤ 2000 := by
  unfold greatX
  simp
theorem greatS_hit {xs : List AS} {i : Nat} (hi : i < xs.length) (h : greatX xs[i] = true) : greatS xs = true := by
  unfold greatS
  rw [List.any_eq_true.2 ⟨xs[i], List.getElem_mem hi, h⟩, Bool.or_true]
theorem greatS_miss {xs : List AS} (hl : ¬ 12 < xs.length) (h : ∀ j (hj : j < xs.length), greatX xs[j] = false) : greatS xs = false := by
  unfold greatS
  rw [decide_eq_false hl, Bool.false_or, List.any_eq_false]
  intro x hx
  obtain ⟨j, hj, rfl⟩ := List.getElem_of_mem hx
  rw [h j hj]; simp
theorem greatS_false {xs : List AS} (h : greatS xs = false) : xs.length ≤ 12 ∧ ∀ x ∈ xs, greatX x = false := by
  unfold greatS at h
  rw [Bool.or_eq_false_iff, decide_eq_false_iff_not, List.any_eq_false] at h
  exact ⟨by omega, fun x hx => by simpa using h.2 x hx⟩
theorem flat_le {xs : List ByteArray} {n m : Nat} (hl : xs.length ≤ n) (h : ∀ s ∈ xs, s.size ≤ m) : ((xs.map lst).flatten).length ≤ n * m := by
  have key : ∀ ys : List ByteArray, (∀ s ∈ ys, s.size ≤ m) → ((ys.map lst).flatten).length ≤ ys.length * m := by
    intro ys
    induction ys with
    | nil => intro _; simp
    | cons a r ih =>
      intro hh
      have h1 := ih (fun s hs => hh s (by simp [hs]))
      have h2 := hh a (by simp)
      rw [List.map_cons, List.flatten_cons, List.length_append, lst_length, List.length_cons, Nat.add_mul]
      omega
  exact Nat.le_trans (key xs h) (Nat.mul_le_mul_right _ hl)
theorem greatX_flat {x : AS} (h : greatX x = false) : ((x.data.map lst).flatten).length ≤ 12000 := by
  obtain ⟨h1, h2⟩ := greatX_false.1 h
  exact flat_le h1 h2

set_option maxRecDepth 20000 in
set_option maxHeartbeats 1000000 in
theorem great26_any (a : Option Addr) (c : Nat) (xs : List AS) (hN : xs.length ≤ 140737488355328) (hok : ∀ x ∈ xs, ASok x) (w : World) (hs : ActsSAt w a xs) :
    Calls Tryz.prog 29 #[.slice a xs.length c] w fun e w' => e = .returned (.bool (greatS xs)) ∧ w = w' := by
  have HS := Lib.hid hs; clear hs
  have HK := Lib.hid hok; clear hok
  go_enter Tryz.func29, Tryz.ntmps29
  by_cases h50 : 12 < xs.length
  · have h50' : (12 : Int) < ((xs.length : Nat) : Int) := by omega
    rw [show greatS xs = true by unfold greatS; simp [h50]]
    go_wp2_with fail
    go_ret
    exact ⟨rfl, rfl⟩
  have h50' : ¬ (12 : Int) < ((xs.length : Nat) : Int) := by omega
  go_wp2_with fail
  go_loopg [3, 4] (xs.length) (fun k s3 s4 wr => ∃ i : Nat, s3 = .int .i64 i ∧ i ≤ xs.length ∧ k = xs.length - i ∧ Hid (∀ j (hj : j < xs.length), j < i → greatX xs[j] = false) ∧ wr = w)
  case atStart => exact ⟨0, rfl, Nat.zero_le _, rfl, (fun j _ hj => by omega), rfl⟩
  case round =>
    obtain ⟨i, rfl, hi, rfl, HB, rfl⟩ := hrel
    by_cases hlt : i < xs.length
    · obtain ⟨bk, o, ad, cd, rfl, hc, hv⟩ := HS.out i _ (List.getElem?_eq_getElem hlt)
      have hok := HK.out _ (List.getElem_mem hlt)
      have HH := Lib.hid (fun h => greatS_hit hlt h)
      have HM := Lib.hid (fun (h : greatX xs[i] = false) j (hj : j < xs.length) (hji : j < i + 1) => show greatX xs[j] = false from by
        by_cases e : j = i
        · subst e; exact h
        · exact HB.out j hj (by omega))
      generalize xs[i] = x at hc hv hok HH HM
      have c1 := hc 1 _ rfl
      rw [← Nat.add_assoc] at c1
      have z3 := hok.data
      have HD := Lib.hid hok.datum
      have HV := Lib.hid hv.2
      clear hc hv hok
      by_cases g1 : 6 < x.data.length
      · have g1' : (6 : Int) < ((x.data.length : Nat) : Int) := by omega
        go_wp2_with fail
        go_ret
        refine ⟨?_, rfl⟩
        rw [HH.out (greatX_true (.inl g1))]
        rfl
      have g1' : ¬ (6 : Int) < ((x.data.length : Nat) : Int) := by omega
      go_wp2_with fail
      go_loopg [4] (x.data.length) (fun k s4 wq => ∃ t : Nat, s4 = .int .i64 t ∧ t ≤ x.data.length ∧ k = x.data.length - t ∧ Hid (∀ j (hj : j < x.data.length), j < t → x.data[j].size ≤ 2000) ∧ wq = wr)
      case atStart => exact ⟨0, rfl, Nat.zero_le _, rfl, (fun j _ hj => by omega), rfl⟩
      case round =>
        obtain ⟨t, rfl, ht, rfl, HT, rfl⟩ := hrel
        by_cases htl : t < x.data.length
        · obtain ⟨b2, o2, rfl, _, hcx⟩ := HV.out t _ (List.getElem?_eq_getElem htl)
          have hz := HD.out _ (List.getElem_mem htl)
          have HHX := Lib.hid (fun (h : 2000 < x.data[t].size) => HH.out (greatX_true (.inr ⟨_, List.getElem_mem htl, h⟩)))
          have HTX := Lib.hid (fun (h : x.data[t].size ≤ 2000) j (hj : j < x.data.length) (hji : j < t + 1) => show x.data[j].size ≤ 2000 from by
            by_cases e : j = t
            · subst e; exact h
            · exact HT.out j hj (by omega))
          generalize x.data[t] = s at hcx hz HHX HTX
          by_cases g4 : 2000 < s.size
          · have g4' : (2000 : Int) < ((s.size : Nat) : Int) := by omega
            go_wp2_with fail
            go_ret
            refine ⟨?_, rfl⟩
            rw [HHX.out g4]
            rfl
          have g4' : ¬ (2000 : Int) < ((s.size : Nat) : Int) := by omega
          go_wp2_with fail
          go_roundg (x.data.length - (t + 1))
          case measure => omega
          case rel => exact ⟨t + 1, by go_num, by omega, rfl, HTX.out (by omega), rfl⟩
        · have et : t = x.data.length := by omega
          have htl2 : ¬ (t : Int) < (x.data.length : Int) := by omega
          have HXF : Hid (greatX x = false) := greatX_false.2 ⟨by omega, fun s hs => by
            obtain ⟨j, hj, rfl⟩ := List.getElem_of_mem hs
            exact HT.out j hj (by omega)⟩
          go_wp2_with fail
          go_roundg (xs.length - (i + 1))
          case measure => omega
          case rel => exact ⟨i + 1, by go_num, by omega, rfl, HM.out HXF.out, rfl⟩
    · have hlt2 : ¬ (i : Int) < (xs.length : Int) := by omega
      have HXF : Hid (greatS xs = false) := greatS_miss h50 (fun j hj => HB.out j hj (by omega))
      go_wp2_with fail
      go_ret
      refine ⟨?_, rfl⟩
      rw [HXF.out]
      rfl
set_option maxRecDepth 20000 in
set_option maxHeartbeats 1000000 in
theorem join26_any (a : Option Addr) (c : Nat) (xs : List ByteArray) (hN : xs.length ≤ 6) (hm : ∀ x ∈ xs, x.size ≤ 2000) (w : World) (hs : StrsAt w a xs) :
    Calls Tryz.prog 31 #[.slice a xs.length c] w fun e w' => ∃ r : ByteArray, e = .returned (.string r) ∧ lst r = (xs.map lst).flatten ∧ w = w' := by
  have HS := Lib.hid hs
  have HM := Lib.hid hm
  clear hs hm
  go_enter Tryz.func31, Tryz.ntmps31
  go_wp2_with fail
  go_loopg [3, 4] (xs.length) (fun g s3 s4 wr => ∃ (r : ByteArray) (i : Nat), s3 = .string r ∧ s4 = .int .i64 i ∧ i ≤ xs.length ∧ g = xs.length - i ∧ r.size ≤ 2000 * i ∧ Hid (lst r = ((xs.take i).map lst).flatten) ∧ w = wr)
  case atStart => exact ⟨⟨#[]⟩, 0, rfl, rfl, Nat.zero_le _, rfl, (by show 0 ≤ _; omega), rfl, rfl⟩
  case round =>
    obtain ⟨r, i, rfl, rfl, hi, rfl, hr, HR, rfl⟩ := hrel
    by_cases hlt : i < xs.length
    · obtain ⟨bk, o, rfl, _, hcell⟩ := HS.out i _ (List.getElem?_eq_getElem hlt)
      have hlt2 : (i : Int) < (xs.length : Int) := by omega
      have hz := HM.out _ (List.getElem_mem hlt)
      have HT : Hid (xs.take (i + 1) = xs.take i ++ [xs[i]]) := List.take_succ_eq_append_getElem hlt
      generalize xs[i] = x at hcell hz HT
      go_wp2_with fail
      go_roundg (xs.length - (i + 1))
      case measure => omega
      case rel => exact ⟨r ++ x, i + 1, rfl, by go_num, by omega, rfl, by rw [ByteArray.size_append]; omega, (show Hid _ from by
        show _ = _
        rw [HT.out, lst_append, HR.out]; simp), rfl⟩
    · have hlt2 : ¬ (i : Int) < (xs.length : Int) := by omega
      have HE : Hid (lst r = (xs.map lst).flatten) := by
        show _ = _
        rw [HR.out, List.take_of_length_le (by omega)]
      go_wp2_with fail
      go_ret
      exact ⟨r, rfl, HE.out, rfl⟩
end Go.Proofs.YtmdkjcigmhgpeaaGreatDoor
