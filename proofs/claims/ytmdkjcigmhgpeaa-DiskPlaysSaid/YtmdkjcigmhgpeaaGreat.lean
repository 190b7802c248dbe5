/- law 06's great: is there more than is asked of? -/
import Derived.Test.YtmdkjcigmhgpeaaAct
namespace Go.Proofs.Ytmdkjcigmhgpeaa
open Go.RowKit Go.Maps Dsk

def greatA (x : AD) : Bool := decide (10 < x.data.length) || decide (100 < x.name.size) || decide (100 < x.dest.size) || x.data.any (fun s => decide (300 < s.size))
def greatB (xs : List AD) : Bool := decide (50 < xs.length) || xs.any greatA
theorem greatA_true {x : AD} (h : 10 < x.data.length ∨ 100 < x.name.size ∨ 100 < x.dest.size ∨ ∃ s ∈ x.data, 300 < s.size) : greatA x = true := by
  unfold greatA
  rcases h with h | h | h | ⟨s, hs, h⟩
  · simp [h]
  · simp [h]
  · simp [h]
  · have : x.data.any (fun s => decide (300 < s.size)) = true := List.any_eq_true.2 ⟨s, hs, by simpa using h⟩
    simp [this]
theorem greatA_false {x : AD} : greatA x = false ↔ x.data.length ≤ 10 ∧ x.name.size ≤ 100 ∧ x.dest.size ≤ 100 ∧ ∀ s ∈ x.data, s.size ≤ 300 := by
  unfold greatA
  simp [and_assoc]
theorem greatB_hit {xs : List AD} {i : Nat} (hi : i < xs.length) (h : greatA xs[i] = true) : greatB xs = true := by
  unfold greatB
  rw [List.any_eq_true.2 ⟨xs[i], List.getElem_mem hi, h⟩, Bool.or_true]
theorem greatB_miss {xs : List AD} (hl : ¬ 50 < xs.length) (h : ∀ j (hj : j < xs.length), greatA xs[j] = false) : greatB xs = false := by
  unfold greatB
  rw [decide_eq_false hl, Bool.false_or, List.any_eq_false]
  intro x hx
  obtain ⟨j, hj, rfl⟩ := List.getElem_of_mem hx
  rw [h j hj]; simp
theorem greatB_false {xs : List AD} (h : greatB xs = false) : xs.length ≤ 50 ∧ ∀ x ∈ xs, greatA x = false := by
  unfold greatB at h
  rw [Bool.or_eq_false_iff, decide_eq_false_iff_not, List.any_eq_false] at h
  exact ⟨by omega, fun x hx => by simpa using h.2 x hx⟩

set_option maxRecDepth 20000 in
set_option maxHeartbeats 1000000 in
theorem great_any (a : Option Addr) (c : Nat) (xs : List AD) (hN : xs.length ≤ 140737488355328) (hok : ∀ x ∈ xs, ADok x) (w : World) (hs : ActsAt w a xs) :
    Calls Try.prog 18 #[.slice a xs.length c] w fun e w' => e = .returned (.bool (greatB xs)) ∧ w = w' := by
  have HS := Lib.hid hs; clear hs
  have HK := Lib.hid hok; clear hok
  go_enter Try.func18, Try.ntmps18
  by_cases h50 : 50 < xs.length
  · have h50' : (50 : Int) < ((xs.length : Nat) : Int) := by omega
    rw [show greatB xs = true by unfold greatB; simp [h50]]
    go_wp2_with fail
    go_ret
    exact ⟨rfl, rfl⟩
  have h50' : ¬ (50 : Int) < ((xs.length : Nat) : Int) := by omega
  go_wp2_with fail
  go_loopg [3, 4] (xs.length) (fun k s3 s4 wr => ∃ i : Nat, s3 = .int .i64 i ∧ i ≤ xs.length ∧ k = xs.length - i ∧ Hid (∀ j (hj : j < xs.length), j < i → greatA xs[j] = false) ∧ wr = w)
  case atStart => exact ⟨0, rfl, Nat.zero_le _, rfl, (fun j _ hj => by omega), rfl⟩
  case round =>
    obtain ⟨i, rfl, hi, rfl, HB, rfl⟩ := hrel
    by_cases hlt : i < xs.length
    · obtain ⟨bk, o, ad, cd, ak, ck, rfl, hc, hv⟩ := HS.out i _ (List.getElem?_eq_getElem hlt)
      have hok := HK.out _ (List.getElem_mem hlt)
      have HH := Lib.hid (fun h => greatB_hit hlt h)
      have HM := Lib.hid (fun (h : greatA xs[i] = false) j (hj : j < xs.length) (hji : j < i + 1) => show greatA xs[j] = false from by
        by_cases e : j = i
        · subst e; exact h
        · exact HB.out j hj (by omega))
      generalize xs[i] = x at hc hv hok HH HM
      have c1 := hc 1 _ rfl
      have c2 := hc 2 _ rfl
      have c3 := hc 3 _ rfl
      rw [← Nat.add_assoc] at c1 c2 c3
      have z1 := hok.name
      have z2 := hok.dest
      have z3 := hok.data
      have HD := Lib.hid hok.datum
      have HV := Lib.hid hv.2.1
      clear hc hv hok
      by_cases g1 : 10 < x.data.length
      · have g1' : (10 : Int) < ((x.data.length : Nat) : Int) := by omega
        go_wp2_with fail
        go_ret
        refine ⟨?_, rfl⟩
        rw [HH.out (greatA_true (.inl g1))]
        rfl
      have g1' : ¬ (10 : Int) < ((x.data.length : Nat) : Int) := by omega
      by_cases g2 : 100 < x.name.size
      · have g2' : (100 : Int) < ((x.name.size : Nat) : Int) := by omega
        go_wp2_with fail
        go_ret
        refine ⟨?_, rfl⟩
        rw [HH.out (greatA_true (.inr (.inl g2)))]
        rfl
      have g2' : ¬ (100 : Int) < ((x.name.size : Nat) : Int) := by omega
      by_cases g3 : 100 < x.dest.size
      · have g3' : (100 : Int) < ((x.dest.size : Nat) : Int) := by omega
        go_wp2_with fail
        go_ret
        refine ⟨?_, rfl⟩
        rw [HH.out (greatA_true (.inr (.inr (.inl g3))))]
        rfl
      have g3' : ¬ (100 : Int) < ((x.dest.size : Nat) : Int) := by omega
      go_wp2_with fail
      go_loopg [4] (x.data.length) (fun k s4 wq => ∃ t : Nat, s4 = .int .i64 t ∧ t ≤ x.data.length ∧ k = x.data.length - t ∧ Hid (∀ j (hj : j < x.data.length), j < t → x.data[j].size ≤ 300) ∧ wq = wr)
      case atStart => exact ⟨0, rfl, Nat.zero_le _, rfl, (fun j _ hj => by omega), rfl⟩
      case round =>
        obtain ⟨t, rfl, ht, rfl, HT, rfl⟩ := hrel
        by_cases htl : t < x.data.length
        · obtain ⟨b2, o2, rfl, _, hcx⟩ := HV.out t _ (List.getElem?_eq_getElem htl)
          have hz := HD.out _ (List.getElem_mem htl)
          have HHX := Lib.hid (fun (h : 300 < x.data[t].size) => HH.out (greatA_true (.inr (.inr (.inr ⟨_, List.getElem_mem htl, h⟩)))))
          have HTX := Lib.hid (fun (h : x.data[t].size ≤ 300) j (hj : j < x.data.length) (hji : j < t + 1) => show x.data[j].size ≤ 300 from by
            by_cases e : j = t
            · subst e; exact h
            · exact HT.out j hj (by omega))
          generalize x.data[t] = s at hcx hz HHX HTX
          by_cases g4 : 300 < s.size
          · have g4' : (300 : Int) < ((s.size : Nat) : Int) := by omega
            go_wp2_with fail
            go_ret
            refine ⟨?_, rfl⟩
            rw [HHX.out g4]
            rfl
          have g4' : ¬ (300 : Int) < ((s.size : Nat) : Int) := by omega
          go_wp2_with fail
          go_roundg (x.data.length - (t + 1))
          case measure => omega
          case rel => exact ⟨t + 1, by go_num, by omega, rfl, HTX.out (by omega), rfl⟩
        · have htl' : ¬ (t : Int) < ((x.data.length : Nat) : Int) := by omega
          go_wp2_with fail
          go_roundg (xs.length - (i + 1))
          case measure => omega
          case rel => exact ⟨i + 1, by go_num, by omega, rfl, HM.out (greatA_false.2 ⟨by omega, by omega, by omega, fun s hs => by
            obtain ⟨j, hj, rfl⟩ := List.getElem_of_mem hs
            exact HT.out j hj (by omega)⟩), rfl⟩
    · have hlt' : ¬ (i : Int) < ((xs.length : Nat) : Int) := by omega
      go_wp2_with fail
      go_ret
      refine ⟨?_, rfl⟩
      rw [greatB_miss h50 (fun j hj => HB.out j hj (by omega))]
      rfl
end Go.Proofs.Ytmdkjcigmhgpeaa
