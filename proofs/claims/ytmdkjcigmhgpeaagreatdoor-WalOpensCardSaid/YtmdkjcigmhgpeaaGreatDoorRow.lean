/- A law's row, out of its walk: the call returned true and made new memory alone; the arguments read as before. For whatever law of this seat. -/
import Derived.Test.YtmdkjcigmhgpeaaGreatDoorRows
import Derived.Test.YtmdkjcigmhgpeaaGreatDoorBase
import Derived.ProofKit
import Derived.OpenShut
import Derived.ShutString
import Derived.SliceStrings
import Derived.LaidMore
import Derived.Lib.LaidTab
namespace Go.Proofs.YtmdkjcigmhgpeaaGreatDoor
open Go.ChangeShapes Go.WideShapes Go.ChangeAt Go.RowKit

theorem own : ownKnob Tryz.prog.godebug = none := by kernel_rfl
theorem laidOut : laidOutB Tryz.prog = true := by kernel_rfl

theorem trodAll_ext {H : Type} {enc : TypeId × Value → H} {W W' : World} (hb : Below W.heap.size W W') : ∀ {ts : List TypeId} {vs : List Value} {ds : List (DataW H)} {ps : List MemPlace},
    (∀ t ∈ ts, Tryz.prog.readableRec t = true ∧ t < Tryz.prog.types.size) → DataW.TrodAll enc Tryz.prog W 0 (fun _ => true) true ts vs ds ps → (∀ x ∈ ps, x.block < W.heap.size) →
    DataW.TrodAll enc Tryz.prog W' 0 (fun b => decide (b < W.heap.size)) true ts vs ds ps
  | [], [], [], _, _, h, _ => h
  | t :: ts, v :: vs, d :: ds, ps, hk, ⟨p, q, h1, h2, e⟩, hl =>
    ⟨p, q, Below.trod laidOut (hk t (by simp)).1 (hk t (by simp)).2 h1 hb (fun x hx => hl x (by rw [e]; exact List.mem_append_left _ hx)),
      trodAll_ext hb (fun t ht => hk t (by simp [ht])) h2 (fun x hx => hl x (by rw [e]; exact List.mem_append_right _ hx)), e⟩
  | [], _ :: _, _, _, _, h, _ => h.elim
  | [], [], _ :: _, _, _, h, _ => h.elim
  | _ :: _, [], _, _, _, h, _ => h.elim
  | _ :: _, _ :: _, [], _, _, h, _ => h.elim

/-- A law's post. -/
theorem law_post {H : Type} {enc : TypeId × Value → H} {f : Func} {s : ChangeSpec} {ts : List TypeId} (hts : f.params.toList = ts) (hk : ∀ t ∈ ts, Tryz.prog.readableRec t = true ∧ t < Tryz.prog.types.size)
    (hrt : f.resultTypes = #[4]) (hv : s.vars = []) {W W' : World} {args : Array Value} {ds gs : List (DataW H)} {before : List MemPlace}
    (hW : DataW.Whole enc Tryz.prog f.params.toList s.vars false W args.toList ds gs before) (hg : gs = [])
    (hr : (s.fn H ds).results = [.lit (.bool true)]) (ha : (s.fn H ds).args = ds) (hvv : (s.fn H ds).vars = []) (hb : Below W.heap.size W W') :
    s.post enc Tryz.prog f false true false false W args (.bool true) W' := by
  have hW' := hW
  subst hg
  obtain ⟨p, q, hA, hV, he, _, _⟩ := hW
  have hlt : ∀ x ∈ p, x.block < W.heap.size := fun x hx => hW'.lt x (by rw [he]; exact List.mem_append_left _ hx)
  rw [hts] at hA
  refine ⟨ds, [], before, [], p, [], hW', ?_, ?_, ?_, hb.frame _, fun h => by cases h⟩
  · rw [hrt, List.append_nil, hr]
    exact trodAll_mk1 (shut_bool Tryz.underlying4 true)
  · rw [hts, List.append_nil, ha]
    exact trodAll_ext hb hk hA hlt
  · rw [hv, List.append_nil, hvv]
    rfl

/-- The texts of an argument. -/
theorem strs_at {W : World} {a : Addr} {n : Nat} {ss : List ByteArray} (hcell : ∀ i, i < ss.length → W.cell? (a.add i) = some (.string (ss.getD i ByteArray.empty))) (ha : 0 < ss.length → a.block < W.heap.size) :
    StrsAt W (some a) (ss.take n) := by
  intro j x hj
  rw [List.getElem?_take] at hj
  split at hj
  · rename_i hjn
    have hjl : j < ss.length := (List.getElem?_eq_some_iff.1 hj).1
    have hc := hcell j hjl
    have hspot : a.spot = none := by
      have h0 := hcell 0 (by omega)
      have := World.cell?_spot h0
      simpa [Addr.add] using this
    obtain ⟨bk, o, spot⟩ := a
    simp only at hspot
    subst hspot
    refine ⟨bk, o, rfl, ha (by omega), ?_⟩
    rw [show (⟨bk, o, none⟩ : Addr).add j = ⟨bk, o + j, none⟩ from by unfold Addr.add; split <;> simp_all] at hc
    rw [hc]
    simp [List.getD, hj]
  · cases hj

theorem bytes_string : Tryz.prog.bytesOf 9 = 16 := by kernel_rfl
theorem cells_string : Tryz.prog.cellsOf 9 = 1 := by kernel_rfl
/-- An argument that is a slice of texts. -/
theorem strs_arg {H : Type} {enc : TypeId × Value → H} {W : World} {a : Option Addr} {n c : Nat} {d : DataW H} {p : List MemPlace} (h : DataW.Trod enc Tryz.prog W 0 (fun _ => true) true 28 (.slice a n c) d p) (hlt : ∀ x ∈ p, x.block < W.heap.size)
    {ts : List TypeId} {ds : List (DataW H)} (hsz : (DataW.weightsEach Tryz.prog ts ds).all (· ≤ reachBytes) = true) {j : Nat} (ht : ts[j]? = some 28) (hd : ds[j]? = some d) :
    ∃ xs : List ByteArray, n = xs.length ∧ n ≤ c ∧ n ≤ 8796093022208 ∧ (∀ x ∈ xs, x.size ≤ 9223372036854775807) ∧ StrsAt W a xs := by
  obtain ⟨fuel, hf⟩ := h
  rcases open_strings Tryz.underlying28 Tryz.underlying9 cells_string hf with ⟨hcs, hx⟩ | ⟨a', len, cap, ss, hcs, _, hl, hm, hz, hx, hcell, hws⟩
  · simp [Value.cells] at hcs
    obtain ⟨rfl, rfl, rfl⟩ := hcs
    exact ⟨[], rfl, Nat.le_refl _, by omega, by simp, StrsAt.nil _ _⟩
  · simp [Value.cells] at hcs
    obtain ⟨rfl, rfl, rfl⟩ := hcs
    simp only [Prod.mk.injEq] at hx
    obtain ⟨rfl, rfl⟩ := hx
    simp only [if_true] at hz
    have hr := sized_slice hsz ht hd Tryz.underlying28
    rw [bytes_string] at hr
    simp only [strs, List.length_map, List.length_take, List.length_drop, reachBytes] at hr
    refine ⟨ss.take n, ?_, hl, by omega, ?_, ?_⟩
    · rw [List.length_take]; omega
    · intro x hx
      have := hws x (List.mem_of_mem_take hx)
      unfold maxLen at this
      omega
    · refine strs_at hcell ?_
      intro h0
      have hspot : a'.spot = none := by
        have := World.cell?_spot (hcell 0 h0)
        simpa [Addr.add] using this
      have := World.block_lt_of_cell? W _ (hcell 0 h0)
      simpa [Addr.add] using this
theorem u8_nat {n : Int} (h : (Lit.int .u8 n).wf = true) : ∃ m : Nat, n = m ∧ m < 256 := by
  have := bounds_u8 h
  exact ⟨n.toNat, by omega, by omega⟩
theorem u16_nat {n : Int} (h : (Lit.int .u16 n).wf = true) : ∃ m : Nat, n = m ∧ m < 65536 := by
  have := bounds_u16 h
  exact ⟨n.toNat, by omega, by omega⟩
theorem u64_nat {n : Int} (h : (Lit.int .u64 n).wf = true) : ∃ m : Nat, n = m ∧ m < 18446744073709551616 := by
  have := bounds_u64 h
  exact ⟨n.toNat, by omega, by omega⟩
end Go.Proofs.YtmdkjcigmhgpeaaGreatDoor
