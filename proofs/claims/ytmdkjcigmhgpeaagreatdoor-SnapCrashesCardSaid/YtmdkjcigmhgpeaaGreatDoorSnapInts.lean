/- The acts of law 26 as data; how a slice of them lies in memory; arguments opened to them. (Turned from XAct.) -/
import Derived.Test.YtmdkjcigmhgpeaaGreatDoorDiskLaw
import Derived.Test.YtmdkjcigmhgpeaaGreatDoorSealRow
import Derived.Deep.Slices
import Derived.Deep.Fields
namespace Go.Proofs.YtmdkjcigmhgpeaaGreatDoor
open Go.RowKit Go.Maps Dsk Go.ChangeShapes Go.WideShapes Go.Deep

structure AS where
  n : Int
  data : List ByteArray
instance : Inhabited AS := ⟨⟨0, []⟩⟩
abbrev I64 (k : Int) : Prop := -9223372036854775808 ≤ k ∧ k ≤ 9223372036854775807
structure ASok (x : AS) : Prop where
  n : I64 x.n
  data : x.data.length ≤ 8796093022208
  datum : ∀ s ∈ x.data, s.size ≤ 9223372036854775807
def svals (x : AS) (ad : Option Addr) (cd : Nat) : List Value := [.int .i64 x.n, .slice ad x.data.length cd]
/-- What an act's slice holds. -/
def ActSV (w : World) (x : AS) (ad : Option Addr) (cd : Nat) : Prop := x.data.length ≤ cd ∧ StrsAt w ad x.data
/-- The slice at a holds these acts. -/
def ActsSAt (w : World) (a : Option Addr) (xs : List AS) : Prop :=
  ∀ (j : Nat) x, xs[j]? = some x → ∃ bk o ad cd, a = some ⟨bk, o, none⟩ ∧ (∀ (i : Nat) u, (svals x ad cd)[i]? = some u → w.cell? ⟨bk, o + (j * 2 + i), none⟩ = some u) ∧ ActSV w x ad cd
theorem ActSV.ext {w w' : World} {x : AS} {ad : Option Addr} {cd : Nat} (h : ActSV w x ad cd) (k : Ext w w') : ActSV w' x ad cd := ⟨h.1, h.2.ext k⟩
theorem ActsSAt.ext {w w' : World} {a : Option Addr} {xs : List AS} (h : ActsSAt w a xs) (k : Ext w w') : ActsSAt w' a xs := by
  intro j x hj
  obtain ⟨bk, o, ad, cd, rfl, hc, hv⟩ := h j x hj
  exact ⟨bk, o, ad, cd, rfl, fun i u hu => k.cell (hc i u hu), hv.ext k⟩

/-! ### arguments -/
theorem weightsAll_mem {H : Type} {P : Program} {e : TypeId} : ∀ {l : List (DataW H)} {d : DataW H}, d ∈ l → ∀ n ∈ d.weights P e, n ∈ DataW.weightsAll P e l
  | d0 :: l, d, hd, n, hn => by
    simp only [DataW.weightsAll, List.mem_append]
    rcases List.mem_cons.1 hd with rfl | h
    · exact .inl hn
    · exact .inr (weightsAll_mem h n hn)
section
variable {H : Type} {enc : TypeId × Value → H} {W : World}
theorem strs_in {fuel : Nat} {v : Value} {y : DataW H × List MemPlace} (h : DataW.trod enc Tryz.prog W 0 (fun _ => true) true fuel 28 [v] = some y) (hw : ∀ n ∈ y.1.weights Tryz.prog 28, n ≤ reachBytes) :
    ∃ a c, ∃ xs : List ByteArray, v = .slice a xs.length c ∧ xs.length ≤ c ∧ xs.length ≤ 8796093022208 ∧ (∀ x ∈ xs, x.size ≤ 9223372036854775807) ∧ StrsAt W a xs ∧ (a = none → c = 0) := by
  rcases open_strings Tryz.underlying28 Tryz.underlying9 cells_string h with ⟨hcs, hx⟩ | ⟨a', len, cap, ss, hcs, _, hl, hm, hz, hx, hcell, hws⟩
  · simp only [List.cons.injEq, and_true] at hcs
    exact ⟨none, 0, [], hcs, Nat.le_refl _, by simp, by simp, StrsAt.nil _ _, fun _ => rfl⟩
  · simp only [List.cons.injEq, and_true] at hcs
    simp only [if_true] at hz
    subst hx
    have hr := hw ((strs (H := H) (ss.take len)).length + (strs (H := H) (ss.drop len)).length |> (· * 16)) (by
      simp only [DataW.weights, Tryz.underlying28, bytes_string]
      exact List.mem_cons_self)
    simp only [strs, List.length_map, List.length_take, List.length_drop, reachBytes] at hr
    have hlen : (ss.take len).length = len := by rw [List.length_take]; omega
    refine ⟨some a', cap, ss.take len, by rw [hlen]; exact hcs, by omega, by omega, ?_, ?_, fun h => by cases h⟩
    · intro x hx
      have := hws x (List.mem_of_mem_take hx)
      unfold maxLen at this
      omega
    · refine strs_at hcell ?_
      intro h0
      have hspot : a'.spot = none := by
        have := World.cell?_spot (hcell 0 h0)
        simpa [Addr.add] using this
      have := World.block_lt_of_cell? W _ (hcell 0 h0)
      simpa [Addr.add] using this
theorem bytes_int : Tryz.prog.bytesOf 3 = 8 := by kernel_rfl
theorem cells_int : Tryz.prog.cellsOf 3 = 1 := by kernel_rfl
theorem ints_in {fuel : Nat} {v : Value} {y : DataW H × List MemPlace} (h : DataW.trod enc Tryz.prog W 0 (fun _ => true) true fuel 41 [v] = some y) (hw : ∀ n ∈ y.1.weights Tryz.prog 41, n ≤ reachBytes) :
    ∃ a c, ∃ ks : List Int, v = .slice a ks.length c ∧ ks.length ≤ c ∧ ks.length ≤ 17592186044416 ∧ (∀ k ∈ ks, I64 k) ∧ IntsAt W a ks := by
  rcases open_ints Tryz.underlying41 Tryz.underlying3 cells_int h with ⟨hcs, hx⟩ | ⟨a', len, cap, zs, hcs, _, hl, hm, hz, hx, hcell, hws⟩
  · simp only [List.cons.injEq, and_true] at hcs
    exact ⟨none, 0, [], hcs, Nat.le_refl _, by simp, by simp, IntsAt.nil _ _⟩
  · simp only [List.cons.injEq, and_true] at hcs
    simp only [if_true] at hz
    subst hx
    have hr := hw ((lits (H := H) .i64 (zs.take len)).length + (lits (H := H) .i64 (zs.drop len)).length |> (· * 8)) (by
      simp only [DataW.weights, Tryz.underlying41, bytes_int]
      exact List.mem_cons_self)
    simp only [lits, List.length_map, List.length_take, List.length_drop, reachBytes] at hr
    have hlen : (zs.take len).length = len := by rw [List.length_take]; omega
    refine ⟨some a', cap, zs.take len, by rw [hlen]; exact hcs, by omega, by omega, ?_, ?_⟩
    · intro k hk
      have := bounds_i64 (hws k (List.mem_of_mem_take hk))
      unfold I64
      omega
    · intro j x hj
      rw [List.getElem?_take] at hj
      split at hj
      · rename_i hjn
        have hjl : j < zs.length := (List.getElem?_eq_some_iff.1 hj).1
        have hc := hcell j hjl
        have hspot : a'.spot = none := by
          have h0 := hcell 0 (by omega)
          have := World.cell?_spot h0
          simpa [Addr.add] using this
        have hbl := World.block_lt_of_cell? W _ hc
        obtain ⟨bk, o, spot⟩ := a'
        simp only at hspot
        subst hspot
        rw [show (⟨bk, o, none⟩ : Addr).add j = ⟨bk, o + j, none⟩ from by unfold Addr.add; split <;> simp_all] at hc hbl
        refine ⟨bk, o, rfl, hbl, ?_⟩
        rw [hc]
        simp [List.getD, hj]
      · cases hj

theorem ints_arg {a : Option Addr} {n c : Nat} {d : DataW H} {p : List MemPlace} (h : DataW.Trod enc Tryz.prog W 0 (fun _ => true) true 41 (.slice a n c) d p)
    {ts : List TypeId} {ds : List (DataW H)} (hsz : (DataW.weightsEach Tryz.prog ts ds).all (· ≤ reachBytes) = true) {j : Nat} (ht : ts[j]? = some 41) (hd : ds[j]? = some d) :
    ∃ xs : List Int, n = xs.length ∧ n ≤ c ∧ n ≤ 17592186044416 ∧ (∀ x ∈ xs, I64 x) ∧ IntsAt W a xs := by
  obtain ⟨fuel, hf⟩ := h
  obtain ⟨a', c', ks, hv, h1, h2, h3, h4⟩ := ints_in (v := .slice a n c) hf (fun n hn => by
    have := List.all_eq_true.1 hsz _ (DataW.weights_mem_each ht hd n hn)
    simpa using this)
  injection hv with e1 e2 e3
  subst e1; subst e2; subst e3
  exact ⟨ks, rfl, h1, h2, h3, h4⟩
end
end Go.Proofs.YtmdkjcigmhgpeaaGreatDoor
