/- The acts of law 06 as data; how a slice of them lies in memory; an argument opened to it. -/
import Derived.Test.YtmdkjcigmhgpeaaDiskLaw
import Derived.Test.YtmdkjcigmhgpeaaRow
import Derived.Deep.Slices
import Derived.Deep.Fields
namespace Go.Proofs.Ytmdkjcigmhgpeaa
open Go.RowKit Go.Maps Dsk Go.ChangeShapes Go.WideShapes Go.Deep

structure AD where
  kind : Int
  name : ByteArray
  dest : ByteArray
  data : List ByteArray
  n : Int
  keep : List Int
instance : Inhabited AD := ⟨⟨0, ⟨#[]⟩, ⟨#[]⟩, [], 0, []⟩⟩
abbrev I64 (k : Int) : Prop := -9223372036854775808 ≤ k ∧ k ≤ 9223372036854775807
structure ADok (x : AD) : Prop where
  kind : I64 x.kind
  name : x.name.size ≤ 9223372036854775807
  dest : x.dest.size ≤ 9223372036854775807
  data : x.data.length ≤ 8796093022208
  datum : ∀ s ∈ x.data, s.size ≤ 9223372036854775807
  n : I64 x.n
  keep : x.keep.length ≤ 17592186044416
  keeps : ∀ k ∈ x.keep, I64 k
def avals (x : AD) (ad : Option Addr) (cd : Nat) (ak : Option Addr) (ck : Nat) : List Value := [.int .i64 x.kind, .string x.name, .string x.dest, .slice ad x.data.length cd, .int .i64 x.n, .slice ak x.keep.length ck]
/-- What an act's slices hold. -/
def ActV (w : World) (x : AD) (ad : Option Addr) (cd : Nat) (ak : Option Addr) : Prop := x.data.length ≤ cd ∧ StrsAt w ad x.data ∧ IntsAt w ak x.keep ∧ (ad = none → cd = 0)
/-- The slice at a holds these acts. -/
def ActsAt (w : World) (a : Option Addr) (xs : List AD) : Prop :=
  ∀ (j : Nat) x, xs[j]? = some x → ∃ bk o ad cd ak ck, a = some ⟨bk, o, none⟩ ∧ (∀ (i : Nat) u, (avals x ad cd ak ck)[i]? = some u → w.cell? ⟨bk, o + (j * 6 + i), none⟩ = some u) ∧ ActV w x ad cd ak
theorem ActV.ext {w w' : World} {x : AD} {ad : Option Addr} {cd : Nat} {ak : Option Addr} (h : ActV w x ad cd ak) (k : Ext w w') : ActV w' x ad cd ak := ⟨h.1, h.2.1.ext k, h.2.2.1.ext k, h.2.2.2⟩
theorem ActsAt.ext {w w' : World} {a : Option Addr} {xs : List AD} (h : ActsAt w a xs) (k : Ext w w') : ActsAt w' a xs := by
  intro j x hj
  obtain ⟨bk, o, ad, cd, ak, ck, rfl, hc, hv⟩ := h j x hj
  exact ⟨bk, o, ad, cd, ak, ck, rfl, fun i u hu => k.cell (hc i u hu), hv.ext k⟩

/-! ### arguments -/
theorem weightsAll_mem {H : Type} {P : Program} {e : TypeId} : ∀ {l : List (DataW H)} {d : DataW H}, d ∈ l → ∀ n ∈ d.weights P e, n ∈ DataW.weightsAll P e l
  | d0 :: l, d, hd, n, hn => by
    simp only [DataW.weightsAll, List.mem_append]
    rcases List.mem_cons.1 hd with rfl | h
    · exact .inl hn
    · exact .inr (weightsAll_mem h n hn)
section
variable {H : Type} {enc : TypeId × Value → H} {W : World}
theorem strs_in {fuel : Nat} {v : Value} {y : DataW H × List MemPlace} (h : DataW.trod enc Try.prog W 0 (fun _ => true) true fuel 22 [v] = some y) (hw : ∀ n ∈ y.1.weights Try.prog 22, n ≤ reachBytes) :
    ∃ a c, ∃ xs : List ByteArray, v = .slice a xs.length c ∧ xs.length ≤ c ∧ xs.length ≤ 8796093022208 ∧ (∀ x ∈ xs, x.size ≤ 9223372036854775807) ∧ StrsAt W a xs ∧ (a = none → c = 0) := by
  rcases open_strings Try.underlying22 Try.underlying9 cells_string h with ⟨hcs, hx⟩ | ⟨a', len, cap, ss, hcs, _, hl, hm, hz, hx, hcell, hws⟩
  · simp only [List.cons.injEq, and_true] at hcs
    exact ⟨none, 0, [], hcs, Nat.le_refl _, by simp, by simp, StrsAt.nil _ _, fun _ => rfl⟩
  · simp only [List.cons.injEq, and_true] at hcs
    simp only [if_true] at hz
    subst hx
    have hr := hw ((strs (H := H) (ss.take len)).length + (strs (H := H) (ss.drop len)).length |> (· * 16)) (by
      simp only [DataW.weights, Try.underlying22, bytes_string]
      exact List.mem_cons_self)
    simp only [strs, List.length_map, List.length_take, List.length_drop, reachBytes] at hr
    have hlen : (ss.take len).length = len := by rw [List.length_take]; omega
    refine ⟨some a', cap, ss.take len, by rw [hlen]; exact hcs, by omega, by omega, ?_, ?_, fun h => by cases h⟩
    · intro x hx
      have := hws x (List.mem_of_mem_take hx)
      unfold maxLen at this
      omega
    · refine strs_at hcell ?_
      intro h0
      have hspot : a'.spot = none := by
        have := World.cell?_spot (hcell 0 h0)
        simpa [Addr.add] using this
      have := World.block_lt_of_cell? W _ (hcell 0 h0)
      simpa [Addr.add] using this
theorem bytes_int : Try.prog.bytesOf 3 = 8 := by kernel_rfl
theorem cells_int : Try.prog.cellsOf 3 = 1 := by kernel_rfl
theorem ints_in {fuel : Nat} {v : Value} {y : DataW H × List MemPlace} (h : DataW.trod enc Try.prog W 0 (fun _ => true) true fuel 45 [v] = some y) (hw : ∀ n ∈ y.1.weights Try.prog 45, n ≤ reachBytes) :
    ∃ a c, ∃ ks : List Int, v = .slice a ks.length c ∧ ks.length ≤ c ∧ ks.length ≤ 17592186044416 ∧ (∀ k ∈ ks, I64 k) ∧ IntsAt W a ks := by
  rcases open_ints Try.underlying45 Try.underlying3 cells_int h with ⟨hcs, hx⟩ | ⟨a', len, cap, zs, hcs, _, hl, hm, hz, hx, hcell, hws⟩
  · simp only [List.cons.injEq, and_true] at hcs
    exact ⟨none, 0, [], hcs, Nat.le_refl _, by simp, by simp, IntsAt.nil _ _⟩
  · simp only [List.cons.injEq, and_true] at hcs
    simp only [if_true] at hz
    subst hx
    have hr := hw ((lits (H := H) .i64 (zs.take len)).length + (lits (H := H) .i64 (zs.drop len)).length |> (· * 8)) (by
      simp only [DataW.weights, Try.underlying45, bytes_int]
      exact List.mem_cons_self)
    simp only [lits, List.length_map, List.length_take, List.length_drop, reachBytes] at hr
    have hlen : (zs.take len).length = len := by rw [List.length_take]; omega
    refine ⟨some a', cap, zs.take len, by rw [hlen]; exact hcs, by omega, by omega, ?_, ?_⟩
    · intro k hk
      have := bounds_i64 (hws k (List.mem_of_mem_take hk))
      unfold I64
      omega
    · intro j x hj
      rw [List.getElem?_take] at hj
      split at hj
      · rename_i hjn
        have hjl : j < zs.length := (List.getElem?_eq_some_iff.1 hj).1
        have hc := hcell j hjl
        have hspot : a'.spot = none := by
          have h0 := hcell 0 (by omega)
          have := World.cell?_spot h0
          simpa [Addr.add] using this
        have hbl := World.block_lt_of_cell? W _ hc
        obtain ⟨bk, o, spot⟩ := a'
        simp only at hspot
        subst hspot
        rw [show (⟨bk, o, none⟩ : Addr).add j = ⟨bk, o + j, none⟩ from by unfold Addr.add; split <;> simp_all] at hc hbl
        refine ⟨bk, o, rfl, hbl, ?_⟩
        rw [hc]
        simp [List.getD, hj]
      · cases hj

theorem under_act : ∃ fs : Array Field, Try.prog.underlying 47 = some (.struct fs) ∧ fs.map (fun f => (f.type, f.offset)) = #[(3, 0), (9, 1), (9, 2), (22, 3), (3, 4), (45, 5)] := by
  have key : (match Try.prog.underlying 47 with | some (.struct fs) => decide (fs.map (fun f => (f.type, f.offset)) = #[(3, 0), (9, 1), (9, 2), (22, 3), (3, 4), (45, 5)]) | _ => false) = true := by kernel_rfl
  split at key
  · rename_i fs e
    exact ⟨fs, e, of_decide_eq_true key⟩
  · cases key
theorem cells_act : Try.prog.cellsOf 47 = 6 := by kernel_rfl
theorem act_one : Try.prog.cellsOf 3 = 1 ∧ Try.prog.cellsOf 9 = 1 ∧ Try.prog.cellsOf 22 = 1 ∧ Try.prog.cellsOf 45 = 1 := ⟨by kernel_rfl, by kernel_rfl, by kernel_rfl, by kernel_rfl⟩
theorem act_field {actFields : Array Field} (act_types : actFields.map (fun f => (f.type, f.offset)) = #[(3, 0), (9, 1), (9, 2), (22, 3), (3, 4), (45, 5)]) {i : Nat} {t : TypeId} {o : Nat} (h : #[((3 : TypeId), (0 : Nat)), (9, 1), (9, 2), (22, 3), (3, 4), (45, 5)][i]? = some (t, o)) : ∃ f, actFields[i]? = some f ∧ f.type = t ∧ f.offset = o := by
  rw [← act_types, Array.getElem?_map] at h
  cases hf : actFields[i]? with
  | none => rw [hf] at h; cases h
  | some f =>
    rw [hf] at h
    simp only [Option.map_some, Option.some.injEq, Prod.mk.injEq] at h
    exact ⟨f, rfl, h.1, h.2⟩
set_option maxRecDepth 20000 in
/-- A datum of an act's parts. -/
theorem act_in {fuel : Nat} {vs : List Value} {y : DataW H × List MemPlace} (h : DataW.trod enc Try.prog W 0 (fun _ => true) true fuel 47 vs = some y) (hw : ∀ n ∈ y.1.weights Try.prog 47, n ≤ reachBytes) :
    ∃ (x : AD) (ad : Option Addr) (cd : Nat) (ak : Option Addr) (ck : Nat), vs = avals x ad cd ak ck ∧ ActV W x ad cd ak ∧ ADok x := by
  obtain ⟨actFields, hua, act_types⟩ := under_act
  obtain ⟨ys, n, _, hy, hlen, hyl, hf⟩ := DataW.trod_struct hua h
  rw [cells_act] at hlen
  have hsz : actFields.size = 6 := by have := congrArg Array.size act_types; simpa using this
  rw [hsz] at hyl
  match vs, hlen with
  | [c0, c1, c2, c3, c4, c5], _ =>
    match ys, hyl with
    | [y0, y1, y2, y3, y4, y5], _ =>
      obtain ⟨f0, e0, t0, o0⟩ := act_field act_types (i := 0) rfl
      obtain ⟨f1, e1, t1, o1⟩ := act_field act_types (i := 1) rfl
      obtain ⟨f2, e2, t2, o2⟩ := act_field act_types (i := 2) rfl
      obtain ⟨f3, e3, t3, o3⟩ := act_field act_types (i := 3) rfl
      obtain ⟨f4, e4, t4, o4⟩ := act_field act_types (i := 4) rfl
      obtain ⟨f5, e5, t5, o5⟩ := act_field act_types (i := 5) rfl
      have h0 := hf 0 f0 e0
      have h1 := hf 1 f1 e1
      have h2 := hf 2 f2 e2
      have h3 := hf 3 f3 e3
      have h4 := hf 4 f4 e4
      have h5 := hf 5 f5 e5
      rw [t0, o0, act_one.1] at h0
      rw [t1, o1, act_one.2.1] at h1
      rw [t2, o2, act_one.2.1] at h2
      rw [t3, o3, act_one.2.2.1] at h3
      rw [t4, o4, act_one.1] at h4
      rw [t5, o5, act_one.2.2.2] at h5
      simp only [List.drop_zero, List.drop_succ_cons, List.take_succ_cons, List.take_zero, List.getElem?_cons_zero, List.getElem?_cons_succ] at h0 h1 h2 h3 h4 h5
      subst hy
      have hwt : ∀ (j : Nat) (t : TypeId) (d : DataW H), ([3, 9, 9, 22, 3, 45] : List TypeId)[j]? = some t → [y0.1, y1.1, y2.1, y3.1, y4.1, y5.1][j]? = some d → ∀ n ∈ d.weights Try.prog t, n ≤ reachBytes := fun j t d ht hd n hn => by
        refine hw n ?_
        have hts : actFields.toList.map (·.type) = [3, 9, 9, 22, 3, 45] := by
          have := congrArg (fun a => a.toList.map (·.1)) act_types
          rw [Array.toList_map, List.map_map] at this
          exact this
        simp only [DataW.weights, hua, hts, List.map_cons, List.map_nil]
        exact DataW.weights_mem_each ht hd n hn
      obtain ⟨k, hk0, hk1, hk2⟩ := DataW.trod_int Try.underlying3 h0
      obtain ⟨s1, hs10, hs11, hs12⟩ := DataW.trod_string Try.underlying9 h1
      obtain ⟨s2, hs20, hs21, hs22⟩ := DataW.trod_string Try.underlying9 h2
      obtain ⟨ad, cd, xs, hx0, hx1, hx2, hx3, hx4, hx5⟩ := strs_in h3 (hwt 3 _ _ rfl rfl)
      obtain ⟨q, hq0, hq1, hq2⟩ := DataW.trod_int Try.underlying3 h4
      obtain ⟨ak, ck, ks, hz0, hz1, hz2, hz3, hz4⟩ := ints_in h5 (hwt 5 _ _ rfl rfl)
      simp only [List.cons.injEq, and_true] at hk0 hs10 hs20 hq0
      have b0 := bounds_i64 hk2
      have b4 := bounds_i64 hq2
      unfold maxLen at hs12 hs22
      exact ⟨⟨k, s1, s2, xs, q, ks⟩, ad, cd, ak, ck, by rw [hk0, hs10, hs20, hx0, hq0, hz0]; rfl, ⟨hx1, hx4, hz4, hx5⟩, ⟨by unfold I64; exact b0, by simpa using hs12, by simpa using hs22, hx2, hx3, by unfold I64; exact b4, hz2, hz3⟩⟩
set_option maxRecDepth 20000 in
/-- An argument that is an act. -/
theorem act_arg {r : Reach} {b0 : Nat} {v : Value} {d : DataW H} {p : List MemPlace} (hval : Value.okWide Try.prog W r b0 47 v) (h : DataW.Trod enc Try.prog W 0 (fun _ => true) true 47 v d p)
    {ts : List TypeId} {ds : List (DataW H)} (hsz : (DataW.weightsEach Try.prog ts ds).all (· ≤ reachBytes) = true) {j : Nat} (ht : ts[j]? = some 47) (hd : ds[j]? = some d) :
    ∃ (x : AD) (ad : Option Addr) (cd : Nat) (ak : Option Addr) (ck : Nat), v = .agg (avals x ad cd ak ck).toArray ∧ ActV W x ad cd ak ∧ ADok x := by
  obtain ⟨fs, hua, _⟩ := under_act
  obtain ⟨cs, rfl, hsz'⟩ := okWide_struct hua hval
  obtain ⟨fuel, hf⟩ := h
  obtain ⟨x, ad, cd, ak, ck, hv, h1, h2⟩ := act_in hf (fun n hn => by
    have := List.all_eq_true.1 hsz _ (DataW.weights_mem_each ht hd n hn)
    simpa using this)
  refine ⟨x, ad, cd, ak, ck, ?_, h1, h2⟩
  rw [← hv]; rfl
set_option maxRecDepth 20000 in
/-- An argument that is a slice of acts. -/
theorem acts_arg {a : Option Addr} {n c : Nat} {d : DataW H} {p : List MemPlace} (h : DataW.Trod enc Try.prog W 0 (fun _ => true) true 39 (.slice a n c) d p)
    {ts : List TypeId} {ds : List (DataW H)} (hsz : (DataW.weightsEach Try.prog ts ds).all (· ≤ reachBytes) = true) {j : Nat} (ht : ts[j]? = some 39) (hd : ds[j]? = some d) :
    ∃ xs : List AD, n = xs.length ∧ n ≤ c ∧ n ≤ 140737488355328 ∧ (∀ x ∈ xs, ADok x) ∧ ActsAt W a xs := by
  obtain ⟨fuel, hf⟩ := h
  have hw : ∀ n ∈ d.weights Try.prog 39, n ≤ reachBytes := fun n hn => by
    have := List.all_eq_true.1 hsz _ (DataW.weights_mem_each ht hd n hn)
    simpa using this
  rcases open_slice Try.underlying39 hf with ⟨hcs, hx⟩ | ⟨a', len, cap, m, k, D, Pl, hcs, _, hl, hm, hmm, hx, hi⟩
  · simp [Value.cells] at hcs
    obtain ⟨rfl, rfl, rfl⟩ := hcs
    exact ⟨[], rfl, Nat.le_refl _, by omega, by simp, fun j x hj => by simp at hj⟩
  · simp [Value.cells] at hcs
    obtain ⟨rfl, rfl, rfl⟩ := hcs
    simp only [if_true] at hmm
    obtain rfl : m = c := hmm
    simp only [Prod.mk.injEq] at hx
    obtain ⟨rfl, _⟩ := hx
    have hbytes : Try.prog.bytesOf 47 = 96 := by kernel_rfl
    have hlen : n ≤ 140737488355328 := by
      have := hw (((List.range n).map D).length + ((List.range (m - n)).map fun j => D (n + j)).length |> (· * 96)) (by
        simp only [DataW.weights, Try.underlying39, hbytes]
        exact List.mem_cons_self)
      simp only [List.length_map, List.length_range, reachBytes] at this
      omega
    have hsp : 0 < n → a'.spot = none := fun h0 => by
      obtain ⟨cs', hc, ht'⟩ := hi 0 (by omega)
      rw [cells_act] at hc
      obtain ⟨_, hcl, hat⟩ := World.cells?_some hc
      have h1 := hat 0 (by omega)
      rw [List.getElem?_eq_getElem (by omega)] at h1
      have := World.cell?_spot h1
      simpa [Addr.add] using this
    obtain ⟨X, hX⟩ := choose_lt (n := n) (α := AD) (p := fun i x => ∃ bk o ad cd ak ck, a' = ⟨bk, o, none⟩ ∧ (∀ (t : Nat) u, (avals x ad cd ak ck)[t]? = some u → W.cell? ⟨bk, o + (i * 6 + t), none⟩ = some u) ∧ ActV W x ad cd ak ∧ ADok x) (fun i hin => by
      obtain ⟨cs', hc, ht'⟩ := hi i (by omega)
      obtain ⟨x, ad, cd, ak, ck, hv, h1, h2⟩ := act_in ht' (fun q hq => hw q (by
        simp only [DataW.weights, Try.underlying39]
        refine List.mem_cons_of_mem _ (List.mem_append_left _ ?_)
        exact weightsAll_mem (List.mem_map.2 ⟨i, List.mem_range.2 hin, rfl⟩) q hq))
      rw [cells_act] at hc
      obtain ⟨_, hcl, hat⟩ := World.cells?_some hc
      have hspot := hsp (by omega)
      obtain ⟨bk, o, spot⟩ := a'
      simp only at hspot
      subst hspot
      refine ⟨x, bk, o, ad, cd, ak, ck, rfl, fun t u hu => ?_, h1, h2⟩
      have ht6 : t < 6 := by have := (List.getElem?_eq_some_iff.1 hu).1; simpa [avals] using this
      have h := hat t ht6
      rw [hv, hu] at h
      rw [← h, add_add]
      congr 1
      unfold Addr.add
      split <;> simp_all)
    refine ⟨(List.range n).map X, by simp, hl, hlen, ?_, ?_⟩
    · intro x hx
      obtain ⟨i, hi', rfl⟩ := List.mem_map.1 hx
      obtain ⟨_, _, _, _, _, _, _, _, _, h⟩ := hX i (List.mem_range.1 hi')
      exact h
    · intro j x hj
      rw [List.getElem?_map] at hj
      cases hr : (List.range n)[j]? with
      | none => rw [hr] at hj; cases hj
      | some i =>
        rw [hr] at hj
        simp only [Option.map_some, Option.some.injEq] at hj
        subst hj
        obtain ⟨hl', he⟩ := List.getElem?_eq_some_iff.1 hr
        rw [List.getElem_range] at he
        subst he
        obtain ⟨bk, o, ad, cd, ak, ck, rfl, h1, h2, _⟩ := hX j (by simpa using hl')
        exact ⟨bk, o, ad, cd, ak, ck, rfl, h1, h2⟩
end
end Go.Proofs.Ytmdkjcigmhgpeaa
