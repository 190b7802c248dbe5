/- Several texts in one (each under its own head): the first: The acts of law 26 as data; how a slice of them lies in memory; arguments opened to them. (Turned from XAct.) -/
import Derived.Test.YtmdkjcigmhgpeaaGreatDoorDiskLaw
import Derived.Test.YtmdkjcigmhgpeaaGreatDoorSealRow
import Derived.Deep.Slices
import Derived.Deep.Fields
import Derived.Test.YtmdkjcigmhgpeaaGreatDoorWalLaw
import Derived.Deep.AppendLies
import Derived.Laws.AppendOwn
import Derived.Deep.RegionLaw
/- The acts of law 26 as data; how a slice of them lies in memory; arguments opened to them. (Turned from XAct.) -/
namespace Go.Proofs.YtmdkjcigmhgpeaaGreatDoor
open Go.RowKit Go.Maps Dsk Go.ChangeShapes Go.WideShapes Go.Deep

structure AS where
  n : Int
  data : List ByteArray
instance : Inhabited AS := ⟨⟨0, []⟩⟩
abbrev I64 (k : Int) : Prop := -9223372036854775808 ≤ k ∧ k ≤ 9223372036854775807
structure ASok (x : AS) : Prop where
  n : I64 x.n
  data : x.data.length ≤ 8796093022208
  datum : ∀ s ∈ x.data, s.size ≤ 9223372036854775807
def svals (x : AS) (ad : Option Addr) (cd : Nat) : List Value := [.int .i64 x.n, .slice ad x.data.length cd]
/-- What an act's slice holds. -/
def ActSV (w : World) (x : AS) (ad : Option Addr) (cd : Nat) : Prop := x.data.length ≤ cd ∧ StrsAt w ad x.data
/-- The slice at a holds these acts. -/
def ActsSAt (w : World) (a : Option Addr) (xs : List AS) : Prop :=
  ∀ (j : Nat) x, xs[j]? = some x → ∃ bk o ad cd, a = some ⟨bk, o, none⟩ ∧ (∀ (i : Nat) u, (svals x ad cd)[i]? = some u → w.cell? ⟨bk, o + (j * 2 + i), none⟩ = some u) ∧ ActSV w x ad cd
theorem ActSV.ext {w w' : World} {x : AS} {ad : Option Addr} {cd : Nat} (h : ActSV w x ad cd) (k : Ext w w') : ActSV w' x ad cd := ⟨h.1, h.2.ext k⟩
theorem ActsSAt.ext {w w' : World} {a : Option Addr} {xs : List AS} (h : ActsSAt w a xs) (k : Ext w w') : ActsSAt w' a xs := by
  intro j x hj
  obtain ⟨bk, o, ad, cd, rfl, hc, hv⟩ := h j x hj
  exact ⟨bk, o, ad, cd, rfl, fun i u hu => k.cell (hc i u hu), hv.ext k⟩

/-! ### arguments -/
theorem weightsAll_mem {H : Type} {P : Program} {e : TypeId} : ∀ {l : List (DataW H)} {d : DataW H}, d ∈ l → ∀ n ∈ d.weights P e, n ∈ DataW.weightsAll P e l
  | d0 :: l, d, hd, n, hn => by
    simp only [DataW.weightsAll, List.mem_append]
    rcases List.mem_cons.1 hd with rfl | h
    · exact .inl hn
    · exact .inr (weightsAll_mem h n hn)
section
variable {H : Type} {enc : TypeId × Value → H} {W : World}
theorem strs_in {fuel : Nat} {v : Value} {y : DataW H × List MemPlace} (h : DataW.trod enc Tryz.prog W 0 (fun _ => true) true fuel 28 [v] = some y) (hw : ∀ n ∈ y.1.weights Tryz.prog 28, n ≤ reachBytes) :
    ∃ a c, ∃ xs : List ByteArray, v = .slice a xs.length c ∧ xs.length ≤ c ∧ xs.length ≤ 8796093022208 ∧ (∀ x ∈ xs, x.size ≤ 9223372036854775807) ∧ StrsAt W a xs ∧ (a = none → c = 0) := by
  rcases open_strings Tryz.underlying28 Tryz.underlying9 cells_string h with ⟨hcs, hx⟩ | ⟨a', len, cap, ss, hcs, _, hl, hm, hz, hx, hcell, hws⟩
  · simp only [List.cons.injEq, and_true] at hcs
    exact ⟨none, 0, [], hcs, Nat.le_refl _, by simp, by simp, StrsAt.nil _ _, fun _ => rfl⟩
  · simp only [List.cons.injEq, and_true] at hcs
    simp only [if_true] at hz
    subst hx
    have hr := hw ((strs (H := H) (ss.take len)).length + (strs (H := H) (ss.drop len)).length |> (· * 16)) (by
      simp only [DataW.weights, Tryz.underlying28, bytes_string]
      exact List.mem_cons_self)
    simp only [strs, List.length_map, List.length_take, List.length_drop, reachBytes] at hr
    have hlen : (ss.take len).length = len := by rw [List.length_take]; omega
    refine ⟨some a', cap, ss.take len, by rw [hlen]; exact hcs, by omega, by omega, ?_, ?_, fun h => by cases h⟩
    · intro x hx
      have := hws x (List.mem_of_mem_take hx)
      unfold maxLen at this
      omega
    · refine strs_at hcell ?_
      intro h0
      have hspot : a'.spot = none := by
        have := World.cell?_spot (hcell 0 h0)
        simpa [Addr.add] using this
      have := World.block_lt_of_cell? W _ (hcell 0 h0)
      simpa [Addr.add] using this
theorem bytes_int : Tryz.prog.bytesOf 3 = 8 := by kernel_rfl
theorem cells_int : Tryz.prog.cellsOf 3 = 1 := by kernel_rfl
theorem ints_in {fuel : Nat} {v : Value} {y : DataW H × List MemPlace} (h : DataW.trod enc Tryz.prog W 0 (fun _ => true) true fuel 41 [v] = some y) (hw : ∀ n ∈ y.1.weights Tryz.prog 41, n ≤ reachBytes) :
    ∃ a c, ∃ ks : List Int, v = .slice a ks.length c ∧ ks.length ≤ c ∧ ks.length ≤ 17592186044416 ∧ (∀ k ∈ ks, I64 k) ∧ IntsAt W a ks := by
  rcases open_ints Tryz.underlying41 Tryz.underlying3 cells_int h with ⟨hcs, hx⟩ | ⟨a', len, cap, zs, hcs, _, hl, hm, hz, hx, hcell, hws⟩
  · simp only [List.cons.injEq, and_true] at hcs
    exact ⟨none, 0, [], hcs, Nat.le_refl _, by simp, by simp, IntsAt.nil _ _⟩
  · simp only [List.cons.injEq, and_true] at hcs
    simp only [if_true] at hz
    subst hx
    have hr := hw ((lits (H := H) .i64 (zs.take len)).length + (lits (H := H) .i64 (zs.drop len)).length |> (· * 8)) (by
      simp only [DataW.weights, Tryz.underlying41, bytes_int]
      exact List.mem_cons_self)
    simp only [lits, List.length_map, List.length_take, List.length_drop, reachBytes] at hr
    have hlen : (zs.take len).length = len := by rw [List.length_take]; omega
    refine ⟨some a', cap, zs.take len, by rw [hlen]; exact hcs, by omega, by omega, ?_, ?_⟩
    · intro k hk
      have := bounds_i64 (hws k (List.mem_of_mem_take hk))
      unfold I64
      omega
    · intro j x hj
      rw [List.getElem?_take] at hj
      split at hj
      · rename_i hjn
        have hjl : j < zs.length := (List.getElem?_eq_some_iff.1 hj).1
        have hc := hcell j hjl
        have hspot : a'.spot = none := by
          have h0 := hcell 0 (by omega)
          have := World.cell?_spot h0
          simpa [Addr.add] using this
        have hbl := World.block_lt_of_cell? W _ hc
        obtain ⟨bk, o, spot⟩ := a'
        simp only at hspot
        subst hspot
        rw [show (⟨bk, o, none⟩ : Addr).add j = ⟨bk, o + j, none⟩ from by unfold Addr.add; split <;> simp_all] at hc hbl
        refine ⟨bk, o, rfl, hbl, ?_⟩
        rw [hc]
        simp [List.getD, hj]
      · cases hj

theorem ints_arg {a : Option Addr} {n c : Nat} {d : DataW H} {p : List MemPlace} (h : DataW.Trod enc Tryz.prog W 0 (fun _ => true) true 41 (.slice a n c) d p)
    {ts : List TypeId} {ds : List (DataW H)} (hsz : (DataW.weightsEach Tryz.prog ts ds).all (· ≤ reachBytes) = true) {j : Nat} (ht : ts[j]? = some 41) (hd : ds[j]? = some d) :
    ∃ xs : List Int, n = xs.length ∧ n ≤ c ∧ n ≤ 17592186044416 ∧ (∀ x ∈ xs, I64 x) ∧ IntsAt W a xs := by
  obtain ⟨fuel, hf⟩ := h
  obtain ⟨a', c', ks, hv, h1, h2, h3, h4⟩ := ints_in (v := .slice a n c) hf (fun n hn => by
    have := List.all_eq_true.1 hsz _ (DataW.weights_mem_each ht hd n hn)
    simpa using this)
  injection hv with e1 e2 e3
  subst e1; subst e2; subst e3
  exact ⟨ks, rfl, h1, h2, h3, h4⟩
end
end Go.Proofs.YtmdkjcigmhgpeaaGreatDoor

/- The acts of law 07 as data; how a slice of them lies in memory; an argument opened to it. (Turned from XSnapActs.) -/
namespace Go.Proofs.YtmdkjcigmhgpeaaGreatDoor
open Go.RowKit Go.Maps Dsk Go.ChangeShapes Go.WideShapes Go.Deep

structure AW where
  kind : Int
  n : Int
  data : ByteArray
instance : Inhabited AW := ⟨⟨0, 0, ⟨#[]⟩⟩⟩
structure AWok (x : AW) : Prop where
  kind : I64 x.kind
  n : I64 x.n
  data : x.data.size ≤ 9223372036854775807
def wvals (x : AW) : List Value := [.int .i64 x.kind, .int .i64 x.n, .string x.data]
/-- The slice at a holds these acts. -/
def ActsWAt (w : World) (a : Option Addr) (xs : List AW) : Prop :=
  ∀ (j : Nat) x, xs[j]? = some x → ∃ bk o, a = some ⟨bk, o, none⟩ ∧ (∀ (i : Nat) u, (wvals x)[i]? = some u → w.cell? ⟨bk, o + (j * 3 + i), none⟩ = some u)
theorem ActsWAt.ext {w w' : World} {a : Option Addr} {xs : List AW} (h : ActsWAt w a xs) (k : Ext w w') : ActsWAt w' a xs := by
  intro j x hj
  obtain ⟨bk, o, rfl, hc⟩ := h j x hj
  exact ⟨bk, o, rfl, fun i u hu => k.cell (hc i u hu)⟩

section
variable {H : Type} {enc : TypeId × Value → H} {W : World}
theorem under_act7 : ∃ fs : Array Field, Tryz.prog.underlying 87 = some (.struct fs) ∧ fs.map (fun f => (f.type, f.offset)) = #[(3, 0), (3, 1), (9, 2)] := by
  have key : (match Tryz.prog.underlying 87 with | some (.struct fs) => decide (fs.map (fun f => (f.type, f.offset)) = #[(3, 0), (3, 1), (9, 2)]) | _ => false) = true := by kernel_rfl
  split at key
  · rename_i fs e
    exact ⟨fs, e, of_decide_eq_true key⟩
  · cases key
theorem cells_act7 : Tryz.prog.cellsOf 87 = 3 := by kernel_rfl
theorem act_one7 : Tryz.prog.cellsOf 3 = 1 ∧ Tryz.prog.cellsOf 9 = 1 := ⟨by kernel_rfl, by kernel_rfl⟩
theorem act_field7 {actFields : Array Field} (act_types : actFields.map (fun f => (f.type, f.offset)) = #[(3, 0), (3, 1), (9, 2)]) {i : Nat} {t : TypeId} {o : Nat} (h : #[((3 : TypeId), (0 : Nat)), (3, 1), (9, 2)][i]? = some (t, o)) : ∃ f, actFields[i]? = some f ∧ f.type = t ∧ f.offset = o := by
  rw [← act_types, Array.getElem?_map] at h
  cases hf : actFields[i]? with
  | none => rw [hf] at h; cases h
  | some f =>
    rw [hf] at h
    simp only [Option.map_some, Option.some.injEq, Prod.mk.injEq] at h
    exact ⟨f, rfl, h.1, h.2⟩
set_option maxRecDepth 20000 in
/-- A datum of an act's parts. -/
theorem act_w_in {fuel : Nat} {vs : List Value} {y : DataW H × List MemPlace} (h : DataW.trod enc Tryz.prog W 0 (fun _ => true) true fuel 87 vs = some y) :
    ∃ x : AW, vs = wvals x ∧ AWok x := by
  obtain ⟨actFields, hua, act_types⟩ := under_act7
  obtain ⟨ys, n, _, hy, hlen, hyl, hf⟩ := DataW.trod_struct hua h
  rw [cells_act7] at hlen
  have hsz : actFields.size = 3 := by have := congrArg Array.size act_types; simpa using this
  rw [hsz] at hyl
  match vs, hlen with
  | [c0, c1, c2], _ =>
    match ys, hyl with
    | [y0, y1, y2], _ =>
      obtain ⟨f0, e0, t0, o0⟩ := act_field7 act_types (i := 0) rfl
      obtain ⟨f1, e1, t1, o1⟩ := act_field7 act_types (i := 1) rfl
      obtain ⟨f2, e2, t2, o2⟩ := act_field7 act_types (i := 2) rfl
      have h0 := hf 0 f0 e0
      have h1 := hf 1 f1 e1
      have h2 := hf 2 f2 e2
      rw [t0, o0, act_one7.1] at h0
      rw [t1, o1, act_one7.1] at h1
      rw [t2, o2, act_one7.2] at h2
      simp only [List.drop_zero, List.drop_succ_cons, List.take_succ_cons, List.take_zero, List.getElem?_cons_zero, List.getElem?_cons_succ] at h0 h1 h2
      obtain ⟨k, hk0, hk1, hk2⟩ := DataW.trod_int Tryz.underlying3 h0
      obtain ⟨q, hq0, hq1, hq2⟩ := DataW.trod_int Tryz.underlying3 h1
      obtain ⟨s, hs0, hs1, hs2⟩ := DataW.trod_string Tryz.underlying9 h2
      simp only [List.cons.injEq, and_true] at hk0 hq0 hs0
      have b0 := bounds_i64 hk2
      have b1 := bounds_i64 hq2
      unfold maxLen at hs2
      exact ⟨⟨k, q, s⟩, by rw [hk0, hq0, hs0]; rfl, ⟨by unfold I64; exact b0, by unfold I64; exact b1, by simp only; omega⟩⟩
set_option maxRecDepth 20000 in
/-- An argument that is a slice of acts. -/
theorem acts_w_arg {a : Option Addr} {n c : Nat} {d : DataW H} {p : List MemPlace} (h : DataW.Trod enc Tryz.prog W 0 (fun _ => true) true 82 (.slice a n c) d p)
    {ts : List TypeId} {ds : List (DataW H)} (hsz : (DataW.weightsEach Tryz.prog ts ds).all (· ≤ reachBytes) = true) {j : Nat} (ht : ts[j]? = some 82) (hd : ds[j]? = some d) :
    ∃ xs : List AW, n = xs.length ∧ n ≤ c ∧ n ≤ 140737488355328 ∧ (∀ x ∈ xs, AWok x) ∧ ActsWAt W a xs := by
  obtain ⟨fuel, hf⟩ := h
  have hw : ∀ n ∈ d.weights Tryz.prog 82, n ≤ reachBytes := fun n hn => by
    have := List.all_eq_true.1 hsz _ (DataW.weights_mem_each ht hd n hn)
    simpa using this
  rcases open_slice Tryz.underlying82 hf with ⟨hcs, hx⟩ | ⟨a', len, cap, m, k, D, Pl, hcs, _, hl, hm, hmm, hx, hi⟩
  · simp [Value.cells] at hcs
    obtain ⟨rfl, rfl, rfl⟩ := hcs
    exact ⟨[], rfl, Nat.le_refl _, by omega, by simp, fun j x hj => by simp at hj⟩
  · simp [Value.cells] at hcs
    obtain ⟨rfl, rfl, rfl⟩ := hcs
    simp only [if_true] at hmm
    obtain rfl : m = c := hmm
    simp only [Prod.mk.injEq] at hx
    obtain ⟨rfl, _⟩ := hx
    have hbytes : Tryz.prog.bytesOf 87 = 32 := by kernel_rfl
    have hlen : n ≤ 140737488355328 := by
      have := hw (((List.range n).map D).length + ((List.range (m - n)).map fun j => D (n + j)).length |> (· * 32)) (by
        simp only [DataW.weights, Tryz.underlying82, hbytes]
        exact List.mem_cons_self)
      simp only [List.length_map, List.length_range, reachBytes] at this
      omega
    have hsp : 0 < n → a'.spot = none := fun h0 => by
      obtain ⟨cs', hc, ht'⟩ := hi 0 (by omega)
      rw [cells_act7] at hc
      obtain ⟨_, hcl, hat⟩ := World.cells?_some hc
      have h1 := hat 0 (by omega)
      rw [List.getElem?_eq_getElem (by omega)] at h1
      have := World.cell?_spot h1
      simpa [Addr.add] using this
    obtain ⟨X, hX⟩ := choose_lt (n := n) (α := AW) (p := fun i x => ∃ bk o, a' = ⟨bk, o, none⟩ ∧ (∀ (t : Nat) u, (wvals x)[t]? = some u → W.cell? ⟨bk, o + (i * 3 + t), none⟩ = some u) ∧ AWok x) (fun i hin => by
      obtain ⟨cs', hc, ht'⟩ := hi i (by omega)
      obtain ⟨x, hv, h2⟩ := act_w_in ht'
      rw [cells_act7] at hc
      obtain ⟨_, hcl, hat⟩ := World.cells?_some hc
      have hspot := hsp (by omega)
      obtain ⟨bk, o, spot⟩ := a'
      simp only at hspot
      subst hspot
      refine ⟨x, bk, o, rfl, fun t u hu => ?_, h2⟩
      have ht6 : t < 3 := by have := (List.getElem?_eq_some_iff.1 hu).1; simpa [wvals] using this
      have h := hat t ht6
      rw [hv, hu] at h
      rw [← h, add_add]
      congr 1
      unfold Addr.add
      split <;> simp_all)
    refine ⟨(List.range n).map X, by simp, hl, hlen, ?_, ?_⟩
    · intro x hx
      obtain ⟨i, hi', rfl⟩ := List.mem_map.1 hx
      obtain ⟨_, _, _, _, h⟩ := hX i (List.mem_range.1 hi')
      exact h
    · intro j x hj
      rw [List.getElem?_map] at hj
      cases hr : (List.range n)[j]? with
      | none => rw [hr] at hj; cases hj
      | some i =>
        rw [hr] at hj
        simp only [Option.map_some, Option.some.injEq] at hj
        subst hj
        obtain ⟨hl', he⟩ := List.getElem?_eq_some_iff.1 hr
        rw [List.getElem_range] at he
        subst he
        obtain ⟨bk, o, rfl, h1, _⟩ := hX j (by simpa using hl')
        exact ⟨bk, o, rfl, h1⟩
end
end Go.Proofs.YtmdkjcigmhgpeaaGreatDoor

/- A row of records beside the log: it grows by one, and the log and its disk stand as they did. -/
namespace Go.Proofs.YtmdkjcigmhgpeaaGreatDoor
open Go.RowKit Snp SealMath Dsk Wal

/-- X with the block of a row of the law's own. -/
abbrev XV (lb rb : Nat) (v : Value) : Nat → Prop := fun x => x = lb ∨ x = rb ∨ v.ownBlock = some x
theorem only_grown {w w' : World} {row : Option Nat} (h : w.grownBy w' row) : Only (fun x => row = some x) w w' :=
  ⟨h.os, h.tape, h.output, h.size, fun k hk hn => h.block k hk (fun e => hn e.symm)⟩
theorem WH.grew {B lb rb : Nat} {v : Value} {w w' : World} {d : Nat} {S : DS} {L : LG} (h : WH B (XV lb rb v) w d lb S L) (hv : v.ownBlock ≠ some lb) (hg : w.grownBy w' v.ownBlock) (g n c : Nat)
    (hat : v.ownBlock = some g ∨ w.heap.size ≤ g) (hlt : g < w'.heap.size) : WH B (XV lb rb (.slice (some ⟨g, 0, none⟩) n c)) w' d lb S L := by
  obtain ⟨G, h1, h2⟩ := h.disk
  have ho := only_grown hg
  refine ⟨h.log.only ho hv, h.low, .inl rfl, fun x hx => ?_, Nat.le_trans h.big hg.size, fun x => G x ∧ x < w.heap.size, (disk_small h1).only ho (fun x hx hy => (h2 x hx.1).2 (.inr (.inr hy))), fun x hx => ⟨(h2 x hx.1).1, fun hn => ?_⟩⟩
  · rcases hx with rfl | rfl | hx
    · exact Nat.lt_of_lt_of_le (h.lt _ (.inl rfl)) hg.size
    · exact Nat.lt_of_lt_of_le (h.lt _ (.inr (.inl rfl))) hg.size
    · cases hx; exact hlt
  · rcases hn with hn | hn | hn
    · exact (h2 x hx.1).2 (.inl hn)
    · exact (h2 x hx.1).2 (.inr (.inl hn))
    · cases hn
      rcases hat with hat | hat
      · exact (h2 _ hx.1).2 (.inr (.inr hat))
      · have := hx.2; simp only at this; omega
end Go.Proofs.YtmdkjcigmhgpeaaGreatDoor

/- A slice of numbers of the law's own that may begin behind its block's start (starts = starts[1:]): append onto it. -/
namespace Go.Proofs.YtmdkjcigmhgpeaaGreatDoor
open Go.RowKit Snp SealMath Dsk Wal

def ivals (l : List Nat) : List Value := l.map (fun n => .int .i64 (n : Nat))
theorem ivals_length (l : List Nat) : (ivals l).length = l.length := by simp [ivals]
/-- A slice of numbers in a block from B on. -/
def OffInts (w : World) (B : Nat) (v : Value) (l : List Nat) : Prop :=
  (v = .slice none 0 0 ∧ l = []) ∨
  ∃ g o cap cur, v = .slice (some ⟨g, o, none⟩) l.length cap ∧ B ≤ g ∧ w.heap[g]? = some (.cells cur 3 (0, 0)) ∧ l.length ≤ cap ∧ cap ≤ maxLen ∧ o + cap ≤ cur.size ∧ (cur.toList.drop o).take l.length = ivals l
theorem OffInts.nil (w : World) (B : Nat) : OffInts w B (.slice none 0 0) [] := .inl ⟨rfl, rfl⟩
theorem OffInts.of_own {w : World} {B : Nat} {v : Value} {l : List Nat} (h : w.ownsRow B 3 1 v l.length (ivals l)) : OffInts w B v l := by
  obtain ⟨_, ⟨rfl, h0⟩ | ⟨g, cap, cur, rfl, hb, hg, hn, hc, hs, ht⟩⟩ := h
  · exact .inl ⟨rfl, List.eq_nil_of_length_eq_zero h0⟩
  · exact .inr ⟨g, 0, cap, cur, rfl, hb, hg, hn, hc, by omega, by rw [List.drop_zero]; rwa [Nat.mul_one] at ht⟩
theorem OffInts.only {G : Nat → Prop} {w w' : World} {B : Nat} {v : Value} {l : List Nat} (h : OffInts w B v l) (k : Only G w w') (hG : ∀ g, v.ownBlock = some g → ¬ G g) : OffInts w' B v l := by
  obtain h | ⟨g, o, cap, cur, rfl, hB, hg, h1, h2, h3, h4⟩ := h
  · exact .inl h
  · exact .inr ⟨g, o, cap, cur, rfl, hB, (k.block g (lt_of_heap hg) (hG g rfl)).trans hg, h1, h2, h3, h4⟩
theorem OffInts.ext {w w' : World} {B : Nat} {v : Value} {l : List Nat} (h : OffInts w B v l) (k : Ext w w') : OffInts w' B v l := h.only (G := fun _ => False) (Only.ext k) (fun _ _ hf => hf)
theorem OffInts.lt {w : World} {B : Nat} {v : Value} {l : List Nat} (h : OffInts w B v l) : ∀ g, v.ownBlock = some g → B ≤ g ∧ g < w.heap.size := by
  intro g hg
  obtain ⟨rfl, _⟩ | ⟨g', o, cap, cur, rfl, hB, hh, _⟩ := h
  · cases hg
  · cases hg; exact ⟨hB, lt_of_heap hh⟩
theorem OffInts.form {w : World} {B : Nat} {v : Value} {l : List Nat} (h : OffInts w B v l) : ∃ a c, v = .slice a l.length c ∧ l.length ≤ c ∧ c ≤ maxLen ∧
    (∀ (j : Nat) x, l[j]? = some x → ∃ g o, a = some ⟨g, o, none⟩ ∧ w.cell? ⟨g, o + j, none⟩ = some (.int .i64 (x : Nat))) := by
  obtain ⟨rfl, rfl⟩ | ⟨g, o, cap, cur, rfl, hB, hg, h1, h2, h3, h4⟩ := h
  · exact ⟨none, 0, rfl, Nat.le_refl _, Nat.zero_le _, fun j x hj => by simp at hj⟩
  · refine ⟨_, _, rfl, h1, h2, fun j x hj => ⟨g, o, rfl, ?_⟩⟩
    rw [cell_of_row w g (o + j) cur _ (0, 0) hg]
    have hlt : j < l.length := (List.getElem?_eq_some_iff.1 hj).1
    have h5 := congrArg (fun (q : List Value) => q[j]?) h4
    simp only [List.getElem?_take, hlt, if_true, List.getElem?_drop, ivals, List.getElem?_map, hj, Option.map_some] at h5
    simpa using h5
/-- starts[1:]. -/
theorem OffInts.tail {w : World} {B g o n c : Nat} {x : Nat} {l : List Nat} (h : OffInts w B (.slice (some ⟨g, o, none⟩) n c) (x :: l)) : n = l.length + 1 ∧ l.length + 1 ≤ c ∧ OffInts w B (.slice (some ⟨g, o + 1, none⟩) l.length (c - 1)) l := by
  obtain ⟨h, _⟩ | ⟨g', o', cap, cur, e, hB, hg, h1, h2, h3, h4⟩ := h
  · cases h
  · rw [List.length_cons] at e h1 h4
    injection e with e1 e2 e3
    injection e1 with e1
    injection e1 with e4 e5
    subst e2; subst e3; subst e4; subst e5
    refine ⟨rfl, h1, .inr ⟨g, o + 1, c - 1, cur, rfl, hB, hg, by omega, by omega, by omega, ?_⟩⟩
    have e : cur.toList.drop (o + 1) = (cur.toList.drop o).drop 1 := by rw [List.drop_drop]
    rw [e]
    generalize cur.toList.drop o = q at h4
    cases q with
    | nil => simp [ivals] at h4
    | cons y q =>
      rw [List.take_succ_cons] at h4
      have h6 := congrArg List.tail h4
      simpa [ivals] using h6
theorem list_put (c : List Value) (o n : Nat) (y : Value) (r : List Value) (h : o + n ≤ c.length) : ((c.take (o + n) ++ [y] ++ r).drop o).take (n + 1) = (c.drop o).take n ++ [y] := by
  have e : c.take (o + n) = c.take o ++ (c.drop o).take n := List.take_add
  have h1 : (c.take o).length = o := by rw [List.length_take]; omega
  have h2 : ((c.drop o).take n ++ [y]).length = n + 1 := by rw [List.length_append, List.length_take, List.length_drop, List.length_singleton]; omega
  rw [e, List.append_assoc, List.append_assoc, List.drop_left' h1, ← List.append_assoc, List.take_left' h2]
theorem run_append_room_at {P : Program} (w : World) (t ty e : TypeId) (i : TypeInfo) (ht : P.underlying t = some (.slice e)) (hi : P.info? e = some i)
    (g o sLen sCap : Nat) (cur : Array Value) (hg : w.heap[g]? = some (.cells cur e (0, 0)))
    (a : Addr) (m c : Nat) (news : List Value) (hl : news.length = m * i.size) (hnews : ∀ j u, news[j]? = some u → w.cell? (a.add j) = some u) (h1 : ∀ u ∈ news, u.oneCell' = true)
    (hroom : sLen + m ≤ sCap) (hfit : o + sLen * i.size + news.length ≤ cur.size) :
    (Builtin.append_ #[t, t] ty #[.slice (some ⟨g, o, none⟩) sLen sCap, .slice (some a) m c]).run P w =
      .ok (.slice (some ⟨g, o, none⟩) (sLen + m) sCap) (w.setRow g (cur.toList.take (o + sLen * i.size) ++ news ++ cur.toList.drop (o + sLen * i.size + news.length)).toArray) := by
  have hf := run_firstCells_some (P := P) w i.size m a m c news hl hnews
  have hst := run_storeCells_at P g (o + sLen * i.size) e news 0 cur w hg (by simpa using hfit) h1
  simp only [Nat.add_zero] at hst
  simp [Builtin.append_, run_underlying ht, sizeOf, typeInfo, hi, Builtin.lenOf, hroom, hf, Addr.add_lit, hst]
theorem info_intw : (Tryz.prog.info? 3).map (fun i => (i.zero, i.size, i.bytes)) = some (some (.int .i64 0), 1, 8) := by kernel_rfl
theorem run_append_off (w : World) (t ty : TypeId) (ht : Tryz.prog.underlying t = some (.slice 3)) (B : Nat) (v : Value) (l : List Nat) (h : OffInts w B v l) (x : Nat) (b o2 c : Nat) (hx : w.cell? ⟨b, o2, none⟩ = some (.int .i64 (x : Nat))) (hl : l.length ≤ 1000) (hB : B ≤ w.heap.size) :
    ∃ g o cap w', (Builtin.append_ #[t, t] ty #[v, .slice (some ⟨b, o2, none⟩) 1 c]).run Tryz.prog w = .ok (.slice (some ⟨g, o, none⟩) (l.length + 1) cap) w' ∧ OffInts w' B (.slice (some ⟨g, o, none⟩) (l.length + 1) cap) (l ++ [x]) ∧
      w.grownBy w' v.ownBlock ∧ (v.ownBlock = some g ∨ g = w.heap.size) ∧ g < w'.heap.size := by
  obtain ⟨i, hi, hz0, hz1, hz2⟩ := info_parts info_intw
  have hnews : ∀ j u, ([.int .i64 (x : Nat)] : List Value)[j]? = some u → w.cell? ((⟨b, o2, none⟩ : Addr).add j) = some u := by
    intro j u hj
    cases j with
    | zero => simp at hj; subst hj; rw [Addr.add_lit]; exact hx
    | succ j => simp at hj
  have hone : ∀ u ∈ ([.int .i64 (x : Nat)] : List Value), u.oneCell' = true := by
    intro u hu; simp at hu; subst hu; rfl
  have hil : ivals (l ++ [x]) = ivals l ++ [.int .i64 (x : Nat)] := by simp [ivals]
  have hll : (l ++ [x]).length = l.length + 1 := by simp
  rcases h with ⟨rfl, rfl⟩ | ⟨g, o, cap, cur, rfl, hb, hg, hn, hc, hs, htk⟩
  · obtain ⟨g, cap, w', hr, h2, h3, h4, h5⟩ := run_append_lies (P := Tryz.prog) w t ty B 3 i (.int .i64 0) 1 8 ht hi hz0 hz1 hz2 rfl (by decide) (.slice none 0 0) 0 [] (World.ownsRow_nil w B _ 1) ⟨b, o2, none⟩ 1 c [.int .i64 (x : Nat)] rfl hnews hone (by decide) (by decide) (by decide) hB _ rfl
    exact ⟨g, 0, cap, w', hr, OffInts.of_own (l := [x]) h2, h3, h4, h5⟩
  · by_cases hroom : l.length + 1 ≤ cap
    · have hr := run_append_room_at (P := Tryz.prog) w t ty _ i ht hi g o l.length cap cur hg ⟨b, o2, none⟩ 1 c [.int .i64 (x : Nat)] (by rw [hz1]; rfl) hnews hone hroom (by rw [hz1]; simp; omega)
      rw [hz1, Nat.mul_one] at hr
      refine ⟨g, o, cap, _, hr, .inr ⟨g, o, cap, _, by rw [hll], hb, setRow_heap w g cur _ _ _ hg, by rw [hll]; exact hroom, hc, ?_, ?_⟩, ⟨rfl, rfl, rfl, by simp, fun k _ hk => setRow_other w g k _ (fun e => hk (by simp [Value.ownBlock, e]))⟩, .inl rfl, ?_⟩
      · simp only [List.size_toArray, List.length_append, List.length_take, List.length_drop, Array.length_toList, List.length_singleton]
        omega
      · rw [hll, hil, ← htk]
        exact list_put cur.toList o l.length _ _ (by have := Array.length_toList (xs := cur); omega)
      · exact lt_of_heap (setRow_heap w g cur _ _ _ hg)
    · have holds : ∀ j u, (ivals l)[j]? = some u → w.cell? ((⟨g, o, none⟩ : Addr).add j) = some u := by
        intro j u hj
        have hlt : j < l.length := by have := (List.getElem?_eq_some_iff.1 hj).1; rwa [ivals_length] at this
        rw [Addr.add_lit, cell_of_row w g (o + j) cur _ (0, 0) hg]
        rw [← htk, List.getElem?_take] at hj
        simp only [hlt, if_true, List.getElem?_drop] at hj
        simpa using hj
      have hr := run_append_grow (P := Tryz.prog) w t ty _ i (.int .i64 0) ht hi hz0 ⟨g, o, none⟩ l.length cap (ivals l) (by rw [ivals_length, hz1, Nat.mul_one]) holds ⟨b, o2, none⟩ 1 c [.int .i64 (x : Nat)] (by rw [hz1]; rfl) hnews (by omega) (by omega) (by rw [hz2]; exact growslice_fits (by omega) (by omega))
      have hge := grownCap_ge w (l.length + 1) cap 3
      have hcm : grownCap w (l.length + 1) cap 3 ≤ maxLen := grownCap_le_maxLen w (l.length + 1) cap _ (by unfold maxLen; omega)
      refine ⟨w.heap.size, 0, _, _, hr, OffInts.of_own ⟨by rw [hll, ivals_length, hll, Nat.mul_one], .inr ⟨w.heap.size, _, _, by rw [hll], hB, heap_alloc_new w.drew _, by rw [hll]; exact hge, hcm, ?_, ?_⟩⟩, ⟨rfl, rfl, rfl, by simp, fun k hk _ => Below.heap_alloc w.drew _ k hk⟩, .inr rfl, by simp⟩
      · simp only [Array.size_append, List.size_toArray, size_zeroCells, ivals_length, List.length_singleton]
        show l.length + 1 + (_ - (l.length + 1)) * 1 = _
        omega
      · simp only [Array.toList_append, List.append_assoc]
        rw [hll, hil, Nat.mul_one]
        have e : l.length + 1 = (ivals l ++ [Value.int .i64 (x : Nat)]).length := by simp [ivals]
        rw [e, ← List.append_assoc]
        exact List.take_left
/-- At the list of a plain region's operations: for the walk. -/
theorem wpList_append_off {w : World} {ops : Array Oper} {rest : List Oper} {op : Oper} {a : Act} {Q : Exit → Act → World → Prop} (hgd : op.guard = none) (s x : Operand) (t : TypeId)
    (ho : op.op = .call { callee := .builtin .append, args := #[s, x], argTypes := #[t, t] }) (ht : Tryz.prog.underlying t = some (.slice 3)) (B : Nat)
    (v : Value) (l : List Nat) (hs : a.eval s = v) (hown : OffInts w B v l) (b o2 c n : Nat) (hx : a.eval x = .slice (some ⟨b, o2, none⟩) 1 c) (hc : w.cell? ⟨b, o2, none⟩ = some (.int .i64 (n : Nat))) (hl : l.length ≤ 1000) (hB : B ≤ w.heap.size) (H : Nat) (hH : w.heap.size = H)
    (h : ∀ g o cap w', OffInts w' B (.slice (some ⟨g, o, none⟩) (l.length + 1) cap) (l ++ [n]) → w.grownBy w' v.ownBlock → (v.ownBlock = some g ∨ g = H) → g < w'.heap.size → wpList Tryz.prog ops Q rest (a.put op.dst (.slice (some ⟨g, o, none⟩) (l.length + 1) cap)) w') : wpList Tryz.prog ops Q (op :: rest) a w :=
  wpList_plain hgd fun _ hK => by
    obtain ⟨g, o, cap, w', hr, h2, h3, h4, h5⟩ := run_append_off w t op.type ht B v l hown n b o2 c hc hl hB
    unfold Oper.wp execOp
    simp only [ho, resolve, invoke, builtin, Sem.run_bind, Sem.run_pure, Result.andThen_ok, List.map_toArray, List.map_cons, List.map_nil, hs, hx, hr]
    exact hK _ _ (h g o cap w' h2 h3 (by rw [← hH]; exact h4) h5)
/-- At a step of a region that draws its order. -/
theorem step_append_off {w : World} {ops : Array Oper} {op : Oper} {a : Act} {K : Act → World → Prop} {Q : Exit → Act → World → Prop} {E : Prop} (hgd : op.guard = none) (s x : Operand) (t : TypeId)
    (ho : op.op = .call { callee := .builtin .append, args := #[s, x], argTypes := #[t, t] }) (ht : Tryz.prog.underlying t = some (.slice 3)) (B : Nat)
    (v : Value) (l : List Nat) (hs : a.eval s = v) (hown : OffInts w B v l) (b o2 c n : Nat) (hx : a.eval x = .slice (some ⟨b, o2, none⟩) 1 c) (hc : w.cell? ⟨b, o2, none⟩ = some (.int .i64 (n : Nat))) (hl : l.length ≤ 1000) (hB : B ≤ w.heap.size) (H : Nat) (hH : w.heap.size = H)
    (h : ∀ g o cap w', OffInts w' B (.slice (some ⟨g, o, none⟩) (l.length + 1) cap) (l ++ [n]) → w.grownBy w' v.ownBlock → (v.ownBlock = some g ∨ g = H) → g < w'.heap.size → K (a.put op.dst (.slice (some ⟨g, o, none⟩) (l.length + 1) cap)) w') :
    if Region.wanted op (yielded ops a.tmps) = true then Oper.wp Tryz.prog op a w K Q else E := by
  have hw : Region.wanted op (yielded ops a.tmps) = true := by simp [Region.wanted, hgd]
  rw [if_pos hw]
  obtain ⟨g, o, cap, w', hr, h2, h3, h4, h5⟩ := run_append_off w t op.type ht B v l hown n b o2 c hc hl hB
  unfold Oper.wp execOp
  simp only [ho, resolve, invoke, builtin, Sem.run_bind, Sem.run_pure, Result.andThen_ok, List.map_toArray, List.map_cons, List.map_nil, hs, hx, hr]
  exact h g o cap w' h2 h3 (by rw [← hH]; exact h4) h5
end Go.Proofs.YtmdkjcigmhgpeaaGreatDoor

/- A run of law 07 as plain data: what must be there behind each act. No program in sight. -/
namespace Go.Proofs.YtmdkjcigmhgpeaaGreatDoor
namespace Wal
open SealMath Dsk Snp

theorem used_segs (l : List SG) : used (l.map fileOf) = (l.map (fun s => (bytesOf s.first s.recs).length)).sum := by
  unfold used
  rw [List.map_map]
  rfl
theorem bytesOf_weight (n : Nat) (l : List (List UInt8)) : (bytesOf n l).length = weight l := by
  induction l generalizing n with
  | nil => rfl
  | cons x r ih => rw [bytesOf_cons, List.length_append, recB_length, ih]; simp [weight]
theorem weight_append (a b : List (List UInt8)) : weight (a ++ b) = weight a + weight b := by simp [weight]
theorem flat_cons (s : SG) (r : List SG) : flat (s :: r) = s.recs ++ flat r := by simp [flat]
theorem sum_weight (l : List SG) : (l.map (fun s => (bytesOf s.first s.recs).length)).sum = weight (flat l) := by
  induction l with
  | nil => rfl
  | cons s r ih => rw [flat_cons, weight_append, List.map_cons, List.sum_cons, ih, bytesOf_weight]
variable {S : DS} {L : LG} {a : Nat} {pre : List SG} {s : SG}
theorem Stp.used (h : Stp S L a pre s) : used S.files = weight (flat pre ++ s.recs) := by
  have e : pre.map fileOf ++ [fileOf s] = (pre ++ [s]).map fileOf := by simp
  rw [h.files, e, used_segs, sum_weight, flat_append, flat_one]
theorem Row.count {l : List SG} : ∀ {n m : Nat}, Row n l m → l.length ≤ (flat l).length := by
  induction l with
  | nil => intro n m _; exact Nat.zero_le _
  | cons s r ih =>
    intro n m h
    have h1 := ih h.2.2.2.2
    have h2 := List.length_pos_iff.2 h.2.1
    rw [flat_cons, List.length_append, List.length_cons]
    omega
theorem num_mem {x : RC} : ∀ {l : List (List UInt8)} {n : Nat}, x ∈ num n l → n ≤ x.1 ∧ x.1 < n + l.length := by
  intro l
  induction l with
  | nil => intro n h; simp [num] at h
  | cons y r ih =>
    intro n h
    simp only [num, List.mem_cons] at h
    rw [List.length_cons]
    rcases h with rfl | h
    · exact ⟨Nat.le_refl _, by simp only; omega⟩
    · have := ih h; omega
theorem num_filter (n : Nat) (l r : List (List UInt8)) : (num n (l ++ r)).filter (fun x => decide (n + l.length ≤ x.1)) = num (n + l.length) r := by
  rw [num_append, List.filter_append, List.filter_eq_nil_iff.2, List.nil_append, List.filter_eq_self.2]
  · intro x hx
    have := num_mem hx
    simp; omega
  · intro x hx
    have := num_mem hx
    simp; omega
theorem starts_head {l : List SG} {s : SG} {b : Nat} (h : Row b l s.first) : ((l ++ [s]).map SG.first).headD 0 = b := by
  cases l with
  | nil => exact Eq.symm h
  | cons p r => exact h.1
theorem whole_map (l : List SG) (s : SG) : (l ++ [wholeK s]).map SG.first = (l ++ [s]).map SG.first := by simp [wholeK]
/-- The records that stay. -/
def keepR (starts : List Nat) (recs : List RC) : List RC := recs.filter (fun x => decide (starts.headD 0 ≤ x.1))

/-- A run, behind n acts. -/
structure Way (n : Nat) (S : DS) (L : LG) (recs : List RC) (starts : List Nat) (next safe : Nat) (fresh : Bool) : Prop where
  st : (Emp S L ∧ recs = [] ∧ starts = [] ∧ safe = 0 ∧ fresh = true) ∨
    ∃ a pre s, Stp S L a pre s ∧ recs = num a (flat pre ++ s.recs) ∧ starts = (pre ++ [s]).map SG.first ∧ safe = L.safe ∧ fresh = L.fresh ∧ weight (flat pre ++ s.recs) ≤ 320 * n
  next : next = L.next
  lim : L.next ≤ n
  uses : S.uses ≤ 50 * n
  sorted : Sorted S.files
  room : S.room = 1048576
theorem Way.first : Way 0 (new 1048576) (emptyL 0) [] [] 0 0 true :=
  ⟨.inl ⟨emp_first rfl rfl, rfl, rfl, rfl, rfl⟩, rfl, Nat.le_refl _, Nat.le_refl _, List.Pairwise.nil, rfl⟩
variable {n : Nat} {recs : List RC} {starts : List Nat} {next safe : Nat} {fresh : Bool}
theorem Way.on (h : Way n S L recs starts next safe fresh) : S.off = false := by
  rcases h.st with ⟨h1, _⟩ | ⟨a, pre, s, h1, _⟩
  · exact h1.on
  · exact h1.on
theorem Way.err (h : Way n S L recs starts next safe fresh) : L.err = 0 := by
  rcases h.st with ⟨h1, _⟩ | ⟨a, pre, s, h1, _⟩
  · exact h1.err
  · exact h1.err
theorem Way.safe_eq (h : Way n S L recs starts next safe fresh) : L.safe = safe := by
  rcases h.st with ⟨h1, _, _, rfl, _⟩ | ⟨a, pre, s, h1, _, _, rfl, _⟩
  · exact h1.safe
  · rfl
theorem Way.file (h : Way n S L recs starts next safe fresh) : L.file.size ≤ 20 := by
  rcases h.st with ⟨h1, _⟩ | ⟨a, pre, s, h1, _⟩
  · rw [h1.file]; decide
  · have h2 := h1.next; have h3 := h1.lim
    rw [h1.file, seg_size _ _ (by omega)]
    decide
theorem Way.size (h : Way n S L recs starts next safe fresh) : L.size ≤ 320 * n := by
  rcases h.st with ⟨h1, _⟩ | ⟨a, pre, s, h1, _, _, _, _, hw⟩
  · rw [h1.size]; exact Nat.zero_le _
  · rw [h1.size, bytesOf_weight]
    rw [weight_append] at hw
    omega
theorem Way.counts (h : Way n S L recs starts next safe fresh) : recs.length ≤ n ∧ starts.length ≤ n ∧ safe ≤ n := by
  have hl := h.lim
  rcases h.st with ⟨h1, rfl, rfl, rfl, rfl⟩ | ⟨a, pre, s, h1, rfl, rfl, rfl, rfl, hw⟩
  · exact ⟨Nat.zero_le _, Nat.zero_le _, Nat.zero_le _⟩
  · have h2 := h1.next; have h3 := h1.row.next; have h4 := h1.row.count; have h5 := h1.pos; have h6 := h1.safe
    rw [num_length, List.length_append, List.length_map, List.length_append, List.length_singleton]
    omega
theorem Stp.sorted_whole {T : DS} {M : LG} {b i : Nat} (h : Stp S L a pre s) (hs : Sorted S.files) (k : Stp T M b (pre.drop i) (wholeK s)) : Sorted T.files := by
  have h1 : Sorted (pre.map fileOf ++ [fileOf (wholeK s)]) := by
    rw [← h.synced]; exact keep_sorted hs _
  have h2 : ((pre.drop i).map fileOf ++ [fileOf (wholeK s)]).Sublist (pre.map fileOf ++ [fileOf (wholeK s)]) :=
    List.Sublist.append ((List.drop_sublist i pre).map _) (List.Sublist.refl _)
  rw [k.files]
  exact List.Pairwise.sublist h2 h1
theorem Way.append (h : Way n S L recs starts next safe fresh) (hn : n ≤ 40) (x : List UInt8) (hx : x.length ≤ 300) :
    (∃ T M, appendW nameW S L x = ((next, 0), M, T) ∧ Way (n + 1) T M (recs ++ [(next, bts x)]) (if fresh = true then starts ++ [next] else starts) (next + 1) (if fresh = true then next else safe) false ∧ T.armed = S.armed) ∨
    (∃ T M, appendW nameW S L x = ((0, 7), M, T) ∧ M.err = 7 ∧ T.off = true ∧ T.files = S.files ∧ T.uses ≤ S.uses + 2 ∧ (S.armed = false → False)) := by
  have hnx := h.next
  subst hnx
  have hlim := h.lim
  have hus := h.uses
  have hsz := h.size
  rcases h.st with ⟨h1, rfl, rfl, rfl, rfl⟩ | ⟨a, pre, s, h1, rfl, rfl, rfl, rfl, hw⟩
  · have hfree : (x.length : Int) + 20 ≤ free S := by
      unfold free
      rw [h.room, h1.files]
      simp [used]; omega
    have hn0 : L.next = 0 := h1.next
    rcases append_emp h1 x (by omega) hfree with ⟨T, M, a1, a2, a3⟩ | ⟨T, M, a1, a2, a3, a4, a5, _, _, a6⟩
    · refine .inl ⟨T, M, by rw [a1, hn0], ⟨.inr ⟨0, [], ⟨0, [x], 0⟩, a2, ?_, ?_, ?_, a3.fresh.symm, ?_⟩, a3.next.symm, by have := a3.next; omega, by have := a3.uses; omega, a3.sorted, a3.room.trans h.room⟩, a3.armed⟩
      · rw [hn0]; rfl
      · rw [if_pos rfl, hn0]; rfl
      · rw [if_pos rfl, a3.safe, ends_emp h1, if_pos rfl]
      · simp [flat, weight]; omega
    · exact .inr ⟨T, M, a1, a2, a3, a4, a5, a6⟩
  · have hu : used S.files = weight (flat pre ++ s.recs) := h1.used
    have hfree : (x.length : Int) + 20 ≤ free S := by
      unfold free
      rw [h.room, hu]
      omega
    have h2 := h1.next; have h3 := h1.row.next; have h4 := h1.row.count; have h5 := h1.pos
    have hcnt : S.files.length < 100 := by
      rw [h1.files, List.length_append, List.length_map, List.length_singleton]
      omega
    have he : ends L = L.fresh := by rw [ends_stp h1, decide_eq_false (by omega), Bool.or_false]
    rcases append_stp h1 h.sorted x (by omega) (by omega) hfree (by omega) hcnt with ⟨T, M, p, t, a1, a2, a3, a4⟩ | ⟨T, M, a1, a2, a3, a4, a5, a6, a7, a8⟩
    · have e : flat p ++ t.recs = (flat pre ++ s.recs) ++ [x] := by
        rcases a4 with ⟨_, rfl, rfl⟩ | ⟨_, rfl, rfl⟩
        · exact (List.append_assoc _ _ _).symm
        · rw [flat_append, flat_one]; rfl
      refine .inl ⟨T, M, a1, ⟨.inr ⟨a, p, t, a2, ?_, ?_, ?_, a3.fresh.symm, ?_⟩, a3.next.symm, by rw [a3.next]; omega, by have := a3.uses; omega, a3.sorted, a3.room.trans h.room⟩, a3.armed⟩
      · have : a + (flat pre ++ s.recs).length = L.next := by rw [List.length_append]; omega
        rw [e, num_append a (flat pre ++ s.recs) [x], this]; rfl
      · rcases a4 with ⟨k, rfl, rfl⟩ | ⟨k, rfl, rfl⟩
        · rw [he] at k; rw [k]; simp
        · rw [he] at k; rw [k, if_pos rfl]; simp [wholeK]
      · rw [a3.safe, he]
      · rw [e, weight_append]; simp [weight] at hw ⊢; omega
    · exact .inr ⟨T, M, a1, a2, a3, a4 (by omega), a5, a8⟩
theorem Way.commit (h : Way n S L recs starts next safe fresh) :
    (∃ T M, commitW S L = (0, M, T) ∧ Way (n + 1) T M recs starts next next fresh ∧ T.armed = S.armed) ∨
    (∃ T M, commitW S L = (7, M, T) ∧ M.err = 7 ∧ T.off = true ∧ T.files = S.files ∧ T.uses ≤ S.uses + 1 ∧ (S.armed = false → False)) := by
  have hnx := h.next
  subst hnx
  have hlim := h.lim
  have hus := h.uses
  rcases h.st with ⟨h1, rfl, rfl, rfl, rfl⟩ | ⟨a, pre, s, h1, rfl, rfl, rfl, rfl, hw⟩
  · exact .inl ⟨S, L, commit_emp h1, ⟨.inl ⟨h1, rfl, rfl, h1.next, rfl⟩, rfl, by omega, by omega, h.sorted, h.room⟩, rfl⟩
  · rcases commit_way h1 with ⟨T, t1, t2, t3, _⟩ | ⟨T, t1, _, t2, t3, t4⟩
    · have hs : Sorted T.files := Stp.sorted_whole (i := 0) h1 h.sorted t2
      exact .inl ⟨T, L.all, t1, ⟨.inr ⟨a, pre, wholeK s, t2, rfl, (whole_map pre s).symm, rfl, rfl, Nat.le_trans hw (by omega)⟩, rfl, by show L.next ≤ _; omega, by have := t3.uses; omega, hs, t3.room.trans h.room⟩, t3.armed⟩
    · exact .inr ⟨T, L.off, t1, rfl, t3, t2, t4.uses, fun k => by have := t4.calm h1.on k; rw [this] at t3; cases t3⟩
theorem Way.rotate (h : Way n S L recs starts next safe fresh) :
    (∃ T M, rotateW S L = (0, M, T) ∧ Way (n + 1) T M recs starts next next true ∧ T.armed = S.armed) ∨
    (∃ T M, rotateW S L = (7, M, T) ∧ M.err = 7 ∧ T.off = true ∧ T.files = S.files ∧ T.uses ≤ S.uses + 1 ∧ (S.armed = false → False)) := by
  have hnx := h.next
  subst hnx
  have hlim := h.lim
  have hus := h.uses
  rcases h.st with ⟨h1, rfl, rfl, rfl, rfl⟩ | ⟨a, pre, s, h1, rfl, rfl, rfl, rfl, hw⟩
  · exact .inl ⟨S, L, rotate_emp h1, ⟨.inl ⟨h1, rfl, rfl, h1.next, rfl⟩, rfl, by omega, by omega, h.sorted, h.room⟩, rfl⟩
  · rcases rotate_way h1 with ⟨T, t1, t2, t3⟩ | ⟨T, t1, t2, t3, t4⟩
    · have hs : Sorted T.files := Stp.sorted_whole (i := 0) h1 h.sorted t2
      exact .inl ⟨T, L.turn, t1, ⟨.inr ⟨a, pre, wholeK s, t2, rfl, (whole_map pre s).symm, rfl, rfl, Nat.le_trans hw (by omega)⟩, rfl, by show L.next ≤ _; omega, by have := t3.uses; omega, hs, t3.room.trans h.room⟩, t3.armed⟩
    · exact .inr ⟨T, L.off, t1, rfl, t3, t2, t4.uses, fun k => by have := t4.calm h1.on k; rw [this] at t3; cases t3⟩
theorem Way.forget (h : Way n S L recs starts next safe fresh) (hn : n ≤ 40) (below : Int) :
    (∃ T M, forgetW nameW below S L = (0, M, T) ∧ Way (n + 1) T M (keepR (dropN below starts) recs) (dropN below starts) next next fresh ∧ T.armed = S.armed) ∨
    (∃ T M, forgetW nameW below S L = (7, M, T) ∧ M.err = 7 ∧ T.off = true ∧ (S.armed = false → False) ∧ T.uses ≤ S.uses + 50 ∧
      (T.files = S.files ∨ ∃ a pre s i b, Stp S L a pre s ∧ recs = num a (flat pre ++ s.recs) ∧ i ≤ pre.length ∧ Lie T b (pre.drop i) (wholeK s) s.recs.length ∧ b = a + (flat (pre.take i)).length ∧ (i = 0 ∨ (b : Int) ≤ below))) := by
  have hnx := h.next
  subst hnx
  have hlim := h.lim
  have hus := h.uses
  rcases h.st with ⟨h1, rfl, rfl, rfl, rfl⟩ | ⟨a, pre, s, h1, rfl, rfl, rfl, rfl, hw⟩
  · exact .inl ⟨S, L, forget_emp below h1, ⟨.inl ⟨h1, rfl, rfl, h1.next, rfl⟩, rfl, by omega, by omega, h.sorted, h.room⟩, rfl⟩
  · have h2 := h1.next; have h3 := h1.row.next; have h4 := h1.row.count; have h5 := h1.pos
    rcases forget_way below h1 with ⟨T, i, b, t1, t2, t3, t4, t5, t6, t7, t8⟩ | ⟨T, M, t1, t2, t3, t4, t5, t6⟩
    · have e : flat pre ++ s.recs = flat (pre.take i) ++ (flat (pre.drop i) ++ s.recs) := by
        rw [← List.append_assoc, ← flat_append, List.take_append_drop]
      have hk : keepR (dropN below ((pre ++ [s]).map SG.first)) (num a (flat pre ++ s.recs)) = num b (flat (pre.drop i) ++ s.recs) := by
        unfold keepR
        rw [t5, starts_head (s := s) t3.row, e, t4]
        exact num_filter a _ _
      have hs : Sorted T.files := h1.sorted_whole h.sorted t3
      rw [hk, t5]
      refine .inl ⟨T, L.all, t1, ⟨.inr ⟨b, pre.drop i, wholeK s, t3, rfl, (whole_map _ s).symm, rfl, rfl, ?_⟩, rfl, by show L.next ≤ _; omega, by omega, hs, t7.trans h.room⟩, t6⟩
      show weight (flat (pre.drop i) ++ s.recs) ≤ _
      rw [e, weight_append] at hw
      omega
    · refine .inr ⟨T, M, t1, t2, t3, t4, by omega, ?_⟩
      rcases t6 with t6 | ⟨i, b, u1, u2, u3, u4⟩
      · exact .inl t6
      · exact .inr ⟨a, pre, s, i, b, h1, rfl, u1, u2, u3, u4⟩
theorem Way.opened (h : Way n S L recs starts next safe fresh) (ha : S.armed = false) :
    ∃ T M, openW S nameW 0 = (0, recs, M, T) ∧ Way (n + 1) T M recs starts next next (decide (starts.length = 0)) ∧ T.armed = false := by
  have hnx := h.next
  subst hnx
  have hlim := h.lim
  have hus := h.uses
  rcases h.st with ⟨h1, rfl, rfl, rfl, rfl⟩ | ⟨a, pre, s, h1, rfl, rfl, rfl, rfl, hw⟩
  · refine ⟨S, emptyL 0, open_emp 0 h1.files, ⟨.inl ⟨emp_first h1.on h1.files, rfl, rfl, h1.next, rfl⟩, h1.next, Nat.zero_le _, by omega, h.sorted, h.room⟩, ha⟩
  · obtain ⟨T, t1, t2, t3, t4, t5⟩ := open_stp 0 h1 ha h.sorted
    have hs : Sorted T.files := Stp.sorted_whole (i := 0) h1 h.sorted t2
    exact ⟨T, _, t1, ⟨.inr ⟨a, pre, wholeK s, t2, rfl, (whole_map pre s).symm, rfl, by simp, Nat.le_trans hw (by omega)⟩, rfl, by show L.next ≤ _; omega, by omega, hs, t4.trans h.room⟩, t3⟩
end Wal
end Go.Proofs.YtmdkjcigmhgpeaaGreatDoor

/- Behind a crash: what a log holds that is opened anew, and what law 07 asks of it. No program in sight. -/
namespace Go.Proofs.YtmdkjcigmhgpeaaGreatDoor
namespace Wal
open SealMath Dsk Snp

/-- How many records were committed: behind the last one whose number is below 'safe'. -/
def leastR (safe : Nat) (l : List RC) : Nat := (l.foldl (fun (p : Nat × Nat) x => (p.1 + 1, if x.1 < safe then p.1 + 1 else p.2)) (0, 0)).2
theorem snoc_induct {α : Type} {P : List α → Prop} (h0 : P []) (h1 : ∀ l x, P l → P (l ++ [x])) (l : List α) : P l := by
  have key : ∀ r : List α, P r.reverse := by
    intro r
    induction r with
    | nil => exact h0
    | cons x r ih => rw [List.reverse_cons]; exact h1 _ x ih
  have := key l.reverse
  rwa [List.reverse_reverse] at this
theorem leastR_len (safe : Nat) (l : List RC) : (l.foldl (fun (p : Nat × Nat) x => (p.1 + 1, if x.1 < safe then p.1 + 1 else p.2)) (0, 0)).1 = l.length := by
  induction l using snoc_induct with
  | h0 => rfl
  | h1 l x ih => rw [List.foldl_append, List.length_append]; simp [ih]
theorem leastR_snoc (safe : Nat) (l : List RC) (x : RC) : leastR safe (l ++ [x]) = if x.1 < safe then l.length + 1 else leastR safe l := by
  unfold leastR
  rw [List.foldl_append]
  simp only [List.foldl_cons, List.foldl_nil, leastR_len]
theorem leastR_num (safe a : Nat) (l : List (List UInt8)) : leastR safe (num a l) ≤ safe - a ∧ leastR safe (num a l) ≤ l.length := by
  induction l using snoc_induct with
  | h0 => exact ⟨Nat.zero_le _, Nat.le_refl _⟩
  | h1 l x ih =>
    have e : num a (l ++ [x]) = num a l ++ [(a + l.length, bts x)] := by rw [num_append]; rfl
    rw [e, leastR_snoc, num_length, List.length_append, List.length_singleton]
    split
    · rename_i h; simp only at h; omega
    · omega
/-- The first number of what was read. -/
def firstR : List RC → Nat
  | [] => 0
  | x :: _ => x.1
/-- How many records stand ahead of a number. -/
def goneR (first : Nat) : List RC → Nat
  | [] => 0
  | x :: r => if x.1 < first then goneR first r + 1 else 0
theorem goneR_none (first : Nat) (l : List RC) (h : ∀ x ∈ l.head?, first ≤ x.1) : goneR first l = 0 := by
  cases l with
  | nil => rfl
  | cons x r =>
    have := h x rfl
    unfold goneR
    rw [if_neg (by omega)]
theorem goneR_num (a : Nat) (l : List (List UInt8)) : ∀ k, k ≤ l.length → goneR (a + k) (num a l) = k := by
  induction l generalizing a with
  | nil => intro k hk; have : k = 0 := by simpa using hk
           subst this; rfl
  | cons x r ih =>
    intro k hk
    cases k with
    | zero => unfold num goneR; rw [if_neg (by simp)]
    | succ k =>
      unfold num goneR
      rw [if_pos (by simp only; omega), show a + (k + 1) = a + 1 + k by omega, ih (a + 1) k (by simpa using hk)]
/-- What the law asks of the records that were read. -/
def Fair (kind below : Int) (safe : Nat) (recs got : List RC) : Prop :=
  if kind = 3 then
    (goneR (firstR got) recs = 0 ∨ ((firstR got : Nat) : Int) ≤ below ∧ goneR (firstR got) recs + got.length = recs.length) ∧ leastR safe recs ≤ goneR (firstR got) recs + got.length ∧
      goneR (firstR got) recs + got.length ≤ recs.length ∧ got = (recs.drop (goneR (firstR got) recs)).take got.length
  else leastR safe recs ≤ got.length ∧ got.length ≤ recs.length ∧ got = recs.take got.length
theorem Fair.of_take {kind below : Int} {safe : Nat} {recs got : List RC} (h1 : leastR safe recs ≤ got.length) (h2 : got.length ≤ recs.length) (h3 : got = recs.take got.length) : Fair kind below safe recs got := by
  unfold Fair
  split
  · have hg : goneR (firstR got) recs = 0 := by
      refine goneR_none _ _ (fun x hx => ?_)
      cases got with
      | nil => exact Nat.zero_le _
      | cons y r =>
        cases recs with
        | nil => simp at hx
        | cons z q =>
          simp at hx; subst hx
          simp at h3
          show y.1 ≤ z.1
          rw [h3.1]; exact Nat.le_refl _
    rw [hg, Nat.zero_add, List.drop_zero]
    exact ⟨.inl rfl, h1, h2, h3⟩
  · exact ⟨h1, h2, h3⟩
/-- What two openings behind a crash give. -/
def Again (S : DS) (kind below : Int) (safe : Nat) (recs : List RC) : Prop :=
  ∀ ks : List Int, ∃ got M T N U, openW (Dsk.crash S ks) nameW 0 = (0, got, M, T) ∧ openW T nameW 0 = (0, got, N, U) ∧ T.uses ≤ S.uses + 2 ∧ T.off = false ∧ Fair kind below safe recs got
theorem crash_none {S : DS} (h : S.files = []) (ks : List Int) : (Dsk.crash S ks).files = [] := by
  show List.mapIdx _ S.files = []
  rw [h]; rfl
variable {n : Nat} {S : DS} {L : LG} {recs : List RC} {starts : List Nat} {next safe : Nat} {fresh : Bool}
theorem Way.again (h : Way n S L recs starts next safe fresh) {T : DS} (hf : T.files = S.files) (kind below : Int) : Again T kind below safe recs := by
  intro ks
  rcases h.st with ⟨h1, rfl, rfl, rfl, rfl⟩ | ⟨a, pre, s, h1, rfl, rfl, rfl, rfl, hw⟩
  · have hc := crash_none (hf.trans h1.files) ks
    refine ⟨[], _, _, _, _, open_emp 0 hc, open_emp 0 hc, ?_, rfl, Fair.of_take (Nat.le_refl _) (Nat.le_refl _) rfl⟩
    show T.uses ≤ _; omega
  · obtain ⟨j, U, M, V, N, j1, j2, o1, o2, o3, o4⟩ := (h1.lie.same hf).open (by rw [hf]; exact h.sorted) ks 0 0
    refine ⟨_, M, U, N, V, o1, o2, o3, o4, Fair.of_take ?_ ?_ ?_⟩
    · have k1 := (leastR_num L.safe a (flat pre ++ s.recs)).1
      have k2 := h1.low; have k3 := h1.row.next
      rw [num_length, List.length_append, List.length_take]
      omega
    · rw [num_length, num_length, List.length_append, List.length_append, List.length_take]
      omega
    · have e : flat pre ++ s.recs = (flat pre ++ s.recs.take j) ++ s.recs.drop j := by rw [List.append_assoc, List.take_append_drop]
      rw [(congrArg (num a) e).trans (num_append a _ _)]
      exact List.take_left.symm
theorem lost_again {T : DS} {a b i : Nat} {pre : List SG} {s : SG} {below : Int} (h1 : Stp S L a pre s) (hs : Sorted S.files) (hi : i ≤ pre.length) (hl : Lie T b (pre.drop i) (wholeK s) s.recs.length) (hb : b = a + (flat (pre.take i)).length) (hc : i = 0 ∨ (b : Int) ≤ below) :
    Again T 3 below safe (num a (flat pre ++ s.recs)) := by
  intro ks
  have hsT : Sorted T.files := by
    have h1' : Sorted (pre.map fileOf ++ [fileOf (wholeK s)]) := by
      rw [← h1.synced]; exact keep_sorted hs _
    have h2 : ((pre.drop i).map fileOf ++ [fileOf (wholeK s)]).Sublist (pre.map fileOf ++ [fileOf (wholeK s)]) :=
      List.Sublist.append ((List.drop_sublist i pre).map _) (List.Sublist.refl _)
    rw [hl.files]
    exact List.Pairwise.sublist h2 h1'
  obtain ⟨j, U, M, V, N, j1, j2, o1, o2, o3, o4⟩ := hl.open hsT ks 0 0
  have hj : j = s.recs.length := Nat.le_antisymm j2 j1
  subst hj
  have e0 : (wholeK s).recs.take s.recs.length = s.recs := List.take_of_length_le (Nat.le_refl _)
  rw [e0] at o1 o2
  refine ⟨_, M, U, N, V, o1, o2, o3, o4, ?_⟩
  have e : flat pre ++ s.recs = flat (pre.take i) ++ (flat (pre.drop i) ++ s.recs) := by
    rw [← List.append_assoc, ← flat_append, List.take_append_drop]
  have hp := h1.pos
  have hfirst : firstR (num b (flat (pre.drop i) ++ s.recs)) = b := by
    cases hq : flat (pre.drop i) ++ s.recs with
    | nil =>
      have := congrArg List.length hq
      rw [List.length_append, List.length_nil] at this
      omega
    | cons x r => rfl
  have hgone : goneR b (num a (flat pre ++ s.recs)) = (flat (pre.take i)).length := by
    rw [hb]
    exact goneR_num a _ _ (by rw [e, List.length_append]; omega)
  have hlen : (num a (flat pre ++ s.recs)).length = (flat (pre.take i)).length + (flat (pre.drop i) ++ s.recs).length := by rw [num_length, e, List.length_append]
  unfold Fair
  rw [if_pos rfl, hfirst, hgone, hlen, num_length]
  refine ⟨?_, ?_, Nat.le_refl _, ?_⟩
  · rcases hc with rfl | hc
    · left; simp [flat]
    · exact .inr ⟨hc, rfl⟩
  · have := (leastR_num safe a (flat pre ++ s.recs)).2
    rw [e, List.length_append] at this
    rw [e]; exact this
  · rw [e, num_append a (flat (pre.take i)) _, List.drop_left' (by rw [num_length]), ← hb, List.take_of_length_le (by rw [num_length]; exact Nat.le_refl _)]
end Wal
end Go.Proofs.YtmdkjcigmhgpeaaGreatDoor

/- A run of law 07 in memory: its log and disk, its records and its segments' starts, each in blocks of its own. -/
namespace Go.Proofs.YtmdkjcigmhgpeaaGreatDoor
open Go.RowKit Snp SealMath Dsk Wal

abbrev X4 (Z : Nat → Prop) (lb rb : Nat) (vr vs : Value) : Nat → Prop := fun x => x = lb ∨ x = rb ∨ vr.ownBlock = some x ∨ vs.ownBlock = some x ∨ Z x
/-- What a run holds, but for its own row; Z: blocks that the run must leave alone. -/
structure RW (Z : Nat → Prop) (B : Nat) (w : World) (rb d lb : Nat) (vr vs : Value) (S : DS) (L : LG) (recs : List RC) (starts : List Nat) : Prop where
  wh : WH B (X4 Z lb rb vr vs) w d lb S L
  recs : OwnRecs w B vr recs
  starts : OffInts w B vs starts
  low : B ≤ rb
  ne : rb ≠ lb
  vr1 : vr.ownBlock ≠ some lb
  vr2 : vr.ownBlock ≠ some rb
  vs1 : vs.ownBlock ≠ some lb
  vs2 : vs.ownBlock ≠ some rb
  apart : ∀ g, vr.ownBlock = some g → vs.ownBlock ≠ some g
  zl : ¬ Z lb
  zr : ¬ Z rb
  zvr : ∀ g, vr.ownBlock = some g → ¬ Z g
  zvs : ∀ g, vs.ownBlock = some g → ¬ Z g
/-- What a run may turn: blocks from B on, but for Z's. -/
abbrev Bel (Z : Nat → Prop) (B : Nat) (w w' : World) : Prop := Only (fun x => B ≤ x ∧ ¬ Z x) w w'
variable {Z : Nat → Prop} {B : Nat} {w w' : World} {rb d lb : Nat} {vr vs : Value} {S T : DS} {L M : LG} {recs : List RC} {starts : List Nat}
theorem Bel.ext (k : Ext w w') : Bel Z B w w' := Only.ext k
theorem Bel.below (h : Bel Z B w w') (hB : B ≤ w.heap.size) : Below B w w' := Only.below h hB (fun _ k => k.1)
theorem RW.zlt (h : RW Z B w rb d lb vr vs S L recs starts) : ∀ x, Z x → x < w.heap.size := fun x hx => h.wh.lt x (.inr (.inr (.inr (.inr hx))))
theorem RW.ext (h : RW Z B w rb d lb vr vs S L recs starts) (k : Ext w w') : RW Z B w' rb d lb vr vs S L recs starts :=
  ⟨h.wh.ext k, h.recs.ext k, h.starts.ext k, h.low, h.ne, h.vr1, h.vr2, h.vs1, h.vs2, h.apart, h.zl, h.zr, h.zvr, h.zvs⟩
/-- A use of the log. -/
theorem RW.turn (h : RW Z B w rb d lb vr vs S L recs starts) (hw : WH B (X4 Z lb rb vr vs) w' d lb T M) (ho : Turns B (X4 Z lb rb vr vs) lb w w') : RW Z B w' rb d lb vr vs T M recs starts :=
  ⟨hw, h.recs.only ho (fun g hg k => by
      rcases k with rfl | k
      · exact h.vr1 hg
      · exact k.2 (.inr (.inr (.inl hg)))), h.starts.only ho (fun g hg k => by
      rcases k with rfl | k
      · exact h.vs1 hg
      · exact k.2 (.inr (.inr (.inr (.inl hg))))), h.low, h.ne, h.vr1, h.vr2, h.vs1, h.vs2, h.apart, h.zl, h.zr, h.zvr, h.zvs⟩
/-- The run's row turns. -/
theorem RW.own (h : RW Z B w rb d lb vr vs S L recs starts) (k : Only (fun x => x = rb) w w') : RW Z B w' rb d lb vr vs S L recs starts :=
  ⟨h.wh.own k (fun x hx => by subst hx; exact ⟨.inr (.inl rfl), h.ne⟩), h.recs.only k (fun g hg e => by subst e; exact h.vr2 hg), h.starts.only k (fun g hg e => by subst e; exact h.vs2 hg), h.low, h.ne, h.vr1, h.vr2, h.vs1, h.vs2, h.apart, h.zl, h.zr, h.zvr, h.zvs⟩
theorem RW.belRow (h : RW Z B w rb d lb vr vs S L recs starts) {u u' : World} (k : Only (fun x => x = rb) u u') : Bel Z B u u' := k.mono (fun x _ e => by subst e; exact ⟨h.low, h.zr⟩)
theorem RW.lt (h : RW Z B w rb d lb vr vs S L recs starts) : rb < w.heap.size ∧ lb < w.heap.size := ⟨h.wh.lt _ (.inr (.inl rfl)), h.wh.lt _ (.inl rfl)⟩
/-- X4 where a row has another block: the old one, or a new one. -/
theorem WH.swap {X : Nat → Prop} {row : Option Nat} (h : WH B X w d lb S L) (hrow : ∀ x, row = some x → X x) (hl : row ≠ some lb) (hg : w.grownBy w' row) {Y : Nat → Prop} (hY : ∀ x, Y x → X x ∨ (w.heap.size ≤ x ∧ x < w'.heap.size)) (hYl : Y lb) : WH B Y w' d lb S L := by
  obtain ⟨G, h1, h2⟩ := h.disk
  have ho := only_grown hg
  refine ⟨h.log.only ho hl, h.low, hYl, fun x hx => ?_, Nat.le_trans h.big hg.size, fun x => G x ∧ x < w.heap.size, (disk_small h1).only ho (fun x hx hy => (h2 x hx.1).2 (hrow x hy)), fun x hx => ⟨(h2 x hx.1).1, fun hn => ?_⟩⟩
  · rcases hY x hx with k | k
    · exact Nat.lt_of_lt_of_le (h.lt x k) hg.size
    · exact k.2
  · rcases hY x hn with k | k
    · exact (h2 x hx.1).2 k
    · have := hx.2; omega
theorem RW.growR (h : RW Z B w rb d lb vr vs S L recs starts) (hg : w.grownBy w' vr.ownBlock) {g n c : Nat} {more : List RC} (ho : OwnRecs w' B (.slice (some ⟨g, 0, none⟩) n c) more) (hat : vr.ownBlock = some g ∨ g = w.heap.size) (hlt : g < w'.heap.size) :
    RW Z B w' rb d lb (.slice (some ⟨g, 0, none⟩) n c) vs S L more starts := by
  have hlt2 := h.lt
  have hsl := h.starts.lt
  have hzl := h.zlt
  refine ⟨h.wh.swap (row := vr.ownBlock) (fun x hx => .inr (.inr (.inl hx))) h.vr1 hg (fun x hx => ?_) (.inl rfl), ho, h.starts.only (only_grown hg) (fun y hy e => h.apart y e hy), h.low, h.ne, ?_, ?_, h.vs1, h.vs2, ?_, h.zl, h.zr, ?_, h.zvs⟩
  · rcases hx with hx | hx | hx | hx | hx
    · exact .inl (.inl hx)
    · exact .inl (.inr (.inl hx))
    · cases hx
      rcases hat with hat | hat
      · exact .inl (.inr (.inr (.inl hat)))
      · exact .inr ⟨Nat.le_of_eq hat.symm, hlt⟩
    · exact .inl (.inr (.inr (.inr (.inl hx))))
    · exact .inl (.inr (.inr (.inr (.inr hx))))
  · intro e
    have e2 : g = lb := Option.some.inj e
    rcases hat with hat | hat
    · exact h.vr1 (e2 ▸ hat)
    · omega
  · intro e
    have e2 : g = rb := Option.some.inj e
    rcases hat with hat | hat
    · exact h.vr2 (e2 ▸ hat)
    · omega
  · intro y e hy
    have e2 : g = y := Option.some.inj e
    rcases hat with hat | hat
    · exact h.apart _ (e2 ▸ hat) hy
    · have := (hsl _ hy).2; omega
  · intro y e hy
    have e2 : g = y := Option.some.inj e
    rcases hat with hat | hat
    · exact h.zvr _ (e2 ▸ hat) hy
    · have := hzl _ hy; omega
theorem RW.growS (h : RW Z B w rb d lb vr vs S L recs starts) (hg : w.grownBy w' vs.ownBlock) {g o n c : Nat} {more : List Nat} (ho : OffInts w' B (.slice (some ⟨g, o, none⟩) n c) more) (hat : vs.ownBlock = some g ∨ g = w.heap.size) (hlt : g < w'.heap.size) :
    RW Z B w' rb d lb vr (.slice (some ⟨g, o, none⟩) n c) S L recs more := by
  have hlt2 := h.lt
  have hrl := OwnRecs.lt h.recs
  have hzl := h.zlt
  refine ⟨h.wh.swap (row := vs.ownBlock) (fun x hx => .inr (.inr (.inr (.inl hx)))) h.vs1 hg (fun x hx => ?_) (.inl rfl), h.recs.only (only_grown hg) (fun y hy e => h.apart y hy e), ho, h.low, h.ne, h.vr1, h.vr2, ?_, ?_, ?_, h.zl, h.zr, h.zvr, ?_⟩
  · rcases hx with hx | hx | hx | hx | hx
    · exact .inl (.inl hx)
    · exact .inl (.inr (.inl hx))
    · exact .inl (.inr (.inr (.inl hx)))
    · cases hx
      rcases hat with hat | hat
      · exact .inl (.inr (.inr (.inr (.inl hat))))
      · exact .inr ⟨Nat.le_of_eq hat.symm, hlt⟩
    · exact .inl (.inr (.inr (.inr (.inr hx))))
  · intro e
    have e2 : g = lb := Option.some.inj e
    rcases hat with hat | hat
    · exact h.vs1 (e2 ▸ hat)
    · omega
  · intro e
    have e2 : g = rb := Option.some.inj e
    rcases hat with hat | hat
    · exact h.vs2 (e2 ▸ hat)
    · omega
  · intro y hy e
    have e2 : g = y := Option.some.inj e
    rcases hat with hat | hat
    · exact h.apart _ hy (e2 ▸ hat)
    · have := (hrl _ hy).2; omega
  · intro y e hy
    have e2 : g = y := Option.some.inj e
    rcases hat with hat | hat
    · exact h.zvs _ (e2 ▸ hat) hy
    · have := hzl _ hy; omega
/-- starts[1:]: the same block. -/
theorem RW.tailS {g o n c x : Nat} {l : List Nat} (h : RW Z B w rb d lb vr (.slice (some ⟨g, o, none⟩) n c) S L recs (x :: l)) : RW Z B w rb d lb vr (.slice (some ⟨g, o + 1, none⟩) l.length (c - 1)) S L recs l :=
  ⟨h.wh, h.recs, h.starts.tail.2.2, h.low, h.ne, h.vr1, h.vr2, h.vs1, h.vs2, h.apart, h.zl, h.zr, h.zvr, h.zvs⟩
/-- The records are in another row: a new one. -/
theorem RW.newR (h : RW Z B w rb d lb vr vs S L recs starts) (k : Ext w w') {v : Value} {more : List RC} (ho : OwnRecs w' B v more) (hn : ∀ g, v.ownBlock = some g → w.heap.size ≤ g) : RW Z B w' rb d lb v vs S L more starts := by
  have hlt2 := h.lt
  have hsl := h.starts.lt
  have hzl := h.zlt
  have hvl := OwnRecs.lt ho
  refine ⟨(h.wh.more k (Y := fun x => v.ownBlock = some x) (fun x hx => ⟨hn x hx, (hvl x hx).2⟩)).less (fun x hx => ?_) (.inl rfl), ho, h.starts.ext k, h.low, h.ne, fun e => ?_, fun e => ?_, h.vs1, h.vs2, fun y hy e => ?_, h.zl, h.zr, fun y hy e => ?_, h.zvs⟩
  · rcases hx with hx | hx | hx | hx | hx
    · exact .inl (.inl hx)
    · exact .inl (.inr (.inl hx))
    · exact .inr hx
    · exact .inl (.inr (.inr (.inr (.inl hx))))
    · exact .inl (.inr (.inr (.inr (.inr hx))))
  · have := hn _ e; omega
  · have := hn _ e; omega
  · have := hn _ hy; have := (hsl _ e).2; omega
  · have := hn _ hy; have := hzl _ e; omega
/-! ### the run's row -/
theorem RunAt.only {G : Nat → Prop} {next safe : Nat} {fresh : Bool} (h : RunAt w rb d lb vr vs next safe fresh) (k : Only G w w') (hG : ¬ G rb) : RunAt w' rb d lb vr vs next safe fresh := (k.block rb (lt_of_heap h) hG).trans h
theorem RunAt.ext {next safe : Nat} {fresh : Bool} (h : RunAt w rb d lb vr vs next safe fresh) (k : Ext w w') : RunAt w' rb d lb vr vs next safe fresh := (k.block rb (lt_of_heap h)).trans h
theorem only_row (w : World) (rb i : Nat) (v : Value) : Only (fun x => x = rb) w (w.setCell ⟨rb, i, none⟩ v) := (Only.refl _ w).at i v
theorem RunAt.log {next safe lb' : Nat} {fresh : Bool} (h : RunAt w rb d lb vr vs next safe fresh) : RunAt (w.setCell ⟨rb, 1, none⟩ (.pointer (some ⟨lb', 0, none⟩))) rb d lb' vr vs next safe fresh := by
  have := Go.Joins.block_setCell (i := 1) h (.pointer (some ⟨lb', 0, none⟩))
  simpa [RunAt] using this
theorem RunAt.setR {next safe : Nat} {fresh : Bool} (h : RunAt w rb d lb vr vs next safe fresh) (v : Value) : RunAt (w.setCell ⟨rb, 2, none⟩ v) rb d lb v vs next safe fresh := by
  have := Go.Joins.block_setCell (i := 2) h v
  simpa [RunAt] using this
theorem RunAt.setS {next safe : Nat} {fresh : Bool} (h : RunAt w rb d lb vr vs next safe fresh) (v : Value) : RunAt (w.setCell ⟨rb, 3, none⟩ v) rb d lb vr v next safe fresh := by
  have := Go.Joins.block_setCell (i := 3) h v
  simpa [RunAt] using this
theorem RunAt.setN {next safe : Nat} {fresh : Bool} (h : RunAt w rb d lb vr vs next safe fresh) (n : Nat) : RunAt (w.setCell ⟨rb, 4, none⟩ (.int .i64 (n : Nat))) rb d lb vr vs n safe fresh := by
  have := Go.Joins.block_setCell (i := 4) h (.int .i64 (n : Nat))
  simpa [RunAt] using this
theorem RunAt.setF {next safe : Nat} {fresh : Bool} (h : RunAt w rb d lb vr vs next safe fresh) (n : Nat) : RunAt (w.setCell ⟨rb, 5, none⟩ (.int .i64 (n : Nat))) rb d lb vr vs next n fresh := by
  have := Go.Joins.block_setCell (i := 5) h (.int .i64 (n : Nat))
  simpa [RunAt] using this
theorem RunAt.setB {next safe : Nat} {fresh : Bool} (h : RunAt w rb d lb vr vs next safe fresh) (b : Bool) : RunAt (w.setCell ⟨rb, 6, none⟩ (.bool b)) rb d lb vr vs next safe b := by
  have := Go.Joins.block_setCell (i := 6) h (.bool b)
  simpa [RunAt] using this
/-- A run in memory. -/
structure RH (Z : Nat → Prop) (B : Nat) (w : World) (rb d lb : Nat) (vr vs : Value) (S : DS) (L : LG) (recs : List RC) (starts : List Nat) (next safe : Nat) (fresh : Bool) : Prop where
  run : RunAt w rb d lb vr vs next safe fresh
  rest : RW Z B w rb d lb vr vs S L recs starts
theorem RH.ext {next safe : Nat} {fresh : Bool} (h : RH Z B w rb d lb vr vs S L recs starts next safe fresh) (k : Ext w w') : RH Z B w' rb d lb vr vs S L recs starts next safe fresh := ⟨h.run.ext k, h.rest.ext k⟩
/-- A new start: appended, and stored. -/
theorem RH.pushS {next safe : Nat} {fresh : Bool} (h : RH Z B w rb d lb vr vs S L recs starts next safe fresh) (hg : w.grownBy w' vs.ownBlock) {g o n c : Nat} {more : List Nat} (ho : OffInts w' B (.slice (some ⟨g, o, none⟩) n c) more) (hat : vs.ownBlock = some g ∨ g = w.heap.size) (hlt : g < w'.heap.size) :
    RH Z B (w'.setCell ⟨rb, 3, none⟩ (.slice (some ⟨g, o, none⟩) n c)) rb d lb vr (.slice (some ⟨g, o, none⟩) n c) S L recs more next safe fresh ∧ Only (fun x => x = rb ∨ vs.ownBlock = some x) w (w'.setCell ⟨rb, 3, none⟩ (.slice (some ⟨g, o, none⟩) n c)) := by
  have hr := h.run.only (only_grown hg) h.rest.vs2
  exact ⟨⟨hr.setS _, (h.rest.growS hg ho hat hlt).own (only_row _ _ _ _)⟩, ((only_grown hg).mono (fun _ _ k => .inr k)).andThen ((only_row _ _ _ _).mono (fun _ _ k => .inl k))⟩
theorem RH.pushR {next safe : Nat} {fresh : Bool} (h : RH Z B w rb d lb vr vs S L recs starts next safe fresh) (hg : w.grownBy w' vr.ownBlock) {g n c : Nat} {more : List RC} (ho : OwnRecs w' B (.slice (some ⟨g, 0, none⟩) n c) more) (hat : vr.ownBlock = some g ∨ g = w.heap.size) (hlt : g < w'.heap.size) :
    RH Z B (w'.setCell ⟨rb, 2, none⟩ (.slice (some ⟨g, 0, none⟩) n c)) rb d lb (.slice (some ⟨g, 0, none⟩) n c) vs S L more starts next safe fresh ∧ Only (fun x => x = rb ∨ vr.ownBlock = some x) w (w'.setCell ⟨rb, 2, none⟩ (.slice (some ⟨g, 0, none⟩) n c)) := by
  have hr := h.run.only (only_grown hg) h.rest.vr2
  exact ⟨⟨hr.setR _, (h.rest.growR hg ho hat hlt).own (only_row _ _ _ _)⟩, ((only_grown hg).mono (fun _ _ k => .inr k)).andThen ((only_row _ _ _ _).mono (fun _ _ k => .inl k))⟩
/-! ### an act's box beside the run -/
abbrev X5 (Z : Nat → Prop) (lb rb : Nat) (vr vs : Value) (bx : Nat) : Nat → Prop := fun x => X4 Z lb rb vr vs x ∨ x = bx
theorem RW.box (h : RW Z B w rb d lb vr vs S L recs starts) (o : Obj) : WH B (X5 Z lb rb vr vs w.heap.size) (w.alloc o) d lb S L :=
  h.wh.more (Y := fun x => x = w.heap.size) ((Ext.refl w).alloc o) (fun x hx => by subst hx; exact ⟨Nat.le_refl _, by simp⟩)
theorem RH.turn5 {next safe : Nat} {fresh : Bool} {bx : Nat} (h : RH Z B w rb d lb vr vs S L recs starts next safe fresh) (hw : WH B (X5 Z lb rb vr vs bx) w' d lb T M) (ho : Turns B (X5 Z lb rb vr vs bx) lb w w') : RH Z B w' rb d lb vr vs T M recs starts next safe fresh :=
  ⟨h.run.only ho (fun k => by
      rcases k with k | k
      · exact h.rest.ne k
      · exact k.2 (.inl (.inr (.inl rfl)))), h.rest.turn (hw.less (fun x hx => .inl hx) (.inl rfl)) (ho.mono (fun x _ k => k.imp id (fun k => ⟨k.1, fun q => k.2 (.inl q)⟩)))⟩
theorem RH.bel5 {next safe : Nat} {fresh : Bool} {bx : Nat} (h : RH Z B w rb d lb vr vs S L recs starts next safe fresh) {u u' : World} (ho : Turns B (X5 Z lb rb vr vs bx) lb u u') : Bel Z B u u' :=
  ho.mono (fun x _ k => by
    rcases k with rfl | k
    · exact ⟨h.rest.wh.low, h.rest.zl⟩
    · exact ⟨k.1, fun z => k.2 (.inl (.inr (.inr (.inr (.inr z)))))⟩)
/-- The row's turns and the records' are no turn of Z's. -/
theorem RH.belS {next safe : Nat} {fresh : Bool} (h : RH Z B w rb d lb vr vs S L recs starts next safe fresh) {u u' : World} (ho : Only (fun x => x = rb ∨ vs.ownBlock = some x) u u') : Bel Z B u u' :=
  ho.mono (fun x _ k => by rcases k with rfl | k; exact ⟨h.rest.low, h.rest.zr⟩; exact ⟨(h.rest.starts.lt x k).1, h.rest.zvs x k⟩)
theorem RH.belR {next safe : Nat} {fresh : Bool} (h : RH Z B w rb d lb vr vs S L recs starts next safe fresh) {u u' : World} (ho : Only (fun x => x = rb ∨ vr.ownBlock = some x) u u') : Bel Z B u u' :=
  ho.mono (fun x _ k => by rcases k with rfl | k; exact ⟨h.rest.low, h.rest.zr⟩; exact ⟨(OwnRecs.lt h.rest.recs x k).1, h.rest.zvr x k⟩)
/-- The log is opened anew: another log beside the run. -/
theorem RW.reopen (h : RW Z B w rb d lb vr vs S L recs starts) {lb8 : Nat} {P : Nat → Prop} (hw : WH B (fun x => X4 Z lb rb vr vs x ∨ x = lb8 ∨ P x) w' d lb8 T M) (hl : w.heap.size ≤ lb8) (ho : Only (fun x => B ≤ x ∧ ¬ X4 Z lb rb vr vs x) w w') : RW Z B w' rb d lb8 vr vs T M recs starts := by
  have h1 := h.lt; have h2 := h.starts.lt; have h3 := OwnRecs.lt h.recs; have h4 := h.zlt
  refine ⟨hw.less (fun x hx => ?_) (.inl rfl), h.recs.only ho (fun g hg k => k.2 (.inr (.inr (.inl hg)))), h.starts.only ho (fun g hg k => k.2 (.inr (.inr (.inr (.inl hg))))), h.low, by omega, fun e => ?_, h.vr2, fun e => ?_, h.vs2, h.apart, fun e => ?_, h.zr, h.zvr, h.zvs⟩
  · rcases hx with hx | hx | hx | hx | hx
    · exact .inr (.inl hx)
    · exact .inl (.inr (.inl hx))
    · exact .inl (.inr (.inr (.inl hx)))
    · exact .inl (.inr (.inr (.inr (.inl hx))))
    · exact .inl (.inr (.inr (.inr (.inr hx))))
  · have := (h3 _ e).2; omega
  · have := (h2 _ e).2; omega
  · have := h4 _ e; omega
theorem bel_open {X : Nat → Prop} (hZ : ∀ x, Z x → X x) (ho : Only (fun x => B ≤ x ∧ ¬ X x) w w') : Bel Z B w w' := ho.mono (fun x _ k => ⟨k.1, fun z => k.2 (hZ x z)⟩)
end Go.Proofs.YtmdkjcigmhgpeaaGreatDoor

/- law 07's great. -/
namespace Go.Proofs.YtmdkjcigmhgpeaaGreatDoor
open Go.RowKit Go.Maps Dsk SealMath

def greatW (xs : List AW) : Bool := decide (30 < xs.length) || xs.any (fun x => decide (300 < x.data.size))
theorem greatW_hit {xs : List AW} {i : Nat} (hi : i < xs.length) (h : 300 < xs[i].data.size) : greatW xs = true := by
  unfold greatW
  rw [List.any_eq_true.2 ⟨xs[i], List.getElem_mem hi, by simpa using h⟩, Bool.or_true]
theorem greatW_miss {xs : List AW} (hl : ¬ 30 < xs.length) (h : ∀ j (hj : j < xs.length), ¬ 300 < xs[j].data.size) : greatW xs = false := by
  unfold greatW
  rw [decide_eq_false hl, Bool.false_or, List.any_eq_false]
  intro x hx
  obtain ⟨j, hj, rfl⟩ := List.getElem_of_mem hx
  simpa using h j hj
theorem greatW_false {xs : List AW} (h : greatW xs = false) : xs.length ≤ 30 ∧ ∀ x ∈ xs, x.data.size ≤ 300 := by
  unfold greatW at h
  rw [Bool.or_eq_false_iff, decide_eq_false_iff_not, List.any_eq_false] at h
  exact ⟨by omega, fun x hx => by have := h.2 x hx; simpa using this⟩

set_option maxRecDepth 20000 in
set_option maxHeartbeats 1000000 in
theorem great7_any (a : Option Addr) (c : Nat) (xs : List AW) (hN : xs.length ≤ 140737488355328) (w : World) (hs : ActsWAt w a xs) :
    Calls Tryz.prog 44 #[.slice a xs.length c] w fun e w' => e = .returned (.bool (greatW xs)) ∧ w = w' := by
  have HS := Lib.hid hs; clear hs
  go_enter Tryz.func44, Tryz.ntmps44
  by_cases h50 : 30 < xs.length
  · have h50' : (30 : Int) < ((xs.length : Nat) : Int) := by omega
    rw [show greatW xs = true by unfold greatW; simp [h50]]
    go_wp2_with fail
    go_ret
    exact ⟨rfl, rfl⟩
  have h50' : ¬ (30 : Int) < ((xs.length : Nat) : Int) := by omega
  go_wp2_with fail
  go_loopg [3] (xs.length) (fun k s3 wr => ∃ i : Nat, s3 = .int .i64 i ∧ i ≤ xs.length ∧ k = xs.length - i ∧ Hid (∀ j (hj : j < xs.length), j < i → ¬ 300 < xs[j].data.size) ∧ w = wr)
  case atStart => exact ⟨0, rfl, Nat.zero_le _, rfl, (fun j _ hj => by omega), rfl⟩
  case round =>
    obtain ⟨i, rfl, hi, rfl, HB, rfl⟩ := hrel
    by_cases hlt : i < xs.length
    · obtain ⟨bk, o, rfl, hc⟩ := HS.out i _ (List.getElem?_eq_getElem hlt)
      have HH := Lib.hid (fun h => greatW_hit hlt h)
      have HM := Lib.hid (fun (h : ¬ 300 < xs[i].data.size) j (hj : j < xs.length) (hji : j < i + 1) => show ¬ 300 < xs[j].data.size from by
        by_cases e : j = i
        · subst e; exact h
        · exact HB.out j hj (by omega))
      generalize xs[i] = x at hc HH HM
      have c2 := hc 2 _ rfl
      rw [← Nat.add_assoc] at c2
      clear hc
      by_cases h3 : 300 < x.data.size
      · have h3' : (300 : Int) < ((x.data.size : Nat) : Int) := by omega
        have HH3 := Lib.hid (HH.out h3)
        clear HH HM
        go_wp2_with fail
        go_ret
        exact ⟨ret_bool HH3.out.symm, rfl⟩
      · have h3' : ¬ (300 : Int) < ((x.data.size : Nat) : Int) := by omega
        have HM2 := Lib.hid (HM.out h3)
        clear HM HH
        go_wp2_with fail
        go_roundg (xs.length - (i + 1))
        case measure => omega
        case rel => exact ⟨i + 1, by go_num, by omega, rfl, HM2, rfl⟩
    · obtain rfl : i = xs.length := by omega
      have HM3 := Lib.hid (greatW_miss h50 (fun j hj => HB.out j hj hj))
      go_wp2_with fail
      go_ret
      exact ⟨ret_bool HM3.out.symm, rfl⟩
end Go.Proofs.YtmdkjcigmhgpeaaGreatDoor

/- The walk of run.forget: segments whose records are all below a number go, but the last one. -/
namespace Go.Proofs.YtmdkjcigmhgpeaaGreatDoor
open Go.RowKit Snp SealMath Dsk Wal

theorem dropN_ne (below : Int) : ∀ l : List Nat, l ≠ [] → dropN below l ≠ []
  | [], h => absurd rfl h
  | [x], _ => by simp [dropN]
  | x :: y :: r, _ => by
    rw [dropN]
    split
    · exact dropN_ne below (y :: r) (by simp)
    · simp
theorem keepR_succ (st : List Nat) (recs : List RC) (j : Nat) (h : j < recs.length) : keepR st (recs.take (j + 1)) = keepR st (recs.take j) ++ (if st.headD 0 ≤ recs[j].1 then [recs[j]] else []) := by
  unfold keepR
  rw [List.take_succ_eq_append_getElem h, List.filter_append]
  congr 1
  by_cases hc : st.headD 0 ≤ recs[j].1
  · rw [if_pos hc, List.filter_cons_of_pos (by simpa using hc), List.filter_nil]
  · rw [if_neg hc, List.filter_cons_of_neg (by simpa using hc), List.filter_nil]
set_option maxRecDepth 20000 in
set_option maxHeartbeats 8000000 in
theorem forget_any {Z : Nat → Prop} {B : Nat} {w : World} {rb d lb : Nat} {vr vs : Value} {S : DS} {L : LG} {recs : List RC} {starts : List Nat} {next safe : Nat} {fresh : Bool} (below : Int)
    (h : RH Z B w rb d lb vr vs S L recs starts next safe fresh) (hrl : recs.length ≤ 100) (hst : recs ≠ [] → starts ≠ []) :
    Calls Tryz.prog 101 #[.pointer (some ⟨rb, 0, none⟩), .int .i64 below] w fun e w' =>
      ∃ vr' vs', e = .returned (.tuple #[]) ∧ RH Z B w' rb d lb vr' vs' S L (keepR (dropN below starts) recs) (dropN below starts) next safe fresh ∧ Bel Z B w w' := by
  obtain ⟨i0, hi0, hz0, hz1, hz2⟩ := info_parts info_rec
  have HH := Lib.hid h
  have HST := Lib.hid hst
  have HRL := Lib.hid hrl
  clear h hst hrl
  go_enter Tryz.func101, Tryz.ntmps101
  go_wp2_with fail
  go_loopg [] (starts.length) (fun g wr => ∃ vs' l, g = l.length ∧ Hid (RH Z B wr rb d lb vr vs' S L recs l next safe fresh) ∧ Hid (dropN below l = dropN below starts) ∧ Hid (Bel Z B w wr))
  case atStart => exact ⟨vs, starts, rfl, HH, (by show _ = _; rfl), Only.refl _ _⟩
  case round =>
    obtain ⟨vs', l, rfl, HR, HD, HB⟩ := hrel
    have c3 : wr.cell? ⟨rb, 3, none⟩ = some vs' := Go.Joins.cell_of_block HR.out.run 3
    have f3 := frozen_row HR.out.run 3
    obtain ⟨a, c, hv, hc1, hc2, hcell⟩ := HR.out.rest.starts.form
    subst hv
    by_cases hs : 1 < l.length
    case' pos =>
      obtain ⟨x, y, r, HL⟩ : ∃ x y r, Hid (l = x :: y :: r) := by
        match l, hs with
        | x :: y :: r, _ => exact ⟨x, y, r, rfl⟩
      obtain ⟨g, o, rfl, hy⟩ := hcell 1 y (by rw [HL.out]; rfl)
      have h1 : (1 : Int) < (l.length : Int) := by omega
      clear hcell
      by_cases hyb : (y : Int) ≤ below
      case' pos =>
        have HE : Hid (dropN below (y :: r) = dropN below starts) := by
          show _ = _
          rw [← HD.out, HL.out, dropN, if_pos hyb]
        go_wp2_with fail
        have hL := HL.out
        subst hL
        have htail := HR.out.rest.tailS
        have HRT : Hid (RH Z B (wr.setCell ⟨rb, 3, none⟩ (.slice (some ⟨g, o + 1, none⟩) (y :: r).length (c - 1))) rb d lb vr (.slice (some ⟨g, o + 1, none⟩) (y :: r).length (c - 1)) S L recs (y :: r) next safe fresh) := ⟨HR.out.run.setS _, htail.own (only_row _ _ _ _)⟩
        have HBT : Hid (Bel Z B w (wr.setCell ⟨rb, 3, none⟩ (.slice (some ⟨g, o + 1, none⟩) (y :: r).length (c - 1)))) := Only.andThen HB.out (HR.out.rest.belRow (only_row _ _ _ _))
        go_roundg (y :: r).length
        case measure => simp
        case rel => exact ⟨_, y :: r, rfl, HRT, HE, HBT⟩
      case' neg =>
        have HE : Hid (l = dropN below starts) := by
          show _ = _
          rw [← HD.out, HL.out, dropN, if_neg hyb]
        obtain ⟨vs1, HH1⟩ : ∃ vs1, Hid (RH Z B wr rb d lb vr vs1 S L recs (dropN below starts) next safe fresh) := ⟨_, by rw [← HE.out]; exact HR⟩
        go_wp2_with fail
    case' neg =>
      have h1 : ¬ (1 : Int) < (l.length : Int) := by omega
      have HE : Hid (l = dropN below starts) := by
        show _ = _
        rw [← HD.out]
        match l, hs with
        | [], _ => rfl
        | [x], _ => rfl
        | x :: y :: r, hs => simp at hs
      obtain ⟨vs1, HH1⟩ : ∃ vs1, Hid (RH Z B wr rb d lb vr vs1 S L recs (dropN below starts) next safe fresh) := ⟨_, by rw [← HE.out]; exact HR⟩
      clear hcell
      go_wp2_with fail
    all_goals
      have HB1 := HB
      have HDN : Hid (recs ≠ [] → dropN below starts ≠ []) := fun k => dropN_ne below _ (HST.out k)
      clear c3 f3 h1 hc1 hc2
      obtain ⟨ar, cr, hvr, hr1, hr2, hrec, hz8, hz9⟩ := HH1.out.rest.recs.form
      subst hvr
      have HREC := Lib.hid hrec
      obtain ⟨a1, c1, hv1, _, _, hcell1⟩ := HH1.out.rest.starts.form
      subst hv1
      have HC1 := Lib.hid hcell1
      clear hrec hcell1 hr1 hr2 hz8 hz9
      obtain ⟨st, hst⟩ : ∃ st, st = dropN below starts := ⟨_, rfl⟩
      rw [← hst] at HH1 HC1 HDN
      have HSTQ := Lib.hid hst
      clear hst
      rename World => wo
      go_loopg [4, 5] (recs.length) (fun g v i w2 => ∃ (j : Nat) (vv : Value), i = .int .i64 j ∧ vv = v ∧ j ≤ recs.length ∧ g = recs.length - j ∧ Hid (OwnRecs w2 wo.heap.size vv (keepR st (recs.take j))) ∧ Hid (Ext wo w2))
      case atStart => exact ⟨0, _, rfl, rfl, Nat.zero_le _, rfl, (by show OwnRecs _ _ _ _; exact OwnRecs.nil _ _), Ext.refl _⟩
      case round =>
        obtain ⟨j, v, rfl, rfl, hj, rfl, HOW, HX⟩ := hrel
        have HR2 := Lib.hid (HH1.out.ext HX.out)
        have c2 : wr.cell? ⟨rb, 2, none⟩ = some (.slice ar recs.length cr) := Go.Joins.cell_of_block HR2.out.run 2
        have c3 : wr.cell? ⟨rb, 3, none⟩ = some (.slice a1 st.length c1) := Go.Joins.cell_of_block HR2.out.run 3
        by_cases hlt : j < recs.length
        · obtain ⟨y0, r0, HY⟩ : ∃ y0 r0, Hid (st = y0 :: r0) := by
            cases st with
            | nil => exact absurd rfl (HDN.out (fun k => by rw [k] at hlt; simp at hlt))
            | cons y0 r0 => exact ⟨y0, r0, rfl⟩
          obtain ⟨g1, o1, ha1, hy0⟩ := HC1.out 0 y0 (by rw [HY.out]; rfl)
          have hy0 := Ext.cell HX.out hy0
          rw [Nat.add_zero] at hy0
          subst ha1
          have hji : IntKind.i64.wrap ((j : Int) + 1) = (j : Int) + 1 := by rw [IntKind.wrap_i64]; have := HRL.out; omega
          have hst0 : 0 < st.length := by rw [HY.out]; simp
          have hst1 : (0 : Int) < (st.length : Int) := by omega
          obtain ⟨bk, o, har, hcx, hdx⟩ := (HREC.out.ext HX.out) j _ (List.getElem?_eq_getElem hlt)
          subst har
          have HK : Hid (keepR st (recs.take (j + 1)) = keepR st (recs.take j) ++ (if y0 ≤ recs[j].1 then [recs[j]] else [])) := by
            have h := keepR_succ st recs j hlt
            rw [HY.out] at h ⊢
            exact h
          generalize recs[j] = x at hcx hdx HK
          by_cases hge : (y0 : Int) ≤ (x.1 : Int)
          · have HK1 : Hid (keepR st (recs.take (j + 1)) = keepR st (recs.take j) ++ [x]) := by
              show _ = _
              rw [HK.out, if_pos (by omega)]
            clear HK
            go_wp2_with fail
            go_quiet (fail)
            generalize hw5 : wr.drewN nq = w5
            have hx5 : Ext wr w5 := by rw [← hw5]; exact (Ext.refl wr).drewN _
            have HX5 := Lib.hid hx5
            clear hw5
            have c2 := Ext.cell hx5 c2
            have hcx := Ext.cell hx5 hcx
            have hdx := Ext.cell hx5 hdx
            have hown5 := OwnRecs.ext HOW.out hx5
            obtain ⟨av, cv, hv, hv1, hv2, hv3, hv4, hv5⟩ := hown5.form
            clear hv1 hv2 hv3 hv4 hv5
            subst hv
            have hkl : (keepR st (recs.take j)).length ≤ 100 := by
              have h1 := List.length_filter_le (fun x : RC => decide (st.headD 0 ≤ x.1)) (recs.take j)
              have h2 := HRL.out
              rw [List.length_take] at h1
              unfold keepR
              omega
            have HKL := Lib.hid hkl
            clear hkl hx5
            go_wp2_with (at_builtin; refine wpList_append_own _ rfl _ _ 61 rfl wo.heap.size 68 i0 (.agg #[.int .i64 0, .string ⟨#[]⟩]) 2 24 Tryz.underlying61 hi0 hz0 hz1 hz2 rfl (by decide) _ _ _ rfl (World.ownsRow.alloc hown5 _) ⟨w5.heap.size, 0, none⟩ 1 1 [.int .i64 (x.1 : Nat), .string x.2] rfl rfl ?c1 ?c2 ?c3 ?c4 ?c5 ?_)
            case c1 => exact cell_rec_new w5 x _
            case c2 => exact rvals_one x
            case c3 => have := HKL.out; unfold maxLen; omega
            case c4 => have := HKL.out; omega
            case c5 => have := HX.out.size; have := HX5.out.size; simp; omega
            intro v' w6 hown6 hg6 _
            have hlt2 := World.ownsRow.lt hown5
            have HX6 : Hid (Ext wo w6) := Below.grown ((HX.out.trans HX5.out).alloc _) hg6 (by have := HX.out.size; have := HX5.out.size; simp; omega) (fun kk e => (hlt2 kk e).1)
            have HO6 : Hid (OwnRecs w6 wo.heap.size v' (keepR st (recs.take (j + 1)))) := by
              show OwnRecs _ _ _ _
              rw [HK1.out]
              unfold OwnRecs
              rw [List.length_append, rrows_append, rrows_one]
              exact hown6
            clear hown6 hg6 hlt2 hown5
            go_wp2_with fail
            go_roundg (recs.length - (j + 1))
            case measure => omega
            case rel => exact ⟨j + 1, v', by go_num, rfl, by omega, rfl, HO6, HX6⟩
          · have HK1 : Hid (keepR st (recs.take (j + 1)) = keepR st (recs.take j)) := by
              show _ = _
              rw [HK.out, if_neg (by omega), List.append_nil]
            clear HK
            go_wp2_with fail
            go_quiet (fail)
            have HX5 := Lib.hid (HX.out.trans ((Ext.refl wr).drewN nq))
            have HOW5 := Lib.hid (OwnRecs.ext HOW.out ((Ext.refl wr).drewN nq))
            go_wp2_with fail
            go_roundg (recs.length - (j + 1))
            case measure => omega
            case rel => exact ⟨j + 1, v, by go_num, rfl, by omega, rfl, by rw [HK1.out]; exact HOW5, HX5⟩
        · obtain rfl : j = recs.length := by omega
          have f2 := frozen_row HR2.out.run 2
          have hown2 : OwnRecs wr wo.heap.size v (keepR st recs) := by
            have h1 := HOW.out
            rw [List.take_of_length_le (Nat.le_refl _)] at h1
            exact h1
          have HN : Hid (∀ g, v.ownBlock = some g → wo.heap.size ≤ g) := fun g hg => (OwnRecs.lt hown2 g hg).1
          have HOB : Hid (OwnRecs wr B v (keepR st recs)) := OwnRecs.base hown2 HH1.out.rest.wh.big
          obtain ⟨av, cv, hv, hv1, hv2, hv3, hv4, hv5⟩ := hown2.form
          clear hv1 hv2 hv3 hv4 hv5 hown2 HOW
          subst hv
          go_wp2_with fail
          go_end0
          have HRW := HH1.out.rest.newR HX.out HOB.out HN.out
          rw [← HSTQ.out]
          exact ⟨_, _, rfl, ⟨HR2.out.run.setR _, HRW.own (only_row _ _ _ _)⟩, Only.andThen HB1.out (Only.andThen (Bel.ext HX.out) (HR2.out.rest.belRow (only_row _ _ _ _)))⟩
end Go.Proofs.YtmdkjcigmhgpeaaGreatDoor

/- The walk of run.opened: the log is opened anew, and tells what it must. -/
namespace Go.Proofs.YtmdkjcigmhgpeaaGreatDoor
open Go.RowKit Snp SealMath Dsk Wal

set_option maxRecDepth 20000 in
set_option maxHeartbeats 8000000 in
theorem opened_any {Z : Nat → Prop} {B : Nat} {w : World} {rb d lb : Nat} {vr vs : Value} {S T : DS} {L M : LG} {recs : List RC} {starts : List Nat} {next safe : Nat} {fresh : Bool}
    (h : RH Z B w rb d lb vr vs S L recs starts next safe fresh) (hnb : Nibs w) (hn : 0 < B) (ho : S.off = false) (hu : S.uses ≤ 4000) (hrl : recs.length ≤ 100) (hR : openW S nameW 0 = (0, recs, M, T)) (hM : M.next = next) :
    Calls Tryz.prog 47 #[.pointer (some ⟨rb, 0, none⟩)] w fun e w' =>
      ∃ lb', e = .returned (.bool true) ∧ RH Z B w' rb d lb' vr vs T M recs starts next next (decide (starts.length = 0)) ∧ Bel Z B w w' := by
  have c0 : w.cell? ⟨rb, 0, none⟩ = some (.pointer (some ⟨d, 0, none⟩)) := Go.Joins.cell_of_block h.run 0
  have HH := Lib.hid h
  obtain ⟨G, hg1, hg2⟩ := h.rest.wh.disk
  have hop := open_wh hg1 hg2 h.rest.wh.big h.rest.wh.lt ho (by omega) hnb hn (by rw [hR])
  rw [hR] at hop
  have HM := Lib.hid (And.intro hM hrl)
  clear h hnb hg1 hg2 hu hR hM hrl hn
  go_enter Tryz.func47, Tryz.ntmps47
  go_wp2_with fail
  refine hop.mono ?_
  clear hop
  rintro e w1 ⟨lb8, v, rfl, hown, hlb, hne, hw, ho1⟩
  have HRW := Lib.hid (HH.out.rest.reopen (P := fun x => v.ownBlock = some x) hw hlb ho1)
  have HRUN := Lib.hid (HH.out.run.only ho1 (fun k => k.2 (.inr (.inl rfl))))
  have HBE : Hid (Bel Z B w w1) := bel_open (fun x z => .inr (.inr (.inr (.inr z)))) ho1
  simp only at hown
  have HOWN : Hid (OwnRecs w1 w.heap.size v recs) := hown
  have HLT : Hid (rb < w.heap.size) := HH.out.rest.lt.1
  obtain ⟨av, cv, hv, _, _, _, hz8, _⟩ := hown.form
  have HZ8 := Lib.hid hz8
  clear hown hlb hne hw ho1 hz8
  subst hv
  have f1 := frozen_row HRUN.out 1
  have f5 := frozen_row HRUN.out 5
  have f6 := frozen_row HRUN.out 6
  have c1 : w1.cell? ⟨rb, 1, none⟩ = some (.pointer (some ⟨lb, 0, none⟩)) := Go.Joins.cell_of_block HRUN.out 1
  have c3 : w1.cell? ⟨rb, 3, none⟩ = some vs := Go.Joins.cell_of_block HRUN.out 3
  have c4 : w1.cell? ⟨rb, 4, none⟩ = some (.int .i64 (next : Nat)) := Go.Joins.cell_of_block HRUN.out 4
  have c5 : w1.cell? ⟨rb, 5, none⟩ = some (.int .i64 (safe : Nat)) := Go.Joins.cell_of_block HRUN.out 5
  have c6 : w1.cell? ⟨rb, 6, none⟩ = some (.bool fresh) := Go.Joins.cell_of_block HRUN.out 6
  obtain ⟨a3, c3', hvs, _, _, _⟩ := HRW.out.starts.form
  subst hvs
  obtain ⟨ar, cr, hvr, _, _, hrec, _, _⟩ := HRW.out.recs.form
  subst hvr
  have HREC := Lib.hid hrec
  obtain ⟨q, hq⟩ : ∃ q, q = decide (starts.length = 0) := ⟨_, rfl⟩
  have hqe : (((starts.length : Nat) : Int) == 0) = q := by
    rw [hq, Bool.eq_iff_iff, beq_iff_eq, decide_eq_true_eq]; omega
  have HQ := Lib.hid hq
  clear hq hrec
  go_upto_region 5 with fail
  obtain ⟨w2, hw2⟩ : ∃ u, u = (((w1.setCell ⟨rb, 1, none⟩ (.pointer (some ⟨lb8, 0, none⟩))).setCell ⟨rb, 5, none⟩ (.int .i64 (next : Nat))).setCell ⟨rb, 6, none⟩ (.bool q)) := ⟨_, rfl⟩
  have HO2 : Hid (Only (fun x => x = rb) w1 w2) := by
    rw [hw2]
    exact ((only_row _ _ _ _).andThen (only_row _ _ _ _)).andThen (only_row _ _ _ _)
  have HH2 : Hid (RH Z B w2 rb d lb8 (.slice ar recs.length cr) (.slice a3 starts.length c3') T M recs starts next next q) := by
    refine ⟨?_, HRW.out.own HO2.out⟩
    rw [hw2]
    exact (HRUN.out.log.setF _).setB _
  have HSAME : Hid (∀ u, Ext w2 u → Calls Tryz.prog 38 #[.slice av recs.length cv, .slice ar recs.length cr] u fun e w' => e = .returned (.bool true) ∧ Ext u w') := by
    obtain ⟨_, _, hv, _, _, hr1, _, _⟩ := (HOWN.out.only HO2.out (fun g hg e => by have := (OwnRecs.lt HOWN.out g hg).1; have := HLT.out; omega)).form
    obtain ⟨_, _, hv2, _, _, hr2, _, _⟩ := HH2.out.rest.recs.form
    intro u k
    have h := same7_any av cv recs ar cr recs (by have := HM.out.2; omega) u ?_ ?_
    · rw [decide_eq_true rfl] at h; exact h
    · injection hv with e1 _ _; rw [e1]; exact hr1.ext k
    · injection hv2 with e1 _ _; rw [e1]; exact hr2.ext k
  have HNEXT : Hid (∀ u, Ext w2 u → Calls Tryz.prog 42 #[.pointer (some ⟨lb8, 0, none⟩)] u fun e w' => e = .returned (.int .i64 (next : Nat)) ∧ u = w') := fun u k => by
    have h := lnext_any lb8 d nameW M u ((HH2.out.rest.wh.log).ext k)
    rw [HM.out.1] at h
    exact h
  rw [← hw2]
  clear hw2 c0 c1 c3 c4 c5 c6 f1 f5 f6 hqe
  have c2 : w2.cell? ⟨rb, 2, none⟩ = some (.slice ar recs.length cr) := Go.Joins.cell_of_block HH2.out.run 2
  have c4 : w2.cell? ⟨rb, 4, none⟩ = some (.int .i64 (next : Nat)) := Go.Joins.cell_of_block HH2.out.run 4
  go_cut [2] (fun s2 wx => s2 = .bool true ∧ Hid (Ext w2 wx))
  case first =>
    go_region_held3 (fun u => u.cell? ⟨rb, 2, none⟩ = some (.slice ar recs.length cr) ∧ u.cell? ⟨rb, 4, none⟩ = some (.int .i64 (next : Nat))) (first | exact ⟨c2, c4⟩ | exact ⟨s2, s4⟩)
      (first | (go_at_call 38; refine (HSAME.out _ (by first | exact Ext.refl _ | exact (Ext.refl _).drew)).mono ?_; rintro e u ⟨rfl, hx⟩; have hxs : Ext w2 u := Ext.trans (by first | exact Ext.refl _ | exact (Ext.refl _).drew) hx; have HXS := Lib.hid hxs; have s2 := Ext.cell hxs c2; have s4 := Ext.cell hxs c4; clear hx hxs) | (go_at_call 42; refine (HNEXT.out _ (by first | exact HXS.out | exact HXS.out.drew | exact Ext.refl _ | exact (Ext.refl _).drew)).mono ?_; rintro e u ⟨rfl, rfl⟩))
    all_goals
      go_wp2_with fail
      go_meet
      exact ⟨rfl, HXS⟩
  obtain ⟨rfl, HX2⟩ := hcut
  go_wp2_with fail
  go_ret
  have hq := HQ.out
  subst hq
  exact ⟨lb8, rfl, HH2.out.ext HX2.out, Only.andThen HBE.out (Only.andThen (HH.out.rest.belRow HO2.out) (Bel.ext HX2.out))⟩
end Go.Proofs.YtmdkjcigmhgpeaaGreatDoor

/- The walk of run.does: an Append that is done, or at which the power goes off. -/
namespace Go.Proofs.YtmdkjcigmhgpeaaGreatDoor
open Go.RowKit Snp SealMath Dsk Wal

set_option maxRecDepth 20000 in
set_option maxHeartbeats 8000000 in
/-- Append, where it is done. -/
theorem does_append {Z : Nat → Prop} {B : Nat} {w : World} {rb d lb : Nat} {vr vs : Value} {S T : DS} {L M : LG} {recs : List RC} {starts : List Nat} {next safe : Nat} (fresh : Bool) (n : Int) (x : ByteArray) (hx : x.size ≤ 300)
    (h : RH Z B w rb d lb vr vs S L recs starts next safe fresh) (hnb : Nibs w) (hu : S.uses ≤ 4000) (hfs : L.file.size ≤ 20) (hls : L.size ≤ 20000) (hrl : recs.length ≤ 100) (hsl : starts.length ≤ 100) (hnx : next ≤ 100)
    (ha : appendW nameW S L (lst x) = ((next, 0), M, T)) :
    Calls Tryz.prog 45 #[.pointer (some ⟨rb, 0, none⟩), .agg #[.int .i64 0, .int .i64 n, .string x]] w fun e w' =>
      ∃ vr' vs', e = .returned (.tuple #[.bool true, .bool false]) ∧ RH Z B w' rb d lb vr' vs' T M (recs ++ [(next, x)]) (if fresh = true then starts ++ [next] else starts) (next + 1) (if fresh = true then next else safe) false ∧ Bel Z B w w' := by
  obtain ⟨i0, hi0, hz0, hz1, hz2⟩ := info_parts info_rec
  obtain ⟨w0, hw0⟩ : ∃ u, u = w.alloc (.cells #[.int .i64 0, .int .i64 n, .string x] 87) := ⟨_, rfl⟩
  obtain ⟨bx, hbx⟩ : ∃ k, k = w.heap.size := ⟨_, rfl⟩
  have hx0 : Ext w w0 := by rw [hw0]; exact (Ext.refl w).alloc _
  have hb : w0.heap[bx]? = some (.cells #[.int .i64 0, .int .i64 n, .string x] 87 (0, 0)) := by rw [hw0, hbx]; exact heap_alloc_new w _
  have HW : Hid (WH B (X5 Z lb rb vr vs bx) w0 d lb S L) := Lib.hid (by rw [hw0, hbx]; exact h.rest.box _)
  have HH := Lib.hid (h.ext hx0)
  have HNB := Lib.hid (hnb.ext hx0)
  have HBL : Hid (bx ≠ lb ∧ bx ≠ rb ∧ (∀ g, vr.ownBlock = some g → g ≠ bx) ∧ (∀ g, vs.ownBlock = some g → g ≠ bx)) := Lib.hid (by
    have h1 := h.rest.lt; have h2 := h.rest.starts.lt; have h3 := OwnRecs.lt h.rest.recs
    exact ⟨by omega, by omega, fun g hg => by have := (h3 g hg).2; omega, fun g hg => by have := (h2 g hg).2; omega⟩)
  have HX0 : Hid (Bel Z B w w0 ∧ B ≤ w0.heap.size) := ⟨Bel.ext hx0, Nat.le_trans h.rest.wh.big hx0.size⟩
  have HNE : Hid (rb ≠ lb) := h.rest.ne
  have b2 : w0.cell? ⟨bx, 2, none⟩ = some (.string x) := Go.Joins.cell_of_block hb 2
  have c1 : w0.cell? ⟨rb, 1, none⟩ = some (.pointer (some ⟨lb, 0, none⟩)) := Go.Joins.cell_of_block HH.out.run 1
  have HAP : Hid (∀ u, Ext w0 u → Calls Tryz.prog 35 #[.pointer (some ⟨lb, 0, none⟩), .string x] u fun e w' => e = .returned (.tuple #[.int .i64 (next : Nat), .int .i64 0]) ∧ WH B (X5 Z lb rb vr vs bx) w' d lb T M ∧ Turns B (X5 Z lb rb vr vs bx) lb u w') := fun u k => by
    have hap := append_wh x (by omega) (by omega) (by omega) (by omega) (HW.out.ext k) (HNB.out.ext k)
    rw [ha] at hap
    exact hap
  have HLEN := Lib.hid (And.intro hrl (And.intro hsl hnx))
  have HB := Lib.hid hb
  clear h hnb hx hu hfs hls ha hrl hsl hx0 hb
  go_enter Tryz.func45, Tryz.ntmps45
  go_upto_region 3 with fail
  rw [← hw0, ← hbx]
  clear hw0 hbx
  go_cut [6, 7] (fun s6 s7 wx => s6 = .int .i64 (next : Nat) ∧ s7 = .int .i64 0 ∧ Hid (WH B (X5 Z lb rb vr vs bx) wx d lb T M) ∧ Hid (∃ u, Ext w0 u ∧ Turns B (X5 Z lb rb vr vs bx) lb u wx))
  case first =>
    go_region_held3 (fun u => u.cell? ⟨rb, 1, none⟩ = some (.pointer (some ⟨lb, 0, none⟩)) ∧ u.cell? ⟨bx, 2, none⟩ = some (.string x)) (first | exact ⟨c1, b2⟩ | exact ⟨q1, q2⟩)
      (first | (go_at_call 35; refine (HAP.out _ (by first | exact Ext.refl _ | exact (Ext.refl _).drew)).mono ?_; rintro e u ⟨rfl, hw6, ho6⟩; have HW6 := Lib.hid hw6; have HO6 : Hid (∃ v', Ext w0 v' ∧ Turns B (X5 Z lb rb vr vs bx) lb v' u) := ⟨_, (by first | exact Ext.refl _ | exact (Ext.refl _).drew), ho6⟩; have q1 := Only.cell ho6 (Ext.cell (by first | exact Ext.refl _ | exact (Ext.refl _).drew) c1) (by rintro (k | k); exact HNE.out k; exact k.2 (.inl (.inr (.inl rfl)))); have q2 := Only.cell ho6 (Ext.cell (by first | exact Ext.refl _ | exact (Ext.refl _).drew) b2) (by rintro (k | k); exact HBL.out.1 k; exact k.2 (.inr rfl)); clear hw6 ho6))
    all_goals
      go_wp2_with fail
      go_meet
      exact ⟨rfl, rfl, HW6, HO6⟩
  obtain ⟨rfl, rfl, HW6, HO6⟩ := hcut
  obtain ⟨u3, k3, ho⟩ := HO6.out
  have HH6 := Lib.hid ((HH.out.ext k3).turn5 HW6.out ho)
  have HB6 : Hid (wc.heap[bx]? = some (.cells #[.int .i64 0, .int .i64 n, .string x] 87 (0, 0))) := by
    show _ = _
    have h1 : bx < u3.heap.size := Nat.lt_of_lt_of_le (lt_of_heap HB.out) k3.size
    refine (ho.block bx h1 (by rintro (k | k); exact HBL.out.1 k; exact k.2 (.inr rfl))).trans ((k3.block bx (lt_of_heap HB.out)).trans HB.out)
  have HBE : Hid (Bel Z B w wc) := Only.andThen HX0.out.1 (Only.andThen (Bel.ext k3) (HH.out.bel5 ho))
  clear ho k3 c1 b2
  have c6 : wc.cell? ⟨rb, 6, none⟩ = some (.bool fresh) := Go.Joins.cell_of_block HH6.out.run 6
  have f6 := frozen_row HH6.out.run 6
  cases fresh
  case' true =>
    have c3 : wc.cell? ⟨rb, 3, none⟩ = some vs := Go.Joins.cell_of_block HH6.out.run 3
    have c4 : wc.cell? ⟨rb, 4, none⟩ = some (.int .i64 (next : Nat)) := Go.Joins.cell_of_block HH6.out.run 4
    go_upto_region 7 with fail
    have a3 : (wc.alloc (.cells #[.int .i64 (next : Nat)] 3)).cell? ⟨rb, 3, none⟩ = some vs := Ext.cell ((Ext.refl wc).alloc _) c3
    go_cut [6] (fun s6 wy => s6 = .int .i64 (next : Nat) ∧ ∃ g o c, Hid (RH Z B wy rb d lb vr (.slice (some ⟨g, o, none⟩) (starts.length + 1) c) T M recs (starts ++ [next]) next safe true) ∧ Hid (wy.heap[bx]? = some (.cells #[.int .i64 0, .int .i64 n, .string x] 87 (0, 0))) ∧ Hid (Bel Z B w wy))
    case first =>
      go_region_law (refine step_append_off rfl (.tmp 35) (.tmp 40) 41 rfl Tryz.underlying41 B vs starts (by rfl) (OffInts.ext HH6.out.rest.starts (by first | exact ((Ext.refl wc).drew).alloc _ | exact ((Ext.refl wc).alloc _).drew)) wc.heap.size 0 1 next (by rfl) (by first | exact Go.Joins.cell_of_block (heap_alloc_new wc.drew _) 0 | exact Go.Joins.cell_of_block (w := wc.alloc _) (heap_alloc_new wc _) 0) (by have := HLEN.out.2.1; omega) (by have := HH6.out.rest.wh.big; simp; omega) _ rfl ?_; intro g o cap w5 hown5 hg5 hat5 hlt5; have hr5 := RunAt.only (RunAt.ext HH6.out.run (by first | exact ((Ext.refl wc).drew).alloc _ | exact ((Ext.refl wc).alloc _).drew)) (only_grown hg5) HH6.out.rest.vs2; have k3 : w5.cell? ⟨rb, 3, none⟩ = some vs := Go.Joins.cell_of_block hr5 3; have f3 := frozen_row hr5 3)
      all_goals
        go_wp2_with fail
        go_meet
        have hpu := RH.pushS (RH.ext HH6.out (by first | exact ((Ext.refl wc).drew).alloc _ | exact ((Ext.refl wc).alloc _).drew)) hg5 hown5 hat5 hlt5
        have hO := Only.andThen (Only.ext (F := fun x => x = rb ∨ vs.ownBlock = some x) (by first | exact ((Ext.refl wc).drew).alloc _ | exact ((Ext.refl wc).alloc _).drew)) hpu.2
        exact ⟨rfl, g, o, cap, hpu.1, (hO.block bx (lt_of_heap HB6.out) (by rintro (k | k); exact HBL.out.2.1 k; exact HBL.out.2.2.2 _ k rfl)).trans HB6.out, Only.andThen HBE.out (HH6.out.belS hO)⟩
    obtain ⟨rfl, g, o, c, HH7, HB7, HE7⟩ := hcut
    clear c3 c4 c6 f6 a3
    have c4 : wc.cell? ⟨rb, 4, none⟩ = some (.int .i64 (next : Nat)) := Go.Joins.cell_of_block HH7.out.run 4
    have c5 : wc.cell? ⟨rb, 5, none⟩ = some (.int .i64 (safe : Nat)) := Go.Joins.cell_of_block HH7.out.run 5
    have c6 : wc.cell? ⟨rb, 6, none⟩ = some (.bool true) := Go.Joins.cell_of_block HH7.out.run 6
    have f5 := frozen_row HH7.out.run 5
    have f6 := frozen_row HH7.out.run 6
    go_upto_region 10 with fail
    obtain ⟨w8, vs8, st8, sf8, hw8, HH8, HB8, HE8, HQ8⟩ : ∃ w8 vs8 st8 sf8, w8 = (wc.setCell ⟨rb, 5, none⟩ (.int .i64 (next : Nat))).setCell ⟨rb, 6, none⟩ (.bool false) ∧ Hid (RH Z B w8 rb d lb vr vs8 T M recs st8 next sf8 false) ∧ Hid (w8.heap[bx]? = some (.cells #[.int .i64 0, .int .i64 n, .string x] 87 (0, 0))) ∧ Hid (Bel Z B w w8) ∧ Hid (st8 = starts ++ [next] ∧ sf8 = next) := by
      have hO := (only_row wc rb 5 (.int .i64 (next : Nat))).andThen (only_row _ rb 6 (.bool false))
      exact ⟨_, _, _, _, rfl, ⟨(HH7.out.run.setF _).setB _, HH7.out.rest.own hO⟩, (hO.block bx (lt_of_heap HB7.out) HBL.out.2.1).trans HB7.out, Only.andThen HE7.out (HH7.out.rest.belRow hO), rfl, rfl⟩
    rw [← hw8]
    clear hw8 c4 c5 c6 f5 f6
  case' false =>
    go_upto_region 10 with fail
    obtain ⟨w8, vs8, st8, sf8, hw8, HH8, HB8, HE8, HQ8⟩ : ∃ w8 vs8 st8 sf8, w8 = wc.setCell ⟨rb, 6, none⟩ (.bool false) ∧ Hid (RH Z B w8 rb d lb vr vs8 T M recs st8 next sf8 false) ∧ Hid (w8.heap[bx]? = some (.cells #[.int .i64 0, .int .i64 n, .string x] 87 (0, 0))) ∧ Hid (Bel Z B w w8) ∧ Hid (st8 = starts ∧ sf8 = safe) := by
      have hO := only_row wc rb 6 (.bool false)
      exact ⟨_, _, _, _, rfl, ⟨HH6.out.run.setB _, HH6.out.rest.own hO⟩, (hO.block bx (lt_of_heap HB6.out) HBL.out.2.1).trans HB6.out, Only.andThen HBE.out (HH6.out.rest.belRow hO), rfl, rfl⟩
    rw [← hw8]
    clear hw8 c6 f6
  all_goals
    have c2 : w8.cell? ⟨rb, 2, none⟩ = some vr := Go.Joins.cell_of_block HH8.out.run 2
    have c4 : w8.cell? ⟨rb, 4, none⟩ = some (.int .i64 (next : Nat)) := Go.Joins.cell_of_block HH8.out.run 4
    have b2 : w8.cell? ⟨bx, 2, none⟩ = some (.string x) := Go.Joins.cell_of_block HB8.out 2
    have a2 : (w8.alloc (.cells #[.int .i64 (next : Nat), .string x] 68)).cell? ⟨rb, 2, none⟩ = some vr := Ext.cell ((Ext.refl w8).alloc _) c2
    go_cut [6, 7] (fun s6 s7 wy => s6 = .int .i64 (next : Nat) ∧ s7 = .int .i64 0 ∧ ∃ g c, Hid (RH Z B wy rb d lb (.slice (some ⟨g, 0, none⟩) (recs.length + 1) c) vs8 T M (recs ++ [(next, x)]) st8 next sf8 false) ∧ Hid (Bel Z B w wy))
    case first =>
      go_region_law (refine step_append_lies _ rfl (.tmp 58) (.tmp 66) 61 rfl B 68 i0 (.agg #[.int .i64 0, .string ⟨#[]⟩]) 2 24 Tryz.underlying61 hi0 hz0 hz1 hz2 rfl (by decide) vr recs.length (rrows recs) (by rfl) (OwnRecs.ext HH8.out.rest.recs (by first | exact ((Ext.refl w8).drew).alloc _ | exact ((Ext.refl w8).alloc _).drew)) ⟨w8.heap.size, 0, none⟩ 1 1 [.int .i64 (next : Nat), .string x] (by rfl) rfl (by first | exact cell_rec_new w8.drew (next, x) _ | exact cell_rec_new w8 (next, x) _) (rvals_one (next, x)) (by decide) (by have := HLEN.out.1; unfold maxLen; omega) (by have := HLEN.out.1; omega) (by have := HH8.out.rest.wh.big; simp; omega) _ rfl ?_; intro g cap w9 hown9 hg9 hat9 hlt9; have hr9 := RunAt.only (RunAt.ext HH8.out.run (by first | exact ((Ext.refl w8).drew).alloc _ | exact ((Ext.refl w8).alloc _).drew)) (only_grown hg9) HH8.out.rest.vr2; have k2 : w9.cell? ⟨rb, 2, none⟩ = some vr := Go.Joins.cell_of_block hr9 2; have f2 := frozen_row hr9 2)
      all_goals
        go_wp2_with fail
        go_meet
        have hown : OwnRecs w9 B (.slice (some ⟨g, 0, none⟩) (recs.length + 1) cap) (recs ++ [(next, x)]) := by
          unfold OwnRecs
          rw [List.length_append, rrows_append]
          exact hown9
        have hpu := RH.pushR (RH.ext HH8.out (by first | exact ((Ext.refl w8).drew).alloc _ | exact ((Ext.refl w8).alloc _).drew)) hg9 hown hat9 hlt9
        have hO := Only.andThen (Only.ext (F := fun y => y = rb ∨ vr.ownBlock = some y) (by first | exact ((Ext.refl w8).drew).alloc _ | exact ((Ext.refl w8).alloc _).drew)) hpu.2
        exact ⟨rfl, rfl, g, cap, hpu.1, Only.andThen HE8.out (HH8.out.belR hO)⟩
    obtain ⟨rfl, rfl, g9, cp9, HH9, HE9⟩ := hcut
    clear c2 c4 b2 a2
    have c4 : wc.cell? ⟨rb, 4, none⟩ = some (.int .i64 (next : Nat)) := Go.Joins.cell_of_block HH9.out.run 4
    have f4 := frozen_row HH9.out.run 4
    have hw1 : IntKind.i64.wrap ((next : Int) + 1) = (next : Int) + 1 := by rw [IntKind.wrap_i64]; have := HLEN.out.2.2; omega
    have hw2 : IntKind.i64.wrap ((next : Int) + 1 - 1) = (next : Int) := by rw [IntKind.wrap_i64]; have := HLEN.out.2.2; omega
    go_wp2_with fail
    go_ret2
    obtain ⟨hq1, hq2⟩ := HQ8.out
    have H9 := HH9.out
    rw [hq1, hq2] at H9
    have hn : (next : Int) + 1 = ((next + 1 : Nat) : Int) := by omega
    refine ⟨rfl, ⟨_, _, ⟨?_, H9.rest.own (only_row _ _ _ _)⟩⟩, Only.andThen HE9.out (HH9.out.rest.belRow (only_row _ _ _ _))⟩
    rw [hn]
    exact H9.run.setN _
end Go.Proofs.YtmdkjcigmhgpeaaGreatDoor

/- The walks of run.does: Commit and Rotate, done, or where the power goes off. (Printed by gen_does7.py.) -/
namespace Go.Proofs.YtmdkjcigmhgpeaaGreatDoor
open Go.RowKit Snp SealMath Dsk Wal

set_option maxRecDepth 20000 in
set_option maxHeartbeats 8000000 in
theorem does_commit {Z : Nat → Prop} {B : Nat} {w : World} {rb d lb : Nat} {vr vs : Value} {S T : DS} {L M : LG} {recs : List RC} {starts : List Nat} {next safe : Nat} (fresh : Bool) (n : Int) (x : ByteArray) (h : RH Z B w rb d lb vr vs S L recs starts next safe fresh) (hu : S.uses ≤ 4000) (hfs : L.file.size ≤ 20)
    (hc : commitW S L = (0, M, T)) :
    Calls Tryz.prog 45 #[.pointer (some ⟨rb, 0, none⟩), .agg #[.int .i64 1, .int .i64 n, .string x]] w fun e w' => e = .returned (.tuple #[.bool true, .bool false]) ∧ RH Z B w' rb d lb vr vs T M recs starts next next fresh ∧ Bel Z B w w' := by
  obtain ⟨w0, hw0⟩ : ∃ u, u = w.alloc (.cells #[.int .i64 1, .int .i64 n, .string x] 87) := ⟨_, rfl⟩
  obtain ⟨bx, hbx⟩ : ∃ k, k = w.heap.size := ⟨_, rfl⟩
  have hx0 : Ext w w0 := by rw [hw0]; exact (Ext.refl w).alloc _
  have hb : w0.heap[bx]? = some (.cells #[.int .i64 1, .int .i64 n, .string x] 87 (0, 0)) := by rw [hw0, hbx]; exact heap_alloc_new w _
  have HW : Hid (WH B (X5 Z lb rb vr vs bx) w0 d lb S L) := Lib.hid (by rw [hw0, hbx]; exact h.rest.box _)
  have HH := Lib.hid (h.ext hx0)
  have HBL : Hid (bx ≠ lb ∧ bx ≠ rb ∧ (∀ g, vr.ownBlock = some g → g ≠ bx) ∧ (∀ g, vs.ownBlock = some g → g ≠ bx)) := Lib.hid (by
    have h1 := h.rest.lt; have h2 := h.rest.starts.lt; have h3 := OwnRecs.lt h.rest.recs
    exact ⟨by omega, by omega, fun g hg => by have := (h3 g hg).2; omega, fun g hg => by have := (h2 g hg).2; omega⟩)
  have HX0 : Hid (Bel Z B w w0 ∧ B ≤ w0.heap.size) := ⟨Bel.ext hx0, Nat.le_trans h.rest.wh.big hx0.size⟩
  have HNE : Hid (rb ≠ lb) := h.rest.ne
  have b0 : w0.cell? ⟨bx, 0, none⟩ = some (.int .i64 1) := Go.Joins.cell_of_block hb 0
  have b1 : w0.cell? ⟨bx, 1, none⟩ = some (.int .i64 n) := Go.Joins.cell_of_block hb 1
  have c1 : w0.cell? ⟨rb, 1, none⟩ = some (.pointer (some ⟨lb, 0, none⟩)) := Go.Joins.cell_of_block HH.out.run 1
  have hcm : Calls Tryz.prog 36 #[.pointer (some ⟨lb, 0, none⟩)] w0 fun e w' => e = .returned (.int .i64 0) ∧ WH B (X5 Z lb rb vr vs bx) w' d lb T M ∧ Turns B (X5 Z lb rb vr vs bx) lb w0 w' := by
    have h1 := commit_wh (by omega) (by omega) HW.out
    rw [hc] at h1
    exact h1
  clear h hu hfs hc hx0 hb
  go_enter Tryz.func45, Tryz.ntmps45
  go_upto_region 1 with fail
  rw [← hw0, ← hbx]
  clear hw0 hbx
  go_wp2_with fail
  refine hcm.mono ?_
  clear hcm
  rintro e w1 ⟨rfl, hw1, ho1⟩
  have HH1 := Lib.hid (HH.out.turn5 hw1 ho1)
  have b0 := Only.cell ho1 b0 (by rintro (k | k); exact HBL.out.1 k; exact k.2 (.inr rfl))
  have HBE : Hid (Bel Z B w w1) := Only.andThen HX0.out.1 (HH.out.bel5 ho1)
  clear hw1 ho1 c1 b1
  have c4 : w1.cell? ⟨rb, 4, none⟩ = some (.int .i64 (next : Nat)) := Go.Joins.cell_of_block HH1.out.run 4
  have c5 : w1.cell? ⟨rb, 5, none⟩ = some (.int .i64 (safe : Nat)) := Go.Joins.cell_of_block HH1.out.run 5
  have c6 : w1.cell? ⟨rb, 6, none⟩ = some (.bool fresh) := Go.Joins.cell_of_block HH1.out.run 6
  have f5 := frozen_row HH1.out.run 5
  have f6 := frozen_row HH1.out.run 6
  cases fresh
  all_goals
    go_wp2_with fail
    go_ret2
    exact ⟨rfl, ⟨(HH1.out.run.setF _).setB _, (HH1.out.rest.own (only_row _ _ _ _)).own (only_row _ _ _ _)⟩, Only.andThen HBE.out (HH1.out.rest.belRow ((only_row _ _ _ _).andThen (only_row _ _ _ _)))⟩
set_option maxRecDepth 20000 in
set_option maxHeartbeats 8000000 in
theorem does_commit_off {Z : Nat → Prop} {B : Nat} {w : World} {rb d lb : Nat} {vr vs : Value} {S T : DS} {L M : LG} {recs : List RC} {starts : List Nat} {next safe : Nat} (fresh : Bool) (n : Int) (x : ByteArray) (h : RH Z B w rb d lb vr vs S L recs starts next safe fresh) (hu : S.uses ≤ 4000) (hfs : L.file.size ≤ 20)
    (hc : commitW S L = (7, M, T)) :
    Calls Tryz.prog 45 #[.pointer (some ⟨rb, 0, none⟩), .agg #[.int .i64 1, .int .i64 n, .string x]] w fun e w' => e = .returned (.tuple #[.bool true, .bool true]) ∧ RH Z B w' rb d lb vr vs T M recs starts next safe fresh ∧ Bel Z B w w' := by
  obtain ⟨w0, hw0⟩ : ∃ u, u = w.alloc (.cells #[.int .i64 1, .int .i64 n, .string x] 87) := ⟨_, rfl⟩
  obtain ⟨bx, hbx⟩ : ∃ k, k = w.heap.size := ⟨_, rfl⟩
  have hx0 : Ext w w0 := by rw [hw0]; exact (Ext.refl w).alloc _
  have hb : w0.heap[bx]? = some (.cells #[.int .i64 1, .int .i64 n, .string x] 87 (0, 0)) := by rw [hw0, hbx]; exact heap_alloc_new w _
  have HW : Hid (WH B (X5 Z lb rb vr vs bx) w0 d lb S L) := Lib.hid (by rw [hw0, hbx]; exact h.rest.box _)
  have HH := Lib.hid (h.ext hx0)
  have HBL : Hid (bx ≠ lb ∧ bx ≠ rb ∧ (∀ g, vr.ownBlock = some g → g ≠ bx) ∧ (∀ g, vs.ownBlock = some g → g ≠ bx)) := Lib.hid (by
    have h1 := h.rest.lt; have h2 := h.rest.starts.lt; have h3 := OwnRecs.lt h.rest.recs
    exact ⟨by omega, by omega, fun g hg => by have := (h3 g hg).2; omega, fun g hg => by have := (h2 g hg).2; omega⟩)
  have HX0 : Hid (Bel Z B w w0 ∧ B ≤ w0.heap.size) := ⟨Bel.ext hx0, Nat.le_trans h.rest.wh.big hx0.size⟩
  have HNE : Hid (rb ≠ lb) := h.rest.ne
  have b0 : w0.cell? ⟨bx, 0, none⟩ = some (.int .i64 1) := Go.Joins.cell_of_block hb 0
  have b1 : w0.cell? ⟨bx, 1, none⟩ = some (.int .i64 n) := Go.Joins.cell_of_block hb 1
  have c1 : w0.cell? ⟨rb, 1, none⟩ = some (.pointer (some ⟨lb, 0, none⟩)) := Go.Joins.cell_of_block HH.out.run 1
  have hcm : Calls Tryz.prog 36 #[.pointer (some ⟨lb, 0, none⟩)] w0 fun e w' => e = .returned (.int .i64 7) ∧ WH B (X5 Z lb rb vr vs bx) w' d lb T M ∧ Turns B (X5 Z lb rb vr vs bx) lb w0 w' := by
    have h1 := commit_wh (by omega) (by omega) HW.out
    rw [hc] at h1
    exact h1
  clear h hu hfs hc hx0 hb
  go_enter Tryz.func45, Tryz.ntmps45
  go_upto_region 1 with fail
  rw [← hw0, ← hbx]
  clear hw0 hbx
  go_wp2_with fail
  refine hcm.mono ?_
  clear hcm
  rintro e w1 ⟨rfl, hw1, ho1⟩
  have HH1 := Lib.hid (HH.out.turn5 hw1 ho1)
  have b0 := Only.cell ho1 b0 (by rintro (k | k); exact HBL.out.1 k; exact k.2 (.inr rfl))
  have HBE : Hid (Bel Z B w w1) := Only.andThen HX0.out.1 (HH.out.bel5 ho1)
  clear hw1 ho1 c1 b1
  go_wp2_with fail
  go_ret2
  exact ⟨rfl, HH1.out, HBE.out⟩
set_option maxRecDepth 20000 in
set_option maxHeartbeats 8000000 in
theorem does_rotate {Z : Nat → Prop} {B : Nat} {w : World} {rb d lb : Nat} {vr vs : Value} {S T : DS} {L M : LG} {recs : List RC} {starts : List Nat} {next safe : Nat} (fresh : Bool) (n : Int) (x : ByteArray) (h : RH Z B w rb d lb vr vs S L recs starts next safe fresh) (hu : S.uses ≤ 4000) (hfs : L.file.size ≤ 20)
    (hc : rotateW S L = (0, M, T)) :
    Calls Tryz.prog 45 #[.pointer (some ⟨rb, 0, none⟩), .agg #[.int .i64 2, .int .i64 n, .string x]] w fun e w' => e = .returned (.tuple #[.bool true, .bool false]) ∧ RH Z B w' rb d lb vr vs T M recs starts next next true ∧ Bel Z B w w' := by
  obtain ⟨w0, hw0⟩ : ∃ u, u = w.alloc (.cells #[.int .i64 2, .int .i64 n, .string x] 87) := ⟨_, rfl⟩
  obtain ⟨bx, hbx⟩ : ∃ k, k = w.heap.size := ⟨_, rfl⟩
  have hx0 : Ext w w0 := by rw [hw0]; exact (Ext.refl w).alloc _
  have hb : w0.heap[bx]? = some (.cells #[.int .i64 2, .int .i64 n, .string x] 87 (0, 0)) := by rw [hw0, hbx]; exact heap_alloc_new w _
  have HW : Hid (WH B (X5 Z lb rb vr vs bx) w0 d lb S L) := Lib.hid (by rw [hw0, hbx]; exact h.rest.box _)
  have HH := Lib.hid (h.ext hx0)
  have HBL : Hid (bx ≠ lb ∧ bx ≠ rb ∧ (∀ g, vr.ownBlock = some g → g ≠ bx) ∧ (∀ g, vs.ownBlock = some g → g ≠ bx)) := Lib.hid (by
    have h1 := h.rest.lt; have h2 := h.rest.starts.lt; have h3 := OwnRecs.lt h.rest.recs
    exact ⟨by omega, by omega, fun g hg => by have := (h3 g hg).2; omega, fun g hg => by have := (h2 g hg).2; omega⟩)
  have HX0 : Hid (Bel Z B w w0 ∧ B ≤ w0.heap.size) := ⟨Bel.ext hx0, Nat.le_trans h.rest.wh.big hx0.size⟩
  have HNE : Hid (rb ≠ lb) := h.rest.ne
  have b0 : w0.cell? ⟨bx, 0, none⟩ = some (.int .i64 2) := Go.Joins.cell_of_block hb 0
  have b1 : w0.cell? ⟨bx, 1, none⟩ = some (.int .i64 n) := Go.Joins.cell_of_block hb 1
  have c1 : w0.cell? ⟨rb, 1, none⟩ = some (.pointer (some ⟨lb, 0, none⟩)) := Go.Joins.cell_of_block HH.out.run 1
  have hcm : Calls Tryz.prog 48 #[.pointer (some ⟨lb, 0, none⟩)] w0 fun e w' => e = .returned (.int .i64 0) ∧ WH B (X5 Z lb rb vr vs bx) w' d lb T M ∧ Turns B (X5 Z lb rb vr vs bx) lb w0 w' := by
    have h1 := rotate_wh (by omega) (by omega) HW.out
    rw [hc] at h1
    exact h1
  clear h hu hfs hc hx0 hb
  go_enter Tryz.func45, Tryz.ntmps45
  go_upto_region 1 with fail
  rw [← hw0, ← hbx]
  clear hw0 hbx
  go_wp2_with fail
  refine hcm.mono ?_
  clear hcm
  rintro e w1 ⟨rfl, hw1, ho1⟩
  have HH1 := Lib.hid (HH.out.turn5 hw1 ho1)
  have b0 := Only.cell ho1 b0 (by rintro (k | k); exact HBL.out.1 k; exact k.2 (.inr rfl))
  have HBE : Hid (Bel Z B w w1) := Only.andThen HX0.out.1 (HH.out.bel5 ho1)
  clear hw1 ho1 c1 b1
  have c4 : w1.cell? ⟨rb, 4, none⟩ = some (.int .i64 (next : Nat)) := Go.Joins.cell_of_block HH1.out.run 4
  have c5 : w1.cell? ⟨rb, 5, none⟩ = some (.int .i64 (safe : Nat)) := Go.Joins.cell_of_block HH1.out.run 5
  have c6 : w1.cell? ⟨rb, 6, none⟩ = some (.bool fresh) := Go.Joins.cell_of_block HH1.out.run 6
  have f5 := frozen_row HH1.out.run 5
  have f6 := frozen_row HH1.out.run 6
  cases fresh
  all_goals
    go_wp2_with fail
    go_ret2
    exact ⟨rfl, ⟨(HH1.out.run.setF _).setB _, (HH1.out.rest.own (only_row _ _ _ _)).own (only_row _ _ _ _)⟩, Only.andThen HBE.out (HH1.out.rest.belRow ((only_row _ _ _ _).andThen (only_row _ _ _ _)))⟩
set_option maxRecDepth 20000 in
set_option maxHeartbeats 8000000 in
theorem does_rotate_off {Z : Nat → Prop} {B : Nat} {w : World} {rb d lb : Nat} {vr vs : Value} {S T : DS} {L M : LG} {recs : List RC} {starts : List Nat} {next safe : Nat} (fresh : Bool) (n : Int) (x : ByteArray) (h : RH Z B w rb d lb vr vs S L recs starts next safe fresh) (hu : S.uses ≤ 4000) (hfs : L.file.size ≤ 20)
    (hc : rotateW S L = (7, M, T)) :
    Calls Tryz.prog 45 #[.pointer (some ⟨rb, 0, none⟩), .agg #[.int .i64 2, .int .i64 n, .string x]] w fun e w' => e = .returned (.tuple #[.bool true, .bool true]) ∧ RH Z B w' rb d lb vr vs T M recs starts next safe fresh ∧ Bel Z B w w' := by
  obtain ⟨w0, hw0⟩ : ∃ u, u = w.alloc (.cells #[.int .i64 2, .int .i64 n, .string x] 87) := ⟨_, rfl⟩
  obtain ⟨bx, hbx⟩ : ∃ k, k = w.heap.size := ⟨_, rfl⟩
  have hx0 : Ext w w0 := by rw [hw0]; exact (Ext.refl w).alloc _
  have hb : w0.heap[bx]? = some (.cells #[.int .i64 2, .int .i64 n, .string x] 87 (0, 0)) := by rw [hw0, hbx]; exact heap_alloc_new w _
  have HW : Hid (WH B (X5 Z lb rb vr vs bx) w0 d lb S L) := Lib.hid (by rw [hw0, hbx]; exact h.rest.box _)
  have HH := Lib.hid (h.ext hx0)
  have HBL : Hid (bx ≠ lb ∧ bx ≠ rb ∧ (∀ g, vr.ownBlock = some g → g ≠ bx) ∧ (∀ g, vs.ownBlock = some g → g ≠ bx)) := Lib.hid (by
    have h1 := h.rest.lt; have h2 := h.rest.starts.lt; have h3 := OwnRecs.lt h.rest.recs
    exact ⟨by omega, by omega, fun g hg => by have := (h3 g hg).2; omega, fun g hg => by have := (h2 g hg).2; omega⟩)
  have HX0 : Hid (Bel Z B w w0 ∧ B ≤ w0.heap.size) := ⟨Bel.ext hx0, Nat.le_trans h.rest.wh.big hx0.size⟩
  have HNE : Hid (rb ≠ lb) := h.rest.ne
  have b0 : w0.cell? ⟨bx, 0, none⟩ = some (.int .i64 2) := Go.Joins.cell_of_block hb 0
  have b1 : w0.cell? ⟨bx, 1, none⟩ = some (.int .i64 n) := Go.Joins.cell_of_block hb 1
  have c1 : w0.cell? ⟨rb, 1, none⟩ = some (.pointer (some ⟨lb, 0, none⟩)) := Go.Joins.cell_of_block HH.out.run 1
  have hcm : Calls Tryz.prog 48 #[.pointer (some ⟨lb, 0, none⟩)] w0 fun e w' => e = .returned (.int .i64 7) ∧ WH B (X5 Z lb rb vr vs bx) w' d lb T M ∧ Turns B (X5 Z lb rb vr vs bx) lb w0 w' := by
    have h1 := rotate_wh (by omega) (by omega) HW.out
    rw [hc] at h1
    exact h1
  clear h hu hfs hc hx0 hb
  go_enter Tryz.func45, Tryz.ntmps45
  go_upto_region 1 with fail
  rw [← hw0, ← hbx]
  clear hw0 hbx
  go_wp2_with fail
  refine hcm.mono ?_
  clear hcm
  rintro e w1 ⟨rfl, hw1, ho1⟩
  have HH1 := Lib.hid (HH.out.turn5 hw1 ho1)
  have b0 := Only.cell ho1 b0 (by rintro (k | k); exact HBL.out.1 k; exact k.2 (.inr rfl))
  have HBE : Hid (Bel Z B w w1) := Only.andThen HX0.out.1 (HH.out.bel5 ho1)
  clear hw1 ho1 c1 b1
  go_wp2_with fail
  go_ret2
  exact ⟨rfl, HH1.out, HBE.out⟩
end Go.Proofs.YtmdkjcigmhgpeaaGreatDoor

/- The walks of run.does: an Append at which the power goes off, Forget, the log opened anew. (Printed by gen_does7.py.) -/
namespace Go.Proofs.YtmdkjcigmhgpeaaGreatDoor
open Go.RowKit Snp SealMath Dsk Wal

set_option maxRecDepth 20000 in
set_option maxHeartbeats 8000000 in
theorem does_append_off {Z : Nat → Prop} {B : Nat} {w : World} {rb d lb : Nat} {vr vs : Value} {S T : DS} {L M : LG} {recs : List RC} {starts : List Nat} {next safe : Nat} (fresh : Bool) (n : Int) (x : ByteArray) (hx : x.size ≤ 300) (h : RH Z B w rb d lb vr vs S L recs starts next safe fresh) (hnb : Nibs w) (hu : S.uses ≤ 4000) (hfs : L.file.size ≤ 20) (hls : L.size ≤ 20000)
    (ha : appendW nameW S L (lst x) = ((0, 7), M, T)) :
    Calls Tryz.prog 45 #[.pointer (some ⟨rb, 0, none⟩), .agg #[.int .i64 0, .int .i64 n, .string x]] w fun e w' => e = .returned (.tuple #[.bool true, .bool true]) ∧ RH Z B w' rb d lb vr vs T M recs starts next safe fresh ∧ Bel Z B w w' := by
  obtain ⟨w0, hw0⟩ : ∃ u, u = w.alloc (.cells #[.int .i64 0, .int .i64 n, .string x] 87) := ⟨_, rfl⟩
  obtain ⟨bx, hbx⟩ : ∃ k, k = w.heap.size := ⟨_, rfl⟩
  have hx0 : Ext w w0 := by rw [hw0]; exact (Ext.refl w).alloc _
  have hb : w0.heap[bx]? = some (.cells #[.int .i64 0, .int .i64 n, .string x] 87 (0, 0)) := by rw [hw0, hbx]; exact heap_alloc_new w _
  have HW : Hid (WH B (X5 Z lb rb vr vs bx) w0 d lb S L) := Lib.hid (by rw [hw0, hbx]; exact h.rest.box _)
  have HH := Lib.hid (h.ext hx0)
  have HBL : Hid (bx ≠ lb ∧ bx ≠ rb ∧ (∀ g, vr.ownBlock = some g → g ≠ bx) ∧ (∀ g, vs.ownBlock = some g → g ≠ bx)) := Lib.hid (by
    have h1 := h.rest.lt; have h2 := h.rest.starts.lt; have h3 := OwnRecs.lt h.rest.recs
    exact ⟨by omega, by omega, fun g hg => by have := (h3 g hg).2; omega, fun g hg => by have := (h2 g hg).2; omega⟩)
  have HX0 : Hid (Bel Z B w w0 ∧ B ≤ w0.heap.size) := ⟨Bel.ext hx0, Nat.le_trans h.rest.wh.big hx0.size⟩
  have HNE : Hid (rb ≠ lb) := h.rest.ne
  have b0 : w0.cell? ⟨bx, 0, none⟩ = some (.int .i64 0) := Go.Joins.cell_of_block hb 0
  have b1 : w0.cell? ⟨bx, 1, none⟩ = some (.int .i64 n) := Go.Joins.cell_of_block hb 1
  have c1 : w0.cell? ⟨rb, 1, none⟩ = some (.pointer (some ⟨lb, 0, none⟩)) := Go.Joins.cell_of_block HH.out.run 1
  have HNB := Lib.hid (hnb.ext hx0)
  have b2 : w0.cell? ⟨bx, 2, none⟩ = some (.string x) := Go.Joins.cell_of_block hb 2
  have HAP : Hid (∀ u, Ext w0 u → Calls Tryz.prog 35 #[.pointer (some ⟨lb, 0, none⟩), .string x] u fun e w' => e = .returned (.tuple #[.int .i64 0, .int .i64 7]) ∧ WH B (X5 Z lb rb vr vs bx) w' d lb T M ∧ Turns B (X5 Z lb rb vr vs bx) lb u w') := fun u k => by
    have hap := append_wh x (by omega) (by omega) (by omega) (by omega) (HW.out.ext k) (HNB.out.ext k)
    rw [ha] at hap
    exact hap
  clear h hnb hx hu hfs hls ha hx0 hb b0 b1
  go_enter Tryz.func45, Tryz.ntmps45
  go_upto_region 3 with fail
  rw [← hw0, ← hbx]
  clear hw0 hbx
  go_cut [6, 7] (fun s6 s7 wx => s6 = .int .i64 0 ∧ s7 = .int .i64 7 ∧ Hid (WH B (X5 Z lb rb vr vs bx) wx d lb T M) ∧ Hid (∃ u, Ext w0 u ∧ Turns B (X5 Z lb rb vr vs bx) lb u wx))
  case first =>
    go_region_held3 (fun u => u.cell? ⟨rb, 1, none⟩ = some (.pointer (some ⟨lb, 0, none⟩)) ∧ u.cell? ⟨bx, 2, none⟩ = some (.string x)) (first | exact ⟨c1, b2⟩ | exact ⟨q1, q2⟩)
      (first | (go_at_call 35; refine (HAP.out _ (by first | exact Ext.refl _ | exact (Ext.refl _).drew)).mono ?_; rintro e u ⟨rfl, hw6, ho6⟩; have HW6 := Lib.hid hw6; have HO6 : Hid (∃ v', Ext w0 v' ∧ Turns B (X5 Z lb rb vr vs bx) lb v' u) := ⟨_, (by first | exact Ext.refl _ | exact (Ext.refl _).drew), ho6⟩; have q1 := Only.cell ho6 (Ext.cell (by first | exact Ext.refl _ | exact (Ext.refl _).drew) c1) (by rintro (k | k); exact HNE.out k; exact k.2 (.inl (.inr (.inl rfl)))); have q2 := Only.cell ho6 (Ext.cell (by first | exact Ext.refl _ | exact (Ext.refl _).drew) b2) (by rintro (k | k); exact HBL.out.1 k; exact k.2 (.inr rfl)); clear hw6 ho6))
    all_goals
      go_wp2_with fail
      go_meet
      exact ⟨rfl, rfl, HW6, HO6⟩
  obtain ⟨rfl, rfl, HW6, HO6⟩ := hcut
  obtain ⟨u3, k3, ho⟩ := HO6.out
  have HH6 := Lib.hid ((HH.out.ext k3).turn5 HW6.out ho)
  have HBE : Hid (Bel Z B w wc) := Only.andThen HX0.out.1 (Only.andThen (Bel.ext k3) (HH.out.bel5 ho))
  clear ho k3 c1 b2
  go_wp2_with fail
  go_ret2
  exact ⟨rfl, HH6.out, HBE.out⟩
set_option maxRecDepth 20000 in
set_option maxHeartbeats 8000000 in
theorem does_forget {Z : Nat → Prop} {B : Nat} {w : World} {rb d lb : Nat} {vr vs : Value} {S T : DS} {L M : LG} {recs : List RC} {starts : List Nat} {next safe : Nat} (fresh : Bool) (n : Int) (x : ByteArray) (h : RH Z B w rb d lb vr vs S L recs starts next safe fresh) (hu : S.uses ≤ 4000) (hfs : L.file.size ≤ 20) (hrl : recs.length ≤ 100) (hst : recs ≠ [] → starts ≠ [])
    (hc : forgetW nameW n S L = (0, M, T)) :
    Calls Tryz.prog 45 #[.pointer (some ⟨rb, 0, none⟩), .agg #[.int .i64 3, .int .i64 n, .string x]] w fun e w' => ∃ vr' vs', e = .returned (.tuple #[.bool true, .bool false]) ∧ RH Z B w' rb d lb vr' vs' T M (keepR (dropN n starts) recs) (dropN n starts) next next fresh ∧ Bel Z B w w' := by
  obtain ⟨w0, hw0⟩ : ∃ u, u = w.alloc (.cells #[.int .i64 3, .int .i64 n, .string x] 87) := ⟨_, rfl⟩
  obtain ⟨bx, hbx⟩ : ∃ k, k = w.heap.size := ⟨_, rfl⟩
  have hx0 : Ext w w0 := by rw [hw0]; exact (Ext.refl w).alloc _
  have hb : w0.heap[bx]? = some (.cells #[.int .i64 3, .int .i64 n, .string x] 87 (0, 0)) := by rw [hw0, hbx]; exact heap_alloc_new w _
  have HW : Hid (WH B (X5 Z lb rb vr vs bx) w0 d lb S L) := Lib.hid (by rw [hw0, hbx]; exact h.rest.box _)
  have HH := Lib.hid (h.ext hx0)
  have HBL : Hid (bx ≠ lb ∧ bx ≠ rb ∧ (∀ g, vr.ownBlock = some g → g ≠ bx) ∧ (∀ g, vs.ownBlock = some g → g ≠ bx)) := Lib.hid (by
    have h1 := h.rest.lt; have h2 := h.rest.starts.lt; have h3 := OwnRecs.lt h.rest.recs
    exact ⟨by omega, by omega, fun g hg => by have := (h3 g hg).2; omega, fun g hg => by have := (h2 g hg).2; omega⟩)
  have HX0 : Hid (Bel Z B w w0 ∧ B ≤ w0.heap.size) := ⟨Bel.ext hx0, Nat.le_trans h.rest.wh.big hx0.size⟩
  have HNE : Hid (rb ≠ lb) := h.rest.ne
  have b0 : w0.cell? ⟨bx, 0, none⟩ = some (.int .i64 3) := Go.Joins.cell_of_block hb 0
  have b1 : w0.cell? ⟨bx, 1, none⟩ = some (.int .i64 n) := Go.Joins.cell_of_block hb 1
  have c1 : w0.cell? ⟨rb, 1, none⟩ = some (.pointer (some ⟨lb, 0, none⟩)) := Go.Joins.cell_of_block HH.out.run 1
  have HFG : Hid (∀ u, Ext w0 u → Calls Tryz.prog 49 #[.pointer (some ⟨lb, 0, none⟩), .int .i64 n] u fun e w' => e = .returned (.int .i64 0) ∧ WH B (X5 Z lb rb vr vs bx) w' d lb T M ∧ Turns B (X5 Z lb rb vr vs bx) lb u w') := fun u k => by
    have h1 := forget_wh n (by omega) (by omega) (HW.out.ext k)
    rw [hc] at h1
    exact h1
  have HRL := Lib.hid (And.intro hrl hst)
  clear hrl hst
  clear h hu hfs hc hx0 hb
  go_enter Tryz.func45, Tryz.ntmps45
  go_upto_region 1 with fail
  rw [← hw0, ← hbx]
  clear hw0 hbx
  go_upto_region 18 with fail
  go_region_held3 (fun u => u.cell? ⟨rb, 1, none⟩ = some (.pointer (some ⟨lb, 0, none⟩)) ∧ u.cell? ⟨bx, 1, none⟩ = some (.int .i64 n)) (first | exact ⟨c1, b1⟩ | exact ⟨q1, q2⟩)
    (first | (go_at_call 49; refine (HFG.out _ (by first | exact Ext.refl _ | exact (Ext.refl _).drew)).mono ?_; rintro e u ⟨rfl, hw6, ho6⟩; have HW6 := Lib.hid hw6; have HO6 : Hid (∃ v', Ext w0 v' ∧ Turns B (X5 Z lb rb vr vs bx) lb v' u) := ⟨_, (by first | exact Ext.refl _ | exact (Ext.refl _).drew), ho6⟩; have q1 := Only.cell ho6 (Ext.cell (by first | exact Ext.refl _ | exact (Ext.refl _).drew) c1) (by rintro (k | k); exact HNE.out k; exact k.2 (.inl (.inr (.inl rfl)))); have q2 := Only.cell ho6 (Ext.cell (by first | exact Ext.refl _ | exact (Ext.refl _).drew) b1) (by rintro (k | k); exact HBL.out.1 k; exact k.2 (.inr rfl)); clear hw6 ho6))
  all_goals
    obtain ⟨u3, k3, ho⟩ := HO6.out
    have HH1 := Lib.hid ((HH.out.ext k3).turn5 HW6.out ho)
    have b0 := Only.cell ho (Ext.cell k3 b0) (by rintro (k | k); exact HBL.out.1 k; exact k.2 (.inr rfl))
    have HBE : Hid (Bel Z B w u) := Only.andThen HX0.out.1 (Only.andThen (Bel.ext k3) (HH.out.bel5 ho))
    clear ho k3 c1 q1
    have c4 : u.cell? ⟨rb, 4, none⟩ = some (.int .i64 (next : Nat)) := Go.Joins.cell_of_block HH1.out.run 4
    have c5 : u.cell? ⟨rb, 5, none⟩ = some (.int .i64 (safe : Nat)) := Go.Joins.cell_of_block HH1.out.run 5
    have c6 : u.cell? ⟨rb, 6, none⟩ = some (.bool fresh) := Go.Joins.cell_of_block HH1.out.run 6
    have f5 := frozen_row HH1.out.run 5
    have f6 := frozen_row HH1.out.run 6
    cases fresh
    all_goals
      go_wp2_with fail
      refine (forget_any n ⟨(HH1.out.run.setF _).setB _, (HH1.out.rest.own (only_row _ _ _ _)).own (only_row _ _ _ _)⟩ HRL.out.1 HRL.out.2).mono ?_
      rintro e w9 ⟨vr9, vs9, rfl, hrh, hbe⟩
      have HRH := Lib.hid hrh
      have HBE9 : Hid (Bel Z B w w9) := Only.andThen HBE.out (Only.andThen (HH1.out.rest.belRow ((only_row _ _ _ _).andThen (only_row _ _ _ _))) hbe)
      clear hrh hbe
      go_wp2_with fail
      go_ret2
      exact ⟨_, _, rfl, HRH.out, HBE9.out⟩
set_option maxRecDepth 20000 in
set_option maxHeartbeats 8000000 in
theorem does_forget_off {Z : Nat → Prop} {B : Nat} {w : World} {rb d lb : Nat} {vr vs : Value} {S T : DS} {L M : LG} {recs : List RC} {starts : List Nat} {next safe : Nat} (fresh : Bool) (n : Int) (x : ByteArray) (h : RH Z B w rb d lb vr vs S L recs starts next safe fresh) (hu : S.uses ≤ 4000) (hfs : L.file.size ≤ 20)
    (hc : forgetW nameW n S L = (7, M, T)) :
    Calls Tryz.prog 45 #[.pointer (some ⟨rb, 0, none⟩), .agg #[.int .i64 3, .int .i64 n, .string x]] w fun e w' => e = .returned (.tuple #[.bool true, .bool true]) ∧ RH Z B w' rb d lb vr vs T M recs starts next safe fresh ∧ Bel Z B w w' := by
  obtain ⟨w0, hw0⟩ : ∃ u, u = w.alloc (.cells #[.int .i64 3, .int .i64 n, .string x] 87) := ⟨_, rfl⟩
  obtain ⟨bx, hbx⟩ : ∃ k, k = w.heap.size := ⟨_, rfl⟩
  have hx0 : Ext w w0 := by rw [hw0]; exact (Ext.refl w).alloc _
  have hb : w0.heap[bx]? = some (.cells #[.int .i64 3, .int .i64 n, .string x] 87 (0, 0)) := by rw [hw0, hbx]; exact heap_alloc_new w _
  have HW : Hid (WH B (X5 Z lb rb vr vs bx) w0 d lb S L) := Lib.hid (by rw [hw0, hbx]; exact h.rest.box _)
  have HH := Lib.hid (h.ext hx0)
  have HBL : Hid (bx ≠ lb ∧ bx ≠ rb ∧ (∀ g, vr.ownBlock = some g → g ≠ bx) ∧ (∀ g, vs.ownBlock = some g → g ≠ bx)) := Lib.hid (by
    have h1 := h.rest.lt; have h2 := h.rest.starts.lt; have h3 := OwnRecs.lt h.rest.recs
    exact ⟨by omega, by omega, fun g hg => by have := (h3 g hg).2; omega, fun g hg => by have := (h2 g hg).2; omega⟩)
  have HX0 : Hid (Bel Z B w w0 ∧ B ≤ w0.heap.size) := ⟨Bel.ext hx0, Nat.le_trans h.rest.wh.big hx0.size⟩
  have HNE : Hid (rb ≠ lb) := h.rest.ne
  have b0 : w0.cell? ⟨bx, 0, none⟩ = some (.int .i64 3) := Go.Joins.cell_of_block hb 0
  have b1 : w0.cell? ⟨bx, 1, none⟩ = some (.int .i64 n) := Go.Joins.cell_of_block hb 1
  have c1 : w0.cell? ⟨rb, 1, none⟩ = some (.pointer (some ⟨lb, 0, none⟩)) := Go.Joins.cell_of_block HH.out.run 1
  have HFG : Hid (∀ u, Ext w0 u → Calls Tryz.prog 49 #[.pointer (some ⟨lb, 0, none⟩), .int .i64 n] u fun e w' => e = .returned (.int .i64 7) ∧ WH B (X5 Z lb rb vr vs bx) w' d lb T M ∧ Turns B (X5 Z lb rb vr vs bx) lb u w') := fun u k => by
    have h1 := forget_wh n (by omega) (by omega) (HW.out.ext k)
    rw [hc] at h1
    exact h1
  clear h hu hfs hc hx0 hb
  go_enter Tryz.func45, Tryz.ntmps45
  go_upto_region 1 with fail
  rw [← hw0, ← hbx]
  clear hw0 hbx
  go_upto_region 18 with fail
  go_region_held3 (fun u => u.cell? ⟨rb, 1, none⟩ = some (.pointer (some ⟨lb, 0, none⟩)) ∧ u.cell? ⟨bx, 1, none⟩ = some (.int .i64 n)) (first | exact ⟨c1, b1⟩ | exact ⟨q1, q2⟩)
    (first | (go_at_call 49; refine (HFG.out _ (by first | exact Ext.refl _ | exact (Ext.refl _).drew)).mono ?_; rintro e u ⟨rfl, hw6, ho6⟩; have HW6 := Lib.hid hw6; have HO6 : Hid (∃ v', Ext w0 v' ∧ Turns B (X5 Z lb rb vr vs bx) lb v' u) := ⟨_, (by first | exact Ext.refl _ | exact (Ext.refl _).drew), ho6⟩; have q1 := Only.cell ho6 (Ext.cell (by first | exact Ext.refl _ | exact (Ext.refl _).drew) c1) (by rintro (k | k); exact HNE.out k; exact k.2 (.inl (.inr (.inl rfl)))); have q2 := Only.cell ho6 (Ext.cell (by first | exact Ext.refl _ | exact (Ext.refl _).drew) b1) (by rintro (k | k); exact HBL.out.1 k; exact k.2 (.inr rfl)); clear hw6 ho6))
  all_goals
    obtain ⟨u3, k3, ho⟩ := HO6.out
    have HH1 := Lib.hid ((HH.out.ext k3).turn5 HW6.out ho)
    have b0 := Only.cell ho (Ext.cell k3 b0) (by rintro (k | k); exact HBL.out.1 k; exact k.2 (.inr rfl))
    have HBE : Hid (Bel Z B w u) := Only.andThen HX0.out.1 (Only.andThen (Bel.ext k3) (HH.out.bel5 ho))
    clear ho k3 c1 q1
    go_wp2_with fail
    go_ret2
    exact ⟨rfl, HH1.out, HBE.out⟩
set_option maxRecDepth 20000 in
set_option maxHeartbeats 8000000 in
theorem does_opened {Z : Nat → Prop} {B : Nat} {w : World} {rb d lb : Nat} {vr vs : Value} {S T : DS} {L M : LG} {recs : List RC} {starts : List Nat} {next safe : Nat} (fresh : Bool) (n : Int) (x : ByteArray) (k : Int) (hk : k ≠ 0 ∧ k ≠ 1 ∧ k ≠ 2 ∧ k ≠ 3) (h : RH Z B w rb d lb vr vs S L recs starts next safe fresh) (hnb : Nibs w) (hn : 0 < B) (ho : S.off = false) (hu : S.uses ≤ 4000) (hrl : recs.length ≤ 100) (hR : openW S nameW 0 = (0, recs, M, T)) (hM : M.next = next) :
    Calls Tryz.prog 45 #[.pointer (some ⟨rb, 0, none⟩), .agg #[.int .i64 k, .int .i64 n, .string x]] w fun e w' => ∃ lb', e = .returned (.tuple #[.bool true, .bool false]) ∧ RH Z B w' rb d lb' vr vs T M recs starts next next (decide (starts.length = 0)) ∧ Bel Z B w w' := by
  obtain ⟨w0, hw0⟩ : ∃ u, u = w.alloc (.cells #[.int .i64 k, .int .i64 n, .string x] 87) := ⟨_, rfl⟩
  obtain ⟨bx, hbx⟩ : ∃ k, k = w.heap.size := ⟨_, rfl⟩
  have hx0 : Ext w w0 := by rw [hw0]; exact (Ext.refl w).alloc _
  have hb : w0.heap[bx]? = some (.cells #[.int .i64 k, .int .i64 n, .string x] 87 (0, 0)) := by rw [hw0, hbx]; exact heap_alloc_new w _
  have HX0 : Hid (Bel Z B w w0) := Bel.ext hx0
  have b0 : w0.cell? ⟨bx, 0, none⟩ = some (.int .i64 k) := Go.Joins.cell_of_block hb 0
  have hop := opened_any (h.ext hx0) (hnb.ext hx0) hn ho hu hrl hR hM
  obtain ⟨k0, k1, k2, k3⟩ := hk
  have e0 : (k == 0) = false := by rw [beq_eq_false_iff_ne]; exact k0
  have e1 : (k == 1) = false := by rw [beq_eq_false_iff_ne]; exact k1
  have e2 : (k == 2) = false := by rw [beq_eq_false_iff_ne]; exact k2
  have e3 : (k == 3) = false := by rw [beq_eq_false_iff_ne]; exact k3
  clear h hnb hn ho hu hrl hR hM hx0 hb
  go_enter Tryz.func45, Tryz.ntmps45
  go_upto_region 1 with fail
  rw [← hw0, ← hbx]
  clear hw0 hbx
  go_wp2_with fail
  refine hop.mono ?_
  clear hop
  rintro e w1 ⟨lb8, rfl, hrh, hbe⟩
  have HRH := Lib.hid hrh
  have HBE : Hid (Bel Z B w w1) := Only.andThen HX0.out hbe
  clear hrh hbe
  go_wp2_with fail
  go_ret2
  exact ⟨_, rfl, HRH.out, HBE.out⟩
end Go.Proofs.YtmdkjcigmhgpeaaGreatDoor

/- What an act does to a run: it is done as it must be, or the power goes off. -/
namespace Go.Proofs.YtmdkjcigmhgpeaaGreatDoor
namespace Wal
open SealMath Dsk Snp

theorem commit_file (S : DS) (L : LG) : (commitW S L).2.1.file = L.file ∧ (commitW S L).2.1.size = L.size ∧ (commitW S L).2.1.next = L.next := by
  unfold commitW
  split
  · exact ⟨rfl, rfl, rfl⟩
  · split <;> exact ⟨rfl, rfl, rfl⟩
theorem rotate_file (S : DS) (L : LG) : (rotateW S L).2.1.file = L.file ∧ (rotateW S L).2.1.size = L.size := by
  obtain ⟨h1, h2, _⟩ := commit_file S L
  unfold rotateW
  split <;> exact ⟨h1, h2⟩
theorem forget_file (below : Int) (S : DS) (L : LG) : (forgetW nameW below S L).2.1.file = L.file ∧ (forgetW nameW below S L).2.1.size = L.size := by
  obtain ⟨h1, h2, _⟩ := commit_file S L
  unfold forgetW
  split <;> exact ⟨h1, h2⟩
theorem head_file (S : DS) (L : LG) (hn : L.next ≤ 99999999) (hf : L.file.size ≤ 20) : (headW nameW S L).2.1.file.size ≤ 20 ∧ (headW nameW S L).2.1.size ≤ L.size := by
  obtain ⟨h1, h2, h3⟩ := commit_file S L
  unfold headW
  split
  · split
    · refine ⟨?_, Nat.zero_le _⟩
      show (seg nameW (commitW S L).2.1.next).size ≤ 20
      rw [h3, seg_size _ _ hn]; decide
    · exact ⟨by rw [h1]; exact hf, by rw [h2]; exact Nat.le_refl _⟩
  · exact ⟨hf, Nat.le_refl _⟩
theorem append_file (S : DS) (L : LG) (x : List UInt8) (hn : L.next ≤ 99999999) (hf : L.file.size ≤ 20) : (appendW nameW S L x).2.1.file.size ≤ 20 ∧ (appendW nameW S L x).2.1.size ≤ L.size + (x.length + 20) := by
  obtain ⟨h1, h2⟩ := head_file S L hn hf
  unfold appendW
  split
  · exact ⟨hf, Nat.le_add_right _ _⟩
  · split
    · exact ⟨hf, Nat.le_add_right _ _⟩
    · split
      · exact ⟨hf, Nat.le_add_right _ _⟩
      · split
        · unfold putW
          split
          · exact ⟨h1, Nat.add_le_add_right h2 _⟩
          · exact ⟨h1, Nat.le_trans h2 (Nat.le_add_right _ _)⟩
        · exact ⟨h1, Nat.le_trans h2 (Nat.le_add_right _ _)⟩
theorem Way.ne {n : Nat} {S : DS} {L : LG} {recs : List RC} {starts : List Nat} {next safe : Nat} {fresh : Bool} (h : Way n S L recs starts next safe fresh) : recs ≠ [] → starts ≠ [] := by
  intro k
  rcases h.st with ⟨_, rfl, _⟩ | ⟨a, pre, s, _, _, rfl, _⟩
  · exact absurd rfl k
  · simp
end Wal
open Go.RowKit Snp SealMath Dsk Wal

/-- What an act gives. -/
def Did (Z : Nat → Prop) (B rb d n : Nat) (x : AW) (S : DS) (recs : List RC) (starts : List Nat) (next safe : Nat) (fresh : Bool) (w : World) (e : Ending) (w' : World) : Prop :=
  (∃ lb' vr' vs' T M recs' starts' next' safe' fresh', e = .returned (.tuple #[.bool true, .bool false]) ∧ RH Z B w' rb d lb' vr' vs' T M recs' starts' next' safe' fresh' ∧ Wal.Way (n + 1) T M recs' starts' next' safe' fresh' ∧ T.armed = S.armed ∧ Bel Z B w w') ∨
  (∃ lb' vr' vs' T M, e = .returned (.tuple #[.bool true, .bool true]) ∧ RH Z B w' rb d lb' vr' vs' T M recs starts next safe fresh ∧ M.err = 7 ∧ (S.armed = false → False) ∧ T.uses ≤ S.uses + 50 ∧ Again T x.kind x.n safe recs ∧ M.file.size ≤ 20 ∧ M.size ≤ 100000 ∧ Bel Z B w w')
theorem did_act {Z : Nat → Prop} {n B : Nat} {w : World} {rb d lb : Nat} {vr vs : Value} {S : DS} {L : LG} {recs : List RC} {starts : List Nat} {next safe : Nat} {fresh : Bool} (x : AW) (hx : x.data.size ≤ 300) (hn : n ≤ 31)
    (h : RH Z B w rb d lb vr vs S L recs starts next safe fresh) (hw : Wal.Way n S L recs starts next safe fresh) (hnb : Nibs w) (hk : x.kind = 0 ∨ x.kind = 1 ∨ x.kind = 2 ∨ x.kind = 3) :
    Calls Tryz.prog 45 #[.pointer (some ⟨rb, 0, none⟩), .agg #[.int .i64 x.kind, .int .i64 x.n, .string x.data]] w (Did Z B rb d n x S recs starts next safe fresh w) := by
  obtain ⟨hc1, hc2, hc3⟩ := hw.counts
  have hus := hw.uses
  have hfl := hw.file
  have hsz := hw.size
  have hlim := hw.lim
  have hnx := hw.next
  obtain ⟨kind, m, data⟩ := x
  simp only at hx hk ⊢
  rcases hk with rfl | rfl | rfl | rfl
  · have hfile := append_file S L (lst data) (by omega) hfl
    rw [lst_length] at hfile
    rcases hw.append (by omega) (lst data) (by rw [lst_length]; exact hx) with ⟨T, M, a1, a2, a3⟩ | ⟨T, M, a1, a2, a3, a4, a5, a6⟩
    · refine (does_append fresh m data hx h hnb (by omega) hfl (by omega) (by omega) (by omega) (by omega) a1).mono ?_
      rintro e w' ⟨vr', vs', rfl, hr, hb⟩
      rw [show bts (lst data) = data from lst_inj (lst_bts _)] at a2
      exact .inl ⟨_, vr', vs', T, M, _, _, _, _, _, rfl, hr, a2, a3, hb⟩
    · rw [a1] at hfile
      refine (does_append_off fresh m data hx h hnb (by omega) hfl (by omega) a1).mono ?_
      rintro e w' ⟨rfl, hr, hb⟩
      exact .inr ⟨_, _, _, T, M, rfl, hr, a2, a6, by omega, hw.again a4 0 m, hfile.1, by have := hfile.2; simp only at this; omega, hb⟩
  · have hfile := commit_file S L
    rcases hw.commit with ⟨T, M, a1, a2, a3⟩ | ⟨T, M, a1, a2, a3, a4, a5, a6⟩
    · refine (does_commit fresh m data h (by omega) hfl a1).mono ?_
      rintro e w' ⟨rfl, hr, hb⟩
      exact .inl ⟨_, _, _, T, M, _, _, _, _, _, rfl, hr, a2, a3, hb⟩
    · rw [a1] at hfile
      refine (does_commit_off fresh m data h (by omega) hfl a1).mono ?_
      rintro e w' ⟨rfl, hr, hb⟩
      exact .inr ⟨_, _, _, T, M, rfl, hr, a2, a6, by omega, hw.again a4 1 m, by rw [hfile.1]; exact hfl, by have := hfile.2.1; simp only at this; omega, hb⟩
  · have hfile := rotate_file S L
    rcases hw.rotate with ⟨T, M, a1, a2, a3⟩ | ⟨T, M, a1, a2, a3, a4, a5, a6⟩
    · refine (does_rotate fresh m data h (by omega) hfl a1).mono ?_
      rintro e w' ⟨rfl, hr, hb⟩
      exact .inl ⟨_, _, _, T, M, _, _, _, _, _, rfl, hr, a2, a3, hb⟩
    · rw [a1] at hfile
      refine (does_rotate_off fresh m data h (by omega) hfl a1).mono ?_
      rintro e w' ⟨rfl, hr, hb⟩
      exact .inr ⟨_, _, _, T, M, rfl, hr, a2, a6, by omega, hw.again a4 2 m, by rw [hfile.1]; exact hfl, by have := hfile.2; simp only at this; omega, hb⟩
  · have hfile := forget_file m S L
    rcases hw.forget (by omega) m with ⟨T, M, a1, a2, a3⟩ | ⟨T, M, a1, a2, a3, a4, a5, a6⟩
    · refine (does_forget fresh m data h (by omega) hfl (by omega) hw.ne a1).mono ?_
      rintro e w' ⟨vr', vs', rfl, hr, hb⟩
      exact .inl ⟨_, vr', vs', T, M, _, _, _, _, _, rfl, hr, a2, a3, hb⟩
    · rw [a1] at hfile
      refine (does_forget_off fresh m data h (by omega) hfl a1).mono ?_
      rintro e w' ⟨rfl, hr, hb⟩
      refine .inr ⟨_, _, _, T, M, rfl, hr, a2, a4, a5, ?_, by rw [hfile.1]; exact hfl, by have := hfile.2; simp only at this; omega, hb⟩
      rcases a6 with a6 | ⟨a, pre, s, i, b, b1, rfl, b2, b3, b4, b5⟩
      · exact hw.again a6 3 m
      · exact lost_again b1 hw.sorted b2 b3 b4 b5
/-- What an act gives where no power goes off. -/
def Played (Z : Nat → Prop) (B rb d n : Nat) (w : World) (e : Ending) (w' : World) : Prop :=
  ∃ lb' vr' vs' T M recs' starts' next' safe' fresh', e = .returned (.tuple #[.bool true, .bool false]) ∧ RH Z B w' rb d lb' vr' vs' T M recs' starts' next' safe' fresh' ∧ Wal.Way (n + 1) T M recs' starts' next' safe' fresh' ∧ T.armed = false ∧ Bel Z B w w'
theorem play_act {Z : Nat → Prop} {n B : Nat} {w : World} {rb d lb : Nat} {vr vs : Value} {S : DS} {L : LG} {recs : List RC} {starts : List Nat} {next safe : Nat} {fresh : Bool} (x : AW) (hx : x.data.size ≤ 300) (hn : n ≤ 31)
    (h : RH Z B w rb d lb vr vs S L recs starts next safe fresh) (hw : Wal.Way n S L recs starts next safe fresh) (ha : S.armed = false) (hnb : Nibs w) (hnB : 0 < B) :
    Calls Tryz.prog 45 #[.pointer (some ⟨rb, 0, none⟩), .agg #[.int .i64 x.kind, .int .i64 x.n, .string x.data]] w (Played Z B rb d n w) := by
  by_cases hk : x.kind = 0 ∨ x.kind = 1 ∨ x.kind = 2 ∨ x.kind = 3
  · refine (did_act x hx hn h hw hnb hk).mono ?_
    rintro e w' (⟨lb', vr', vs', T, M, r', s', n', sf', f', rfl, h1, h2, h3, h4⟩ | ⟨_, _, _, _, _, _, _, _, h4, _⟩)
    · exact ⟨lb', vr', vs', T, M, r', s', n', sf', f', rfl, h1, h2, h3.trans ha, h4⟩
    · exact (h4 ha).elim
  · obtain ⟨T, M, t1, t2, t3⟩ := hw.opened ha
    refine (does_opened fresh x.n x.data x.kind ⟨fun k => hk (.inl k), fun k => hk (.inr (.inl k)), fun k => hk (.inr (.inr (.inl k))), fun k => hk (.inr (.inr (.inr k)))⟩ h hnb hnB hw.on (by have := hw.uses; omega) (by have := hw.counts.1; omega) t1 t2.next.symm).mono ?_
    rintro e w' ⟨lb', rfl, hr, hb⟩
    exact ⟨lb', _, _, T, M, _, _, _, _, _, rfl, hr, t2, t3, hb⟩
end Go.Proofs.YtmdkjcigmhgpeaaGreatDoor
