/- Arguments of law 26 that are acts. (Turned from XAct.) -/
import Derived.Test.YtmdkjcigmhgpeaaGreatDoorSnapInts
namespace Go.Proofs.YtmdkjcigmhgpeaaGreatDoor
open Go.RowKit Go.Maps Dsk Go.ChangeShapes Go.WideShapes Go.Deep

section
variable {H : Type} {enc : TypeId × Value → H} {W : World}
theorem under_act26 : ∃ fs : Array Field, Tryz.prog.underlying 53 = some (.struct fs) ∧ fs.map (fun f => (f.type, f.offset)) = #[(3, 0), (28, 1)] := by
  have key : (match Tryz.prog.underlying 53 with | some (.struct fs) => decide (fs.map (fun f => (f.type, f.offset)) = #[(3, 0), (28, 1)]) | _ => false) = true := by kernel_rfl
  split at key
  · rename_i fs e
    exact ⟨fs, e, of_decide_eq_true key⟩
  · cases key
theorem cells_act26 : Tryz.prog.cellsOf 53 = 2 := by kernel_rfl
theorem act_one26 : Tryz.prog.cellsOf 3 = 1 ∧ Tryz.prog.cellsOf 28 = 1 := ⟨by kernel_rfl, by kernel_rfl⟩
theorem act_field26 {actFields : Array Field} (act_types : actFields.map (fun f => (f.type, f.offset)) = #[(3, 0), (28, 1)]) {i : Nat} {t : TypeId} {o : Nat} (h : #[((3 : TypeId), (0 : Nat)), (28, 1)][i]? = some (t, o)) : ∃ f, actFields[i]? = some f ∧ f.type = t ∧ f.offset = o := by
  rw [← act_types, Array.getElem?_map] at h
  cases hf : actFields[i]? with
  | none => rw [hf] at h; cases h
  | some f =>
    rw [hf] at h
    simp only [Option.map_some, Option.some.injEq, Prod.mk.injEq] at h
    exact ⟨f, rfl, h.1, h.2⟩
set_option maxRecDepth 20000 in
/-- A datum of an act's parts. -/
theorem act_s_in {fuel : Nat} {vs : List Value} {y : DataW H × List MemPlace} (h : DataW.trod enc Tryz.prog W 0 (fun _ => true) true fuel 53 vs = some y) (hw : ∀ n ∈ y.1.weights Tryz.prog 53, n ≤ reachBytes) :
    ∃ (x : AS) (ad : Option Addr) (cd : Nat), vs = svals x ad cd ∧ ActSV W x ad cd ∧ ASok x := by
  obtain ⟨actFields, hua, act_types⟩ := under_act26
  obtain ⟨ys, n, _, hy, hlen, hyl, hf⟩ := DataW.trod_struct hua h
  rw [cells_act26] at hlen
  have hsz : actFields.size = 2 := by have := congrArg Array.size act_types; simpa using this
  rw [hsz] at hyl
  match vs, hlen with
  | [c0, c1], _ =>
    match ys, hyl with
    | [y0, y1], _ =>
      obtain ⟨f0, e0, t0, o0⟩ := act_field26 act_types (i := 0) rfl
      obtain ⟨f1, e1, t1, o1⟩ := act_field26 act_types (i := 1) rfl
      have h0 := hf 0 f0 e0
      have h1 := hf 1 f1 e1
      rw [t0, o0, act_one26.1] at h0
      rw [t1, o1, act_one26.2] at h1
      simp only [List.drop_zero, List.drop_succ_cons, List.take_succ_cons, List.take_zero, List.getElem?_cons_zero, List.getElem?_cons_succ] at h0 h1
      subst hy
      have hwt : ∀ (j : Nat) (t : TypeId) (d : DataW H), ([3, 28] : List TypeId)[j]? = some t → [y0.1, y1.1][j]? = some d → ∀ n ∈ d.weights Tryz.prog t, n ≤ reachBytes := fun j t d ht hd n hn => by
        refine hw n ?_
        have hts : actFields.toList.map (·.type) = [3, 28] := by
          have := congrArg (fun a => a.toList.map (·.1)) act_types
          rw [Array.toList_map, List.map_map] at this
          exact this
        simp only [DataW.weights, hua, hts, List.map_cons, List.map_nil]
        exact DataW.weights_mem_each ht hd n hn
      obtain ⟨k, hk0, hk1, hk2⟩ := DataW.trod_int Tryz.underlying3 h0
      obtain ⟨ad, cd, xs, hx0, hx1, hx2, hx3, hx4, hx5⟩ := strs_in h1 (hwt 1 _ _ rfl rfl)
      simp only [List.cons.injEq, and_true] at hk0
      have b0 := bounds_i64 hk2
      exact ⟨⟨k, xs⟩, ad, cd, by rw [hk0, hx0]; rfl, ⟨hx1, hx4⟩, ⟨by unfold I64; exact b0, hx2, hx3⟩⟩
set_option maxRecDepth 20000 in
/-- An argument that is an act. -/
theorem act_s_arg {r : Reach} {b0 : Nat} {v : Value} {d : DataW H} {p : List MemPlace} (hval : Value.okWide Tryz.prog W r b0 53 v) (h : DataW.Trod enc Tryz.prog W 0 (fun _ => true) true 53 v d p)
    {ts : List TypeId} {ds : List (DataW H)} (hsz : (DataW.weightsEach Tryz.prog ts ds).all (· ≤ reachBytes) = true) {j : Nat} (ht : ts[j]? = some 53) (hd : ds[j]? = some d) :
    ∃ (x : AS) (ad : Option Addr) (cd : Nat), v = .agg (svals x ad cd).toArray ∧ ActSV W x ad cd ∧ ASok x := by
  obtain ⟨fs, hua, _⟩ := under_act26
  obtain ⟨cs, rfl, hsz'⟩ := okWide_struct hua hval
  obtain ⟨fuel, hf⟩ := h
  obtain ⟨x, ad, cd, hv, h1, h2⟩ := act_s_in hf (fun n hn => by
    have := List.all_eq_true.1 hsz _ (DataW.weights_mem_each ht hd n hn)
    simpa using this)
  refine ⟨x, ad, cd, ?_, h1, h2⟩
  rw [← hv]; rfl
set_option maxRecDepth 20000 in
/-- An argument that is a slice of acts. -/
theorem acts_s_arg {a : Option Addr} {n c : Nat} {d : DataW H} {p : List MemPlace} (h : DataW.Trod enc Tryz.prog W 0 (fun _ => true) true 51 (.slice a n c) d p)
    {ts : List TypeId} {ds : List (DataW H)} (hsz : (DataW.weightsEach Tryz.prog ts ds).all (· ≤ reachBytes) = true) {j : Nat} (ht : ts[j]? = some 51) (hd : ds[j]? = some d) :
    ∃ xs : List AS, n = xs.length ∧ n ≤ c ∧ n ≤ 140737488355328 ∧ (∀ x ∈ xs, ASok x) ∧ ActsSAt W a xs := by
  obtain ⟨fuel, hf⟩ := h
  have hw : ∀ n ∈ d.weights Tryz.prog 51, n ≤ reachBytes := fun n hn => by
    have := List.all_eq_true.1 hsz _ (DataW.weights_mem_each ht hd n hn)
    simpa using this
  rcases open_slice Tryz.underlying51 hf with ⟨hcs, hx⟩ | ⟨a', len, cap, m, k, D, Pl, hcs, _, hl, hm, hmm, hx, hi⟩
  · simp [Value.cells] at hcs
    obtain ⟨rfl, rfl, rfl⟩ := hcs
    exact ⟨[], rfl, Nat.le_refl _, by omega, by simp, fun j x hj => by simp at hj⟩
  · simp [Value.cells] at hcs
    obtain ⟨rfl, rfl, rfl⟩ := hcs
    simp only [if_true] at hmm
    obtain rfl : m = c := hmm
    simp only [Prod.mk.injEq] at hx
    obtain ⟨rfl, _⟩ := hx
    have hbytes : Tryz.prog.bytesOf 53 = 32 := by kernel_rfl
    have hlen : n ≤ 140737488355328 := by
      have := hw (((List.range n).map D).length + ((List.range (m - n)).map fun j => D (n + j)).length |> (· * 32)) (by
        simp only [DataW.weights, Tryz.underlying51, hbytes]
        exact List.mem_cons_self)
      simp only [List.length_map, List.length_range, reachBytes] at this
      omega
    have hsp : 0 < n → a'.spot = none := fun h0 => by
      obtain ⟨cs', hc, ht'⟩ := hi 0 (by omega)
      rw [cells_act26] at hc
      obtain ⟨_, hcl, hat⟩ := World.cells?_some hc
      have h1 := hat 0 (by omega)
      rw [List.getElem?_eq_getElem (by omega)] at h1
      have := World.cell?_spot h1
      simpa [Addr.add] using this
    obtain ⟨X, hX⟩ := choose_lt (n := n) (α := AS) (p := fun i x => ∃ bk o ad cd, a' = ⟨bk, o, none⟩ ∧ (∀ (t : Nat) u, (svals x ad cd)[t]? = some u → W.cell? ⟨bk, o + (i * 2 + t), none⟩ = some u) ∧ ActSV W x ad cd ∧ ASok x) (fun i hin => by
      obtain ⟨cs', hc, ht'⟩ := hi i (by omega)
      obtain ⟨x, ad, cd, hv, h1, h2⟩ := act_s_in ht' (fun q hq => hw q (by
        simp only [DataW.weights, Tryz.underlying51]
        refine List.mem_cons_of_mem _ (List.mem_append_left _ ?_)
        exact weightsAll_mem (List.mem_map.2 ⟨i, List.mem_range.2 hin, rfl⟩) q hq))
      rw [cells_act26] at hc
      obtain ⟨_, hcl, hat⟩ := World.cells?_some hc
      have hspot := hsp (by omega)
      obtain ⟨bk, o, spot⟩ := a'
      simp only at hspot
      subst hspot
      refine ⟨x, bk, o, ad, cd, rfl, fun t u hu => ?_, h1, h2⟩
      have ht6 : t < 2 := by have := (List.getElem?_eq_some_iff.1 hu).1; simpa [svals] using this
      have h := hat t ht6
      rw [hv, hu] at h
      rw [← h, add_add]
      congr 1
      unfold Addr.add
      split <;> simp_all)
    refine ⟨(List.range n).map X, by simp, hl, hlen, ?_, ?_⟩
    · intro x hx
      obtain ⟨i, hi', rfl⟩ := List.mem_map.1 hx
      obtain ⟨_, _, _, _, _, _, _, h⟩ := hX i (List.mem_range.1 hi')
      exact h
    · intro j x hj
      rw [List.getElem?_map] at hj
      cases hr : (List.range n)[j]? with
      | none => rw [hr] at hj; cases hj
      | some i =>
        rw [hr] at hj
        simp only [Option.map_some, Option.some.injEq] at hj
        subst hj
        obtain ⟨hl', he⟩ := List.getElem?_eq_some_iff.1 hr
        rw [List.getElem_range] at he
        subst he
        obtain ⟨bk, o, ad, cd, rfl, h1, h2, _⟩ := hX j (by simpa using hl')
        exact ⟨bk, o, ad, cd, rfl, h1, h2⟩
end
end Go.Proofs.YtmdkjcigmhgpeaaGreatDoor
