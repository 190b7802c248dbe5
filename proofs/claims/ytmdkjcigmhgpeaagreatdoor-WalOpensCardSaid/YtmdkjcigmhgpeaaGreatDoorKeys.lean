/- slices.Sorted(maps.Keys(m)) at a disk's map: its files' names. -/
import Derived.Test.YtmdkjcigmhgpeaaGreatDoorIter
import Derived.Test.YtmdkjcigmhgpeaaGreatDoorDiskBegin
namespace Go.Proofs.YtmdkjcigmhgpeaaGreatDoor
open Go.RowKit Go.Maps Go.Sort Go.Shelf Dsk

theorem sorts_any (m : Nat) : AnyZ.SortsIn Tryz.prog Tryz.sorted75_ren Fence.wide m :=
  ⟨fun blk off cap ss W hH hblk hsz => callsIn_wide.2 (AnyM.slices_Sort_string Tryz.sort115 blk off cap ss W hH hblk hsz),
   fun p cap W => callsIn_wide.2 (AnyM.slices_Sort_string_none Tryz.sort115 p cap W)⟩
/-- maps.Keys. -/
theorem mapkeys_any (mb : Option Nat) (w : World) : Calls Tryz.prog 76 #[.map mb] w fun e w' => e = .returned (.func (.func 116) #[] #[.pointer (some ⟨w.heap.size, 0, none⟩)]) ∧ w' = w.alloc (.cells #[.map mb] 92) :=
  callsIn_wide.1 (AnyZ.keys_in Tryz.keys76 Fence.wide 5 trivial rfl mb w)
set_option maxHeartbeats 1000000 in
/-- slices.Sorted of these. -/
theorem sortedkeys_any (b nn : Nat) (D0 : DataW Unit) (w : World) (hown : w.ownsMap Tryz.prog 9 ptrElem b nn D0) (hmax : Maps.size D0 ≤ maxLen) (hbytes : Maps.size D0 * 16 ≤ 140737488355328) :
    Calls Tryz.prog 75 #[.func (.func 116) #[] #[.pointer (some ⟨w.heap.size, 0, none⟩)]] (w.alloc (.cells #[.map (some b)] 92)) fun e w' => ∃ (v : Value) (ss : List (List UInt8)), e = .returned v ∧ ss.Perm (strKeys D0) ∧
      w'.ownsRow (w.alloc (.cells #[.map (some b)] 92)).heap.size 9 1 v ss.length ((ss.mergeSort (fun x y => decide (x ≤ y))).map encStr) ∧ (v = .slice none 0 0 ↔ ss = []) ∧ Below (w.alloc (.cells #[.map (some b)] 92)).heap.size (w.alloc (.cells #[.map (some b)] 92)) w' := by
  have hbl := hown.lt
  have hseq : SeqGives Fence.wide 2 Tryz.prog 116 #[.pointer (some ⟨w.heap.size, 0, none⟩)] encStr (fun ss => ss.Perm (strKeys D0)) (Maps.size D0) (w.alloc (.cells #[.map (some b)] 92)) :=
    AnyZ.keys_gives (ρ := Tryz.keys76_ren) { Tryz.keys76 with } Fence.wide _ trivial rfl (by omega) w.heap.size b nn D0 _ (by simp) (by simp) (by
      obtain ⟨es, clock, hb, Ft, hs, hD⟩ := hown
      exact ⟨es, clock, (Below.heap_alloc _ _ b hbl).trans hb, Ft, hs, hD⟩)
  exact callsIn_wide.1 (AnyZ.sorted_in Tryz.sorted75 Fence.wide 5 trivial trivial trivial trivial rfl (by omega) (sorts_any _) (enters_of Tryz.func115 (by kernel_rfl) rfl) 116 #[.pointer (some ⟨w.heap.size, 0, none⟩)] trivial (enters_of Tryz.func116 (by kernel_rfl) rfl) _ _ hmax hbytes _ hseq)

theorem strKeys_mapOf (l : List FD) (β : List UInt8 → Nat) : strKeys (mapOf l β) = l.map (·.key) := by
  unfold mapOf strKeys
  simp [ent, strOf, Function.comp]
theorem sorted_keys {l : List FD} (h : Sorted l) {ss : List (List UInt8)} (hp : ss.Perm (l.map (·.key))) : ss.mergeSort (fun x y => decide (x ≤ y)) = l.map (·.key) := by
  refine (mergeSort_of_perm hp).trans (List.mergeSort_of_pairwise ?_)
  rw [List.pairwise_map]
  refine List.Pairwise.imp ?_ h
  intro a b hab
  simpa using List.le_of_lt hab
theorem encStr_key (f : FD) : encStr f.key = .string f.name := by
  show Value.string ⟨(lst f.name).toArray⟩ = _
  simp [lst]
/-- .. at a disk: a new slice of its files' names. -/
theorem filenames_any (b : Nat) (l : List FD) (hl : Sorted l) (hm : l.length ≤ 100) (β : List UInt8 → Nat) (w : World) (hown : w.ownsMap Tryz.prog 9 ptrElem b l.length (mapOf l β)) :
    Calls Tryz.prog 75 #[.func (.func 116) #[] #[.pointer (some ⟨w.heap.size, 0, none⟩)]] (w.alloc (.cells #[.map (some b)] 92)) fun e w' => ∃ v, e = .returned v ∧ OwnStrs w' w.heap.size v (l.map (·.name)) ∧ Ext w w' := by
  refine (sortedkeys_any b l.length (mapOf l β) w hown (by rw [size_mapOf]; unfold maxLen; omega) (by rw [size_mapOf]; omega)).mono ?_
  rintro e w' ⟨v, ss, rfl, hS, hrow, _, hb⟩
  rw [strKeys_mapOf] at hS
  rw [sorted_keys hl hS, List.map_map] at hrow
  have e1 : l.map (encStr ∘ (·.key)) = (l.map (·.name)).map Value.string := by
    rw [List.map_map]
    exact List.map_congr_left (fun f _ => encStr_key f)
  have e2 : ss.length = (l.map (·.name)).length := by rw [hS.length_eq]; simp
  rw [e1, e2] at hrow
  refine ⟨v, rfl, ?_, ((Ext.refl w).alloc _).trans hb⟩
  obtain ⟨h1, h2⟩ := hrow
  refine ⟨h1, ?_⟩
  rcases h2 with h2 | ⟨g, cap, cur, r1, r2, r3⟩
  · exact .inl h2
  · exact .inr ⟨g, cap, cur, r1, Nat.le_trans (by simp) r2, r3⟩
end Go.Proofs.YtmdkjcigmhgpeaaGreatDoor
