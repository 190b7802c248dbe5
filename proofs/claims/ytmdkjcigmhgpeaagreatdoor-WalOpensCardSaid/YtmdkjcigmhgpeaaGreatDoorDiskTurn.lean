/- How the disk in memory turns: a file in place, an entry laid, an entry struck. -/
import Derived.Test.YtmdkjcigmhgpeaaGreatDoorDiskRead
namespace Go.Proofs.YtmdkjcigmhgpeaaGreatDoor
open Go.RowKit Go.Maps Dsk

namespace Dsk
theorem sorted_map {l : List FD} (h : Sorted l) (φ : FD → FD) (hk : ∀ f ∈ l, (φ f).key = f.key) : Sorted (l.map φ) := by
  unfold Sorted
  rw [List.pairwise_map]
  refine List.Pairwise.imp_of_mem ?_ h
  intro a b ha hb hab
  rw [hk a ha, hk b hb]
  exact hab
theorem put_map {l : List FD} (h : Sorted l) {f g : FD} (hf : f ∈ l) (hg : g.key = f.key) : put g l = l.map (fun x => if x.key = g.key then g else x) := by
  refine Sorted.ext (sorted_put h g) (sorted_map h _ (fun x _ => ?_)) (fun x => ?_)
  · split
    · rename_i e; exact e.symm
    · rfl
  · rw [mem_put, List.mem_map]
    constructor
    · rintro (rfl | ⟨h1, h2⟩)
      · exact ⟨f, hf, by rw [if_pos hg.symm]⟩
      · exact ⟨x, h1, by rw [if_neg h2]⟩
    · rintro ⟨y, hy, rfl⟩
      split
      · exact .inl rfl
      · rename_i e; exact .inr ⟨hy, e⟩
theorem put_put {l : List FD} (h : Sorted l) (g : FD) : put g (put g l) = put g l := by
  refine Sorted.ext (sorted_put (sorted_put h g) g) (sorted_put h g) (fun x => ?_)
  rw [mem_put, mem_put]
  constructor
  · rintro (h1 | ⟨h1 | h1, h2⟩)
    · exact .inl h1
    · exact .inl h1
    · exact .inr h1
  · rintro (h1 | h1)
    · exact .inl h1
    · exact .inr ⟨.inr h1, h1.2⟩
theorem good_files {S : DS} (h : Dsk.Good S) {l : List FD} (h1 : Sorted l) (h2 : ∀ f ∈ l, Fine f) (h3 : l.length ≤ 100) : Dsk.Good (files S l) := ⟨h1, h2, h3, h.left, h.room⟩
theorem good_put {S : DS} (h : Dsk.Good S) {f : FD} (hf : Fine f) (hc : (get S.files f.name).isSome = true ∨ S.files.length < 100) : Dsk.Good (files S (put f S.files)) := by
  refine good_files h (sorted_put h.sorted f) (fun g hg => ?_) ?_
  · rcases mem_put.1 hg with rfl | ⟨h1, _⟩
    · exact hf
    · exact h.fine g h1
  · rw [put_length h.sorted]
    have := h.many
    rcases hc with hc | hc
    · rw [if_pos hc]; exact this
    · split <;> omega
theorem good_drop {S : DS} (h : Dsk.Good S) (n : ByteArray) : Dsk.Good (files S (drop n S.files)) := good_files h (sorted_drop h.sorted n) (fun g hg => h.fine g (mem_drop.1 hg).1) (Nat.le_trans (List.length_filter_le _ _) h.many)
theorem files_files (S : DS) (l k : List FD) : files (files S l) k = files S k := rfl
theorem files_self (S : DS) : files S S.files = S := rfl
end Dsk

/-- A file's cells are turned in place. -/
theorem DiskIn.each {w w' : World} {d mb : Nat} {β : List UInt8 → Nat} {S : DS} (h : DiskIn w d mb β S) (φ : FD → FD) {f : FD} (hf : f ∈ S.files) (hk : ∀ x ∈ S.files, (φ x).key = x.key) (ho : ∀ x ∈ S.files, x.key ≠ f.key → φ x = x)
    (hfine : Fine (φ f)) (hr : w'.heap[β f.key]? = some (.cells (fcells (φ f)) 120 (0, 0))) (hw : Only (fun b => b = β f.key) w w') : DiskIn w' d mb β (files S (S.files.map φ)) := by
  have hsame : ∀ x ∈ S.files, x.key = f.key → x = f := fun x hx e => h.good.sorted.eq hx hf e
  obtain ⟨es, clock, hb, rest⟩ := h.map
  refine ⟨good_files h.good (sorted_map h.good.sorted φ hk) (fun g hg => ?_) (by simpa using h.good.many), ?_, ?_, fun g hg => ?_, fun g hg k hk' e => ?_⟩
  · obtain ⟨x, hx, rfl⟩ := List.mem_map.1 hg
    by_cases e : x.key = f.key
    · rw [hsame x hx e]; exact hfine
    · rw [ho x hx e]; exact h.good.fine x hx
  · exact (hw.block d (lt_of_heap h.row) (fun e => h.d_file hf e.symm)).trans h.row
  · have e : mapOf (S.files.map φ) β = mapOf S.files β := mapOf_congr (by
      rw [List.map_map]
      exact List.map_congr_left (fun x hx => by unfold ent; simp [Function.comp, hk x hx]))
    show w'.ownsMap _ _ _ _ (S.files.map φ).length (mapOf (S.files.map φ) β)
    rw [e, List.length_map]
    exact ⟨es, clock, (hw.block mb h.map.lt (fun e => h.mb_file hf e.symm)).trans hb, rest⟩
  · obtain ⟨x, hx, rfl⟩ := List.mem_map.1 hg
    rw [hk x hx]
    by_cases e : x.key = f.key
    · rw [hsame x hx e]; exact hr
    · rw [ho x hx e]; exact (hw.block _ (lt_of_heap (h.file x hx)) (fun e' => e (h.one x hx f hf e'))).trans (h.file x hx)
  · obtain ⟨x, hx, rfl⟩ := List.mem_map.1 hg
    obtain ⟨y, hy, rfl⟩ := List.mem_map.1 hk'
    rw [hk x hx, hk y hy] at *
    exact h.one x hx y hy e
theorem foot_map {d mb : Nat} {β : List UInt8 → Nat} {l : List FD} {φ : FD → FD} (hk : ∀ x ∈ l, (φ x).key = x.key) {b : Nat} (hb : foot d mb β (l.map φ) b) : foot d mb β l b := by
  rcases hb with h | h | ⟨f, hf, rfl⟩
  · exact .inl h
  · exact .inr (.inl h)
  · obtain ⟨x, hx, rfl⟩ := List.mem_map.1 hf
    exact .inr (.inr ⟨x, hx, by rw [hk x hx]⟩)
/-- .. as a file that is put there instead. -/
theorem DiskIn.inPlace {w w' : World} {d mb : Nat} {β : List UInt8 → Nat} {S : DS} (h : DiskIn w d mb β S) {f g : FD} (hf : f ∈ S.files) (hg : g.key = f.key)
    (hfine : Fine g) (hr : w'.heap[β f.key]? = some (.cells (fcells g) 120 (0, 0))) (hw : Only (fun b => b = β f.key) w w') : DiskIn w' d mb β (files S (put g S.files)) ∧ ∀ b, foot d mb β (put g S.files) b → foot d mb β S.files b := by
  rw [put_map h.good.sorted hf hg]
  have hk : ∀ x ∈ S.files, (if x.key = g.key then g else x).key = x.key := fun x _ => by
    split
    · rename_i e; exact e.symm
    · rfl
  exact ⟨h.each _ hf hk (fun x _ e => if_neg (by rw [hg]; exact e)) (by rw [if_pos hg.symm]; exact hfine) (by rw [if_pos hg.symm]; exact hr) hw, fun b hb => foot_map hk hb⟩
/-- An entry is struck. -/
theorem DiskIn.struck {w w' : World} {d mb : Nat} {β : List UInt8 → Nat} {S : DS} (h : DiskIn w d mb β S) (n : ByteArray) (hm : w'.ownsMap Tryz.prog 9 ptrElem mb S.files.length ((mapOf S.files β).del (.string (lst n)))) (ht : w.mapTurned w' mb) :
    DiskIn w' d mb β (files S (drop n S.files)) ∧ (∀ b, foot d mb β (drop n S.files) b → foot d mb β S.files b) ∧ Only (fun b => b = mb) w w' := by
  have hg := ht.grown
  have hw : Only (fun b => b = mb) w w' := ⟨hg.os, hg.tape, hg.output, hg.size, fun k hk hne => hg.block k hk (fun e => hne (by simpa using e))⟩
  rw [mapOf_del] at hm
  refine ⟨⟨good_drop h.good n, (hw.block d (lt_of_heap h.row) h.d_mb).trans h.row, owns_size hm, fun f hf => ?_, fun f hf g hg' e => h.one f (mem_drop.1 hf).1 g (mem_drop.1 hg').1 e⟩, ?_, hw⟩
  · have hf' := (mem_drop.1 hf).1
    exact (hw.block _ (lt_of_heap (h.file f hf')) (h.mb_file hf')).trans (h.file f hf')
  · rintro b (h1 | h1 | ⟨f, hf, h1⟩)
    · exact .inl h1
    · exact .inr (.inl h1)
    · exact .inr (.inr ⟨f, (mem_drop.1 hf).1, h1⟩)
/-- An entry is laid: a file that lies in block b. -/
theorem DiskIn.laid {w w' : World} {d mb n : Nat} {β : List UInt8 → Nat} {S : DS} (h : DiskIn w d mb β S) (f : FD) (b : Nat) (hfine : Fine f) (hc : (get S.files f.name).isSome = true ∨ S.files.length < 100)
    (hb : w.heap[b]? = some (.cells (fcells f) 120 (0, 0))) (hne : ∀ g ∈ S.files, g.key ≠ f.key → β g.key ≠ b)
    (hm : w'.ownsMap Tryz.prog 9 ptrElem mb n ((mapOf S.files β).put (.string f.key) (blk b))) (hg : w.grownBy w' (some mb)) :
    DiskIn w' d mb (upd β f.key b) (files S (put f S.files)) ∧ (∀ x, foot d mb (upd β f.key b) (put f S.files) x → foot d mb β S.files x ∨ x = b) ∧ Only (fun b => b = mb) w w' := by
  have hw : Only (fun b => b = mb) w w' := ⟨hg.os, hg.tape, hg.output, hg.size, fun k hk hne => hg.block k hk (fun e => hne (by simpa using e))⟩
  have hbm : b ≠ mb := by
    obtain ⟨es, clock, hb', _⟩ := h.map
    intro e
    rw [e, hb'] at hb
    cases hb
  rw [mapOf_put] at hm
  refine ⟨⟨good_put h.good hfine hc, (hw.block d (lt_of_heap h.row) h.d_mb).trans h.row, owns_size hm, fun g hg' => ?_, fun g hg' k hk e => ?_⟩, ?_, hw⟩
  · rcases mem_put.1 hg' with rfl | ⟨h1, h2⟩
    · rw [upd_same]; exact (hw.block _ (lt_of_heap hb) hbm).trans hb
    · rw [upd_other β b h2]; exact (hw.block _ (lt_of_heap (h.file g h1)) (h.mb_file h1)).trans (h.file g h1)
  · rcases mem_put.1 hg' with rfl | ⟨h1, h2⟩
    · rcases mem_put.1 hk with rfl | ⟨k1, k2⟩
      · rfl
      · rw [upd_same, upd_other β b k2] at e
        exact absurd e.symm (hne k k1 k2)
    · rcases mem_put.1 hk with rfl | ⟨k1, k2⟩
      · rw [upd_same, upd_other β b h2] at e
        exact absurd e (hne g h1 h2)
      · rw [upd_other β b h2, upd_other β b k2] at e
        exact h.one g h1 k k1 e
  · rintro x (h1 | h1 | ⟨g, hg', h1⟩)
    · exact .inl (.inl h1)
    · exact .inl (.inr (.inl h1))
    · rcases mem_put.1 hg' with rfl | ⟨h2, h3⟩
      · rw [upd_same] at h1; exact .inr h1
      · rw [upd_other β b h3] at h1; exact .inl (.inr (.inr ⟨g, h2, h1⟩))
end Go.Proofs.YtmdkjcigmhgpeaaGreatDoor
