/- The disk as plain data: files by their names, a power; what each use answers and leaves. No program in sight. -/
import Derived.Test.YtmdkjcigmhgpeaaGreatDoorBase
import Derived.Maps.Ext
import Derived.Sort.KeysCollected
import Derived.Sort.Walk0
namespace Go.Proofs.YtmdkjcigmhgpeaaGreatDoor
namespace Dsk

structure FD where
  name : ByteArray
  data : ByteArray
  kept : Nat
structure DS where
  off : Bool
  armed : Bool
  left : Nat
  uses : Nat
  room : Nat
  files : List FD

/-- The bytes of a file's name. -/
def FD.key (f : FD) : List UInt8 := lst f.name
def Sorted (l : List FD) : Prop := l.Pairwise (fun f g => f.key < g.key)
def get (l : List FD) (n : ByteArray) : Option FD := l.find? (fun f => f.key == lst n)
def ins (f : FD) : List FD → List FD
  | [] => [f]
  | g :: r => if f.key < g.key then f :: g :: r else g :: ins f r
def drop (n : ByteArray) (l : List FD) : List FD := l.filter (fun g => !(g.key == lst n))
def put (f : FD) (l : List FD) : List FD := ins f (drop f.name l)
def used (l : List FD) : Nat := (l.map (fun f => f.data.size)).sum
def may (n : ByteArray) : Bool := decide (0 < n.size) && decide (n.size ≤ 20)

/-! ### order -/
theorem lt_irrefl (a : List UInt8) : ¬ a < a := List.lt_irrefl a
theorem lt_trans {a b c : List UInt8} (h : a < b) (k : b < c) : a < c := List.lt_trans h k
theorem lt_or_gt {a b : List UInt8} (h : a ≠ b) : a < b ∨ b < a := by
  rcases List.le_total a b with h1 | h1
  · by_cases h2 : b ≤ a
    · exact absurd (List.le_antisymm h1 h2) h
    · exact .inl (List.not_le.1 h2)
  · by_cases h2 : a ≤ b
    · exact absurd (List.le_antisymm h2 h1) h
    · exact .inr (List.not_le.1 h2)

theorem before_lt : ∀ (a b : List UInt8), bytesBefore a b = decide (a < b)
  | [], [] => by simp [bytesBefore]
  | _ :: _, [] => by simp [bytesBefore]
  | [], _ :: _ => by simp [bytesBefore]
  | a :: r, b :: s => by
    rw [bytesBefore, before_lt r s]
    by_cases h : a = b
    · subst h; simp
    · simp [List.cons_lt_cons_iff, h]

/-! ### a sorted list of files -/
theorem Sorted.apart {l : List FD} (h : Sorted l) : l.Pairwise (fun f g => f.key ≠ g.key) := by
  refine List.Pairwise.imp ?_ h
  intro a b hab e
  rw [e] at hab
  exact lt_irrefl _ hab
theorem Sorted.filter {l : List FD} (h : Sorted l) (p : FD → Bool) : Sorted (l.filter p) := List.Pairwise.filter p h
theorem Sorted.eq {l : List FD} (h : Sorted l) {f g : FD} (hf : f ∈ l) (hg : g ∈ l) (e : f.key = g.key) : f = g := by
  induction l with
  | nil => cases hf
  | cons a r ih =>
    obtain ⟨h1, h2⟩ := List.pairwise_cons.1 h
    rcases List.mem_cons.1 hf with rfl | hf'
    · rcases List.mem_cons.1 hg with rfl | hg'
      · rfl
      · exact absurd (e ▸ h1 g hg') (lt_irrefl _)
    · rcases List.mem_cons.1 hg with rfl | hg'
      · exact absurd (e ▸ h1 f hf') (lt_irrefl _)
      · exact ih h2 hf' hg'
theorem mem_ins {f g : FD} {l : List FD} : g ∈ ins f l ↔ g = f ∨ g ∈ l := by
  induction l with
  | nil => simp [ins]
  | cons a r ih =>
    unfold ins
    split
    · simp
    · simp only [List.mem_cons, ih]
      constructor
      · rintro (h | h | h) <;> simp [h]
      · rintro (h | h | h) <;> simp [h]
theorem sorted_ins {f : FD} {l : List FD} (h : Sorted l) (hf : ∀ g ∈ l, g.key ≠ f.key) : Sorted (ins f l) := by
  induction l with
  | nil => simp [ins, Sorted]
  | cons a r ih =>
    obtain ⟨h1, h2⟩ := List.pairwise_cons.1 h
    unfold ins
    split
    · rename_i hlt
      refine List.pairwise_cons.2 ⟨fun g hg => ?_, h⟩
      rcases List.mem_cons.1 hg with rfl | hg
      · exact hlt
      · exact lt_trans hlt (h1 g hg)
    · rename_i hlt
      refine List.pairwise_cons.2 ⟨fun g hg => ?_, ih h2 (fun g hg => hf g (by simp [hg]))⟩
      rcases mem_ins.1 hg with rfl | hg
      · rcases lt_or_gt (hf a (by simp)) with h' | h'
        · exact h'
        · exact absurd h' hlt
      · exact h1 g hg
theorem mem_drop {n : ByteArray} {g : FD} {l : List FD} : g ∈ drop n l ↔ g ∈ l ∧ g.key ≠ lst n := by simp [drop]
theorem mem_put {f g : FD} {l : List FD} : g ∈ put f l ↔ g = f ∨ (g ∈ l ∧ g.key ≠ f.key) := by
  unfold put; rw [mem_ins, mem_drop]; rfl
theorem sorted_drop {l : List FD} (h : Sorted l) (n : ByteArray) : Sorted (drop n l) := h.filter _
theorem sorted_put {l : List FD} (h : Sorted l) (f : FD) : Sorted (put f l) := sorted_ins (sorted_drop h _) (fun _ hg => (mem_drop.1 hg).2)
/-- Two sorted lists with the same members are one. -/
theorem Sorted.ext : ∀ {l k : List FD}, Sorted l → Sorted k → (∀ f, f ∈ l ↔ f ∈ k) → l = k
  | [], [], _, _, _ => rfl
  | [], b :: s, _, _, h => by have := (h b).2 (by simp); simp at this
  | a :: r, [], _, _, h => by have := (h a).1 (by simp); simp at this
  | a :: r, b :: s, h1, h2, h => by
    obtain ⟨a1, a2⟩ := List.pairwise_cons.1 h1
    obtain ⟨b1, b2⟩ := List.pairwise_cons.1 h2
    have hab : a = b := by
      rcases List.mem_cons.1 ((h a).1 (by simp)) with e | ha
      · exact e
      · rcases List.mem_cons.1 ((h b).2 (by simp)) with e | hb
        · exact e.symm
        · exact absurd (lt_trans (a1 b hb) (b1 a ha)) (lt_irrefl _)
    subst hab
    rw [Sorted.ext a2 b2 (fun f => ⟨fun hf => by
      rcases List.mem_cons.1 ((h f).1 (by simp [hf])) with e | hf'
      · exact absurd (e ▸ a1 f hf) (lt_irrefl _)
      · exact hf', fun hf => by
      rcases List.mem_cons.1 ((h f).2 (by simp [hf])) with e | hf'
      · exact absurd (e ▸ b1 f hf) (lt_irrefl _)
      · exact hf'⟩)]

theorem get_mem {l : List FD} {n : ByteArray} {f : FD} (h : get l n = some f) : f ∈ l ∧ f.key = lst n := ⟨List.mem_of_find?_eq_some h, by simpa using List.find?_some h⟩
theorem get_name {l : List FD} {n : ByteArray} {f : FD} (h : get l n = some f) : f.name = n := lst_inj (get_mem h).2
theorem get_none {l : List FD} {n : ByteArray} (h : get l n = none) : ∀ f ∈ l, f.key ≠ lst n := fun f hf => by simpa using List.find?_eq_none.1 h f hf
theorem get_none_iff {l : List FD} {n : ByteArray} : get l n = none ↔ ∀ f ∈ l, f.key ≠ lst n := by
  simp [get, List.find?_eq_none]
theorem Sorted.get {l : List FD} (h : Sorted l) {f : FD} (hf : f ∈ l) {n : ByteArray} (hn : f.key = lst n) : Dsk.get l n = some f := by
  cases hg : Dsk.get l n with
  | none => exact absurd hn (get_none hg f hf)
  | some g => rw [h.eq (get_mem hg).1 hf ((get_mem hg).2.trans hn.symm)]
theorem Sorted.get_iff {l : List FD} (h : Sorted l) {f : FD} {n : ByteArray} : Dsk.get l n = some f ↔ f ∈ l ∧ f.key = lst n := ⟨get_mem, fun hh => h.get hh.1 hh.2⟩
theorem get_put {l : List FD} (h : Sorted l) (f : FD) (n : ByteArray) : get (put f l) n = if f.key = lst n then some f else get l n := by
  split
  · rename_i e; exact (sorted_put h f).get (mem_put.2 (.inl rfl)) e
  · rename_i e
    cases hg : get l n with
    | none => rw [get_none_iff]; intro g hgm; rcases mem_put.1 hgm with rfl | ⟨hg', _⟩; exact e; exact get_none hg g hg'
    | some g => exact (sorted_put h f).get (mem_put.2 (.inr ⟨(get_mem hg).1, fun e' => e (e'.symm.trans (get_mem hg).2)⟩)) (get_mem hg).2
theorem get_drop {l : List FD} (h : Sorted l) (m n : ByteArray) : get (drop m l) n = if lst m = lst n then none else get l n := by
  split
  · rename_i e; rw [get_none_iff]; intro g hg; rw [← e]; exact (mem_drop.1 hg).2
  · rename_i e
    cases hg : get l n with
    | none => rw [get_none_iff]; intro g hgm; exact get_none hg g (mem_drop.1 hgm).1
    | some g => exact (sorted_drop h m).get (mem_drop.2 ⟨(get_mem hg).1, fun e' => e (e'.symm.trans (get_mem hg).2)⟩) (get_mem hg).2

theorem ins_length (f : FD) (l : List FD) : (ins f l).length = l.length + 1 := by
  induction l with
  | nil => rfl
  | cons a r ih => unfold ins; split <;> simp [ih]
theorem ins_used (f : FD) (l : List FD) : used (ins f l) = f.data.size + used l := by
  induction l with
  | nil => simp [ins, used]
  | cons a r ih =>
    unfold ins; split
    · simp [used]
    · simp only [used, List.map_cons, List.sum_cons] at ih ⊢; omega
theorem drop_none {l : List FD} {n : ByteArray} (h : get l n = none) : drop n l = l := List.filter_eq_self.2 (fun g hg => by simpa using get_none h g hg)
theorem drop_count {l : List FD} (h : Sorted l) {n : ByteArray} {f : FD} (hg : get l n = some f) : (drop n l).length + 1 = l.length ∧ used (drop n l) + f.data.size = used l := by
  induction l with
  | nil => simp [Dsk.get] at hg
  | cons a r ih =>
    obtain ⟨h1, h2⟩ := List.pairwise_cons.1 h
    by_cases e : a.key = lst n
    · have ha : get (a :: r) n = some a := h.get (by simp) e
      obtain rfl : a = f := by rw [ha] at hg; exact Option.some.inj hg
      have hr : drop n r = r := List.filter_eq_self.2 (fun g hg => by
        have := h1 g hg
        rw [e] at this
        simp; intro e'; rw [e'] at this; exact lt_irrefl _ this)
      have : drop n (a :: r) = r := by rw [← hr]; simp [drop, e]
      rw [this]; simp [used]; omega
    · have hr : get r n = some f := by rw [← hg]; simp [Dsk.get, e]
      obtain ⟨i1, i2⟩ := ih h2 hr
      have : drop n (a :: r) = a :: drop n r := by simp [drop, e]
      rw [this]; simp only [used, List.map_cons, List.sum_cons, List.length_cons] at i1 i2 ⊢; omega
theorem put_length {l : List FD} (h : Sorted l) (f : FD) : (put f l).length = if (get l f.name).isSome then l.length else l.length + 1 := by
  unfold put; rw [ins_length]
  cases hg : get l f.name with
  | none => rw [drop_none hg]; simp
  | some g => have := (drop_count h hg).1; simp; omega
theorem put_used {l : List FD} (h : Sorted l) (f : FD) : used (put f l) + ((get l f.name).map (fun g => g.data.size)).getD 0 = f.data.size + used l := by
  unfold put; rw [ins_used]
  cases hg : get l f.name with
  | none => rw [drop_none hg]; simp
  | some g => have := (drop_count h hg).2; simp; omega

/-! ### what may be -/
structure Fine (f : FD) : Prop where
  name : may f.name = true
  data : f.data.size ≤ 1048576
  kept : f.kept ≤ f.data.size
structure Good (S : DS) : Prop where
  sorted : Sorted S.files
  fine : ∀ f ∈ S.files, Fine f
  many : S.files.length ≤ 100
  left : S.left ≤ 9223372036854775807
  room : S.room ≤ 16777216
theorem used_le {l : List FD} (h : ∀ f ∈ l, Fine f) : used l ≤ 1048576 * l.length := by
  induction l with
  | nil => simp [used]
  | cons a r ih =>
    have := ih (fun f hf => h f (by simp [hf]))
    have := (h a (by simp)).data
    simp only [used, List.map_cons, List.sum_cons, List.length_cons] at *; omega
theorem Good.used {S : DS} (h : Good S) : used S.files ≤ 104857600 := by have := used_le h.fine; have := h.many; omega
theorem may_size {n : ByteArray} (h : may n = true) : 0 < n.size ∧ n.size ≤ 20 := by simpa [may] using h

/-! ### uses -/
def use (S : DS) : Bool × DS :=
  if S.off then (false, S)
  else if S.armed && (S.left == 0) then (false, { S with uses := S.uses + 1, off := true })
  else if S.armed then (true, { S with uses := S.uses + 1, left := S.left - 1 })
  else (true, { S with uses := S.uses + 1 })
theorem use_files (S : DS) : (use S).2.files = S.files ∧ (use S).2.room = S.room := by unfold use; split; exact ⟨rfl, rfl⟩; split; exact ⟨rfl, rfl⟩; split <;> exact ⟨rfl, rfl⟩
theorem Good.use {S : DS} (h : Good S) : Good (Dsk.use S).2 := by
  obtain ⟨h1, h2, h3, h4, h5⟩ := h
  unfold Dsk.use; split
  · exact ⟨h1, h2, h3, h4, h5⟩
  split
  · exact ⟨h1, h2, h3, h4, h5⟩
  split
  · exact ⟨h1, h2, h3, by show S.left - 1 ≤ _; omega, h5⟩
  · exact ⟨h1, h2, h3, h4, h5⟩
def begin (S : DS) (names : List ByteArray) : Nat × DS :=
  match use S with
  | (false, T) => (7, T)
  | (true, T) => if names.any (fun n => !may n) then (1, T) else (0, T)
theorem begin_snd (S : DS) (names : List ByteArray) : (begin S names).2 = (use S).2 := by
  unfold begin; rcases use S with ⟨b, T⟩; cases b
  · rfl
  · simp only; split <;> rfl
def there (S : DS) (names : List ByteArray) : Nat × DS :=
  if (begin S names).1 = 0 then (if names.any (fun n => (get S.files n).isNone) then (8, (use S).2) else (0, (use S).2)) else ((begin S names).1, (use S).2)
theorem there_snd (S : DS) (names : List ByteArray) : (there S names).2 = (use S).2 := by unfold there; split; split <;> rfl; rfl
def fits (S : DS) (n : ByteArray) (size has : Nat) : Nat :=
  if decide (1048576 < size) || ((get S.files n).isNone && decide (100 ≤ S.files.length)) then 5
  else if (size : Int) - has > (S.room : Int) - used S.files then 6 else 0
def cats (xs : List ByteArray) : ByteArray := ⟨((xs.map lst).flatten).toArray⟩
def files (S : DS) (l : List FD) : DS := { S with files := l }
def append (S : DS) (n : ByteArray) (xs : List ByteArray) : Nat × DS :=
  if (begin S [n]).1 = 0 then
    let f := (get S.files n).getD ⟨n, ⟨#[]⟩, 0⟩
    let T := (use S).2
    if 1048576 < f.data.size + (cats xs).size then (5, T)
    else if fits T n (f.data.size + (cats xs).size) f.data.size = 0 then (0, files T (put ⟨n, f.data ++ cats xs, f.kept⟩ S.files)) else (fits T n (f.data.size + (cats xs).size) f.data.size, T)
  else ((begin S [n]).1, (use S).2)
def keepOne (names : List ByteArray) (f : FD) : FD := if names.any (fun n => f.key == lst n) then { f with kept := f.data.size } else f
def sync (S : DS) (names : List ByteArray) : Nat × DS :=
  if (there S names).1 = 0 then (0, files (use S).2 (S.files.map (keepOne names))) else there S names
def rename (S : DS) (a b : ByteArray) : Nat × DS :=
  if (begin S [a, b]).1 = 0 then
    match get S.files a with
    | none => (8, (use S).2)
    | some f => (0, files (use S).2 (put { f with name := b } (drop a S.files)))
  else begin S [a, b]
def delete (S : DS) (n : ByteArray) : Nat × DS :=
  if (there S [n]).1 = 0 then (0, files (use S).2 (drop n S.files)) else there S [n]
def cutF (k : Nat) (f : FD) : FD := ⟨f.name, ⟨((lst f.data).take k).toArray⟩, min f.kept k⟩
def cut (S : DS) (n : ByteArray) (k : Int) : Nat × DS :=
  if (there S [n]).1 = 0 then
    match get S.files n with
    | none => (8, (use S).2)
    | some f => if k < 0 ∨ (f.data.size : Int) < k then (1, (use S).2) else (0, files (use S).2 (put (cutF k.toNat f) S.files))
  else there S [n]
def read (S : DS) (n : ByteArray) : ByteArray × Nat :=
  if S.off then (⟨#[]⟩, 7) else match get S.files n with
    | none => (⟨#[]⟩, 8)
    | some f => (f.data, 0)
def names (S : DS) : List ByteArray := S.files.map (·.name)
def starts (p s : ByteArray) : Bool := (lst p).isPrefixOf (lst s)
def namesOf (S : DS) (fronts : List ByteArray) : List ByteArray := (names S).filter (fun n => fronts.isEmpty || fronts.any (fun p => starts p n))
def keptOf (S : DS) (n : ByteArray) : Nat := ((get S.files n).map (·.kept)).getD 0
def free (S : DS) : Int := (S.room : Int) - used S.files
def crashF (more : Int) (f : FD) : FD :=
  let n := f.kept + min more.toNat (f.data.size - f.kept)
  ⟨f.name, ⟨((lst f.data).take n).toArray⟩, n⟩
def crash (S : DS) (keep : List Int) : DS := { S with off := false, armed := false, files := S.files.mapIdx (fun i f => crashF (keep.getD i 0) f) }
def arm (S : DS) (k : Int) : DS := { S with armed := true, left := k.toNat }
def lay (S : DS) (n data : ByteArray) : Nat × DS :=
  if may n then
    (if fits S n data.size (((get S.files n).map (fun f => f.data.size)).getD 0) = 0 then (0, files S (put ⟨n, data, data.size⟩ S.files)) else (fits S n data.size (((get S.files n).map (fun f => f.data.size)).getD 0), S))
  else (1, S)
def new (room : Nat) : DS := ⟨false, false, 0, 0, room, []⟩

theorem cats_nil : cats [] = ⟨#[]⟩ := rfl
theorem lst_cats (xs : List ByteArray) : lst (cats xs) = (xs.map lst).flatten := by simp [cats, lst]
theorem cats_size (xs : List ByteArray) : (cats xs).size = (xs.map ByteArray.size).sum := by
  rw [← lst_length, lst_cats, List.length_flatten, List.map_map]; rfl
end Dsk
end Go.Proofs.YtmdkjcigmhgpeaaGreatDoor
