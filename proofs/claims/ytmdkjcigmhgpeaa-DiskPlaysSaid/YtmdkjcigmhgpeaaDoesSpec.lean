/- What law 06's does answers, and leaves: the disk's own words; its power. -/
import Derived.Test.YtmdkjcigmhgpeaaModel3
import Derived.Test.YtmdkjcigmhgpeaaStrsApp
namespace Go.Proofs.Ytmdkjcigmhgpeaa
open Go.RowKit Go.Maps Dsk

/-- A use of a disk. -/
def doN (k : Nat) (S : DS) (x : AD) : Nat × DS :=
  match k with
  | 0 => append S x.name x.data
  | 1 => sync S (x.name :: x.data)
  | 2 => rename S x.name x.dest
  | 3 => delete S x.name
  | _ => cut S x.name x.n
def namesK (k : Nat) (x : AD) : List ByteArray :=
  match k with
  | 1 => x.name :: x.data
  | 2 => [x.name, x.dest]
  | _ => [x.name]
theorem there_bad {S : DS} {ns : List ByteArray} (h : (Dsk.begin S ns).1 ≠ 0) : there S ns = Dsk.begin S ns := by
  unfold there; rw [if_neg h, ← begin_snd S ns]
theorem doN_bad (k : Nat) (S : DS) (x : AD) (h : (Dsk.begin S (namesK k x)).1 ≠ 0) : doN k S x = Dsk.begin S (namesK k x) := by
  match k with
  | 0 =>
    have h' : ¬ (Dsk.begin S [x.name]).1 = 0 := h
    show append S x.name x.data = Dsk.begin S [x.name]
    unfold Dsk.append
    rw [if_neg h', ← begin_snd S [x.name]]
  | 1 =>
    have h' : ¬ (Dsk.begin S (x.name :: x.data)).1 = 0 := h
    have ht : there S (x.name :: x.data) = Dsk.begin S (x.name :: x.data) := there_bad h'
    show sync S (x.name :: x.data) = Dsk.begin S (x.name :: x.data)
    unfold Dsk.sync
    rw [ht, if_neg h']
  | 2 =>
    have h' : ¬ (Dsk.begin S [x.name, x.dest]).1 = 0 := h
    show rename S x.name x.dest = Dsk.begin S [x.name, x.dest]
    unfold Dsk.rename
    rw [if_neg h']
  | 3 =>
    have h' : ¬ (Dsk.begin S [x.name]).1 = 0 := h
    have ht : there S [x.name] = Dsk.begin S [x.name] := there_bad h'
    show delete S x.name = Dsk.begin S [x.name]
    unfold Dsk.delete
    rw [ht, if_neg h']
  | k + 4 =>
    have h' : ¬ (Dsk.begin S [x.name]).1 = 0 := h
    have ht : there S [x.name] = Dsk.begin S [x.name] := there_bad h'
    show cut S x.name x.n = Dsk.begin S [x.name]
    unfold Dsk.cut
    rw [ht, if_neg h']
theorem begin_off {S : DS} (h : S.off = true) (ns : List ByteArray) : Dsk.begin S ns = (7, S) := by simp [Dsk.begin, use, h]
def dies (S : DS) : DS := { S with uses := S.uses + 1, off := true }
theorem begin_dies {S : DS} (h : S.off = false) (ha : S.armed = true) (hl : S.left = 0) (ns : List ByteArray) : Dsk.begin S ns = (7, dies S) := by simp [Dsk.begin, use, h, ha, hl, dies]
theorem begin_on {S : DS} (h : (use S).1 = true) (ns : List ByteArray) : Dsk.begin S ns = (if ns.any (fun n => !may n) then 1 else 0, (use S).2) := by
  unfold Dsk.begin
  rcases hu : use S with ⟨b, T⟩
  rw [hu] at h
  simp only at h
  subst h
  simp only
  split <;> rfl
theorem use_false {S : DS} (h : S.off = false) (ha : S.armed = false) : use S = (true, { S with uses := S.uses + 1 }) := by simp [use, h, ha]
theorem use_true {S : DS} (h : S.off = false) (ha : S.armed = true) (hl : S.left ≠ 0) : use S = (true, { S with uses := S.uses + 1, left := S.left - 1 }) := by simp [use, h, ha, hl]
theorem doN_may {k : Nat} {S : DS} {x : AD} (h : (use S).1 = true) {j : Nat} (hj : j < (namesK k x).length) (hm : may (namesK k x)[j] = false) : doN k S x = (1, (use S).2) := by
  have hb := begin_on h (namesK k x)
  have ha : (namesK k x).any (fun n => !may n) = true := List.any_eq_true.2 ⟨_, List.getElem_mem hj, by simp [hm]⟩
  rw [ha] at hb
  rw [doN_bad k S x (by rw [hb]; simp), hb]
  rfl
theorem begin_fine {S : DS} (h : (use S).1 = true) {ns : List ByteArray} (hm : ∀ j (hj : j < ns.length), may ns[j] = true) : Dsk.begin S ns = (0, (use S).2) := by
  rw [begin_on h]
  have : ns.any (fun n => !may n) = false := by
    rw [List.any_eq_false]
    intro n hn
    obtain ⟨j, hj, rfl⟩ := List.getElem_of_mem hn
    simp [hm j hj]
  rw [this]; rfl
theorem there_fine {S : DS} (h : (use S).1 = true) {ns : List ByteArray} (hm : ∀ j (hj : j < ns.length), may ns[j] = true) : there S ns = if ns.any (fun n => (get S.files n).isNone) then (8, (use S).2) else (0, (use S).2) := by
  unfold there
  rw [begin_fine h hm]
  rfl

/-! ### the power, in memory -/
abbrev MRow (w : World) (m : Nat) (sl : Value) (S : DS) : Prop := w.heap[m]? = some (.cells (mcells S sl) 44 (0, 0))
theorem mrow_false {w : World} {m : Nat} {sl : Value} {S : DS} (hr : MRow w m sl S) (h : S.off = false) (ha : S.armed = false) : MRow (w.setCell ⟨m, 5, none⟩ (.int .i64 ((S.uses : Int) + 1))) m sl (use S).2 := by
  rw [use_false h ha]
  have := Go.Joins.block_setCell (i := 5) hr (.int .i64 ((S.uses : Int) + 1))
  simpa [MRow, mcells] using this
theorem mrow_true {w : World} {m : Nat} {sl : Value} {S : DS} (hr : MRow w m sl S) (h : S.off = false) (ha : S.armed = true) (hl : S.left ≠ 0) : MRow ((w.setCell ⟨m, 5, none⟩ (.int .i64 ((S.uses : Int) + 1))).setCell ⟨m, 4, none⟩ (.int .i64 ((S.left : Int) - 1))) m sl (use S).2 := by
  rw [use_true h ha hl]
  have := Go.Joins.block_setCell (i := 4) (Go.Joins.block_setCell (i := 5) hr (.int .i64 ((S.uses : Int) + 1))) (.int .i64 ((S.left : Int) - 1))
  have e : ((S.left - 1 : Nat) : Int) = (S.left : Int) - 1 := by omega
  simpa [MRow, mcells, e] using this
theorem mrow_dies {w : World} {m : Nat} {sl : Value} {S : DS} (hr : MRow w m sl S) : MRow ((w.setCell ⟨m, 5, none⟩ (.int .i64 ((S.uses : Int) + 1))).setCell ⟨m, 2, none⟩ (.bool true)) m sl (dies S) := by
  have := Go.Joins.block_setCell (i := 2) (Go.Joins.block_setCell (i := 5) hr (.int .i64 ((S.uses : Int) + 1))) (.bool true)
  simpa [MRow, mcells, dies] using this
theorem MRow.c0 {w : World} {m : Nat} {sl : Value} {S : DS} (h : MRow w m sl S) : w.cell? ⟨m, 0, none⟩ = some (.int .i64 (S.room : Nat)) := Go.Joins.cell_of_block h 0
theorem MRow.c1 {w : World} {m : Nat} {sl : Value} {S : DS} (h : MRow w m sl S) : w.cell? ⟨m, 1, none⟩ = some sl := Go.Joins.cell_of_block h 1
theorem MRow.c2 {w : World} {m : Nat} {sl : Value} {S : DS} (h : MRow w m sl S) : w.cell? ⟨m, 2, none⟩ = some (.bool S.off) := Go.Joins.cell_of_block h 2
theorem MRow.c3 {w : World} {m : Nat} {sl : Value} {S : DS} (h : MRow w m sl S) : w.cell? ⟨m, 3, none⟩ = some (.bool S.armed) := Go.Joins.cell_of_block h 3
theorem MRow.c4 {w : World} {m : Nat} {sl : Value} {S : DS} (h : MRow w m sl S) : w.cell? ⟨m, 4, none⟩ = some (.int .i64 (S.left : Nat)) := Go.Joins.cell_of_block h 4
theorem MRow.c5 {w : World} {m : Nat} {sl : Value} {S : DS} (h : MRow w m sl S) : w.cell? ⟨m, 5, none⟩ = some (.int .i64 (S.uses : Nat)) := Go.Joins.cell_of_block h 5
/-- Nothing but the model's own cells has turned: its files lie as they did. -/
theorem ModelIn.turned {w w' : World} {m : Nat} {sl : Value} {S T : DS} (h : ModelIn w m sl S) (hr : MRow w' m sl T) (hf : T.files = S.files) (ho : Only (fun b => b = m) w w') : ModelIn w' m sl T := by
  refine ⟨hr, ?_⟩
  rw [hf]
  obtain ⟨h1, h2⟩ := h.own
  refine ⟨h1, ?_⟩
  rcases h2 with h2 | ⟨g, cap, cur, rfl, r2, r3, r4⟩
  · exact .inl h2
  · refine .inr ⟨g, cap, cur, rfl, r2, (ho.block g (lt_of_heap r3) (fun e => ?_)).trans r3, r4⟩
    have h5 := h.row
    rw [← e, r3] at h5
    simp [mcells] at h5

namespace Dsk
theorem put_set {l : List FD} (h : Sorted l) {i : Nat} (hi : i < l.length) {g : FD} (hg : g.key = l[i].key) : put g l = l.set i g := by
  rw [put_map h (List.getElem_mem hi) hg]
  refine List.ext_getElem (by simp) (fun j h1 h2 => ?_)
  have hj : j < l.length := by simpa using h1
  rw [List.getElem_map, List.getElem_set]
  by_cases e : i = j
  · subst e; rw [if_pos hg.symm, if_pos rfl]
  · have hne : l[j].key ≠ g.key := by
      rw [hg]
      intro e2
      have hp := List.pairwise_iff_getElem.1 h
      rcases Nat.lt_or_gt_of_ne e with k | k
      · have := hp i j hi hj k; rw [e2] at this; exact lt_irrefl _ this
      · have := hp j i hj hi k; rw [e2] at this; exact lt_irrefl _ this
    rw [if_neg hne, if_neg e]
end Dsk
/-- A file is laid in its place in the row. -/
theorem model_set {w : World} {m g o c : Nat} {T : DS} (h : ModelIn w m (.slice (some ⟨g, o, none⟩) T.files.length c) T) {i : Nat} (hi : i < T.files.length) (f : FD) :
    ModelIn (((w.setCell ⟨g, o + i * 3, none⟩ (.string f.name)).setCell ⟨g, o + i * 3 + 1, none⟩ (.string f.data)).setCell ⟨g, o + i * 3 + 2, none⟩ (.int .i64 (f.kept : Nat))) m (.slice (some ⟨g, o, none⟩) T.files.length c) (files T (T.files.set i f)) ∧
      Only (fun b => b = g) w (((w.setCell ⟨g, o + i * 3, none⟩ (.string f.name)).setCell ⟨g, o + i * 3 + 1, none⟩ (.string f.data)).setCell ⟨g, o + i * 3 + 2, none⟩ (.int .i64 (f.kept : Nat))) := by
  have ho := h.own
  have ho0 : o = 0 := by
    obtain ⟨_, h2 | ⟨g', cap, cur, e, _⟩⟩ := ho
    · have := h2.1; cases this
    · injection e with e; injection e with e; injection e
  subst ho0
  have hgm : g ≠ m := fun e => by
    subst e
    obtain ⟨_, h2 | ⟨g', cap, cur, e, _, hg, _⟩⟩ := ho
    · have := h2.1; cases this
    · injection e with e; injection e with e; injection e with e
      subst e
      have h5 := h.row
      rw [hg] at h5
      simp [mcells] at h5
  simp only [Nat.zero_add]
  have s1 := World.ownsRow.stored ho (i * 3) (.string f.name)
  have s2 := World.ownsRow.stored s1.1 (i * 3 + 1) (.string f.data)
  have s3 := World.ownsRow.stored s2.1 (i * 3 + 2) (.int .i64 (f.kept : Nat))
  have hon : Only (fun b => b = g) w (((w.setCell ⟨g, i * 3, none⟩ (.string f.name)).setCell ⟨g, i * 3 + 1, none⟩ (.string f.data)).setCell ⟨g, i * 3 + 2, none⟩ (.int .i64 (f.kept : Nat))) := (((Only.refl _ w).at _ _).at _ _).at _ _
  refine ⟨⟨(hon.block m (lt_of_heap h.row) (fun e => hgm e.symm)).trans h.row, ?_⟩, hon⟩
  have := s3.1
  rw [rows_set _ _ hi] at this
  show World.ownsRow _ _ _ _ _ (T.files.set i f).length (rows (T.files.set i f))
  rw [List.length_set]
  exact this
/-- How many of a file's bytes are kept, in its place in the row. -/
theorem model_keep {w : World} {m g o c : Nat} {T : DS} (h : ModelIn w m (.slice (some ⟨g, o, none⟩) T.files.length c) T) {i : Nat} (hi : i < T.files.length) (k : Nat) :
    ModelIn (w.setCell ⟨g, o + i * 3 + 2, none⟩ (.int .i64 (k : Nat))) m (.slice (some ⟨g, o, none⟩) T.files.length c) (files T (T.files.set i { T.files[i] with kept := k })) ∧
      Only (fun b => b = g) w (w.setCell ⟨g, o + i * 3 + 2, none⟩ (.int .i64 (k : Nat))) := by
  have ho := h.own
  have ho0 : o = 0 := by
    obtain ⟨_, h2 | ⟨g', cap, cur, e, _⟩⟩ := ho
    · have := h2.1; cases this
    · injection e with e; injection e with e; injection e
  subst ho0
  have hgm : g ≠ m := fun e => by
    subst e
    obtain ⟨_, h2 | ⟨g', cap, cur, e, _, hg, _⟩⟩ := ho
    · have := h2.1; cases this
    · injection e with e; injection e with e; injection e with e
      subst e
      have h5 := h.row
      rw [hg] at h5
      simp [mcells] at h5
  simp only [Nat.zero_add]
  have s3 := World.ownsRow.stored ho (i * 3 + 2) (.int .i64 (k : Nat))
  have hon : Only (fun b => b = g) w (w.setCell ⟨g, i * 3 + 2, none⟩ (.int .i64 (k : Nat))) := (Only.refl _ w).at _ _
  refine ⟨⟨(hon.block m (lt_of_heap h.row) (fun e => hgm e.symm)).trans h.row, ?_⟩, hon⟩
  have := s3.1
  rw [rows_keep _ _ hi] at this
  show World.ownsRow _ _ _ _ _ (T.files.set i _).length (rows (T.files.set i _))
  rw [List.length_set]
  exact this
theorem model_frozen {w : World} {m g o c : Nat} {T : DS} (h : ModelIn w m (.slice (some ⟨g, o, none⟩) T.files.length c) T) (i : Nat) : w.frozen? ⟨g, i, none⟩ = false := by
  obtain ⟨_, h2 | ⟨g', cap, cur, e, _, hg, _⟩⟩ := h.own
  · have := h2.1; cases this
  · injection e with e; injection e with e; injection e with e
    subst e
    exact frozen_row hg i
theorem append_fits {S : DS} {n : ByteArray} {xs : List ByteArray} (h : Dsk.begin S [n] = (0, (use S).2)) {f : FD} (hf : (get S.files n).getD ⟨n, ⟨#[]⟩, 0⟩ = f) :
    append S n xs = if fits (use S).2 n (f.data.size + (cats xs).size) f.data.size = 0 then (0, files (use S).2 (put ⟨n, f.data ++ cats xs, f.kept⟩ S.files)) else (fits (use S).2 n (f.data.size + (cats xs).size) f.data.size, (use S).2) := by
  unfold Dsk.append
  rw [h, hf]
  simp only [if_true]
  by_cases hb : 1048576 < f.data.size + (cats xs).size
  · have h5 : fits (use S).2 n (f.data.size + (cats xs).size) f.data.size = 5 := by unfold fits; simp [hb]
    rw [if_pos hb, h5]
    rfl
  · rw [if_neg hb]
end Go.Proofs.Ytmdkjcigmhgpeaa
