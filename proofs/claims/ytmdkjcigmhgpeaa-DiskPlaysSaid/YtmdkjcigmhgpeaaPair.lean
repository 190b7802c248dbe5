/- A disk and a model of it, each in blocks of its own. -/
import Derived.Test.YtmdkjcigmhgpeaaDo
import Derived.Test.YtmdkjcigmhgpeaaSamePair
import Derived.Test.YtmdkjcigmhgpeaaMCrash
import Derived.Test.YtmdkjcigmhgpeaaDoes0
import Derived.Test.YtmdkjcigmhgpeaaDoes1
import Derived.Test.YtmdkjcigmhgpeaaDoes2
import Derived.Test.YtmdkjcigmhgpeaaDoes3
import Derived.Test.YtmdkjcigmhgpeaaDoes4
import Derived.Test.YtmdkjcigmhgpeaaGreat
namespace Go.Proofs.Ytmdkjcigmhgpeaa
open Go.RowKit Go.Maps Dsk

structure Pair (B : Nat) (w : World) (d m : Nat) (S T : DS) (F G : Nat → Prop) : Prop where
  disk : DiskAt w d S F
  model : ModelAt w m T G
  apart : ∀ b, F b → ¬ G b
  inF : ∀ b, F b → B ≤ b ∧ b < w.heap.size
  inG : ∀ b, G b → B ≤ b ∧ b < w.heap.size
theorem Pair.ext {B : Nat} {w w' : World} {d m : Nat} {S T : DS} {F G : Nat → Prop} (h : Pair B w d m S T F G) (k : Ext w w') : Pair B w' d m S T F G :=
  ⟨h.disk.ext k, h.model.ext k, h.apart, fun b hb => ⟨(h.inF b hb).1, Nat.lt_of_lt_of_le (h.inF b hb).2 k.size⟩, fun b hb => ⟨(h.inG b hb).1, Nat.lt_of_lt_of_le (h.inG b hb).2 k.size⟩⟩
theorem Pair.left {B : Nat} {w w' : World} {d m : Nat} {S S' T : DS} {F G : Nat → Prop} (h : Pair B w d m S T F G) (hB : B ≤ w.heap.size) (hl : Left F d w S' w') : ∃ F', Pair B w' d m S' T F' G ∧ Below B w w' :=
  ⟨fun b => More F w b ∧ b < w'.heap.size, ⟨hl.1.mono (fun _ hb k => ⟨k, hb⟩), h.model.only hl.2 (fun b hb hf => h.apart b hf hb), fun b hb hg => by
      rcases hb.1 with k | k
      · exact h.apart b k hg
      · have := (h.inG b hg).2; omega, fun b hb => ⟨by
      rcases hb.1 with k | k
      · exact (h.inF b k).1
      · omega, hb.2⟩, fun b hb => ⟨(h.inG b hb).1, Nat.lt_of_lt_of_le (h.inG b hb).2 hl.2.size⟩⟩, hl.2.below hB (fun b hb => (h.inF b hb).1)⟩
theorem Pair.turn {B : Nat} {w w' : World} {d m : Nat} {S T T' : DS} {F G : Nat → Prop} (h : Pair B w d m S T F G) (hB : B ≤ w.heap.size) (hm : ModelAt w' m T' (More G w)) (ho : Only G w w') : ∃ G', Pair B w' d m S T' F G' ∧ Below B w w' :=
  ⟨fun b => More G w b ∧ b < w'.heap.size, ⟨h.disk.only ho h.apart, hm.mono (fun _ hb k => ⟨k, hb⟩), fun b hb hg => by
      rcases hg.1 with k | k
      · exact h.apart b hb k
      · have := (h.inF b hb).2; omega, fun b hb => ⟨(h.inF b hb).1, Nat.lt_of_lt_of_le (h.inF b hb).2 ho.size⟩, fun b hb => ⟨by
      rcases hb.1 with k | k
      · exact (h.inG b k).1
      · omega, hb.2⟩⟩, ho.below hB (fun b hb => (h.inG b hb).1)⟩
theorem strs_low {w : World} {a : Option Addr} {xs : List ByteArray} (h : StrsAt w a xs) (hne : xs ≠ []) : ∀ bk o, a = some ⟨bk, o, none⟩ → bk < w.heap.size := by
  intro bk o e
  cases xs with
  | nil => exact absurd rfl hne
  | cons x r =>
    obtain ⟨b2, o2, e2, hl, _⟩ := h 0 x rfl
    rw [e] at e2
    injection e2 with e2; injection e2 with e3 _
    omega
theorem ints_low {w : World} {a : Option Addr} {xs : List Int} (h : IntsAt w a xs) (hne : xs ≠ []) : ∀ bk o, a = some ⟨bk, o, none⟩ → bk < w.heap.size := by
  intro bk o e
  cases xs with
  | nil => exact absurd rfl hne
  | cons x r =>
    obtain ⟨b2, o2, e2, hl, _⟩ := h 0 x rfl
    rw [e] at e2
    injection e2 with e2; injection e2 with e3 _
    omega

theorem fidx_bounds (l : List FD) (n : ByteArray) : -1 ≤ fidx l n ∧ fidx l n < l.length := by
  cases hg : get l n with
  | none => rw [fidx_none hg]; omega
  | some f =>
    obtain ⟨i, h1, h2, _⟩ := fidx_some hg
    rw [h2]; omega

/-! ### uses -/
theorem use_le (S : DS) : (use S).2.uses ≤ S.uses + 1 := by
  unfold use; split
  · exact Nat.le_succ _
  split
  · exact Nat.le_refl _
  split <;> exact Nat.le_refl _
theorem doN_uses (k : Nat) (S : DS) (x : AD) : (doN k S x).2.uses ≤ S.uses + 1 := by
  have h := use_le S
  match k with
  | 0 =>
    show (append S x.name x.data).2.uses ≤ _
    unfold Dsk.append
    split
    · simp only
      split
      · exact h
      split <;> exact h
    · exact h
  | 1 =>
    show (sync S (x.name :: x.data)).2.uses ≤ _
    unfold Dsk.sync
    split
    · exact h
    · rw [there_snd]; exact h
  | 2 =>
    show (rename S x.name x.dest).2.uses ≤ _
    unfold Dsk.rename
    split
    · split <;> exact h
    · rw [begin_snd]; exact h
  | 3 =>
    show (delete S x.name).2.uses ≤ _
    unfold Dsk.delete
    split
    · exact h
    · rw [there_snd]; exact h
  | k + 4 =>
    show (cut S x.name x.n).2.uses ≤ _
    unfold Dsk.cut
    split
    · split
      · exact h
      · split <;> exact h
    · rw [there_snd]; exact h
theorem lay_uses (S : DS) (n y : ByteArray) : (lay S n y).2.uses = S.uses := by
  unfold lay
  split
  · split <;> rfl
  · rfl
theorem small_of {x : AD} (hok : ADok x) (hg : greatA x = false) : Small x := by
  obtain ⟨h1, h2, h3, h4⟩ := greatA_false.1 hg
  exact ⟨hok.n, h2, h3, h1, h4, hok.keep, hok.keeps⟩
theorem mrow_arm {w : World} {m : Nat} {sl : Value} {S : DS} (hr : MRow w m sl S) (k v : Int) (hv : v = ((arm S k).left : Nat)) : MRow ((w.setCell ⟨m, 3, none⟩ (.bool true)).setCell ⟨m, 4, none⟩ (.int .i64 v)) m sl (arm S k) := by
  have := Go.Joins.block_setCell (i := 4) (Go.Joins.block_setCell (i := 3) hr (.bool true)) (.int .i64 v)
  rw [hv] at this ⊢
  simpa [MRow, mcells, arm] using this
theorem model_new (w : World) (r : Nat) (T : TypeId) (hT : T = 44) : ModelAt (w.alloc (.cells #[.int .i64 (r : Nat), .slice none 0 0, .bool false, .bool false, .int .i64 0, .int .i64 0] T)) w.heap.size (new r) (fun b => b = w.heap.size) := by
  subst hT
  exact ⟨.slice none 0 0, ⟨heap_alloc_new w _, World.ownsRow_nil _ _ _ _⟩, rfl, fun b hb => by cases hb⟩
end Go.Proofs.Ytmdkjcigmhgpeaa
