/- What the three walks of SnapCrashes share. -/
import Derived.Test.YtmdkjcigmhgpeaaGreatDoorSnapLoads
import Derived.Test.YtmdkjcigmhgpeaaGreatDoorSnapGreat
import Derived.Test.YtmdkjcigmhgpeaaGreatDoorSnapCrashed
import Derived.StillTailTactics
namespace Go.Proofs.YtmdkjcigmhgpeaaGreatDoor
open Go.RowKit Snp SealMath Dsk

/-- Save, by any number, of texts that lie anywhere. -/
theorem save_int (B d : Nat) (S : DS) (n : Int) (a : Option Addr) (c : Nat) (xs : List ByteArray) (hN : xs.length ≤ 1000) (hcap : xs.length ≤ c) (hl : ((xs.map lst).flatten).length ≤ 140737488355328) (hu : S.uses + 1000 < 4611686018427387904)
    (w : World) (h : Held B w d S) (hB : B ≤ w.heap.size) (hcs : StrsAt w a xs) (hnb : Nibs w) (hg : 0 < B) :
    Calls Tryz.prog 14 #[.pointer (some ⟨d, 0, none⟩), .int .i64 n, .slice a xs.length c] w fun e w' => e = .returned (.int .i64 ((saveS S n ((xs.map lst).flatten)).1 : Nat)) ∧ Held B w' d (saveS S n ((xs.map lst).flatten)).2 ∧ Below B w w' := by
  cases hm : mayN n with
  | false =>
    have e : saveS S n ((xs.map lst).flatten) = (1, S) := by unfold saveS; rw [if_pos hm]
    rw [e]
    refine (save_arg _ (.inr ⟨d, rfl⟩) n (.inr hm) a c xs hN hcap hl w hcs).mono ?_
    rintro e w' ⟨rfl, hx⟩
    exact ⟨rfl, h.ext hx, Below.mono hx hB⟩
  | true =>
    obtain ⟨k, rfl, hk⟩ : ∃ k : Nat, n = k ∧ k ≤ 99999999 := by
      unfold mayN at hm
      simp at hm
      exact ⟨n.toNat, by omega, by omega⟩
    refine (save_any d S (Mine B w) k hk a c xs hN hcap hl hu w h hcs hnb (fun hk => by have := hk.1; omega)).mono ?_
    rintro e w' ⟨rfl, hl⟩
    exact ⟨rfl, Held.left hl hB⟩
theorem acts_one (w : World) (x : AS) (ad : Option Addr) (cd : Nat) (t : TypeId) (h : ActSV w x ad cd) : ActsSAt (w.alloc (.cells #[.int .i64 x.n, .slice ad x.data.length cd] t)) (some ⟨w.heap.size, 0, none⟩) [x] := by
  intro j y hj
  cases j with
  | zero =>
    obtain rfl : x = y := by simpa using hj
    refine ⟨w.heap.size, 0, ad, cd, rfl, fun i u hu => ?_, h.ext ((Ext.refl w).alloc _)⟩
    rw [cell_of_row _ _ _ _ _ _ (heap_alloc_new w _)]
    match i, hu with
    | 0, hu => exact hu
    | 1, hu => exact hu
  | succ j => simp at hj
/-- A disk of the walk's own, with what is told. -/
structure CH (w : World) (d : Nat) (t : Option (Nat × List UInt8)) (k : Nat) (S : DS) (w' : World) : Prop where
  cs : CS S t k
  held : Held w.heap.size w' d S
  ext : Ext w w'
theorem CH.go {w w1 w2 : World} {d k : Nat} {t : Option (Nat × List UInt8)} {S : DS} (h : CH w d t k S w1) (e : Ext w1 w2) : CH w d t k S w2 := ⟨h.cs, h.held.ext e, Ext.trans h.ext e⟩
theorem CH.low {w w1 : World} {d k : Nat} {t : Option (Nat × List UInt8)} {S : DS} (h : CH w d t k S w1) (hk : k ≤ 20) : S.uses + 1000 < 4611686018427387904 := by
  have := h.cs.cr.uses; omega
/-- The disk behind all Saves. -/
def flatA (x : AS) : List UInt8 := (x.data.map lst).flatten
def runA (xs : List AS) : DS := xs.foldl (fun S y => (saveS S y.n (flatA y)).2) (Dsk.new 1048576)
theorem runA_step {xs : List AS} {i : Nat} (h : i < xs.length) : runA (xs.take (i + 1)) = (saveS (runA (xs.take i)) xs[i].n (flatA xs[i])).2 := by
  unfold runA
  rw [List.take_succ_eq_append_getElem h, List.foldl_append]; rfl
def armA (xs : List AS) (x : AS) (m : Nat) : Nat × DS := saveS (arm (runA xs) (((m : Nat) : Int) % 14)) x.n (flatA x)
/-- What was saved is told. -/
def WayA (xs : List AS) (x : AS) (m : Nat) (ks : List Int) : Prop :=
  ((armA xs x m).1 = 0 ∨ (armA xs x m).1 = 7) ∧ loadS (crash (armA xs x m).2 ks) = (x.n.toNat, flatA x, 0)
/-- Nothing was told ahead of it. -/
def WayB (xs : List AS) : Prop := (loadS (runA xs)).2.2 ≠ 0
theorem answer_some {t : Option (Nat × List UInt8)} {n : Nat} {d : List UInt8} (h : answer t = (n, d, 0)) : t = some (n, d) := by
  cases t with
  | none => unfold answer at h; injection h with _ h; injection h with _ h; cases h
  | some p =>
    obtain ⟨a, b⟩ := p
    unfold answer at h
    injection h with h1 h
    injection h with h2 _
    rw [h1, h2]
end Go.Proofs.YtmdkjcigmhgpeaaGreatDoor
