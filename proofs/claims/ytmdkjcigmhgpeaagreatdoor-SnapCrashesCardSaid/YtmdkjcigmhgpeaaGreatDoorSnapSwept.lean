/- What a Sweep leaves, on a disk whose files are a mark, a fresh mark, snapshots. No program in sight. -/
import Derived.Test.YtmdkjcigmhgpeaaGreatDoorSnapPlain
namespace Go.Proofs.YtmdkjcigmhgpeaaGreatDoor
namespace Snp
open SealMath Dsk

/-- A disk that was laid by Put alone: a mark, perhaps a fresh mark, snapshots. -/
structure LD (S : DS) (mark : ByteArray) : Prop where
  sorted : Sorted S.files
  off : S.off = false
  armed : S.armed = false
  uses : S.uses = 0
  kind : ∀ f ∈ S.files, f.name = nMark ∨ f.name = nFresh ∨ ∃ m, m ≤ 99999999 ∧ f.name = nSnap m
  mark : ∃ f, get S.files nMark = some f ∧ f.data = mark
theorem LD.lay {S : DS} {mark : ByteArray} (h : LD S mark) (n x : ByteArray) (hn : n = nFresh ∨ ∃ m, m ≤ 99999999 ∧ n = nSnap m) : LD (lay S n x).2 mark := by
  have hnm : lst n ≠ lst nMark := by
    rcases hn with rfl | ⟨m, _, rfl⟩
    · exact ne_lst (fun e => mark_fresh e.symm)
    · exact ne_lst (nSnap_mark m)
  unfold Dsk.lay
  split
  · split
    · refine ⟨sorted_put h.sorted _, h.off, h.armed, h.uses, fun f hf => ?_, ?_⟩
      · rcases mem_put.1 hf with rfl | ⟨hf, _⟩
        · exact .inr hn
        · exact h.kind f hf
      · obtain ⟨f, hf, hd⟩ := h.mark
        exact ⟨f, by show get (put _ S.files) nMark = _; rw [get_put h.sorted, if_neg (by exact hnm)]; exact hf, hd⟩
    · exact h
  · exact h
theorem LD.first (r : Nat) (mark : ByteArray) (hm : mark.size ≤ 3000) (hr : 3000 ≤ r) : LD (Dsk.lay (new r) nMark mark).2 mark ∧ (Dsk.lay (new r) nMark mark).1 = 0 := by
  have e : Dsk.lay (new r) nMark mark = (0, files (new r) (put ⟨nMark, mark, mark.size⟩ [])) := by
    have hf : fits (new r) nMark mark.size 0 = 0 := by
      unfold fits
      rw [if_neg (by simp [Dsk.get, new]; omega), if_neg (by show ¬ (mark.size : Int) - ((0 : Nat) : Int) > (r : Int) - ((0 : Nat) : Int); omega)]
    unfold Dsk.lay
    rw [if_pos may_mark]
    show (if fits (new r) nMark mark.size 0 = 0 then _ else _) = _
    rw [if_pos hf]; rfl
  rw [e]
  refine ⟨⟨sorted_put List.Pairwise.nil _, rfl, rfl, rfl, fun f hf => ?_, ?_⟩, rfl⟩
  · rcases mem_put.1 hf with rfl | ⟨hf, _⟩
    · exact .inl rfl
    · cases hf
  · exact ⟨_, (by show get (put ⟨nMark, mark, mark.size⟩ []) nMark = _; exact (get_put List.Pairwise.nil _ _).trans (if_pos rfl)), rfl⟩
theorem LD.read {S : DS} {mark : ByteArray} (h : LD S mark) : Dsk.read S nMark = (mark, 0) := by
  obtain ⟨f, hf, hd⟩ := h.mark
  unfold Dsk.read
  rw [if_neg (by simp [h.off]), hf, ← hd]
theorem LD.load_none {S : DS} {mark : ByteArray} (h : LD S mark) (hm : markOf (lst mark) = none) : loadS S = (0, [], 11) := by
  unfold loadS
  rw [h.read, if_neg (by simp)]
  simp only [hm]
theorem LD.load_unread {S : DS} {mark : ByteArray} (h : LD S mark) {k : Nat} (hm : markOf (lst mark) = some k) (hr : (Dsk.read S (nSnap k)).2 ≠ 0) : loadS S = (0, [], 11) := by
  unfold loadS
  rw [h.read, if_neg (by simp)]
  simp only [hm]
  rw [if_pos hr]
theorem LD.load_bad {S : DS} {mark : ByteArray} (h : LD S mark) {k : Nat} (hm : markOf (lst mark) = some k) (hr : (Dsk.read S (nSnap k)).2 = 0) (hd : dataOf k (lst (Dsk.read S (nSnap k)).1) = none) : loadS S = (0, [], 11) := by
  unfold loadS
  rw [h.read, if_neg (by simp)]
  simp only [hm]
  rw [if_neg (by simp [hr])]
  simp only [hd]
theorem LD.load_good {S : DS} {mark : ByteArray} (h : LD S mark) {k : Nat} (hm : markOf (lst mark) = some k) (hr : (Dsk.read S (nSnap k)).2 = 0) {d : List UInt8} (hd : dataOf k (lst (Dsk.read S (nSnap k)).1) = some d) : loadS S = (k, d, 0) := by
  unfold loadS
  rw [h.read, if_neg (by simp)]
  simp only [hm]
  rw [if_neg (by simp [hr])]
  simp only [hd]
theorem sweep_no {S : DS} {a : Nat} {d : List UInt8} {e : Nat} (h : loadS S = (a, d, e)) (he : e ≠ 0) : sweepS S = (0, e, S) := by
  unfold sweepS
  rw [h, if_pos he]
theorem namesOf_all (S : DS) : namesOf S [] = S.files.map (·.name) := by
  unfold namesOf names
  rw [List.filter_eq_self]
  intro a _; rfl
theorem mark_lt_snap (k : Nat) : lst nMark < lst (nSnap k) := by
  rw [lst_nSnap]
  show ([109, 97, 114, 107] : List UInt8) < _
  rw [List.cons_lt_cons_iff]
  exact .inl (by decide)
/-- What a Sweep leaves where a snapshot counts. -/
theorem LD.sweep {S : DS} {mark : ByteArray} (h : LD S mark) {k : Nat} {d : List UInt8} (hl : loadS S = (k, d, 0)) (hr : (Dsk.read S (nSnap k)).2 = 0) :
    ∃ T j, sweepS S = (j, 0, T) ∧ j + 2 = (namesOf S []).length ∧ namesOf T [] = [nMark, nSnap k] ∧ loadS T = (k, d, 0) := by
  obtain ⟨fm, hfm, hmd⟩ := h.mark
  obtain ⟨fs, hfs⟩ : ∃ fs, get S.files (nSnap k) = some fs := by
    unfold Dsk.read at hr
    rw [if_neg (by simp [h.off])] at hr
    cases hg : get S.files (nSnap k) with
    | none => rw [hg] at hr; cases hr
    | some f => exact ⟨f, rfl⟩
  obtain ⟨hm1, hm2⟩ := get_mem hfm
  obtain ⟨hs1, hs2⟩ := get_mem hfs
  have hway := others_way (nSnap k) (namesOf S [nFront]) 0 S h.sorted (names_pair h.sorted _) (fun x hx => ⟨by
    obtain ⟨f, hf, rfl⟩ := names_mem hx
    rcases h.kind f hf with e | e | ⟨m, hm, e⟩
    · rw [e]; exact may_mark
    · rw [e]; exact may_fresh
    · rw [e]; exact may_snap m hm, names_there h.sorted hx⟩) h.off
  have hlen : ∀ U : DS, (∀ f, f ∈ U.files ↔ (f ∈ S.files ∧ keepIn (nSnap k) (namesOf S [nFront]) f.name = true) ∧ f.key ≠ lst nFresh) → Sorted U.files → U.files = [fm, fs] := by
    intro U hU hsU
    refine hsU.ext ?_ (fun f => ?_)
    · refine List.pairwise_cons.2 ⟨fun g hg => ?_, List.pairwise_cons.2 ⟨fun g hg => (by cases hg), List.Pairwise.nil⟩⟩
      obtain rfl : g = fs := by simpa using hg
      rw [hm2, hs2]; exact mark_lt_snap k
    · rw [hU]
      constructor
      · rintro ⟨⟨h1, h2⟩, h3⟩
        rcases h.kind f h1 with e | e | ⟨m, hm, e⟩
        · have : f = fm := h.sorted.eq h1 hm1 (by rw [hm2]; show lst f.name = _; rw [e])
          rw [this]; simp
        · exact absurd (by show lst f.name = _; rw [e]) h3
        · rcases keepIn_iff.1 h2 with e2 | e2
          · have : f = fs := h.sorted.eq h1 hs1 (by rw [hs2]; show lst f.name = _; rw [e2])
            rw [this]; simp
          · exact absurd (front_mem.2 ⟨⟨f, h1, rfl⟩, by rw [e]; exact nSnap_starts m⟩) e2
      · intro hf
        rcases List.mem_cons.1 hf with rfl | hf
        · refine ⟨⟨hm1, keepIn_iff.2 (.inr ?_)⟩, ?_⟩
          · rw [get_name hfm]; exact front_mark
          · rw [hm2]; exact ne_lst mark_fresh
        · obtain rfl : f = fs := by simpa using hf
          refine ⟨⟨hs1, keepIn_iff.2 (.inl (get_name hfs))⟩, ?_⟩
          rw [hs2]; exact ne_lst (nSnap_fresh k)
  have hend : ∀ U : DS, U.files = [fm, fs] → U.off = false → namesOf U [] = [nMark, nSnap k] ∧ loadS U = (k, d, 0) := by
    intro U hU ho
    refine ⟨by rw [namesOf_all, hU, List.map_cons, List.map_cons, List.map_nil, get_name hfm, get_name hfs], ?_⟩
    have g1 : get U.files nMark = get S.files nMark := by rw [hU, hfm, get_cons, if_pos hm2]
    have g2 : get U.files (nSnap k) = get S.files (nSnap k) := by
      rw [hU, hfs, get_cons, if_neg (by rw [hm2]; exact ne_lst (fun e => nSnap_mark k e.symm)), get_cons, if_pos hs2]
    have r1 : Dsk.read U nMark = Dsk.read S nMark := by unfold Dsk.read; rw [ho, h.off, g1]
    have r2 : Dsk.read U (nSnap k) = Dsk.read S (nSnap k) := by unfold Dsk.read; rw [ho, h.off, g2]
    have hmk : markOf (lst mark) = some k := by
      unfold loadS at hl
      rw [h.read, if_neg (by simp)] at hl
      cases hm : markOf (lst mark) with
      | none => simp only [hm] at hl; injection hl with _ hl; injection hl with _ hl; cases hl
      | some k' =>
        simp only [hm] at hl
        split at hl
        · injection hl with _ hl; injection hl with _ hl; cases hl
        · split at hl
          · injection hl with _ hl; injection hl with _ hl; cases hl
          · injection hl with hl _; rw [hl]
    rw [← hl]
    unfold loadS
    rw [r1, h.read, if_neg (by simp)]
    simp only [hmk, r2]
    rfl
  rcases hway with ⟨j, T, h1, h2, h3, h4, h5⟩ | ⟨T, h1, h2, _, h4⟩
  · have hT : ∀ f, f ∈ T.files ↔ f ∈ S.files ∧ keepIn (nSnap k) (namesOf S [nFront]) f.name = true := fun f => by rw [h2, List.mem_filter]
    have ho : othersS S (nSnap k) = (j, 0, T) := by unfold othersS; rw [h1, Nat.zero_add]
    rcases delete_way T may_fresh with ⟨U, e, hf, hi, hoU, _, g⟩ | ⟨U, e, hf, hi, hoU, _, g⟩ | ⟨U, e, hf, hoU, g⟩
    · have hU := hlen U (fun f => by rw [hf, mem_drop, hT]) (by rw [hf]; exact sorted_drop h5.sorted _)
      obtain ⟨n1, n2⟩ := hend U hU hoU
      refine ⟨U, j + 1, ?_, ?_, n1, n2⟩
      · unfold sweepS
        rw [hl, if_neg (by simp)]
        simp only
        rw [ho, if_neg (by simp)]
        simp only
        rw [e]
        simp
      · obtain ⟨g0, hg0⟩ := Option.isSome_iff_exists.1 hi
        have := (drop_count h5.sorted hg0).1
        rw [← hf, hU] at this
        rw [namesOf_all, List.length_map]
        simp at this; omega
    · have hU := hlen U (fun f => by
        rw [hf, hT]
        constructor
        · exact fun hh => ⟨hh, get_none hi f ((hT f).2 hh)⟩
        · exact fun hh => hh.1) (by rw [hf]; exact h5.sorted)
      obtain ⟨n1, n2⟩ := hend U hU hoU
      refine ⟨U, j, ?_, ?_, n1, n2⟩
      · unfold sweepS
        rw [hl, if_neg (by simp)]
        simp only
        rw [ho, if_neg (by simp)]
        simp only
        rw [e]
        simp
      · rw [← hf, hU] at h3
        rw [namesOf_all, List.length_map]
        simp at h3; omega
    · have := g.calm h4 (h5.armed.trans h.armed)
      rw [hoU] at this; cases this
  · have := h4.calm h.off h.armed
    rw [h2] at this; cases this
theorem loadS_same {S T : DS} (ho : T.off = S.off) (hg : ∀ m, get T.files m = get S.files m) : loadS T = loadS S := by
  have r : ∀ m, Dsk.read T m = Dsk.read S m := fun m => by unfold Dsk.read; rw [ho, hg]
  unfold loadS
  simp only [r]
end Snp
end Go.Proofs.YtmdkjcigmhgpeaaGreatDoor
