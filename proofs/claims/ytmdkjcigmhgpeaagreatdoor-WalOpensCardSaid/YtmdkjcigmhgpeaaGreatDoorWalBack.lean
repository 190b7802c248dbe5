/- The log opened anew: whole, behind a crash; what is left of it when some is forgotten. No program in sight. -/
import Derived.Test.YtmdkjcigmhgpeaaGreatDoorWalSt
namespace Go.Proofs.YtmdkjcigmhgpeaaGreatDoor
namespace Wal
open SealMath Dsk Snp

theorem frames_all (s : List UInt8) : (framesL (allL s).1).length ≤ s.length := by
  rcases openL_why s with h | h | h
  · obtain ⟨d, n, e⟩ : ∃ d n, openL s = (d, n, 0) := ⟨(openL s).1, (openL s).2.1, by rw [← h]⟩
    obtain ⟨h1, h2, h3⟩ := openL_le s d n e
    have ih := frames_all (s.drop n)
    rw [allL_whole s d n e]
    show (frameL d ++ framesL (allL (s.drop n)).1).length ≤ s.length
    rw [List.length_append, frameL_length]
    rw [List.length_drop] at ih
    omega
  · by_cases h0 : s = []
    · subst h0; simp [allL_nil, framesL]
    · rw [allL_stop s (by rw [h]; simp) h0]; simp [framesL]
  · by_cases h0 : s = []
    · subst h0; simp [allL_nil, framesL]
    · rw [allL_stop s (by rw [h]; simp) h0]; simp [framesL]
termination_by s.length
decreasing_by rw [List.length_drop]; omega
theorem readW_end (s : List UInt8) (n : Nat) : (readW s n).2.1 ≤ s.length := Nat.le_trans (readF_end n (allL s).1) (frames_all s)

/-! ### the last segment -/
theorem lastS_way {S : DS} {l : List FD} {f c : ByteArray} {k e : Nat} (ho : S.off = false) (ha : S.armed = false) (hf : S.files = l ++ [⟨f, c, k⟩]) (hk : ∀ x ∈ l, x.key < lst f) (hm : may f = true) (he : e ≤ c.size) :
    ∃ T, lastS S f e = (0, T) ∧ T.files = l ++ [⟨f, bts ((lst c).take e), e⟩] ∧ T.off = false ∧ T.armed = false ∧ T.room = S.room ∧ T.uses ≤ S.uses + 2 := by
  have hg : Dsk.get S.files f = some ⟨f, c, k⟩ := by rw [hf]; exact get_last ⟨f, c, k⟩ l hk
  have hr : (Dsk.read S f).1 = c := by
    unfold Dsk.read
    rw [if_neg (by simp [ho]), hg]
  unfold lastS
  rw [hr]
  by_cases hlt : e < c.size
  · rw [if_pos hlt]
    have hcut : ∃ U, cut S f e = (0, U) ∧ U.files = l ++ [⟨f, bts ((lst c).take e), min k e⟩] ∧ U.off = false ∧ U.armed = false ∧ U.room = S.room ∧ U.uses ≤ S.uses + 1 := by
      rcases there_way S (n := f) hm with ⟨h1, h2, _, _⟩ | ⟨_, _, _, h4⟩ | ⟨_, h2⟩
      · refine ⟨files (use S).2 (put (cutF e ⟨f, c, k⟩) S.files), ?_, ?_, h2, (use_goes S).armed.trans ha, (use_goes S).room, (use_goes S).uses⟩
        · unfold cut
          rw [h1, if_pos rfl, hg]
          simp only
          rw [if_neg (by omega), Int.toNat_natCast]
        · show put (cutF e ⟨f, c, k⟩) S.files = _
          rw [hf]
          exact put_same (cutF e ⟨f, c, k⟩) ⟨f, c, k⟩ l rfl hk
      · rw [hg] at h4; cases h4
      · rw [(use_goes S).calm ho ha] at h2; cases h2
    obtain ⟨U, h1, h2, h3, h4, h5, h6⟩ := hcut
    rw [h1, if_pos rfl]
    have hgU : Dsk.get U.files f = some ⟨f, bts ((lst c).take e), min k e⟩ := by rw [h2]; exact get_last ⟨f, bts ((lst c).take e), min k e⟩ l hk
    rcases sync_way U (n := f) hm (by rw [hgU]; rfl) with ⟨T, k1, k2, k3, _, k5⟩ | ⟨T, _, _, k3, k4⟩
    · refine ⟨T, k1, ?_, k3, k5.armed.trans h4, k5.room.trans h5, by have := k5.uses; omega⟩
      have kl := keep_last ⟨f, bts ((lst c).take e), min k e⟩ l hk
      rw [k2, h2, kl]
      have : (bts ((lst c).take e)).size = e := by
        rw [bts_size, List.length_take, lst_length]; omega
      simp only [this]
    · rw [k4.calm h3 h4] at k3; cases k3
  · rw [if_neg hlt]
    rcases sync_way S (n := f) hm (by rw [hg]; rfl) with ⟨T, k1, k2, k3, _, k5⟩ | ⟨T, _, _, k3, k4⟩
    · refine ⟨T, k1, ?_, k3, k5.armed.trans ha, k5.room, by have := k5.uses; omega⟩
      have kl := keep_last ⟨f, c, k⟩ l hk
      have e1 : e = c.size := by omega
      rw [k2, hf, kl, e1, List.take_of_length_le (by rw [lst_length]; exact Nat.le_refl _), bts_lst]
    · rw [k4.calm ho ha] at k3; cases k3

/-! ### Open -/
theorem load_row {S : DS} {n : Nat} (ho : S.off = false) : ∀ (pre : List SG) (a : Nat) (out : List RC) (L : LG), Row a pre n → (∀ x ∈ pre, Dsk.get S.files (seg nameW x.first) = some (fileOf x)) →
    ∃ M, M.safe = L.safe ∧ M.err = L.err ∧ loadL nameW S (pre.map SG.first ++ [n]) out L = loadL nameW S [n] (out ++ num a (flat pre)) M
  | [], a, out, L, _, _ => ⟨L, rfl, rfl, by simp [flat, num]⟩
  | p :: pre, a, out, L, h, hg => by
    obtain ⟨h1, h2, h3, h4, h5⟩ := h
    subst h1
    have hr : (Dsk.read S (seg nameW p.first)).1 = bts (bytesOf p.first p.recs) := by
      unfold Dsk.read
      rw [if_neg (by simp [ho]), hg p (by simp)]; rfl
    have hw : readW (lst (Dsk.read S (seg nameW p.first)).1) p.first = (p.recs, (bytesOf p.first p.recs).length, true) := by
      rw [hr, lst_bts]; exact readW_bytes _ _ h3
    obtain ⟨m, r, hmr, hm⟩ : ∃ m r, pre.map SG.first ++ [n] = m :: r ∧ m = p.first + p.recs.length := by
      cases pre with
      | nil => exact ⟨n, [], rfl, Eq.symm h5⟩
      | cons q pre => exact ⟨q.first, pre.map SG.first ++ [n], rfl, h5.1⟩
    have hp : placed nameW S p.first L = ⟨seg nameW p.first, (bytesOf p.first p.recs).length, p.first + p.recs.length, false, L.safe, L.err⟩ := by
      unfold placed; rw [hw]
    have hstep : loadL nameW S ((p :: pre).map SG.first ++ [n]) out L = loadL nameW S (pre.map SG.first ++ [n]) (out ++ num p.first p.recs) (placed nameW S p.first L) := by
      rw [List.map_cons, List.cons_append, hmr, loadL, if_pos]
      · unfold recsAt; rw [hw]
      · refine ⟨by unfold wholeAt; rw [hw], ?_⟩
        rw [hp]; exact hm
    obtain ⟨M, k1, k2, k3⟩ := load_row ho pre (p.first + p.recs.length) (out ++ num p.first p.recs) (placed nameW S p.first L) h5 (fun x hx => hg x (by simp [hx]))
    refine ⟨M, k1, k2, ?_⟩
    rw [hstep, k3]
    have : flat (p :: pre) = p.recs ++ flat pre := by simp [flat]
    rw [this, num_append, List.append_assoc]
theorem open_way {S : DS} {pre : List SG} {a n k : Nat} {c : ByteArray} (first : Nat) (ho : S.off = false) (ha : S.armed = false) (hs : Sorted S.files) (hrow : Row a pre n) (hn : n ≤ 99999999) (hf : S.files = pre.map fileOf ++ [⟨seg nameW n, c, k⟩]) :
    ∃ T, openW S nameW first = (0, num a (flat pre ++ (readW (lst c) n).1), ⟨seg nameW n, (readW (lst c) n).2.1, n + (readW (lst c) n).1.length, false, n + (readW (lst c) n).1.length, 0⟩, T) ∧
      T.files = pre.map fileOf ++ [⟨seg nameW n, bts ((lst c).take (readW (lst c) n).2.1), (readW (lst c) n).2.1⟩] ∧ T.off = false ∧ T.armed = false ∧ T.room = S.room ∧ T.uses ≤ S.uses + 2 := by
  have hkeys := hrow.keys (Nat.le_refl _) hn
  have hsegs : segs S nameW = pre.map SG.first ++ [n] := by
    refine segs_of ?_ ?_
    · rw [hf, List.map_append, List.map_append, List.map_map, List.map_map]
      rfl
    · intro m hm
      rcases List.mem_append.1 hm with hm | hm
      · obtain ⟨s, hs, rfl⟩ := List.mem_map.1 hm
        have := hrow.mem hs
        omega
      · simp at hm; omega
  obtain ⟨M, h1, h2, h3⟩ := load_row (n := n) ho pre a [] (emptyL first) hrow (fun x hx => by
    refine hs.get (f := fileOf x) ?_ rfl
    rw [hf]; simp; exact .inl ⟨x, hx, rfl⟩)
  have hr : (Dsk.read S (seg nameW n)).1 = c := by
    unfold Dsk.read
    have := get_last ⟨seg nameW n, c, k⟩ (pre.map fileOf) hkeys
    rw [if_neg (by simp [ho]), hf, this]
  have hp : placed nameW S n M = ⟨seg nameW n, (readW (lst c) n).2.1, n + (readW (lst c) n).1.length, false, M.safe, M.err⟩ := by
    unfold placed; rw [hr]
  obtain ⟨T, t1, t2, t3, t4, t5, t6⟩ := lastS_way (e := (readW (lst c) n).2.1) ho ha hf hkeys (may_seg n hn) (by rw [← lst_length]; exact readW_end _ _)
  refine ⟨T, ?_, t2, t3, t4, t5, t6⟩
  have hload : loadL nameW S (segs S nameW) [] (emptyL first) = (0, num a (flat pre) ++ num n (readW (lst c) n).1, ⟨seg nameW n, (readW (lst c) n).2.1, n + (readW (lst c) n).1.length, false, M.safe, M.err⟩, T) := by
    rw [hsegs, h3]
    unfold loadL
    rw [hp]
    simp only
    rw [t1]
    unfold recsAt
    rw [hr]
    simp
  unfold openW
  rw [hload]
  simp only
  rw [h2, num_append]
  have hn2 := hrow.next
  rw [← hn2]; rfl
theorem open_emp {S : DS} (first : Nat) (hf : S.files = []) : openW S nameW first = (0, [], { emptyL first with safe := first }, S) := by
  have : segs S nameW = [] := segs_of (ns := []) (by rw [hf]; rfl) (by simp)
  unfold openW
  rw [this]; rfl
theorem emp_first {S : DS} (ho : S.off = false) (hf : S.files = []) : Emp S (emptyL 0) := ⟨ho, hf, rfl, rfl, rfl, rfl, rfl, rfl⟩
variable {S : DS} {L : LG} {a : Nat} {pre : List SG} {s : SG}
theorem open_stp (first : Nat) (h : Stp S L a pre s) (ha : S.armed = false) (hs : Sorted S.files) :
    ∃ T, openW S nameW first = (0, num a (flat pre ++ s.recs), ⟨L.file, L.size, L.next, false, L.next, 0⟩, T) ∧ Stp T ⟨L.file, L.size, L.next, false, L.next, 0⟩ a pre (wholeK s) ∧ T.armed = false ∧ T.room = S.room ∧ T.uses ≤ S.uses + 2 := by
  obtain ⟨T, h1, h2, h3, h4, h5, h6⟩ := open_way first h.on ha hs h.row (by have := h.next; have := h.lim; omega) h.files
  have hw : readW (lst (bts (bytesOf s.first s.recs))) s.first = (s.recs, (bytesOf s.first s.recs).length, true) := by
    rw [lst_bts]; exact readW_bytes _ _ h.small
  have hT : T.files = pre.map fileOf ++ [fileOf (wholeK s)] := by
    have h2 := h2
    rw [hw] at h2
    rw [h2]
    simp only
    rw [lst_bts, List.take_of_length_le (Nat.le_refl _)]
    rfl
  rw [hw] at h1
  simp only at h1
  rw [← h.next, ← h.size, ← h.file] at h1
  refine ⟨T, h1, ?_, h4, h5, h6⟩
  have := h.whole h3 hT
  exact ⟨this.on, this.row, this.files, this.small, this.ne, this.file, this.size, this.next, this.lim, this.low, this.safe, this.kept, rfl, fun _ => rfl⟩

/-! ### behind a crash -/
/-- What lies on the disk, whatever the power: the last segment's records are kept up to one of them. -/
structure Lie (S : DS) (a : Nat) (pre : List SG) (s : SG) (i : Nat) : Prop where
  row : Row a pre s.first
  files : S.files = pre.map fileOf ++ [fileOf s]
  small : ∀ x ∈ s.recs, x.length ≤ 65000
  lim : s.first ≤ 99999999
  most : i ≤ s.recs.length
  kept : s.kept = (bytesOf s.first (s.recs.take i)).length
theorem Stp.lie (h : Stp S L a pre s) : Lie S a pre s (L.safe - s.first) :=
  ⟨h.row, h.files, h.small, by have := h.next; have := h.lim; omega, by have := h.safe; have := h.next; omega, h.kept⟩
theorem Lie.same {T : DS} {i : Nat} (h : Lie S a pre s i) (hf : T.files = S.files) : Lie T a pre s i := ⟨h.row, hf.trans h.files, h.small, h.lim, h.most, h.kept⟩
theorem mapIdx_still {α : Type} (f : Nat → α → α) (l : List α) (h : ∀ i x, x ∈ l → f i x = x) : l.mapIdx f = l := by
  apply List.ext_getElem
  · simp
  · intro i h1 h2
    rw [List.getElem_mapIdx]
    exact h i _ (List.getElem_mem h2)
theorem crashF_whole (m : Int) (f : FD) (h : f.kept = f.data.size) : crashF m f = f := by
  obtain ⟨n, d, k⟩ := f
  simp only at h
  subst h
  unfold crashF
  simp only [Nat.sub_self, Nat.min_zero, Nat.add_zero]
  rw [List.take_of_length_le (by rw [lst_length]; exact Nat.le_refl _)]
theorem row_whole {l : List SG} : ∀ {n m : Nat}, Row n l m → ∀ x ∈ l, x.kept = (bytesOf x.first x.recs).length := by
  induction l with
  | nil => intro n m _ x hx; cases hx
  | cons y r ih =>
    intro n m h x hx
    rcases List.mem_cons.1 hx with rfl | hx
    · exact h.2.2.2.1
    · exact ih h.2.2.2.2 x hx
theorem Lie.crash {i : Nat} (h : Lie S a pre s i) (ks : List Int) :
    ∃ m, s.kept ≤ m ∧ m ≤ (bytesOf s.first s.recs).length ∧ (crash S ks).files = pre.map fileOf ++ [⟨seg nameW s.first, bts ((bytesOf s.first s.recs).take m), m⟩] := by
  have hk : s.kept ≤ (bytesOf s.first s.recs).length := by
    rw [h.kept]
    have := congrArg List.length (bytesOf_take s.first s.recs i)
    rw [List.length_take] at this
    omega
  refine ⟨s.kept + min (ks.getD (pre.length) 0).toNat ((bytesOf s.first s.recs).length - s.kept), Nat.le_add_right _ _, by omega, ?_⟩
  unfold Dsk.crash
  simp only
  rw [h.files, List.mapIdx_append, mapIdx_still]
  · simp only [List.mapIdx_cons, List.mapIdx_nil, List.length_map, Nat.zero_add]
    rfl
  · intro j x hx
    obtain ⟨y, hy, rfl⟩ := List.mem_map.1 hx
    refine crashF_whole _ _ ?_
    exact row_whole h.row y hy
/-- Opened behind a crash: all that were kept, and the first ones of the others; opened again it is the same. -/
theorem Lie.open {i : Nat} (h : Lie S a pre s i) (hs : Sorted S.files) (ks : List Int) (first second : Nat) :
    ∃ j T M U N, i ≤ j ∧ j ≤ s.recs.length ∧ openW (Dsk.crash S ks) nameW first = (0, num a (flat pre ++ s.recs.take j), M, T) ∧ openW T nameW second = (0, num a (flat pre ++ s.recs.take j), N, U) ∧ T.uses ≤ S.uses + 2 ∧ T.off = false := by
  obtain ⟨m, h1, h2, h3⟩ := h.crash ks
  obtain ⟨j, b, j1, j2, j3, j4⟩ := readW_cut s.first s.recs h.small m h2
  have hij : i ≤ j := j4 i h.most (by rw [← h.kept]; exact h1)
  have hsc : Sorted (Dsk.crash S ks).files := by
    rw [h3]
    have := hs
    rw [h.files] at this
    unfold Sorted at this ⊢
    rw [List.pairwise_append] at this ⊢
    refine ⟨this.1, by simp, fun x hx y hy => ?_⟩
    simp at hy
    subst hy
    exact this.2.2 x hx (fileOf s) (by simp)
  obtain ⟨T, t1, t2, t3, t4, _, t6⟩ := open_way first (S := Dsk.crash S ks) rfl rfl hsc h.row h.lim h3
  rw [lst_bts, j2] at t1 t2
  simp only at t1 t2
  have hT : T.files = pre.map fileOf ++ [⟨seg nameW s.first, bts (bytesOf s.first (s.recs.take j)), (bytesOf s.first (s.recs.take j)).length⟩] := by
    rw [t2, List.take_take, Nat.min_eq_left j3, bytesOf_take]
  have hsT : Sorted T.files := by
    rw [hT]
    have := hs
    rw [h.files] at this
    unfold Sorted at this ⊢
    rw [List.pairwise_append] at this ⊢
    refine ⟨this.1, by simp, fun x hx y hy => ?_⟩
    simp at hy
    subst hy
    exact this.2.2 x hx (fileOf s) (by simp)
  obtain ⟨U, u1, _⟩ := open_way second t3 t4 hsT h.row h.lim hT
  rw [lst_bts, readW_bytes _ _ (fun x hx => h.small x (List.mem_of_mem_take hx))] at u1
  exact ⟨j, T, _, U, _, hij, j1, t1, u1, t6, t3⟩

/-! ### Forget -/
def dropN (below : Int) : List Nat → List Nat
  | n :: m :: r => if (m : Int) ≤ below then dropN below (m :: r) else n :: m :: r
  | l => l
theorem Row.drop {l : List SG} : ∀ {n m : Nat} (k : Nat), Row n l m → k ≤ l.length → ∃ b, Row b (l.drop k) m ∧ b = n + (flat (l.take k)).length := by
  induction l with
  | nil =>
    intro n m k h _
    exact ⟨n, by simpa using h, by simp [flat]⟩
  | cons x r ih =>
    intro n m k h hk
    cases k with
    | zero => exact ⟨n, h, by simp [flat]⟩
    | succ k =>
      obtain ⟨b, h1, h2⟩ := ih k h.2.2.2.2 (by simpa using hk)
      refine ⟨b, h1, ?_⟩
      rw [h2]
      simp [flat]; omega
theorem forget_row (below : Int) (s : SG) (hs1 : s.first ≤ 99999999) : ∀ (pre : List SG) (a : Nat) (S : DS), Row a pre s.first → S.files = pre.map fileOf ++ [fileOf s] → S.off = false →
    (∃ T i, forgetL nameW below (pre.map SG.first ++ [s.first]) S = (0, T) ∧ i ≤ pre.length ∧ T.files = (pre.drop i).map fileOf ++ [fileOf s] ∧ dropN below (pre.map SG.first ++ [s.first]) = (pre.drop i).map SG.first ++ [s.first] ∧ T.off = false ∧ T.armed = S.armed ∧ T.room = S.room ∧ T.uses ≤ S.uses + pre.length) ∨
    (∃ T i, forgetL nameW below (pre.map SG.first ++ [s.first]) S = (7, T) ∧ i ≤ pre.length ∧ T.files = (pre.drop i).map fileOf ++ [fileOf s] ∧ (i = 0 ∨ ((a + (flat (pre.take i)).length : Nat) : Int) ≤ below) ∧ T.off = true ∧ (S.armed = false → False) ∧ T.uses ≤ S.uses + pre.length)
  | [], a, S, _, hf, ho => .inl ⟨S, 0, rfl, Nat.le_refl _, hf, rfl, ho, rfl, rfl, Nat.le_refl _⟩
  | p :: pre, a, S, h, hf, ho => by
    obtain ⟨h1, h2, h3, h4, h5⟩ := h
    subst h1
    obtain ⟨m, r, hmr, hm⟩ : ∃ m r, pre.map SG.first ++ [s.first] = m :: r ∧ m = p.first + p.recs.length := by
      cases pre with
      | nil => exact ⟨s.first, [], rfl, Eq.symm h5⟩
      | cons q pre => exact ⟨q.first, pre.map SG.first ++ [s.first], rfl, h5.1⟩
    have hl : (p :: pre).map SG.first ++ [s.first] = p.first :: m :: r := by rw [List.map_cons, List.cons_append, hmr]
    have hpm : p.first < s.first := by
      have := h5.next
      have := List.length_pos_iff.2 h2
      omega
    rw [hl]
    by_cases hb : (m : Int) ≤ below
    · have hkeys : ∀ x ∈ pre.map fileOf ++ [fileOf s], (fileOf p).key < x.key := by
        intro x hx
        rcases List.mem_append.1 hx with hx | hx
        · obtain ⟨y, hy, rfl⟩ := List.mem_map.1 hx
          have := h5.mem hy
          have := List.length_pos_iff.2 h2
          exact seg_lt (by omega) (by omega)
        · simp at hx; subst hx
          exact seg_lt hpm hs1
      have hf2 : S.files = fileOf p :: (pre.map fileOf ++ [fileOf s]) := by rw [hf]; rfl
      have e : forgetL nameW below (p.first :: m :: r) S = if (delete S (seg nameW p.first)).1 = 0 then forgetL nameW below (m :: r) (delete S (seg nameW p.first)).2 else delete S (seg nameW p.first) := by
        rw [forgetL, if_pos hb]
      have e2 : dropN below (p.first :: m :: r) = dropN below (m :: r) := by rw [dropN, if_pos hb]
      rw [e, e2]
      rcases delete_way S (n := seg nameW p.first) (may_seg _ (by omega)) with ⟨U, u1, u2, _, u4, _, u6⟩ | ⟨U, _, _, u3, _⟩ | ⟨U, u1, u2, u3, u4⟩
      · rw [u1, if_pos rfl]
        have hU : U.files = pre.map fileOf ++ [fileOf s] := by
          rw [u2, hf2]; exact drop_first (fileOf p) _ hkeys
        rw [← hmr]
        rcases forget_row below s hs1 pre (p.first + p.recs.length) U h5 hU u4 with ⟨T, i, t1, t2, t3, t4, t5, t6, t7, t8⟩ | ⟨T, i, t1, t2, t3, t4, t5, t6, t7⟩
        · exact .inl ⟨T, i + 1, t1, by simp; omega, t3, t4, t5, t6.trans u6.armed, t7.trans u6.room, by have := u6.uses; simp; omega⟩
        · refine .inr ⟨T, i + 1, t1, by simp; omega, t3, .inr ?_, t5, fun k => t6 (u6.armed.trans k), by have := u6.uses; simp; omega⟩
          have ef : (flat ((p :: pre).take (i + 1))).length = p.recs.length + (flat (pre.take i)).length := by simp [flat]
          rw [ef]
          rcases t4 with rfl | t4
          · simp [flat]; omega
          · rw [← Nat.add_assoc]; exact t4
      · have hg : Dsk.get S.files (seg nameW p.first) = some (fileOf p) := by
          rw [hf2, get_cons]; exact if_pos rfl
        rw [hg] at u3; cases u3
      · rw [u1, if_neg (by simp)]
        refine .inr ⟨U, 0, rfl, Nat.zero_le _, by rw [u2, hf]; rfl, .inl rfl, u3, fun k => ?_, by have := u4.uses; simp; omega⟩
        rw [u4.calm ho k] at u3; cases u3
    · have e : forgetL nameW below (p.first :: m :: r) S = (0, S) := by rw [forgetL, if_neg hb]
      have e2 : dropN below (p.first :: m :: r) = p.first :: m :: r := by rw [dropN, if_neg hb]
      rw [e, e2]
      exact .inl ⟨S, 0, rfl, Nat.zero_le _, hf, by rw [← hl]; rfl, ho, rfl, rfl, by simp⟩
theorem forget_way (below : Int) (h : Stp S L a pre s) :
    (∃ T i b, forgetW nameW below S L = (0, L.all, T) ∧ i ≤ pre.length ∧ Stp T L.all b (pre.drop i) (wholeK s) ∧ b = a + (flat (pre.take i)).length ∧
      dropN below ((pre ++ [s]).map SG.first) = (pre.drop i ++ [s]).map SG.first ∧ T.armed = S.armed ∧ T.room = S.room ∧ T.uses ≤ S.uses + 1 + pre.length) ∨
    (∃ T M, forgetW nameW below S L = (7, M, T) ∧ M.err = 7 ∧ T.off = true ∧ (S.armed = false → False) ∧ T.uses ≤ S.uses + 1 + pre.length ∧
      (T.files = S.files ∨ ∃ i b, i ≤ pre.length ∧ Lie T b (pre.drop i) (wholeK s) s.recs.length ∧ b = a + (flat (pre.take i)).length ∧ (i = 0 ∨ (b : Int) ≤ below))) := by
  rcases commit_way h with ⟨U, u1, u2, u3, _⟩ | ⟨U, u1, _, u2, u3, u4⟩
  · have hlim : s.first ≤ 99999999 := by have := h.next; have := h.lim; omega
    have hsegs : segs U nameW = pre.map SG.first ++ [s.first] := by
      refine segs_of ?_ ?_
      · rw [u2.files, List.map_append, List.map_append, List.map_map, List.map_map]; rfl
      · intro m hm
        rcases List.mem_append.1 hm with hm | hm
        · obtain ⟨x, hx, rfl⟩ := List.mem_map.1 hm
          have := h.row.mem hx
          omega
        · simp at hm; omega
    have hW : forgetW nameW below S L = ((forgetL nameW below (pre.map SG.first ++ [s.first]) U).1, { L.all with err := (forgetL nameW below (pre.map SG.first ++ [s.first]) U).1 }, (forgetL nameW below (pre.map SG.first ++ [s.first]) U).2) := by
      unfold forgetW
      rw [u1, if_pos rfl, hsegs]
    rcases forget_row below (wholeK s) hlim pre a U h.row u2.files u2.on with ⟨T, i, t1, t2, t3, t4, t5, t6, t7, t8⟩ | ⟨T, i, t1, t2, t3, t4, t5, t6, t7⟩
    · have t1 : forgetL nameW below (pre.map SG.first ++ [s.first]) U = (0, T) := t1
      obtain ⟨b, b1, b2⟩ := h.row.drop i t2
      refine .inl ⟨T, i, b, by rw [hW, t1]; rfl, t2, ?_, b2, ?_, t6.trans u3.armed, t7.trans u3.room, by have := u3.uses; omega⟩
      · exact ⟨t5, b1, t3, u2.small, u2.ne, u2.file, u2.size, u2.next, u2.lim, u2.low, u2.safe, u2.kept, rfl, fun _ => rfl⟩
      · simp only [List.map_append, List.map_cons, List.map_nil]; exact t4
    · have t1 : forgetL nameW below (pre.map SG.first ++ [s.first]) U = (7, T) := t1
      obtain ⟨b, b1, b2⟩ := h.row.drop i t2
      refine .inr ⟨T, _, by rw [hW, t1], rfl, t5, fun k => t6 (u3.armed.trans k), by have := u3.uses; omega, .inr ⟨i, b, t2, ?_, b2, ?_⟩⟩
      · exact ⟨b1, t3, h.small, hlim, Nat.le_refl _, by
          show (bytesOf s.first s.recs).length = (bytesOf s.first (s.recs.take s.recs.length)).length
          rw [List.take_of_length_le (Nat.le_refl _)]⟩
      · rcases t4 with t4 | t4
        · exact .inl t4
        · rw [b2]; exact .inr t4
  · refine .inr ⟨U, L.off, ?_, rfl, u3, fun k => ?_, by have := u4.uses; omega, .inl u2⟩
    · unfold forgetW
      rw [u1, if_neg (by simp)]
    · rw [u4.calm h.on k] at u3; cases u3
theorem forget_emp (below : Int) (h : Emp S L) : forgetW nameW below S L = (0, L, S) := by
  have hsegs : segs S nameW = [] := segs_of (ns := []) (by rw [h.files]; rfl) (by simp)
  unfold forgetW
  rw [commit_emp h, if_pos rfl, hsegs]
  have e := h.err
  obtain ⟨f, z, n, b, sf, er⟩ := L
  simp only at e
  subst e; rfl
end Wal
end Go.Proofs.YtmdkjcigmhgpeaaGreatDoor
