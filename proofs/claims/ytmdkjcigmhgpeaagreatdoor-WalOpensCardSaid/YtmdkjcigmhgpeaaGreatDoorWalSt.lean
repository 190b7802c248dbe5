/- The log under way: what lies on its disk, through Commit, Rotate, Append, Forget. No program in sight. -/
import Derived.Test.YtmdkjcigmhgpeaaGreatDoorWalKeep
namespace Go.Proofs.YtmdkjcigmhgpeaaGreatDoor
namespace Wal
open SealMath Dsk Snp

structure SG where
  first : Nat
  recs : List (List UInt8)
  kept : Nat
/-- The log's name in all laws. -/
def nameW : ByteArray := ⟨#[119]⟩
def fileOf (s : SG) : FD := ⟨seg nameW s.first, bts (bytesOf s.first s.recs), s.kept⟩
def wholeK (s : SG) : SG := ⟨s.first, s.recs, (bytesOf s.first s.recs).length⟩
/-- Whole segments, from one number up to another. -/
def Row : Nat → List SG → Nat → Prop
  | n, [], m => n = m
  | n, s :: r, m => s.first = n ∧ s.recs ≠ [] ∧ (∀ x ∈ s.recs, x.length ≤ 65000) ∧ s.kept = (bytesOf s.first s.recs).length ∧ Row (n + s.recs.length) r m
def flat (l : List SG) : List (List UInt8) := (l.map SG.recs).flatten
theorem flat_append (a b : List SG) : flat (a ++ b) = flat a ++ flat b := by simp [flat]
theorem flat_one (s : SG) : flat [s] = s.recs := by simp [flat]
theorem Row.next {l : List SG} : ∀ {n m : Nat}, Row n l m → m = n + (flat l).length := by
  induction l with
  | nil => intro n m h; simp [flat]; exact h.symm
  | cons s r ih =>
    intro n m h
    have := ih h.2.2.2.2
    simp [flat] at this ⊢
    omega
theorem Row.mem {l : List SG} : ∀ {n m : Nat} {s : SG}, Row n l m → s ∈ l → n ≤ s.first ∧ s.first < m := by
  induction l with
  | nil => intro n m s _ hs; cases hs
  | cons x r ih =>
    intro n m s h hs
    obtain ⟨h1, h2, h3, h4, h5⟩ := h
    have hlen : 0 < x.recs.length := List.length_pos_iff.2 h2
    have hm := h5.next
    rcases List.mem_cons.1 hs with rfl | hs
    · omega
    · have := ih h5 hs
      omega
theorem Row.snoc {l : List SG} : ∀ {n m : Nat} {s : SG}, Row n l m → s.first = m → s.recs ≠ [] → (∀ x ∈ s.recs, x.length ≤ 65000) → s.kept = (bytesOf s.first s.recs).length → Row n (l ++ [s]) (m + s.recs.length) := by
  induction l with
  | nil =>
    intro n m s h h1 h2 h3 h4
    have h : n = m := h
    subst h
    exact ⟨h1, h2, h3, h4, rfl⟩
  | cons x r ih =>
    intro n m s h h1 h2 h3 h4
    obtain ⟨k1, k2, k3, k4, k5⟩ := h
    exact ⟨k1, k2, k3, k4, ih k5 h1 h2 h3 h4⟩
theorem Row.keys {l : List SG} {n m k : Nat} (h : Row n l m) (hk : m ≤ k) (hl : k ≤ 99999999) : ∀ g ∈ l.map fileOf, g.key < lst (seg nameW k) := by
  intro g hg
  obtain ⟨s, hs, rfl⟩ := List.mem_map.1 hg
  have := h.mem hs
  exact seg_lt (by omega) hl
theorem Row.small {l : List SG} : ∀ {n m : Nat}, Row n l m → ∀ x ∈ flat l, x.length ≤ 65000 := by
  induction l with
  | nil => intro n m _ x hx; simp [flat] at hx
  | cons s r ih =>
    intro n m h x hx
    have e : flat (s :: r) = s.recs ++ flat r := by simp [flat]
    rw [e] at hx
    rcases List.mem_append.1 hx with hx | hx
    · exact h.2.2.1 x hx
    · exact ih h.2.2.2.2 x hx
theorem may_seg (n : Nat) (h : n ≤ 99999999) : may (seg nameW n) = true := by
  have e := seg_size nameW n h
  have e2 : nameW.size = 1 := rfl
  unfold may
  rw [decide_eq_true (by omega), decide_eq_true (by omega)]; rfl

/-- A log with a segment at least. -/
structure Stp (S : DS) (L : LG) (a : Nat) (pre : List SG) (s : SG) : Prop where
  on : S.off = false
  row : Row a pre s.first
  files : S.files = pre.map fileOf ++ [fileOf s]
  small : ∀ x ∈ s.recs, x.length ≤ 65000
  ne : s.recs ≠ []
  file : L.file = seg nameW s.first
  size : L.size = (bytesOf s.first s.recs).length
  next : L.next = s.first + s.recs.length
  lim : L.next ≤ 99999999
  low : s.first ≤ L.safe
  safe : L.safe ≤ L.next
  kept : s.kept = (bytesOf s.first (s.recs.take (L.safe - s.first))).length
  err : L.err = 0
  fresh : L.fresh = true → L.safe = L.next
/-- A log without a segment. -/
structure Emp (S : DS) (L : LG) : Prop where
  on : S.off = false
  files : S.files = []
  file : L.file = ⟨#[]⟩
  size : L.size = 0
  next : L.next = 0
  fresh : L.fresh = false
  safe : L.safe = 0
  err : L.err = 0
variable {S : DS} {L : LG} {a : Nat} {pre : List SG} {s : SG}
theorem Stp.keys (h : Stp S L a pre s) : ∀ g ∈ pre.map fileOf, g.key < (fileOf s).key := by
  have := h.next; have := h.lim
  exact h.row.keys (Nat.le_refl _) (by omega)
theorem Stp.get (h : Stp S L a pre s) : Dsk.get S.files (seg nameW s.first) = some (fileOf s) := by
  rw [h.files]; exact get_last (fileOf s) _ h.keys
theorem Stp.may (h : Stp S L a pre s) : Dsk.may (seg nameW s.first) = true := may_seg _ (by have := h.next; have := h.lim; omega)
theorem Stp.pos (h : Stp S L a pre s) : 0 < s.recs.length := List.length_pos_iff.2 h.ne
theorem Stp.full (h : Stp S L a pre s) (hs : L.safe = L.next) : wholeK s = s := by
  have h1 := h.kept
  rw [hs, h.next, Nat.add_sub_cancel_left, List.take_of_length_le (Nat.le_refl _)] at h1
  unfold wholeK
  rw [← h1]
def LG.all (L : LG) : LG := ⟨L.file, L.size, L.next, L.fresh, L.next, 0⟩
def LG.off (L : LG) : LG := ⟨L.file, L.size, L.next, L.fresh, L.safe, 7⟩
theorem Stp.whole {T : DS} (h : Stp S L a pre s) (ho : T.off = false) (hf : T.files = pre.map fileOf ++ [fileOf (wholeK s)]) : Stp T L.all a pre (wholeK s) where
  on := ho
  row := h.row
  files := hf
  small := h.small
  ne := h.ne
  file := h.file
  size := h.size
  next := h.next
  lim := h.lim
  low := by show s.first ≤ L.next; have := h.next; omega
  safe := Nat.le_refl _
  kept := by
    show (bytesOf s.first s.recs).length = (bytesOf s.first (s.recs.take (L.next - s.first))).length
    rw [h.next, Nat.add_sub_cancel_left, List.take_of_length_le (Nat.le_refl _)]
  err := rfl
  fresh := fun _ => rfl
theorem Goes.refl (S : DS) : Goes S S := ⟨rfl, Nat.le_succ _, rfl, fun h _ => h⟩
theorem Stp.synced (h : Stp S L a pre s) : S.files.map (keepOne [seg nameW s.first]) = pre.map fileOf ++ [fileOf (wholeK s)] := by
  rw [h.files]
  exact keep_last (fileOf s) _ h.keys
theorem commit_way (h : Stp S L a pre s) :
    (∃ T, commitW S L = (0, L.all, T) ∧ Stp T L.all a pre (wholeK s) ∧ Goes S T ∧ (L.safe = L.next → T = S)) ∨ (∃ T, commitW S L = (7, L.off, T) ∧ L.safe ≠ L.next ∧ T.files = S.files ∧ T.off = true ∧ Goes S T) := by
  by_cases hs : L.safe = L.next
  · refine .inl ⟨S, ?_, h.whole h.on (by rw [h.full hs]; exact h.files), Goes.refl S, fun _ => rfl⟩
    unfold commitW
    rw [if_pos (.inr hs)]
    have e := h.err
    obtain ⟨f, z, n, b, sf, er⟩ := L
    simp only [LG.all] at hs e ⊢
    subst hs; subst e; rfl
  · have e0 : ¬ (L.err ≠ 0 ∨ L.safe = L.next) := by
      rintro (k | k)
      · exact k h.err
      · exact hs k
    rcases sync_way S (n := seg nameW s.first) h.may (by rw [h.get]; rfl) with ⟨T, h1, h2, h3, _, h5⟩ | ⟨T, h1, h2, h3, h4⟩
    · refine .inl ⟨T, ?_, h.whole h3 (by rw [h2]; exact h.synced), h5, fun k => absurd k hs⟩
      unfold commitW
      rw [if_neg e0, h.file, h1, if_pos rfl]
      have e := h.err
      obtain ⟨f, z, n, b, sf, er⟩ := L
      simp only [LG.all] at e ⊢
      subst e
      rw [show f = seg nameW s.first from h.file]
    · refine .inr ⟨T, ?_, hs, h2, h3, h4⟩
      unfold commitW
      rw [if_neg e0, h.file, h1, if_neg (by simp)]
      unfold LG.off
      rw [h.file]
theorem commit_emp (h : Emp S L) : commitW S L = (0, L, S) := by
  unfold commitW
  rw [if_pos (.inr (h.safe.trans h.next.symm)), h.err]
def LG.turn (L : LG) : LG := ⟨L.file, L.size, L.next, true, L.next, 0⟩
theorem Stp.turn (h : Stp S L a pre s) (hs : L.safe = L.next) : Stp S L.turn a pre s :=
  ⟨h.on, h.row, h.files, h.small, h.ne, h.file, h.size, h.next, h.lim, by show s.first ≤ L.next; have := h.next; omega, Nat.le_refl _, by have := h.kept; rw [hs] at this; exact this, rfl, fun _ => rfl⟩
theorem Stp.size_pos (h : Stp S L a pre s) : 0 < L.size := by
  rw [h.size]
  have := h.pos
  cases hr : s.recs with
  | nil => rw [hr] at this; simp at this
  | cons x r => rw [bytesOf_cons, List.length_append, recB_length]; omega
theorem rotate_way (h : Stp S L a pre s) :
    (∃ T, rotateW S L = (0, L.turn, T) ∧ Stp T L.turn a pre (wholeK s) ∧ Goes S T) ∨ (∃ T, rotateW S L = (7, L.off, T) ∧ T.files = S.files ∧ T.off = true ∧ Goes S T) := by
  rcases commit_way h with ⟨T, h1, h2, h3, _⟩ | ⟨T, h1, _, h2, h3, h4⟩
  · refine .inl ⟨T, ?_, h2.turn rfl, h3⟩
    unfold rotateW
    rw [h1, if_pos rfl]
    show ((0, ({ L.all with fresh := decide (0 < L.size) } : LG), T) : Nat × LG × DS) = _
    rw [decide_eq_true h.size_pos]
    rfl
  · refine .inr ⟨T, ?_, h2, h3, h4⟩
    unfold rotateW
    rw [h1, if_neg (by simp)]
theorem rotate_emp (h : Emp S L) : rotateW S L = (0, L, S) := by
  unfold rotateW
  rw [commit_emp h, if_pos rfl]
  have e1 := h.size; have e2 := h.fresh
  obtain ⟨f, z, n, b, sf, er⟩ := L
  simp only at e1 e2 ⊢
  subst e1; subst e2; rfl

/-! ### Append -/
def LG.more (L : LG) (x : List UInt8) : LG := ⟨L.file, L.size + (x.length + 20), L.next + 1, L.fresh, L.safe, L.err⟩
theorem bts_append (a b : List UInt8) : bts a ++ bts b = bts (a ++ b) := lst_inj (by rw [lst_append]; rfl)
theorem bytesOf_snoc (n : Nat) (l : List (List UInt8)) (x : List UInt8) : bytesOf n (l ++ [x]) = bytesOf n l ++ recB (n + l.length) x := by rw [bytesOf_append, bytesOf_one]
/-- A record behind the last ones. -/
theorem put_way (h : Stp S L a pre s) (hsS : Sorted S.files) (hfr : L.fresh = false) (x : List UInt8) (hx : x.length ≤ 65000) (hl : L.size + (x.length + 20) ≤ 1048576) (hr : (x.length : Int) + 20 ≤ free S) (hlim : L.next < 99999999) :
    (∃ T, putW S L x = ((L.next, 0), L.more x, T) ∧ Stp T (L.more x) a pre ⟨s.first, s.recs ++ [x], s.kept⟩ ∧ Goes S T ∧ used T.files = used S.files + (x.length + 20) ∧ T.files.length = S.files.length ∧ Sorted T.files) ∨
    (∃ T, putW S L x = ((0, 7), L.off, T) ∧ T.files = S.files ∧ T.off = true ∧ Goes S T) := by
  have hz : (bts (recB L.next x)).size = x.length + 20 := by rw [bts_size, recB_length]
  have hd : (fileOf s).data.size = L.size := by rw [h.size]; rfl
  have hg : (Dsk.get S.files L.file).getD ⟨L.file, ⟨#[]⟩, 0⟩ = fileOf s := by rw [h.file, h.get]; rfl
  rcases append_way S (n := L.file) (x := bts (recB L.next x)) (by rw [h.file]; exact h.may) hg (by rw [hd, hz]; exact hl) (.inl (by rw [h.file, h.get]; rfl)) (by rw [hz]; omega) with ⟨T, h1, h2, h3, _, h5⟩ | ⟨T, h1, h2, h3, h4⟩
  · have hput := h2
    have e : (⟨L.file, (fileOf s).data ++ bts (recB L.next x), (fileOf s).kept⟩ : FD) = fileOf ⟨s.first, s.recs ++ [x], s.kept⟩ := by
      unfold fileOf
      rw [h.file, bytesOf_snoc, ← h.next, bts_append]
    rw [e, h.files, put_same (fileOf ⟨s.first, s.recs ++ [x], s.kept⟩) (fileOf s) _ rfl h.keys] at h2
    refine .inl ⟨T, ?_, ?_, h5, ?_, ?_, by rw [hput]; exact sorted_put hsS _⟩
    · unfold putW
      rw [h1, if_pos rfl]; rfl
    · exact {
        on := h3, row := h.row, files := h2
        small := fun y hy => by
          rcases List.mem_append.1 hy with hy | hy
          · exact h.small y hy
          · simp at hy; rw [hy]; exact hx
        ne := by simp
        file := h.file
        size := by
          show L.size + (x.length + 20) = _
          rw [bytesOf_snoc, List.length_append, recB_length, h.size]
        next := by
          show L.next + 1 = s.first + (s.recs ++ [x]).length
          rw [List.length_append, h.next, List.length_singleton, Nat.add_assoc]
        lim := by show L.next + 1 ≤ _; omega
        low := h.low
        safe := by show L.safe ≤ L.next + 1; have := h.safe; omega
        kept := by
          show s.kept = (bytesOf s.first ((s.recs ++ [x]).take (L.safe - s.first))).length
          have := h.safe; have := h.next
          rw [List.take_append_of_le_length (by omega)]
          exact h.kept
        err := h.err
        fresh := fun k => by
          have : L.fresh = true := k
          rw [hfr] at this; cases this }
    · have := put_used hsS (⟨L.file, (fileOf s).data ++ bts (recB L.next x), (fileOf s).kept⟩ : FD)
      rw [← hput] at this
      have hg2 : Dsk.get S.files L.file = some (fileOf s) := by rw [h.file]; exact h.get
      rw [hg2] at this
      simp only [Option.map_some, Option.getD_some, ByteArray.size_append, hz] at this
      omega
    · rw [hput, put_length hsS]
      have hg2 : Dsk.get S.files L.file = some (fileOf s) := by rw [h.file]; exact h.get
      simp only [hg2, Option.isSome_some, if_true]
  · refine .inr ⟨T, ?_, h2, h3, h4⟩
    unfold putW
    rw [h1, if_neg (by simp)]; rfl
/-- A record of a new segment. -/
theorem put_first (hsS : Sorted S.files) (hrow : Row a pre L.next) (hf : S.files = pre.map fileOf) (hfile : L.file = seg nameW L.next) (hsize : L.size = 0) (hsafe : L.safe = L.next) (herr : L.err = 0) (hfr : L.fresh = false)
    (x : List UInt8) (hx : x.length ≤ 65000) (hr : (x.length : Int) + 20 ≤ free S) (hlim : L.next < 99999999) (hc : S.files.length < 100) :
    (∃ T, putW S L x = ((L.next, 0), L.more x, T) ∧ Stp T (L.more x) a pre ⟨L.next, [x], 0⟩ ∧ Goes S T ∧ used T.files = used S.files + (x.length + 20) ∧ T.files.length = S.files.length + 1 ∧ Sorted T.files) ∨
    (∃ T, putW S L x = ((0, 7), L.off, T) ∧ T.files = S.files ∧ T.off = true ∧ Goes S T) := by
  have hz : (bts (recB L.next x)).size = x.length + 20 := by rw [bts_size, recB_length]
  have hkeys := hrow.keys (Nat.le_refl _) (show L.next ≤ 99999999 by omega)
  have hgn : Dsk.get S.files L.file = none := by rw [hf, hfile]; exact get_fresh _ _ hkeys
  have hg : (Dsk.get S.files L.file).getD ⟨L.file, ⟨#[]⟩, 0⟩ = ⟨L.file, ⟨#[]⟩, 0⟩ := by rw [hgn]; rfl
  rcases append_way S (n := L.file) (x := bts (recB L.next x)) (by rw [hfile]; exact may_seg _ (by omega)) hg (by rw [hz]; show 0 + _ ≤ _; omega) (.inr hc) (by rw [hz]; omega) with ⟨T, h1, h2, h3, _, h5⟩ | ⟨T, h1, h2, h3, h4⟩
  · have hput := h2
    have e : (⟨L.file, (⟨#[]⟩ : ByteArray) ++ bts (recB L.next x), 0⟩ : FD) = fileOf ⟨L.next, [x], 0⟩ := by
      unfold fileOf
      rw [hfile, bytesOf_one]
      congr 1
    have h2 : T.files = put (⟨L.file, (⟨#[]⟩ : ByteArray) ++ bts (recB L.next x), 0⟩ : FD) S.files := h2
    rw [e, hf, put_new (fileOf ⟨L.next, [x], 0⟩) _ hkeys] at h2
    refine .inl ⟨T, ?_, ?_, h5, ?_, ?_, by rw [hput]; exact sorted_put hsS _⟩
    · unfold putW
      rw [h1, if_pos rfl]; rfl
    · exact {
        on := h3, row := hrow, files := h2
        small := fun y hy => by simp at hy; rw [hy]; exact hx
        ne := by simp
        file := hfile
        size := by
          show L.size + (x.length + 20) = _
          rw [bytesOf_one, recB_length, hsize, Nat.zero_add]
        next := rfl
        lim := by show L.next + 1 ≤ _; omega
        low := by show L.next ≤ L.safe; omega
        safe := by show L.safe ≤ L.next + 1; omega
        kept := by
          show 0 = (bytesOf L.next (([x] : List (List UInt8)).take (L.safe - L.next))).length
          rw [hsafe, Nat.sub_self]; rfl
        err := herr
        fresh := fun k => by
          have : L.fresh = true := k
          rw [hfr] at this; cases this }
    · have := put_used hsS (⟨L.file, (⟨#[]⟩ : ByteArray) ++ bts (recB L.next x), 0⟩ : FD)
      rw [← hput] at this
      rw [hgn] at this
      simp only [Option.map_none, Option.getD_none, ByteArray.size_append, hz] at this
      have e0 : (⟨#[]⟩ : ByteArray).size = 0 := rfl
      rw [e0] at this
      omega
    · rw [hput, put_length hsS]
      have hgn2 : Dsk.get S.files (⟨L.file, (⟨#[]⟩ : ByteArray) ++ bts (recB L.next x), 0⟩ : FD).name = none := hgn
      rw [if_neg (by rw [hgn2]; simp)]
  · refine .inr ⟨T, ?_, h2, h3, h4⟩
    unfold putW
    rw [h1, if_neg (by simp)]; rfl
theorem ends_emp (h : Emp S L) : ends L = true := by
  unfold ends
  rw [h.file]; rfl
theorem ends_stp (h : Stp S L a pre s) : ends L = (L.fresh || decide (16384 ≤ L.size)) := by
  have hne : ¬ lst L.file = [] := by
    intro e
    have h1 := congrArg List.length e
    rw [lst_length, h.file, seg_size _ _ (by have := h.next; have := h.lim; omega)] at h1
    simp at h1
  unfold ends
  rw [decide_eq_false hne, Bool.false_or]
/-- What Append leaves. -/
structure More (S T : DS) (L M : LG) (x : List UInt8) : Prop where
  next : M.next = L.next + 1
  fresh : M.fresh = false
  safe : M.safe = if ends L = true then L.next else L.safe
  size : M.size ≤ L.size + (x.length + 20)
  room : T.room = S.room
  armed : T.armed = S.armed
  uses : T.uses ≤ S.uses + 2
  used : used T.files = used S.files + (x.length + 20)
  len : T.files.length = S.files.length + if ends L = true then 1 else 0
  sorted : Sorted T.files
theorem keep_len (S : DS) (n : ByteArray) : (S.files.map (keepOne [n])).length = S.files.length := by simp
theorem append_stp (h : Stp S L a pre s) (hsS : Sorted S.files) (x : List UInt8) (hx : x.length ≤ 65000) (hl : L.size + (x.length + 20) ≤ 1048576) (hr : (x.length : Int) + 20 ≤ free S) (hlim : L.next < 99999999) (hc : S.files.length < 100) :
    (∃ T M p t, appendW nameW S L x = ((L.next, 0), M, T) ∧ Stp T M a p t ∧ More S T L M x ∧
      ((ends L = false ∧ p = pre ∧ t = ⟨s.first, s.recs ++ [x], s.kept⟩) ∨ (ends L = true ∧ p = pre ++ [wholeK s] ∧ t = ⟨L.next, [x], 0⟩))) ∨
    (∃ T M, appendW nameW S L x = ((0, 7), M, T) ∧ M.err = 7 ∧ T.off = true ∧ (L.size < 16384 → T.files = S.files) ∧ T.uses ≤ S.uses + 2 ∧ T.room = S.room ∧ T.armed = S.armed ∧ (S.armed = false → False)) := by
  have e1 : ¬ L.err ≠ 0 := fun k => k h.err
  have e2 : ¬ (65000 < x.length ∨ 99999999 ≤ L.next) := by omega
  have e3 : ¬ (free S < (x.length : Int) + 20 ∨ (ends L = true ∧ 100 ≤ S.files.length)) := by omega
  cases he : ends L with
  | false =>
    have hfr : L.fresh = false := by
      rw [ends_stp h, Bool.or_eq_false_iff] at he; exact he.1
    have hh : headW nameW S L = (0, L, S) := by unfold headW; rw [he, if_neg (by simp)]
    have hA : appendW nameW S L x = putW S L x := by
      unfold appendW
      rw [if_neg e1, if_neg e2, if_neg e3, hh, if_pos rfl]
    rw [hA]
    rcases put_way h hsS hfr x hx hl hr hlim with ⟨T, h1, h2, h3, h4, h5, h6⟩ | ⟨T, h1, h2, h3, h4⟩
    · refine .inl ⟨T, _, _, _, h1, h2, ⟨rfl, hfr, by rw [he]; rfl, Nat.le_refl _, h3.room, h3.armed, by have := h3.uses; omega, h4, by rw [he]; exact h5, h6⟩, .inl ⟨rfl, rfl, rfl⟩⟩
    · refine .inr ⟨T, _, h1, rfl, h3, fun _ => h2, by have := h4.uses; omega, h4.room, h4.armed, fun k => ?_⟩
      rw [h4.calm h.on k] at h3; cases h3
  | true =>
    rcases commit_way h with ⟨U, h1, h2, h3, h4⟩ | ⟨U, h1, h2, h3, h4, h5⟩
    · have hUL : U.files.length = S.files.length := by rw [h2.files, h.files]; simp
      have hUU : used U.files = used S.files := by
        rw [h2.files, h.files]; unfold used; simp [fileOf, wholeK]
      have hUs : Sorted U.files := by
        rw [h2.files, ← h.synced]; exact keep_sorted hsS _
      have hh : headW nameW S L = (0, ⟨seg nameW L.next, 0, L.next, false, L.next, 0⟩, U) := by
        unfold headW; rw [he, if_pos rfl, h1, if_pos rfl]; rfl
      have hA : appendW nameW S L x = putW U ⟨seg nameW L.next, 0, L.next, false, L.next, 0⟩ x := by
        unfold appendW
        rw [if_neg e1, if_neg e2, he, if_neg (by rw [he] at e3; exact e3), hh, if_pos rfl]
      rw [hA]
      have hrow : Row a (pre ++ [wholeK s]) L.next := by
        have := h.row.snoc (s := wholeK s) rfl h.ne h.small rfl
        rw [h.next]; exact this
      have hfree : free U = free S := by unfold free; rw [hUU, h3.room]
      rcases put_first (L := ⟨seg nameW L.next, 0, L.next, false, L.next, 0⟩) hUs hrow (by rw [h2.files]; simp) rfl rfl rfl rfl rfl x hx (by rw [hfree]; exact hr) hlim (by omega) with ⟨T, k1, k2, k3, k4, k5, k6⟩ | ⟨T, k1, k2, k3, k4⟩
      · refine .inl ⟨T, _, _, _, k1, k2, ⟨rfl, rfl, by rw [he]; rfl, by show 0 + _ ≤ _; omega, k3.room.trans h3.room, k3.armed.trans h3.armed, by have := k3.uses; have := h3.uses; omega, by rw [k4, hUU], by rw [he, k5, hUL]; rfl, k6⟩, .inr ⟨rfl, rfl, rfl⟩⟩
      · refine .inr ⟨T, _, k1, rfl, k3, fun hz => ?_, by have := k4.uses; have := h3.uses; omega, k4.room.trans h3.room, k4.armed.trans h3.armed, fun k => ?_⟩
        · have hfr : L.fresh = true := by
            rw [ends_stp h, decide_eq_false (by omega), Bool.or_false] at he; exact he
          rw [k2, h4 (h.fresh hfr)]
        · rw [k4.calm h2.on (h3.armed.trans k)] at k3; cases k3
    · have hh : headW nameW S L = (7, L.off, U) := by
        unfold headW; rw [he, if_pos rfl, h1, if_neg (by simp)]
      have hA : appendW nameW S L x = ((0, 7), L.off, U) := by
        unfold appendW
        rw [if_neg e1, if_neg e2, he, if_neg (by rw [he] at e3; exact e3), hh, if_neg (by simp)]
      refine .inr ⟨U, _, hA, rfl, h4, fun _ => h3, by have := h5.uses; omega, h5.room, h5.armed, fun k => ?_⟩
      rw [h5.calm h.on k] at h4; cases h4
theorem append_emp (h : Emp S L) (x : List UInt8) (hx : x.length ≤ 65000) (hr : (x.length : Int) + 20 ≤ free S) :
    (∃ T M, appendW nameW S L x = ((0, 0), M, T) ∧ Stp T M 0 [] ⟨0, [x], 0⟩ ∧ More S T L M x) ∨
    (∃ T M, appendW nameW S L x = ((0, 7), M, T) ∧ M.err = 7 ∧ T.off = true ∧ T.files = S.files ∧ T.uses ≤ S.uses + 2 ∧ T.room = S.room ∧ T.armed = S.armed ∧ (S.armed = false → False)) := by
  have he := ends_emp h
  have hn := h.next
  have hlen : S.files.length = 0 := by rw [h.files]; rfl
  have e1 : ¬ L.err ≠ 0 := fun k => k h.err
  have e2 : ¬ (65000 < x.length ∨ 99999999 ≤ L.next) := by omega
  have e3 : ¬ (free S < (x.length : Int) + 20 ∨ (ends L = true ∧ 100 ≤ S.files.length)) := by omega
  have hh : headW nameW S L = (0, ⟨seg nameW 0, 0, 0, false, 0, 0⟩, S) := by
    unfold headW; rw [he, if_pos rfl, commit_emp h, if_pos rfl]
    simp only
    rw [h.next, h.safe, h.err]
  have hA : appendW nameW S L x = putW S ⟨seg nameW 0, 0, 0, false, 0, 0⟩ x := by
    unfold appendW
    rw [if_neg e1, if_neg e2, if_neg e3, hh, if_pos rfl]
  rw [hA]
  rcases put_first (a := 0) (pre := []) (L := ⟨seg nameW 0, 0, 0, false, 0, 0⟩) (by rw [h.files]; exact List.Pairwise.nil) rfl (by rw [h.files]; rfl) rfl rfl rfl rfl rfl x hx hr (by decide) (by omega) with ⟨T, k1, k2, k3, k4, k5, k6⟩ | ⟨T, k1, k2, k3, k4⟩
  · refine .inl ⟨T, _, k1, k2, ⟨by rw [hn]; rfl, rfl, by rw [he, hn]; rfl, by show 0 + _ ≤ _; omega, k3.room, k3.armed, by have := k3.uses; omega, k4, by rw [he, k5]; rfl, k6⟩⟩
  · refine .inr ⟨T, _, k1, rfl, k3, k2, by have := k4.uses; omega, k4.room, k4.armed, fun k => ?_⟩
    rw [k4.calm h.on k] at k3; cases k3
end Wal
end Go.Proofs.YtmdkjcigmhgpeaaGreatDoor
