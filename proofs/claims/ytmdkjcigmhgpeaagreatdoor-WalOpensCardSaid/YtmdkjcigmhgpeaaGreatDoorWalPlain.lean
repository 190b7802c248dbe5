/- The log as plain data: its segments, what is read of them, what each use answers and leaves. No program in sight. -/
import Derived.Test.YtmdkjcigmhgpeaaGreatDoorSnapPlain
namespace Go.Proofs.YtmdkjcigmhgpeaaGreatDoor
open SealMath in
/-- A number's eight bytes, the highest first. -/
def be8 (n : Nat) : List UInt8 := (le 8 n).reverse
theorem be8_length (n : Nat) : (be8 n).length = 8 := by simp [be8, SealMath.le_length]
namespace Wal
open SealMath Dsk Snp

structure LG where
  file : ByteArray
  size : Nat
  next : Nat
  fresh : Bool
  safe : Nat
  err : Nat

/-- A segment's file. -/
def segL (name : List UInt8) (n : Nat) : List UInt8 := name ++ 46 :: dec8 n
def seg (name : ByteArray) (n : Nat) : ByteArray := bts (segL (lst name) n)
theorem lst_seg (name : ByteArray) (n : Nat) : lst (seg name n) = segL (lst name) n := rfl
theorem valL_dec8 (n : Nat) (h : n ≤ 99999999) : valL (dec8 n) = n := by
  unfold dec8
  rw [valL_noughts, valL_dec n (by omega)]
theorem seg_size (name : ByteArray) (n : Nat) (h : n ≤ 99999999) : (seg name n).size = name.size + 9 := by
  show (lst name ++ 46 :: dec8 n).length = _
  rw [List.length_append, List.length_cons, dec8_len n (by omega), lst_length]
theorem seg_drop (name : ByteArray) (n : Nat) : (lst (seg name n)).drop (name.size + 1) = dec8 n := by
  rw [lst_seg, segL, ← lst_length, List.drop_append]
  simp
theorem seg_inj {name : ByteArray} {m n : Nat} (hm : m ≤ 99999999) (hn : n ≤ 99999999) (h : seg name m = seg name n) : m = n := by
  have h1 := congrArg (fun s => (lst s).drop (name.size + 1)) h
  simp only [seg_drop] at h1
  exact dec8_inj (by omega) (by omega) h1
/-- The number of a segment's file. -/
def numOf (name s : ByteArray) : Option Nat :=
  if valL ((lst s).drop (name.size + 1)) ≤ 99999999 ∧ lst s = segL (lst name) (valL ((lst s).drop (name.size + 1))) then some (valL ((lst s).drop (name.size + 1))) else none
theorem numOf_some {name s : ByteArray} {n : Nat} : numOf name s = some n ↔ n ≤ 99999999 ∧ s = seg name n := by
  unfold numOf
  constructor
  · intro h
    split at h
    · rename_i hc
      obtain rfl := Option.some.inj h
      exact ⟨hc.1, lst_inj hc.2⟩
    · cases h
  · rintro ⟨hn, rfl⟩
    have e : valL ((lst (seg name n)).drop (name.size + 1)) = n := by rw [seg_drop, valL_dec8 n hn]
    rw [e, if_pos ⟨hn, rfl⟩]
/-- What the names of all segments begin with. -/
def front (name : ByteArray) : ByteArray := bts (lst name ++ [46])
theorem seg_starts (name : ByteArray) (n : Nat) : starts (front name) (seg name n) = true := by
  unfold starts
  rw [lst_seg, List.isPrefixOf_iff_prefix]
  exact ⟨dec8 n, by show (lst name ++ [46]) ++ dec8 n = lst name ++ 46 :: dec8 n; simp⟩
/-- The numbers of all segments. -/
def segs (S : DS) (name : ByteArray) : List Nat := (namesOf S [front name]).filterMap (numOf name)
theorem segs_le {S : DS} {name : ByteArray} {n : Nat} (h : n ∈ segs S name) : n ≤ 99999999 := by
  obtain ⟨s, _, hs⟩ := List.mem_filterMap.1 h
  exact (numOf_some.1 hs).1
theorem segs_there {S : DS} (hs : Sorted S.files) {name : ByteArray} {n : Nat} (h : n ∈ segs S name) : (get S.files (seg name n)).isSome = true := by
  obtain ⟨s, h1, h2⟩ := List.mem_filterMap.1 h
  obtain ⟨_, rfl⟩ := numOf_some.1 h2
  exact names_there hs h1
theorem segs_length (S : DS) (name : ByteArray) : (segs S name).length ≤ S.files.length :=
  Nat.le_trans (List.length_filterMap_le _ _) (names_count S _)

/-! ### what is read -/
/-- Records with their numbers. -/
abbrev RC := Nat × ByteArray
def num : Nat → List (List UInt8) → List RC
  | _, [] => []
  | n, x :: r => (n, bts x) :: num (n + 1) r
theorem num_length (n : Nat) (l : List (List UInt8)) : (num n l).length = l.length := by
  induction l generalizing n with
  | nil => rfl
  | cons x r ih => simp [num, ih]
theorem num_append (n : Nat) (a b : List (List UInt8)) : num n (a ++ b) = num n a ++ num (n + a.length) b := by
  induction a generalizing n with
  | nil => rfl
  | cons x r ih => simp [num, ih, Nat.add_assoc, Nat.add_comm 1]
def readF : Nat → List (List UInt8) → List (List UInt8) × Nat × Bool
  | _, [] => ([], 0, true)
  | n, x :: r => if x.take 8 = be8 n then (x.drop 8 :: (readF (n + 1) r).1, x.length + 12 + (readF (n + 1) r).2.1, (readF (n + 1) r).2.2) else ([], 0, false)
/-- A segment's records, how many bytes they have, whether nothing stands behind. -/
def readW (s : List UInt8) (n : Nat) : List (List UInt8) × Nat × Bool :=
  ((readF n (allL s).1).1, (readF n (allL s).1).2.1, (readF n (allL s).1).2.2 && decide ((allL s).2.1 = s.length))
theorem readF_length (n : Nat) (l : List (List UInt8)) : (readF n l).1.length ≤ l.length := by
  induction l generalizing n with
  | nil => exact Nat.le_refl _
  | cons x r ih =>
    unfold readF
    split
    · have := ih (n + 1); simp; omega
    · simp
theorem readF_end (n : Nat) (l : List (List UInt8)) : (readF n l).2.1 ≤ (framesL l).length := by
  induction l generalizing n with
  | nil => exact Nat.le_refl _
  | cons x r ih =>
    unfold readF
    split
    · have := ih (n + 1)
      rw [framesL_cons, List.length_append, frameL_length]
      simp only
      omega
    · exact Nat.zero_le _
theorem readF_small (n : Nat) (l : List (List UInt8)) : ∀ x ∈ (readF n l).1, x.length ≤ (framesL l).length := by
  induction l generalizing n with
  | nil => intro x hx; simp [readF] at hx
  | cons y r ih =>
    intro x hx
    unfold readF at hx
    rw [framesL_cons, List.length_append, frameL_length]
    split at hx
    · rcases List.mem_cons.1 hx with rfl | hx
      · simp; omega
      · have := ih (n + 1) x hx; omega
    · simp at hx

/-! ### Open -/
/-- The last segment: what stands behind its records is cut off; it is synced. -/
def lastS (S : DS) (f : ByteArray) (k : Nat) : Nat × DS :=
  if k < (Dsk.read S f).1.size then (if (cut S f k).1 = 0 then sync (cut S f k).2 [f] else cut S f k) else sync S [f]
def placed (name : ByteArray) (S : DS) (n : Nat) (L : LG) : LG :=
  ⟨seg name n, (readW (lst (Dsk.read S (seg name n)).1) n).2.1, n + (readW (lst (Dsk.read S (seg name n)).1) n).1.length, false, L.safe, L.err⟩
def recsAt (name : ByteArray) (S : DS) (n : Nat) : List RC := num n (readW (lst (Dsk.read S (seg name n)).1) n).1
def wholeAt (name : ByteArray) (S : DS) (n : Nat) : Bool := (readW (lst (Dsk.read S (seg name n)).1) n).2.2
def loadL (name : ByteArray) (S : DS) : List Nat → List RC → LG → Nat × List RC × LG × DS
  | [], out, L => (0, out, L, S)
  | [n], out, L => ((lastS S (seg name n) (placed name S n L).size).1, if (lastS S (seg name n) (placed name S n L).size).1 = 0 then out ++ recsAt name S n else [], placed name S n L, (lastS S (seg name n) (placed name S n L).size).2)
  | n :: m :: r, out, L => if wholeAt name S n = true ∧ m = (placed name S n L).next then loadL name S (m :: r) (out ++ recsAt name S n) (placed name S n L) else (11, [], L, S)
def emptyL (first : Nat) : LG := ⟨⟨#[]⟩, 0, first, false, 0, 0⟩
def openW (S : DS) (name : ByteArray) (first : Nat) : Nat × List RC × LG × DS :=
  ((loadL name S (segs S name) [] (emptyL first)).1, (loadL name S (segs S name) [] (emptyL first)).2.1,
    { (loadL name S (segs S name) [] (emptyL first)).2.2.1 with safe := (loadL name S (segs S name) [] (emptyL first)).2.2.1.next }, (loadL name S (segs S name) [] (emptyL first)).2.2.2)

/-! ### Append, Commit, Rotate, Forget -/
def ends (L : LG) : Bool := decide (lst L.file = []) || L.fresh || decide (16384 ≤ L.size)
def commitW (S : DS) (L : LG) : Nat × LG × DS :=
  if L.err ≠ 0 ∨ L.safe = L.next then (L.err, L, S)
  else if (sync S [L.file]).1 = 0 then (0, { L with safe := L.next }, (sync S [L.file]).2) else ((sync S [L.file]).1, { L with err := (sync S [L.file]).1 }, (sync S [L.file]).2)
def rotateW (S : DS) (L : LG) : Nat × LG × DS :=
  if (commitW S L).1 = 0 then (0, { (commitW S L).2.1 with fresh := decide (0 < (commitW S L).2.1.size) }, (commitW S L).2.2) else commitW S L
def forgetL (name : ByteArray) (below : Int) : List Nat → DS → Nat × DS
  | n :: m :: r, S => if (m : Int) ≤ below then (if (delete S (seg name n)).1 = 0 then forgetL name below (m :: r) (delete S (seg name n)).2 else delete S (seg name n)) else (0, S)
  | _, S => (0, S)
def forgetW (name : ByteArray) (below : Int) (S : DS) (L : LG) : Nat × LG × DS :=
  if (commitW S L).1 = 0 then
    ((forgetL name below (segs (commitW S L).2.2 name) (commitW S L).2.2).1,
      { (commitW S L).2.1 with err := (forgetL name below (segs (commitW S L).2.2 name) (commitW S L).2.2).1 },
      (forgetL name below (segs (commitW S L).2.2 name) (commitW S L).2.2).2)
  else commitW S L
/-- A record's bytes, in their frame. -/
def recB (n : Nat) (x : List UInt8) : List UInt8 := frameL (be8 n ++ x)
theorem recB_length (n : Nat) (x : List UInt8) : (recB n x).length = x.length + 20 := by
  unfold recB; rw [frameL_length, List.length_append, be8_length]; omega
/-- Where the record goes: a new segment, perhaps. -/
def headW (name : ByteArray) (S : DS) (L : LG) : Nat × LG × DS :=
  if ends L = true then
    (if (commitW S L).1 = 0 then (0, ⟨seg name (commitW S L).2.1.next, 0, (commitW S L).2.1.next, false, (commitW S L).2.1.safe, (commitW S L).2.1.err⟩, (commitW S L).2.2) else commitW S L)
  else (0, L, S)
def putW (S : DS) (L : LG) (x : List UInt8) : (Nat × Nat) × LG × DS :=
  if (append S L.file [bts (recB L.next x)]).1 = 0 then ((L.next, 0), { L with size := L.size + (x.length + 20), next := L.next + 1 }, (append S L.file [bts (recB L.next x)]).2)
  else ((0, (append S L.file [bts (recB L.next x)]).1), { L with err := (append S L.file [bts (recB L.next x)]).1 }, (append S L.file [bts (recB L.next x)]).2)
def appendW (name : ByteArray) (S : DS) (L : LG) (x : List UInt8) : (Nat × Nat) × LG × DS :=
  if L.err ≠ 0 then ((0, L.err), L, S)
  else if 65000 < x.length ∨ 99999999 ≤ L.next then ((0, 5), L, S)
  else if free S < (x.length : Int) + 20 ∨ (ends L = true ∧ 100 ≤ S.files.length) then ((0, 6), L, S)
  else if (headW name S L).1 = 0 then putW (headW name S L).2.2 (headW name S L).2.1 x
  else ((0, (headW name S L).1), (headW name S L).2.1, (headW name S L).2.2)
end Wal
end Go.Proofs.YtmdkjcigmhgpeaaGreatDoor
