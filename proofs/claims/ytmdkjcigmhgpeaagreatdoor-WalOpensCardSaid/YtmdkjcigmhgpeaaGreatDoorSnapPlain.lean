/- Several texts in one (each under its own head): the first: What each use of the plain disk can come to. No program in sight. -/
import Derived.Test.YtmdkjcigmhgpeaaGreatDoorDiskTurn
import Derived.Test.YtmdkjcigmhgpeaaGreatDoorBase
import Derived.Test.YtmdkjcigmhgpeaaGreatDoorSealSpec
import Derived.Test.YtmdkjcigmhgpeaaGreatDoorDiskSpec
/- What each use of the plain disk can come to. No program in sight. -/
namespace Go.Proofs.YtmdkjcigmhgpeaaGreatDoor
namespace Dsk

/-- What stays from use to use. -/
structure Goes (S T : DS) : Prop where
  room : T.room = S.room
  uses : T.uses ≤ S.uses + 1
  armed : T.armed = S.armed
  calm : S.off = false → S.armed = false → T.off = false
theorem use_goes (S : DS) : Goes S (use S).2 := by
  unfold use
  split
  · exact ⟨rfl, Nat.le_succ _, rfl, fun h _ => h⟩
  split
  · rename_i h1 h2
    exact ⟨rfl, Nat.le_refl _, rfl, fun _ h => by simp [h] at h2⟩
  split
  · rename_i h1 h2 h3
    exact ⟨rfl, Nat.le_refl _, rfl, fun h _ => h⟩
  · exact ⟨rfl, Nat.le_refl _, rfl, fun h _ => h⟩
theorem Goes.files {S T : DS} (h : Goes S T) (l : List FD) : Goes S (Dsk.files T l) := ⟨h.room, h.uses, h.armed, h.calm⟩
theorem use_off {S : DS} (h : (use S).1 = false) : (use S).2.off = true := by
  unfold use at h ⊢
  split at h
  · rw [if_pos ‹_›]; assumption
  split at h
  · rw [if_neg ‹_›, if_pos ‹_›]
  split at h <;> cases h
theorem use_on {S : DS} (h : (use S).1 = true) : (use S).2.off = false ∧ S.off = false := by
  unfold use at h ⊢
  split at h
  · cases h
  · rename_i ho
    have ho : S.off = false := by simpa using ho
    split at h
    · cases h
    · rename_i h2
      rw [if_neg (by simp [ho]), if_neg h2]
      split <;> exact ⟨ho, ho⟩
/-- A use of names that may be: done, or the power is off. -/
theorem begin_way (S : DS) {ns : List ByteArray} (hm : ∀ n ∈ ns, may n = true) :
    (begin S ns = (0, (use S).2) ∧ (use S).2.off = false ∧ S.off = false) ∨ (begin S ns = (7, (use S).2) ∧ (use S).2.off = true) := by
  have hany : ns.any (fun n => !may n) = false := by
    rw [List.any_eq_false]; intro x hx; simp [hm x hx]
  cases hu : (use S).1 with
  | false =>
    refine .inr ⟨?_, use_off hu⟩
    unfold begin
    rcases hq : use S with ⟨b, T⟩
    rw [hq] at hu
    obtain rfl : b = false := hu
    rfl
  | true =>
    refine .inl ⟨?_, use_on hu⟩
    unfold begin
    rcases hq : use S with ⟨b, T⟩
    rw [hq] at hu
    obtain rfl : b = true := hu
    simp [hany]
theorem there_way (S : DS) {n : ByteArray} (hm : may n = true) :
    (there S [n] = (0, (use S).2) ∧ (use S).2.off = false ∧ S.off = false ∧ (get S.files n).isSome = true) ∨
    (there S [n] = (8, (use S).2) ∧ (use S).2.off = false ∧ S.off = false ∧ get S.files n = none) ∨ (there S [n] = (7, (use S).2) ∧ (use S).2.off = true) := by
  rcases begin_way S (ns := [n]) (by simpa using hm) with ⟨h, h2, h3⟩ | ⟨h, h2⟩
  · cases hg : get S.files n with
    | none => exact .inr (.inl ⟨by unfold there; rw [h]; simp [hg], h2, h3, rfl⟩)
    | some f => exact .inl ⟨by unfold there; rw [h]; simp [hg], h2, h3, rfl⟩
  · exact .inr (.inr ⟨by unfold there; rw [h]; simp, h2⟩)

/-! ### the uses, one by one: done, or refused, or the power is off -/
theorem delete_way (S : DS) {n : ByteArray} (hm : may n = true) :
    (∃ T, delete S n = (0, T) ∧ T.files = drop n S.files ∧ (get S.files n).isSome = true ∧ T.off = false ∧ S.off = false ∧ Goes S T) ∨
    (∃ T, delete S n = (8, T) ∧ T.files = S.files ∧ get S.files n = none ∧ T.off = false ∧ S.off = false ∧ Goes S T) ∨
    (∃ T, delete S n = (7, T) ∧ T.files = S.files ∧ T.off = true ∧ Goes S T) := by
  rcases there_way S hm with ⟨h, h2, h3, h4⟩ | ⟨h, h2, h3, h4⟩ | ⟨h, h2⟩
  · exact .inl ⟨files (use S).2 (drop n S.files), by unfold delete; rw [h]; rfl, rfl, h4, h2, h3, (use_goes S).files _⟩
  · exact .inr (.inl ⟨_, by unfold delete; rw [h]; rfl, (use_files S).1, h4, h2, h3, use_goes S⟩)
  · exact .inr (.inr ⟨_, by unfold delete; rw [h]; rfl, (use_files S).1, h2, use_goes S⟩)
theorem sync_way (S : DS) {n : ByteArray} (hm : may n = true) (hs : (get S.files n).isSome = true) :
    (∃ T, sync S [n] = (0, T) ∧ T.files = S.files.map (keepOne [n]) ∧ T.off = false ∧ S.off = false ∧ Goes S T) ∨
    (∃ T, sync S [n] = (7, T) ∧ T.files = S.files ∧ T.off = true ∧ Goes S T) := by
  rcases there_way S hm with ⟨h, h2, h3, h4⟩ | ⟨h, h2, h3, h4⟩ | ⟨h, h2⟩
  · exact .inl ⟨files (use S).2 (S.files.map (keepOne [n])), by unfold sync; rw [h]; rfl, rfl, h2, h3, (use_goes S).files _⟩
  · rw [h4] at hs; cases hs
  · exact .inr ⟨_, by unfold sync; rw [h]; rfl, (use_files S).1, h2, use_goes S⟩
theorem rename_way (S : DS) {a b : ByteArray} (ha : may a = true) (hb : may b = true) {f : FD} (hf : get S.files a = some f) :
    (∃ T, rename S a b = (0, T) ∧ T.files = put ⟨b, f.data, f.kept⟩ (drop a S.files) ∧ T.off = false ∧ S.off = false ∧ Goes S T) ∨
    (∃ T, rename S a b = (7, T) ∧ T.files = S.files ∧ T.off = true ∧ Goes S T) := by
  rcases begin_way S (ns := [a, b]) (by intro n hn; simp at hn; rcases hn with rfl | rfl <;> assumption) with ⟨h, h2, h3⟩ | ⟨h, h2⟩
  · exact .inl ⟨files (use S).2 (put ⟨b, f.data, f.kept⟩ (drop a S.files)), by unfold rename; rw [h, hf]; rfl, rfl, h2, h3, (use_goes S).files _⟩
  · exact .inr ⟨_, by unfold rename; rw [h]; rfl, (use_files S).1, h2, use_goes S⟩
theorem cats_single (x : ByteArray) : cats [x] = x := lst_inj (by rw [lst_cats]; simp)
theorem append_way (S : DS) {n x : ByteArray} (hm : may n = true) {f : FD} (hf : (get S.files n).getD ⟨n, ⟨#[]⟩, 0⟩ = f) (hl : f.data.size + x.size ≤ 1048576)
    (hc : (get S.files n).isSome = true ∨ S.files.length < 100) (hr : (x.size : Int) ≤ free S) :
    (∃ T, append S n [x] = (0, T) ∧ T.files = put ⟨n, f.data ++ x, f.kept⟩ S.files ∧ T.off = false ∧ S.off = false ∧ Goes S T) ∨
    (∃ T, append S n [x] = (7, T) ∧ T.files = S.files ∧ T.off = true ∧ Goes S T) := by
  rcases begin_way S (ns := [n]) (by simpa using hm) with ⟨h, h2, h3⟩ | ⟨h, h2⟩
  · refine .inl ⟨files (use S).2 (put ⟨n, f.data ++ x, f.kept⟩ S.files), ?_, rfl, h2, h3, (use_goes S).files _⟩
    unfold append
    rw [h]
    simp only [if_true, hf, cats_single]
    rw [if_neg (by omega)]
    have hfit : fits (use S).2 n (f.data.size + x.size) f.data.size = 0 := by
      unfold fits
      rw [(use_files S).1, (use_files S).2, if_neg, if_neg]
      · unfold free at hr; omega
      · simp only [Bool.or_eq_true, Bool.and_eq_true, decide_eq_true_eq, not_or, not_and]
        refine ⟨by omega, fun hn => ?_⟩
        rcases hc with hc | hc
        · cases hg : get S.files n <;> simp [hg] at hc hn
        · omega
    rw [hfit]; rfl
  · exact .inr ⟨_, by unfold append; rw [h]; rfl, (use_files S).1, h2, use_goes S⟩

/-! ### what is there behind them -/
theorem get_keep {l : List FD} (n m : ByteArray) : get (l.map (keepOne [n])) m = (get l m).map (fun f => if lst m = lst n then { f with kept := f.data.size } else f) := by
  induction l with
  | nil => rfl
  | cons a r ih =>
    have hk : (keepOne [n] a).key = a.key := by unfold keepOne; split <;> rfl
    unfold get at ih ⊢
    rw [List.map_cons, List.find?_cons, List.find?_cons, hk, ih]
    by_cases e : a.key = lst m
    · simp only [e, beq_self_eq_true, Option.map_some]
      unfold keepOne
      simp only [List.any_cons, List.any_nil, Bool.or_false, e, beq_iff_eq]
    · have : (a.key == lst m) = false := by simpa using e
      simp only [this]
theorem keep_used {l : List FD} (ns : List ByteArray) : used (l.map (keepOne ns)) = used l := by
  unfold used
  rw [List.map_map]
  congr 1
  refine List.map_congr_left (fun f _ => ?_)
  show (keepOne ns f).data.size = _
  unfold keepOne; split <;> rfl
theorem drop_used {l : List FD} (n : ByteArray) : used (drop n l) ≤ used l := by
  unfold drop used
  induction l with
  | nil => simp
  | cons a r ih =>
    rw [List.filter_cons]
    split
    · simp only [List.map_cons, List.sum_cons]; omega
    · simp only [List.map_cons, List.sum_cons]; omega
theorem drop_length {l : List FD} (n : ByteArray) : (drop n l).length ≤ l.length := List.length_filter_le _ _
theorem put_used_le {l : List FD} (f : FD) : used (put f l) ≤ f.data.size + used l := by
  unfold put; rw [ins_used]
  have := drop_used (l := l) f.name
  omega
theorem put_length_le {l : List FD} (f : FD) : (put f l).length ≤ l.length + 1 := by
  unfold put; rw [ins_length]
  have := drop_length (l := l) f.name
  omega
theorem keep_sorted {l : List FD} (h : Sorted l) (ns : List ByteArray) : Sorted (l.map (keepOne ns)) :=
  sorted_map h _ (fun f _ => by unfold keepOne; split <;> rfl)
end Dsk
end Go.Proofs.YtmdkjcigmhgpeaaGreatDoor

/- A number's decimal digits, the highest first. No program in sight. -/
namespace Go.Proofs.YtmdkjcigmhgpeaaGreatDoor

def decF : Nat → Nat → List UInt8
  | 0, _ => []
  | f + 1, n => if n = 0 then [] else decF f (n / 10) ++ [UInt8.ofNat (48 + n % 10)]
def dec (n : Nat) : List UInt8 := if n = 0 then [48] else decF 20 n
/-- What digits tell. -/
def valL (l : List UInt8) : Nat := l.foldl (fun a c => 10 * a + (c.toNat - 48)) 0
theorem valL_snoc (l : List UInt8) (c : UInt8) : valL (l ++ [c]) = 10 * valL l + (c.toNat - 48) := by simp [valL]
theorem digit_toNat (d : Nat) (h : d < 10) : (UInt8.ofNat (48 + d)).toNat = 48 + d := by
  rw [UInt8.toNat_ofNat']; omega
theorem valL_decF (f n : Nat) (h : n < 10 ^ f) : valL (decF f n) = n := by
  induction f generalizing n with
  | zero => simp at h; subst h; rfl
  | succ f ih =>
    unfold decF
    by_cases h0 : n = 0
    · rw [if_pos h0, h0]; rfl
    · rw [if_neg h0, valL_snoc, ih (n / 10) (by rw [Nat.pow_succ] at h; omega), digit_toNat _ (by omega)]
      omega
theorem decF_len (f n k : Nat) (h : n < 10 ^ k) : (decF f n).length ≤ k := by
  induction f generalizing n k with
  | zero => exact Nat.zero_le _
  | succ f ih =>
    unfold decF
    by_cases h0 : n = 0
    · rw [if_pos h0]; exact Nat.zero_le _
    · rw [if_neg h0, List.length_append]
      cases k with
      | zero => simp at h; exact absurd h h0
      | succ k =>
        have := ih (n / 10) k (by rw [Nat.pow_succ] at h; omega)
        simp; omega
theorem valL_dec (n : Nat) (h : n < 10 ^ 20) : valL (dec n) = n := by
  unfold dec
  by_cases h0 : n = 0
  · rw [if_pos h0, h0]; rfl
  · rw [if_neg h0]; exact valL_decF 20 n h
theorem dec_inj {m n : Nat} (hm : m < 10 ^ 20) (hn : n < 10 ^ 20) (h : dec m = dec n) : m = n := by
  rw [← valL_dec m hm, ← valL_dec n hn, h]
theorem dec_len (n : Nat) (h : n < 10 ^ 8) : (dec n).length ≤ 8 := by
  unfold dec
  by_cases h0 : n = 0
  · rw [if_pos h0]; decide
  · rw [if_neg h0]; exact decF_len 20 n 8 h
/-- Eight digits, with noughts ahead. -/
def dec8 (n : Nat) : List UInt8 := List.replicate (8 - (dec n).length) 48 ++ dec n
theorem dec8_len (n : Nat) (h : n < 10 ^ 8) : (dec8 n).length = 8 := by
  have := dec_len n h
  simp [dec8]; omega
theorem valL_noughts (k : Nat) (l : List UInt8) : valL (List.replicate k 48 ++ l) = valL l := by
  unfold valL
  rw [List.foldl_append]
  congr 1
  induction k with
  | zero => rfl
  | succ k ih => rw [List.replicate_succ, List.foldl_cons]; exact ih
theorem dec8_inj {m n : Nat} (hm : m < 10 ^ 8) (hn : n < 10 ^ 8) (h : dec8 m = dec8 n) : m = n := by
  have h1 := congrArg valL h
  unfold dec8 at h1
  rw [valL_noughts, valL_noughts, valL_dec m (by omega), valL_dec n (by omega)] at h1
  exact h1
end Go.Proofs.YtmdkjcigmhgpeaaGreatDoor

/- Numbers as bytes; a snapshot's file, its mark, and what is read of both, on lists of bytes. No program in sight. -/
namespace Go.Proofs.YtmdkjcigmhgpeaaGreatDoor
namespace Snp
open SealMath Dsk

/-! ### a number as bytes: how many, and these, the highest first -/
def beF : Nat → Nat → List UInt8
  | 0, _ => []
  | f + 1, n => if n = 0 then [] else beF f (n / 256) ++ [UInt8.ofNat (n % 256)]
def be (n : Nat) : List UInt8 := beF 8 n
def numL (n : Nat) : List UInt8 := UInt8.ofNat (be n).length :: be n
def valB (l : List UInt8) : Nat := l.foldl (fun a c => 256 * a + c.toNat) 0
theorem valB_nil : valB [] = 0 := rfl
theorem valB_snoc (l : List UInt8) (c : UInt8) : valB (l ++ [c]) = 256 * valB l + c.toNat := by simp [valB]
theorem beF_len (f n : Nat) : (beF f n).length ≤ f := by
  induction f generalizing n with
  | zero => exact Nat.zero_le _
  | succ f ih =>
    unfold beF; split
    · exact Nat.zero_le _
    · have := ih (n / 256); simp; omega
theorem be_len (n : Nat) : (be n).length ≤ 8 := beF_len 8 n
theorem valB_beF (f n : Nat) (h : n < 256 ^ f) : valB (beF f n) = n := by
  induction f generalizing n with
  | zero => simp at h; subst h; rfl
  | succ f ih =>
    unfold beF
    by_cases h0 : n = 0
    · rw [if_pos h0, h0]; rfl
    · rw [if_neg h0, valB_snoc, ih (n / 256) (by rw [Nat.pow_succ] at h; omega), UInt8.toNat_ofNat']
      omega
theorem valB_be (n : Nat) (h : n < 18446744073709551616) : valB (be n) = n := valB_beF 8 n (by simpa using h)
theorem beF_head (f n : Nat) (h : n < 256 ^ f) : (beF f n).head? ≠ some 0 := by
  induction f generalizing n with
  | zero => simp [beF]
  | succ f ih =>
    unfold beF
    by_cases h0 : n = 0
    · rw [if_pos h0]; simp
    · rw [if_neg h0]
      have ih' := ih (n / 256) (by rw [Nat.pow_succ] at h; omega)
      cases hb : beF f (n / 256) with
      | cons c r => rw [hb] at ih'; simpa using ih'
      | nil =>
        have hv := valB_beF f (n / 256) (by rw [Nat.pow_succ] at h; omega)
        rw [hb, valB_nil] at hv
        simp only [List.nil_append, List.head?_cons, ne_eq, Option.some.injEq]
        intro e
        have := congrArg UInt8.toNat e
        rw [UInt8.toNat_ofNat'] at this
        have e0 : (0 : UInt8).toNat = 0 := rfl
        rw [e0] at this
        omega
theorem be_head (n : Nat) (h : n < 18446744073709551616) : (be n).head? ≠ some 0 := beF_head 8 n (by simpa using h)
theorem snoc_ind {P : List UInt8 → Prop} (h0 : P []) (h1 : ∀ l c, P l → P (l ++ [c])) (l : List UInt8) : P l := by
  rw [← List.reverse_reverse l]
  induction l.reverse with
  | nil => exact h0
  | cons c r ih => rw [List.reverse_cons]; exact h1 _ _ ih
theorem valB_pos (l : List UInt8) (h : l.head? ≠ some 0) (hl : l ≠ []) : 0 < valB l := by
  induction l using snoc_ind with
  | h0 => exact absurd rfl hl
  | h1 l c ih =>
    rw [valB_snoc]
    cases l with
    | nil =>
      simp only [List.nil_append, List.head?_cons, ne_eq, Option.some.injEq] at h
      have : c.toNat ≠ 0 := fun e => h (UInt8.toNat_inj.1 e)
      omega
    | cons a r =>
      have := ih (by simpa using h) (by simp)
      omega
theorem beF_valB (l : List UInt8) (h : l.head? ≠ some 0) : ∀ f, l.length ≤ f → beF f (valB l) = l := by
  induction l using snoc_ind with
  | h0 => intro f _; cases f <;> simp [valB_nil, beF]
  | h1 l c ih =>
    intro f hf
    cases f with
    | zero => simp at hf
    | succ f =>
      have hp := valB_pos (l ++ [c]) h (by simp)
      have hc := c.toNat_lt
      unfold beF
      rw [if_neg (by omega), valB_snoc, show (256 * valB l + c.toNat) / 256 = valB l by omega, show (256 * valB l + c.toNat) % 256 = c.toNat by omega, UInt8.ofNat_toNat]
      rw [ih ?_ f (by simp at hf; omega)]
      cases l with
      | nil => simp
      | cons a r => simpa using h
theorem be_valB (l : List UInt8) (h : l.head? ≠ some 0) (hl : l.length ≤ 8) : be (valB l) = l := beF_valB l h 8 hl
theorem valB_lt (l : List UInt8) (k : Nat) (hl : l.length ≤ k) : valB l < 256 ^ k := by
  induction l using snoc_ind generalizing k with
  | h0 => exact Nat.pos_of_ne_zero (by simp)
  | h1 l c ih =>
    cases k with
    | zero => simp at hl
    | succ k =>
      have := ih k (by simp at hl; omega)
      have := c.toNat_lt
      rw [valB_snoc, Nat.pow_succ]; omega
theorem valB_lt8 (l : List UInt8) (hl : l.length ≤ 8) : valB l < 18446744073709551616 := by simpa using valB_lt l 8 hl

/-- A number that bytes begin with, and what is behind it. -/
def readN : List UInt8 → Option (Nat × List UInt8)
  | [] => none
  | c :: r => if 8 < c.toNat ∨ r.length < c.toNat ∨ (r.take c.toNat).head? = some 0 then none else some (valB (r.take c.toNat), r.drop c.toNat)
theorem readN_cons (c : UInt8) (r : List UInt8) : readN (c :: r) = if 8 < c.toNat ∨ r.length < c.toNat ∨ (r.take c.toNat).head? = some 0 then none else some (valB (r.take c.toNat), r.drop c.toNat) := rfl
theorem numL_length (n : Nat) : (numL n).length ≤ 9 := by have := be_len n; simp [numL]; omega
theorem readN_numL (n : Nat) (h : n < 18446744073709551616) (r : List UInt8) : readN (numL n ++ r) = some (n, r) := by
  have hl := be_len n
  have hc : (UInt8.ofNat (be n).length).toNat = (be n).length := by rw [UInt8.toNat_ofNat']; omega
  unfold numL
  rw [List.cons_append, readN_cons, hc, List.take_left' rfl, List.drop_left' rfl, valB_be n h, if_neg]
  rintro (h1 | h1 | h1)
  · omega
  · simp at h1; omega
  · exact be_head n h h1
theorem readN_some {s : List UInt8} {n : Nat} {r : List UInt8} (h : readN s = some (n, r)) : s = numL n ++ r ∧ n < 18446744073709551616 := by
  cases s with
  | nil => cases h
  | cons c t =>
    rw [readN_cons] at h
    split at h
    · cases h
    · rename_i hn
      have h8 : ¬ 8 < c.toNat := fun e => hn (.inl e)
      have h9 : ¬ t.length < c.toNat := fun e => hn (.inr (.inl e))
      have h0 : (t.take c.toNat).head? ≠ some 0 := fun e => hn (.inr (.inr e))
      have hl : (t.take c.toNat).length = c.toNat := by simp; omega
      injection h with h; injection h with h1 h2
      subst h1; subst h2
      refine ⟨?_, valB_lt8 _ (by omega)⟩
      unfold numL
      rw [be_valB _ h0 (by omega), hl, UInt8.ofNat_toNat, List.cons_append, List.take_append_drop]

/-! ### frames -/
theorem openL_frame_of {s d : List UInt8} {n : Nat} (h : openL s = (d, n, 0)) : s.take n = frameL d ∧ d.length ≤ 65536 := by
  have hl := openL_le s d n h
  unfold openL at h
  split at h
  · simp at h
  split at h
  · simp at h
  split at h
  · simp at h
  split at h
  · simp at h
  · rename_i h1 h2 h3 h4
    simp only [Prod.mk.injEq] at h
    obtain ⟨rfl, rfl, _⟩ := h
    refine ⟨((frame_iff s _ rfl (by omega)).2 (Classical.byContradiction h4)).symm, ?_⟩
    simp; omega
theorem allF_framed (f : Nat) : ∀ s : List UInt8, s.length ≤ f → (allF f s).2.2 = 0 → s = framesL (allF f s).1 ∧ ∀ x ∈ (allF f s).1, x.length ≤ 65536 := by
  induction f with
  | zero =>
    intro s hs _
    have : s = [] := List.eq_nil_of_length_eq_zero (by omega)
    subst this
    exact ⟨rfl, by simp [allF]⟩
  | succ f ih =>
    intro s hs h
    by_cases h0 : s = []
    · subst h0; exact ⟨rfl, by simp [allF]⟩
    · simp only [allF, h0, if_false] at h ⊢
      by_cases hw : (openL s).2.2 = 0
      · simp only [hw, if_true] at h ⊢
        have ho : openL s = ((openL s).1, (openL s).2.1, 0) := by rw [← hw]
        have hl := openL_le s _ _ ho
        obtain ⟨h1, h2⟩ := openL_frame_of ho
        obtain ⟨h3, h4⟩ := ih (s.drop (openL s).2.1) (by simp; omega) h
        refine ⟨?_, ?_⟩
        · have : framesL ((openL s).1 :: (allF f (s.drop (openL s).2.1)).1) = frameL (openL s).1 ++ framesL (allF f (s.drop (openL s).2.1)).1 := rfl
          rw [this, ← h3, ← h1, List.take_append_drop]
        · intro x hx
          rcases List.mem_cons.1 hx with rfl | hx
          · exact h2
          · exact h4 x hx
      · simp only [hw, if_false] at h
/-- What is whole is its frames. -/
theorem allL_framed {s : List UInt8} (h : (allL s).2.2 = 0) : s = framesL (allL s).1 ∧ ∀ x ∈ (allL s).1, x.length ≤ 65536 := allF_framed _ s (Nat.le_refl _) h

/-! ### a mark -/
def markL (n : Nat) : List UInt8 := frameL (numL n)
def markOne (x : List UInt8) : Option Nat :=
  match readN x with
  | some (n, []) => if n ≤ 99999999 then some n else none
  | _ => none
def markOf (s : List UInt8) : Option Nat := if (allL s).2.2 = 0 ∧ (allL s).1.length = 1 then markOne ((allL s).1.getD 0 []) else none
theorem markL_length (n : Nat) : (markL n).length ≤ 21 := by have := numL_length n; unfold markL; rw [frameL_length]; omega
theorem markOf_markL (n : Nat) (h : n ≤ 99999999) : markOf (markL n) = some n := by
  have hl := numL_length n
  have e : allL (markL n) = ([numL n], (framesL [numL n]).length, 0) := by
    have := allL_frames [numL n] (by intro x hx; simp at hx; subst hx; omega)
    rw [← this]; congr 1; simp [framesL, markL]
  unfold markOf
  rw [e, if_pos ⟨rfl, rfl⟩]
  show markOne (numL n) = _
  have := readN_numL n (by omega) []
  rw [List.append_nil] at this
  unfold markOne
  rw [this]
  simp [h]
theorem markOf_some {s : List UInt8} {n : Nat} (h : markOf s = some n) : s = markL n ∧ n ≤ 99999999 := by
  unfold markOf at h
  split at h
  · rename_i hw
    obtain ⟨h1, _⟩ := allL_framed hw.1
    obtain ⟨x, hx⟩ : ∃ x, (allL s).1 = [x] := List.length_eq_one_iff.1 hw.2
    rw [hx] at h h1
    have h : markOne x = some n := h
    unfold markOne at h
    split at h
    · rename_i k hr
      split at h
      · injection h with h; subst h
        have := (readN_some hr).1
        rw [List.append_nil] at this
        refine ⟨?_, by assumption⟩
        rw [h1, this]; simp [framesL, markL]
      · cases h
    · cases h
  · cases h

/-! ### a snapshot's file -/
def piecesF : Nat → List UInt8 → List (List UInt8)
  | 0, _ => []
  | f + 1, s => if s = [] then [] else s.take 60000 :: piecesF f (s.drop 60000)
def piecesL (s : List UInt8) : List (List UInt8) := piecesF s.length s
theorem piecesF_more (f g : Nat) (s : List UInt8) (hf : s.length ≤ f) (hg : s.length ≤ g) : piecesF f s = piecesF g s := by
  induction f generalizing g s with
  | zero =>
    have : s = [] := List.eq_nil_of_length_eq_zero (by omega)
    subst this
    cases g <;> simp [piecesF]
  | succ f ih =>
    cases g with
    | zero =>
      have : s = [] := List.eq_nil_of_length_eq_zero (by omega)
      subst this; simp [piecesF]
    | succ g =>
      simp only [piecesF]
      by_cases h0 : s = []
      · simp [h0]
      · have : s.length ≠ 0 := fun e => h0 (List.eq_nil_of_length_eq_zero e)
        rw [if_neg h0, if_neg h0, ih g (s.drop 60000) (by simp; omega) (by simp; omega)]
theorem piecesL_nil : piecesL [] = [] := rfl
theorem piecesL_cons (s : List UInt8) (h : s ≠ []) : piecesL s = s.take 60000 :: piecesL (s.drop 60000) := by
  have h0 : s.length ≠ 0 := fun e => h (List.eq_nil_of_length_eq_zero e)
  unfold piecesL
  obtain ⟨k, hk⟩ : ∃ k, s.length = k + 1 := ⟨s.length - 1, by omega⟩
  rw [hk]
  simp only [piecesF, h, if_false]
  rw [piecesF_more k (s.drop 60000).length _ (by simp; omega) (Nat.le_refl _)]
theorem piecesF_flat (f : Nat) : ∀ s : List UInt8, s.length ≤ f → (piecesF f s).flatten = s ∧ ∀ x ∈ piecesF f s, x.length ≤ 60000 := by
  induction f with
  | zero =>
    intro s hs
    have : s = [] := List.eq_nil_of_length_eq_zero (by omega)
    subst this; simp [piecesF]
  | succ f ih =>
    intro s hs
    by_cases h0 : s = []
    · subst h0; simp [piecesF]
    · have : s.length ≠ 0 := fun e => h0 (List.eq_nil_of_length_eq_zero e)
      obtain ⟨h1, h2⟩ := ih (s.drop 60000) (by simp; omega)
      simp only [piecesF, h0, if_false]
      refine ⟨by rw [List.flatten_cons, h1, List.take_append_drop], ?_⟩
      intro x hx
      rcases List.mem_cons.1 hx with rfl | hx
      · simp; omega
      · exact h2 x hx
theorem piecesL_flat (s : List UInt8) : (piecesL s).flatten = s := (piecesF_flat _ s (Nat.le_refl _)).1
theorem piecesL_le (s : List UInt8) : ∀ x ∈ piecesL s, x.length ≤ 60000 := (piecesF_flat _ s (Nat.le_refl _)).2
/-- A snapshot's first frame, its number and how many bytes there are. -/
def headL (n : Nat) (d : List UInt8) : List UInt8 := numL n ++ numL d.length
def fileL (n : Nat) (d : List UInt8) : List UInt8 := framesL (headL n d :: piecesL d)
theorem headL_length (n : Nat) (d : List UInt8) : (headL n d).length ≤ 18 := by have := numL_length n; have := numL_length d.length; simp [headL]; omega
theorem fileL_all (n : Nat) (d : List UInt8) : allL (fileL n d) = (headL n d :: piecesL d, (fileL n d).length, 0) :=
  allL_frames _ (by
    intro x hx
    rcases List.mem_cons.1 hx with rfl | hx
    · have := headL_length n d; omega
    · have := piecesL_le d x hx; omega)
theorem framesL_cons (x : List UInt8) (l : List (List UInt8)) : framesL (x :: l) = frameL x ++ framesL l := rfl
theorem framesL_length (l : List (List UInt8)) : (framesL l).length = l.flatten.length + 12 * l.length := by
  induction l with
  | nil => rfl
  | cons x l ih => rw [framesL_cons, List.length_append, ih, frameL_length]; simp; omega
theorem piecesL_count (d : List UInt8) (k : Nat) (h : d.length ≤ 60000 * k) : (piecesL d).length ≤ k := by
  induction k generalizing d with
  | zero =>
    have : d = [] := List.eq_nil_of_length_eq_zero (by omega)
    subst this; simp [piecesL_nil]
  | succ k ih =>
    by_cases h0 : d = []
    · subst h0; simp [piecesL_nil]
    · rw [piecesL_cons d h0]
      have := ih (d.drop 60000) (by simp; omega)
      simp; omega
theorem fileL_length (n : Nat) (d : List UInt8) : (fileL n d).length = (headL n d).length + 12 + d.length + 12 * (piecesL d).length := by
  unfold fileL
  rw [framesL_length, List.flatten_cons, piecesL_flat]
  simp; omega
theorem fileL_le (n : Nat) (d : List UInt8) (h : d.length ≤ 960000) : (fileL n d).length ≤ 960222 := by
  have := fileL_length n d
  have := headL_length n d
  have := piecesL_count d 16 (by omega)
  omega
def dataOf (n : Nat) (s : List UInt8) : Option (List UInt8) :=
  if (allL s).2.2 = 0 ∧ (allL s).1 ≠ [] then
    (if (allL s).1.tail.flatten.length ≤ 960000 ∧ fileL n (allL s).1.tail.flatten = s then some (allL s).1.tail.flatten else none)
  else none
theorem dataOf_fileL (n : Nat) (d : List UInt8) (h : d.length ≤ 960000) : dataOf n (fileL n d) = some d := by
  unfold dataOf
  rw [fileL_all]
  simp only [List.tail_cons, piecesL_flat]
  simp [h]
theorem dataOf_some {n : Nat} {s d : List UInt8} (h : dataOf n s = some d) : s = fileL n d ∧ d.length ≤ 960000 := by
  unfold dataOf at h
  split at h
  · split at h
    · rename_i hh
      injection h with h; subst h
      exact ⟨hh.2.symm, hh.1⟩
    · cases h
  · cases h
end Snp
end Go.Proofs.YtmdkjcigmhgpeaaGreatDoor

/- Save, Load and Sweep as functions of the plain disk. No program in sight. -/
namespace Go.Proofs.YtmdkjcigmhgpeaaGreatDoor
namespace Snp
open SealMath Dsk

def bts (l : List UInt8) : ByteArray := ⟨l.toArray⟩
theorem lst_bts (l : List UInt8) : lst (bts l) = l := rfl
theorem bts_lst (s : ByteArray) : bts (lst s) = s := lst_inj (lst_bts _)
theorem bts_size (l : List UInt8) : (bts l).size = l.length := rfl
def nMark : ByteArray := ⟨#[109, 97, 114, 107]⟩
def nFresh : ByteArray := ⟨#[109, 97, 114, 107, 46, 110, 101, 119]⟩
def nFront : ByteArray := ⟨#[115, 46]⟩
def nSnap (n : Nat) : ByteArray := bts (115 :: 46 :: dec8 n)
theorem lst_nSnap (n : Nat) : lst (nSnap n) = 115 :: 46 :: dec8 n := rfl
theorem nSnap_size (n : Nat) (h : n ≤ 99999999) : (nSnap n).size = 10 := by
  rw [← lst_length, lst_nSnap]; simp; exact dec8_len n (by omega)
theorem nSnap_inj {m n : Nat} (hm : m ≤ 99999999) (hn : n ≤ 99999999) (h : nSnap m = nSnap n) : m = n := by
  have := congrArg lst h
  rw [lst_nSnap, lst_nSnap] at this
  simp only [List.cons.injEq, true_and] at this
  exact dec8_inj (by omega) (by omega) this
theorem nSnap_mark (n : Nat) : nSnap n ≠ nMark := by
  intro h
  have := congrArg lst h
  rw [lst_nSnap] at this
  have e : lst nMark = [109, 97, 114, 107] := rfl
  rw [e] at this; simp at this
theorem nSnap_fresh (n : Nat) : nSnap n ≠ nFresh := by
  intro h
  have := congrArg lst h
  rw [lst_nSnap] at this
  have e : lst nFresh = [109, 97, 114, 107, 46, 110, 101, 119] := rfl
  rw [e] at this; simp at this
theorem mark_fresh : nMark ≠ nFresh := by decide
theorem nSnap_starts (n : Nat) : starts nFront (nSnap n) = true := by
  unfold starts
  rw [lst_nSnap]
  have e : lst nFront = [115, 46] := rfl
  rw [e]; simp

/-- What Load tells: a number, data, an error. -/
def loadS (S : DS) : Nat × List UInt8 × Nat :=
  if (Dsk.read S nMark).2 ≠ 0 then (0, [], (Dsk.read S nMark).2)
  else match markOf (lst (Dsk.read S nMark).1) with
    | none => (0, [], 11)
    | some n => if (Dsk.read S (nSnap n)).2 ≠ 0 then (0, [], 11) else match dataOf n (lst (Dsk.read S (nSnap n)).1) with
      | none => (0, [], 11)
      | some d => (n, d, 0)
def dropS (S : DS) (n : ByteArray) : Nat × DS := if (delete S n).1 = 8 then (0, (delete S n).2) else delete S n
/-- Deletes all names of a list but one: how many, an error, what is left. -/
def othersL (but : ByteArray) : List ByteArray → Nat → DS → Nat × Nat × DS
  | [], k, S => (k, 0, S)
  | x :: r, k, S => if x = but then othersL but r k S else if (delete S x).1 = 0 then othersL but r (k + 1) (delete S x).2 else (0, (delete S x).1, (delete S x).2)
def othersS (S : DS) (but : ByteArray) : Nat × Nat × DS := othersL but (namesOf S [nFront]) 0 S
def seqS : List (DS → Nat × DS) → DS → Nat × DS
  | [], S => (0, S)
  | f :: r, S => if (f S).1 = 0 then seqS r (f S).2 else f S
def needS (d : List UInt8) : Nat := (fileL 99999999 d).length + (markL 99999999).length
def step0 (n : Nat) (S : DS) : Nat × DS := dropS S (nSnap n)
def step1 (S : DS) : Nat × DS := dropS S nFresh
def step2 (n : Nat) (d : List UInt8) (S : DS) : Nat × DS := append S (nSnap n) [bts (fileL n d)]
def step3 (n : Nat) (S : DS) : Nat × DS := sync S [nSnap n]
def step4 (n : Nat) (S : DS) : Nat × DS := append S nFresh [bts (markL n)]
def step5 (S : DS) : Nat × DS := sync S [nFresh]
def step6 (S : DS) : Nat × DS := rename S nFresh nMark
def step7 (n : Nat) (S : DS) : Nat × DS := (othersS S (nSnap n)).2
def steps (n : Nat) (d : List UInt8) : List (DS → Nat × DS) := [step0 n, step1, step2 n d, step3 n, step4 n, step5, step6, step7 n]
def mayN (n : Int) : Bool := decide (0 ≤ n) && decide (n ≤ 99999999)
def saveS (S : DS) (n : Int) (d : List UInt8) : Nat × DS :=
  if mayN n = false then (1, S)
  else if S.off then (7, S)
  else if (loadS S).2.2 = 0 ∧ (loadS S).1 = n.toNat then (9, S)
  else if 960000 < d.length then (5, S)
  else if (needS d : Int) > free S ∨ 98 ≤ S.files.length then (6, S)
  else seqS (steps n.toNat d) S
def sweepS (S : DS) : Nat × Nat × DS :=
  if (loadS S).2.2 ≠ 0 then (0, (loadS S).2.2, S)
  else if (othersS S (nSnap (loadS S).1)).2.1 ≠ 0 then (0, (othersS S (nSnap (loadS S).1)).2.1, (othersS S (nSnap (loadS S).1)).2.2)
  else if (delete (othersS S (nSnap (loadS S).1)).2.2 nFresh).1 = 0 then ((othersS S (nSnap (loadS S).1)).1 + 1, 0, (delete (othersS S (nSnap (loadS S).1)).2.2 nFresh).2)
  else if (delete (othersS S (nSnap (loadS S).1)).2.2 nFresh).1 = 7 then (0, 7, (delete (othersS S (nSnap (loadS S).1)).2.2 nFresh).2)
  else ((othersS S (nSnap (loadS S).1)).1, 0, (delete (othersS S (nSnap (loadS S).1)).2.2 nFresh).2)

theorem markOf_le {s : List UInt8} {n : Nat} (h : markOf s = some n) : n ≤ 99999999 := (markOf_some h).2
theorem loadS_le (S : DS) : (loadS S).1 ≤ 99999999 := by
  unfold loadS
  split
  · exact Nat.zero_le _
  · split
    · exact Nat.zero_le _
    · rename_i n hm
      split
      · exact Nat.zero_le _
      · split
        · exact Nat.zero_le _
        · exact markOf_le hm
theorem loadS_data (S : DS) : (loadS S).2.1.length ≤ 960000 := by
  unfold loadS
  split
  · exact Nat.zero_le _
  · split
    · exact Nat.zero_le _
    · split
      · exact Nat.zero_le _
      · split
        · exact Nat.zero_le _
        · rename_i hd; exact (dataOf_some hd).2
theorem loadS_err (S : DS) : (loadS S).2.2 = 0 ∨ (loadS S).2.2 = 7 ∨ (loadS S).2.2 = 8 ∨ (loadS S).2.2 = 11 := by
  have hr : (Dsk.read S nMark).2 = 0 ∨ (Dsk.read S nMark).2 = 7 ∨ (Dsk.read S nMark).2 = 8 := by
    unfold Dsk.read; split
    · simp
    · split <;> simp
  unfold loadS
  split
  · rcases hr with h | h | h <;> simp [h]
  · split
    · simp
    · split
      · simp
      · split <;> simp
end Snp
end Go.Proofs.YtmdkjcigmhgpeaaGreatDoor

/- Save, Load and Sweep on the plain disk: what they come to, whatever power there is. No program in sight. -/
namespace Go.Proofs.YtmdkjcigmhgpeaaGreatDoor
namespace Snp
open SealMath Dsk

/-- From one disk to another, by uses: at most so many bytes and files more, so many uses. -/
structure Run (S T : DS) (u c k : Nat) : Prop where
  sorted : Sorted T.files
  room : T.room = S.room
  armed : T.armed = S.armed
  calm : S.off = false → S.armed = false → T.off = false
  used : used T.files ≤ used S.files + u
  len : T.files.length ≤ S.files.length + c
  uses : T.uses ≤ S.uses + k
theorem Run.refl {S : DS} (h : Sorted S.files) : Run S S 0 0 0 := ⟨h, rfl, rfl, fun h _ => h, Nat.le_refl _, Nat.le_refl _, Nat.le_refl _⟩
theorem Run.trans {S T U : DS} {u c k u' c' k' : Nat} (h : Run S T u c k) (g : Run T U u' c' k') : Run S U (u + u') (c + c') (k + k') :=
  ⟨g.sorted, g.room.trans h.room, g.armed.trans h.armed, fun h1 h2 => g.calm (h.calm h1 h2) (h.armed.trans h2), by have := h.used; have := g.used; omega, by have := h.len; have := g.len; omega, by have := h.uses; have := g.uses; omega⟩
theorem Run.mono {S T : DS} {u c k u' c' k' : Nat} (h : Run S T u c k) (h1 : u ≤ u') (h2 : c ≤ c') (h3 : k ≤ k') : Run S T u' c' k' :=
  ⟨h.sorted, h.room, h.armed, h.calm, by have := h.used; omega, by have := h.len; omega, by have := h.uses; omega⟩
theorem Run.of {S T : DS} (g : Goes S T) (hs : Sorted T.files) {u c : Nat} (hu : Dsk.used T.files ≤ Dsk.used S.files + u) (hc : T.files.length ≤ S.files.length + c) : Run S T u c 1 :=
  ⟨hs, g.room, g.armed, g.calm, hu, hc, g.uses⟩
theorem Run.free {S T : DS} {u c k : Nat} (h : Run S T u c k) : free S - u ≤ free T := by
  have := h.used; have := h.room
  unfold Dsk.free; omega

theorem delete_run {S : DS} (hs : Sorted S.files) {n : ByteArray} (hm : may n = true) : Run S (delete S n).2 0 0 1 := by
  rcases delete_way S hm with ⟨T, h, hf, _, _, _, g⟩ | ⟨T, h, hf, _, _, _, g⟩ | ⟨T, h, hf, _, g⟩ <;> rw [h]
  · exact Run.of g (by rw [hf]; exact sorted_drop hs _) (by rw [hf]; exact drop_used _) (by rw [hf]; exact drop_length _)
  · exact Run.of g (by rw [hf]; exact hs) (by rw [hf]; exact Nat.le_refl _) (by rw [hf]; exact Nat.le_refl _)
  · exact Run.of g (by rw [hf]; exact hs) (by rw [hf]; exact Nat.le_refl _) (by rw [hf]; exact Nat.le_refl _)
theorem still_run {S T : DS} (hs : Sorted S.files) (hf : T.files = S.files) (g : Goes S T) {u c : Nat} : Run S T u c 1 :=
  Run.of g (by rw [hf]; exact hs) (by rw [hf]; omega) (by rw [hf]; omega)

/-! ### looking up in a list that was filtered by names -/
theorem get_cons (a : FD) (r : List FD) (m : ByteArray) : get (a :: r) m = if a.key = lst m then some a else get r m := by
  unfold Dsk.get
  rw [List.find?_cons]
  by_cases e : a.key = lst m
  · simp [e]
  · have : (a.key == lst m) = false := by simpa using e
    rw [this, if_neg e]
theorem get_filter (p : ByteArray → Bool) (m : ByteArray) : ∀ l : List FD, get (l.filter (fun f => p f.name)) m = if p m then get l m else none
  | [] => by cases p m <;> rfl
  | a :: r => by
    have ih := get_filter p m r
    rw [List.filter_cons]
    by_cases hp : p a.name = true
    · rw [if_pos hp, get_cons, get_cons, ih]
      by_cases e : a.key = lst m
      · have : a.name = m := lst_inj e
        rw [if_pos e, if_pos e, ← this, if_pos hp]
      · rw [if_neg e, if_neg e]
    · rw [if_neg hp, get_cons, ih]
      by_cases e : a.key = lst m
      · have : a.name = m := lst_inj e
        rw [← this, if_neg hp, if_neg hp]
      · rw [if_neg e]
theorem drop_names (n : ByteArray) (l : List FD) : drop n l = l.filter (fun f => decide (f.name ≠ n)) := by
  unfold drop
  refine List.filter_congr (fun f _ => ?_)
  rw [Bool.eq_iff_iff]
  simp only [Bool.not_eq_true', beq_eq_false_iff_ne, decide_eq_true_eq]
  exact ⟨fun h e => h (by rw [← e]; rfl), fun h e => h (lst_inj e)⟩

/-! ### deleting all names but one -/
noncomputable def keepIn (but : ByteArray) (xs : List ByteArray) (n : ByteArray) : Bool := @decide (n = but ∨ n ∉ xs) (Classical.propDecidable _)
theorem keepIn_iff {but : ByteArray} {xs : List ByteArray} {n : ByteArray} : keepIn but xs n = true ↔ n = but ∨ n ∉ xs := by unfold keepIn; simp
theorem others_way (but : ByteArray) : ∀ (xs : List ByteArray) (k : Nat) (S : DS), Sorted S.files → xs.Pairwise (· ≠ ·) → (∀ x ∈ xs, may x = true ∧ (get S.files x).isSome = true) → S.off = false →
    (∃ j T, othersL but xs k S = (k + j, 0, T) ∧ T.files = S.files.filter (fun f => keepIn but xs f.name) ∧ T.files.length + j = S.files.length ∧ T.off = false ∧ Run S T 0 0 xs.length) ∨
    (∃ T, othersL but xs k S = (0, 7, T) ∧ T.off = true ∧ (∀ m, (m = but ∨ m ∉ xs) → get T.files m = get S.files m) ∧ Run S T 0 0 xs.length)
  | [], k, S, hs, _, _, ho => .inl ⟨0, S, rfl, by
      rw [List.filter_eq_self.2]
      intro f _; simp [keepIn_iff], rfl, ho, Run.refl hs⟩
  | x :: r, k, S, hs, hd, hx, ho => by
    obtain ⟨hd1, hd2⟩ := List.pairwise_cons.1 hd
    by_cases hb : x = but
    · have e : othersL but (x :: r) k S = othersL but r k S := by rw [othersL, if_pos hb]
      rw [e]
      rcases others_way but r k S hs hd2 (fun y hy => hx y (by simp [hy])) ho with ⟨j, T, h1, h2, h3, h4, h5⟩ | ⟨T, h1, h2, h3, h4⟩
      · refine .inl ⟨j, T, h1, ?_, h3, h4, h5.mono (Nat.le_refl _) (Nat.le_refl _) (by simp)⟩
        rw [h2]
        refine List.filter_congr (fun f _ => ?_)
        rw [Bool.eq_iff_iff, keepIn_iff, keepIn_iff]
        subst hb
        simp only [List.mem_cons, not_or]
        constructor
        · rintro (h | h)
          · exact .inl h
          · by_cases e : f.name = x
            · exact .inl e
            · exact .inr ⟨e, h⟩
        · rintro (h | h)
          · exact .inl h
          · exact .inr h.2
      · exact .inr ⟨T, h1, h2, fun m hm => h3 m (hm.imp id (fun h => fun e => h (by simp [e]))), h4.mono (Nat.le_refl _) (Nat.le_refl _) (by simp)⟩
    · have hxx := hx x (by simp)
      rcases delete_way S hxx.1 with ⟨T, h, hf, hi, hoT, _, g⟩ | ⟨T, h, hf, hi, _, _, g⟩ | ⟨T, h, hf, hoT, g⟩
      · have e : othersL but (x :: r) k S = othersL but r (k + 1) T := by rw [othersL, if_neg hb, h]; simp
        rw [e]
        have hsT : Sorted T.files := by rw [hf]; exact sorted_drop hs _
        have hrun := delete_run hs hxx.1
        rw [h] at hrun
        have hxr : ∀ y ∈ r, may y = true ∧ (get T.files y).isSome = true := fun y hy => ⟨(hx y (by simp [hy])).1, by
          rw [hf, get_drop hs, if_neg (fun e => hd1 y hy (lst_inj e))]
          exact (hx y (by simp [hy])).2⟩
        rcases others_way but r (k + 1) T hsT hd2 hxr hoT with ⟨j, U, h1, h2, h3, h4, h5⟩ | ⟨U, h1, h2, h3, h4⟩
        · refine .inl ⟨j + 1, U, by rw [h1]; congr 1; omega, ?_, ?_, h4, (hrun.trans h5).mono (by omega) (by omega) (by simp; omega)⟩
          · rw [h2, hf, drop_names, List.filter_filter]
            refine List.filter_congr (fun f _ => ?_)
            rw [Bool.eq_iff_iff]
            simp only [Bool.and_eq_true, decide_eq_true_eq, keepIn_iff, List.mem_cons, not_or]
            constructor
            · rintro ⟨h1 | h1, h2⟩
              · exact .inl h1
              · exact .inr ⟨h2, h1⟩
            · rintro (h1 | ⟨h1, h2⟩)
              · exact ⟨.inl h1, by rw [h1]; exact fun e => hb e.symm⟩
              · exact ⟨.inr h2, h1⟩
          · obtain ⟨f, hfx⟩ := Option.isSome_iff_exists.1 hi
            have := (drop_count hs hfx).1
            rw [hf] at h3
            omega
        · refine .inr ⟨U, h1, h2, fun m hm => ?_, (hrun.trans h4).mono (by omega) (by omega) (by simp; omega)⟩
          have hne : x ≠ m := by
            rintro rfl
            rcases hm with hm | hm
            · exact hb hm
            · exact hm (by simp)
          rw [h3 m (hm.imp id (fun h => fun e => h (by simp [e]))), hf, get_drop hs, if_neg (fun e => hne (lst_inj e))]
      · rw [hi] at hxx; cases hxx.2
      · have e : othersL but (x :: r) k S = (0, 7, T) := by rw [othersL, if_neg hb, h]; simp
        rw [e]
        exact .inr ⟨T, rfl, hoT, fun m _ => by rw [hf], (still_run hs hf g).mono (Nat.le_refl _) (Nat.le_refl _) (by simp)⟩

theorem names_pair {S : DS} (h : Sorted S.files) (fronts : List ByteArray) : (namesOf S fronts).Pairwise (· ≠ ·) := by
  unfold namesOf names
  refine List.Pairwise.filter _ ?_
  rw [List.pairwise_map]
  exact List.Pairwise.imp (fun {a b} hab e => hab (by show lst a.name = lst b.name; rw [e])) h.apart
theorem names_there {S : DS} (h : Sorted S.files) {fronts : List ByteArray} {x : ByteArray} (hx : x ∈ namesOf S fronts) : (get S.files x).isSome = true := by
  unfold namesOf names at hx
  obtain ⟨f, hf, rfl⟩ := List.mem_map.1 (List.mem_filter.1 hx).1
  rw [h.get hf rfl]; rfl
theorem names_mem {S : DS} {fronts : List ByteArray} {x : ByteArray} (hx : x ∈ namesOf S fronts) : ∃ f ∈ S.files, f.name = x := by
  unfold namesOf names at hx
  exact List.mem_map.1 (List.mem_filter.1 hx).1
theorem front_mem {S : DS} {x : ByteArray} : x ∈ namesOf S [nFront] ↔ (∃ f ∈ S.files, f.name = x) ∧ starts nFront x = true := by
  unfold namesOf names
  rw [List.mem_filter, List.mem_map]
  simp
theorem front_mark {S : DS} : nMark ∉ namesOf S [nFront] := fun h => by
  have := (front_mem.1 h).2
  revert this; decide
theorem front_fresh {S : DS} : nFresh ∉ namesOf S [nFront] := fun h => by
  have := (front_mem.1 h).2
  revert this; decide
theorem names_count (S : DS) (fronts : List ByteArray) : (namesOf S fronts).length ≤ S.files.length := by
  unfold namesOf names
  refine Nat.le_trans (List.length_filter_le _ _) ?_
  simp

/-! ### what is told -/
def answer : Option (Nat × List UInt8) → Nat × List UInt8 × Nat
  | none => (0, [], 8)
  | some (n, d) => (n, d, 0)
/-- A disk on which a snapshot counts, all of it kept; or none. -/
def Told (S : DS) : Option (Nat × List UInt8) → Prop
  | none => get S.files nMark = none
  | some (n, d) => n ≤ 99999999 ∧ d.length ≤ 960000 ∧ get S.files nMark = some ⟨nMark, bts (markL n), (markL n).length⟩ ∧ get S.files (nSnap n) = some ⟨nSnap n, bts (fileL n d), (fileL n d).length⟩
def Named (t : Option (Nat × List UInt8)) (m : ByteArray) : Prop := m = nMark ∨ ∃ n d, t = some (n, d) ∧ m = nSnap n
theorem Told.same {S T : DS} {t : Option (Nat × List UInt8)} (h : Told S t) (hg : ∀ m, Named t m → get T.files m = get S.files m) : Told T t := by
  cases t with
  | none => exact (hg nMark (.inl rfl)).trans h
  | some p => obtain ⟨n, d⟩ := p; exact ⟨h.1, h.2.1, (hg nMark (.inl rfl)).trans h.2.2.1, (hg _ (.inr ⟨n, d, rfl, rfl⟩)).trans h.2.2.2⟩
theorem Told.load {S : DS} {t : Option (Nat × List UInt8)} (h : Told S t) (ho : S.off = false) : loadS S = answer t := by
  cases t with
  | none =>
    have hr : Dsk.read S nMark = (⟨#[]⟩, 8) := by unfold Dsk.read; rw [if_neg (by simp [ho]), show get S.files nMark = none from h]
    unfold loadS; rw [hr]; rfl
  | some p =>
    obtain ⟨n, d⟩ := p
    obtain ⟨h1, h2, h3, h4⟩ := h
    have hr : Dsk.read S nMark = (bts (markL n), 0) := by unfold Dsk.read; rw [if_neg (by simp [ho]), h3]
    have hr2 : Dsk.read S (nSnap n) = (bts (fileL n d), 0) := by unfold Dsk.read; rw [if_neg (by simp [ho]), h4]
    unfold loadS; rw [hr]
    simp only [ne_eq, not_true_eq_false, if_false, lst_bts, markOf_markL n h1, hr2, dataOf_fileL n d h2]
    rfl

theorem may_mark : may nMark = true := by decide
theorem may_fresh : may nFresh = true := by decide
theorem may_snap (n : Nat) (h : n ≤ 99999999) : may (nSnap n) = true := by
  have := nSnap_size n h
  simp [may, this]
theorem ne_lst {a b : ByteArray} (h : a ≠ b) : ¬ lst a = lst b := fun e => h (lst_inj e)
theorem named_snap {t : Option (Nat × List UInt8)} {n : Nat} {m : ByteArray} (hn : n ≤ 99999999) (hle : ∀ k d, t = some (k, d) → k ≤ 99999999 ∧ k ≠ n) (h : Named t m) : nSnap n ≠ m := by
  rcases h with rfl | ⟨k, d, ht, rfl⟩
  · exact nSnap_mark n
  · intro e
    have := hle k d ht
    exact this.2 (nSnap_inj hn this.1 e).symm
theorem named_fresh {t : Option (Nat × List UInt8)} {m : ByteArray} (h : Named t m) : nFresh ≠ m := by
  rcases h with rfl | ⟨k, d, _, rfl⟩
  · exact mark_fresh.symm
  · exact (nSnap_fresh k).symm

/-- Deleting a file that may be there. -/
theorem drop_way {S : DS} (hs : Sorted S.files) {n : ByteArray} (hm : may n = true) :
    (∃ T, dropS S n = (0, T) ∧ T.off = false ∧ T.files = drop n S.files ∧ Run S T 0 0 1) ∨ (∃ T, dropS S n = (7, T) ∧ T.off = true ∧ T.files = S.files ∧ Run S T 0 0 1) := by
  have hr := delete_run hs hm
  rcases delete_way S hm with ⟨T, h, hf, _, ho, _, g⟩ | ⟨T, h, hf, hn, ho, _, g⟩ | ⟨T, h, hf, ho, g⟩ <;> rw [h] at hr
  · exact .inl ⟨T, by unfold dropS; rw [h]; rfl, ho, hf, hr⟩
  · exact .inl ⟨T, by unfold dropS; rw [h]; rfl, ho, by rw [hf, drop_none hn], hr⟩
  · exact .inr ⟨T, by unfold dropS; rw [h]; rfl, ho, hf, hr⟩
theorem seq_ok {f : DS → Nat × DS} {r : List (DS → Nat × DS)} {S T : DS} (h : f S = (0, T)) : seqS (f :: r) S = seqS r T := by
  show (if (f S).1 = 0 then seqS r (f S).2 else f S) = _
  rw [h]; rfl
theorem seq_bad {f : DS → Nat × DS} {r : List (DS → Nat × DS)} {S T : DS} (h : f S = (7, T)) : seqS (f :: r) S = (7, T) := by
  show (if (f S).1 = 0 then seqS r (f S).2 else f S) = _
  rw [h]; rfl
theorem get_putn {l : List FD} (h : Sorted l) (n x : ByteArray) (k : Nat) (m : ByteArray) : get (put ⟨n, x, k⟩ l) m = if lst n = lst m then some ⟨n, x, k⟩ else get l m := get_put h _ m

/-- What a Save of what isn't told yet comes to: it is done; or the power is off, and what was told is told, or what was saved. -/
theorem seq_way {S : DS} {t : Option (Nat × List UInt8)} {n : Nat} {d : List UInt8} (hs : Sorted S.files) (hfine : ∀ f ∈ S.files, may f.name = true) (ht : Told S t) (hn : n ≤ 99999999) (hd : d.length ≤ 960000) (hne : ∀ k e, t = some (k, e) → k ≤ 99999999 ∧ k ≠ n)
    (hfree : ((fileL n d).length + (markL n).length : Nat) ≤ free S) (hlen : S.files.length < 98) :
    (∃ T, seqS (steps n d) S = (0, T) ∧ Told T (some (n, d)) ∧ T.off = false ∧ Run S T ((fileL n d).length + (markL n).length) 2 (7 + 100)) ∨
    (∃ T, seqS (steps n d) S = (7, T) ∧ (Told T t ∨ Told T (some (n, d))) ∧ T.off = true ∧ Run S T ((fileL n d).length + (markL n).length) 2 (7 + 100)) := by
  have hF := fileL_le n d hd
  have hM := markL_length n
  have e1 : nSnap n ≠ nFresh := nSnap_fresh n
  have e2 : nSnap n ≠ nMark := nSnap_mark n
  have e3 : nMark ≠ nFresh := mark_fresh
  unfold steps
  -- 0
  rcases drop_way hs (may_snap n hn) with ⟨S1, h1, o1, f1, r1⟩ | ⟨S1, h1, o1, f1, r1⟩
  case inr => exact .inr ⟨S1, seq_bad h1, .inl (ht.same (fun m _ => by rw [f1])), o1, r1.mono (by omega) (by omega) (by omega)⟩
  rw [seq_ok (show step0 n S = (0, S1) from h1)]
  have g1 : ∀ m, nSnap n ≠ m → get S1.files m = get S.files m := fun m hm => by rw [f1, get_drop hs, if_neg (ne_lst hm)]
  have s1 : get S1.files (nSnap n) = none := by rw [f1, get_drop hs, if_pos rfl]
  have t1 : Told S1 t := ht.same (fun m hm => g1 m (named_snap hn hne hm))
  -- 1
  rcases drop_way r1.sorted may_fresh with ⟨S2, h2, o2, f2, r2⟩ | ⟨S2, h2, o2, f2, r2⟩
  case inr => exact .inr ⟨S2, seq_bad h2, .inl (t1.same (fun m _ => by rw [f2])), o2, (r1.trans r2).mono (by omega) (by omega) (by omega)⟩
  rw [seq_ok (show step1 S1 = (0, S2) from h2)]
  have r2 := r1.trans r2
  have g2 : ∀ m, nFresh ≠ m → get S2.files m = get S1.files m := fun m hm => by rw [f2, get_drop r1.sorted, if_neg (ne_lst hm)]
  have n2 : get S2.files nFresh = none := by rw [f2, get_drop r1.sorted, if_pos rfl]
  have s2 : get S2.files (nSnap n) = none := by rw [g2 _ e1.symm]; exact s1
  have t2 : Told S2 t := t1.same (fun m hm => g2 m (named_fresh hm))
  have fr2 := r2.free
  have ln2 := r2.len
  -- 2
  rcases append_way S2 (n := nSnap n) (x := bts (fileL n d)) (may_snap n hn) (f := ⟨nSnap n, ⟨#[]⟩, 0⟩) (by rw [s2]; rfl) (by rw [bts_size]; show 0 + _ ≤ _; omega) (.inr (by omega)) (by rw [bts_size]; omega) with ⟨S3, h3, f3, o3, _, w3⟩ | ⟨S3, h3, f3, o3, w3⟩
  case inr => exact .inr ⟨S3, seq_bad h3, .inl (t2.same (fun m _ => by rw [f3])), o3, (r2.trans (still_run (u := 0) (c := 0) r2.sorted f3 w3)).mono (by omega) (by omega) (by omega)⟩
  rw [seq_ok (show step2 n d S2 = (0, S3) from h3)]
  have f3 : S3.files = put ⟨nSnap n, bts (fileL n d), 0⟩ S2.files := by
    rw [f3]; congr 2
  have r3 := r2.trans (Run.of (u := (fileL n d).length) (c := 1) w3 (by rw [f3]; exact sorted_put r2.sorted _) (by rw [f3]; have := put_used_le (l := S2.files) ⟨nSnap n, bts (fileL n d), 0⟩; rw [bts_size] at this; omega) (by rw [f3]; exact put_length_le _))
  have g3 : ∀ m, nSnap n ≠ m → get S3.files m = get S2.files m := fun m hm => by rw [f3, get_putn r2.sorted, if_neg (ne_lst hm)]
  have s3 : get S3.files (nSnap n) = some ⟨nSnap n, bts (fileL n d), 0⟩ := by rw [f3, get_putn r2.sorted, if_pos rfl]
  have t3 : Told S3 t := t2.same (fun m hm => g3 m (named_snap hn hne hm))
  have n3 : get S3.files nFresh = none := by rw [g3 _ e1]; exact n2
  -- 3
  rcases sync_way S3 (may_snap n hn) (by rw [s3]; rfl) with ⟨S4, h4, f4, o4, _, w4⟩ | ⟨S4, h4, f4, o4, w4⟩
  case inr => exact .inr ⟨S4, seq_bad h4, .inl (t3.same (fun m _ => by rw [f4])), o4, (r3.trans (still_run (u := 0) (c := 0) r3.sorted f4 w4)).mono (by omega) (by omega) (by omega)⟩
  rw [seq_ok (show step3 n S3 = (0, S4) from h4)]
  have r4 := r3.trans (Run.of (u := 0) (c := 0) w4 (by rw [f4]; exact keep_sorted r3.sorted _) (by rw [f4, keep_used]; exact Nat.le_refl _) (by rw [f4]; simp))
  have g4 : ∀ m, nSnap n ≠ m → get S4.files m = get S3.files m := fun m hm => by
    rw [f4, get_keep]
    have : ¬ lst m = lst (nSnap n) := ne_lst hm.symm
    simp only [this, if_false]
    cases get S3.files m <;> rfl
  have s4 : get S4.files (nSnap n) = some ⟨nSnap n, bts (fileL n d), (fileL n d).length⟩ := by rw [f4, get_keep, s3]; simp [bts_size]
  have t4 : Told S4 t := t3.same (fun m hm => g4 m (named_snap hn hne hm))
  have n4 : get S4.files nFresh = none := by rw [g4 _ e1]; exact n3
  have fr4 := r4.free
  have ln4 := r4.len
  -- 4
  rcases append_way S4 (n := nFresh) (x := bts (markL n)) may_fresh (f := ⟨nFresh, ⟨#[]⟩, 0⟩) (by rw [n4]; rfl) (by rw [bts_size]; show 0 + _ ≤ _; omega) (.inr (by omega)) (by rw [bts_size]; omega) with ⟨S5, h5, f5, o5, _, w5⟩ | ⟨S5, h5, f5, o5, w5⟩
  case inr => exact .inr ⟨S5, seq_bad h5, .inl (t4.same (fun m _ => by rw [f5])), o5, (r4.trans (still_run (u := 0) (c := 0) r4.sorted f5 w5)).mono (by omega) (by omega) (by omega)⟩
  rw [seq_ok (show step4 n S4 = (0, S5) from h5)]
  have f5 : S5.files = put ⟨nFresh, bts (markL n), 0⟩ S4.files := by
    rw [f5]; congr 2
  have r5 := r4.trans (Run.of (u := (markL n).length) (c := 1) w5 (by rw [f5]; exact sorted_put r4.sorted _) (by rw [f5]; have := put_used_le (l := S4.files) ⟨nFresh, bts (markL n), 0⟩; rw [bts_size] at this; omega) (by rw [f5]; exact put_length_le _))
  have g5 : ∀ m, nFresh ≠ m → get S5.files m = get S4.files m := fun m hm => by rw [f5, get_putn r4.sorted, if_neg (ne_lst hm)]
  have n5 : get S5.files nFresh = some ⟨nFresh, bts (markL n), 0⟩ := by rw [f5, get_putn r4.sorted, if_pos rfl]
  have t5 : Told S5 t := t4.same (fun m hm => g5 m (named_fresh hm))
  have s5 : get S5.files (nSnap n) = some ⟨nSnap n, bts (fileL n d), (fileL n d).length⟩ := by rw [g5 _ e1.symm]; exact s4
  -- 5
  rcases sync_way S5 may_fresh (by rw [n5]; rfl) with ⟨S6, h6, f6, o6, _, w6⟩ | ⟨S6, h6, f6, o6, w6⟩
  case inr => exact .inr ⟨S6, seq_bad h6, .inl (t5.same (fun m _ => by rw [f6])), o6, (r5.trans (still_run (u := 0) (c := 0) r5.sorted f6 w6)).mono (by omega) (by omega) (by omega)⟩
  rw [seq_ok (show step5 S5 = (0, S6) from h6)]
  have r6 := r5.trans (Run.of (u := 0) (c := 0) w6 (by rw [f6]; exact keep_sorted r5.sorted _) (by rw [f6, keep_used]; exact Nat.le_refl _) (by rw [f6]; simp))
  have g6 : ∀ m, nFresh ≠ m → get S6.files m = get S5.files m := fun m hm => by
    rw [f6, get_keep]
    have : ¬ lst m = lst nFresh := ne_lst hm.symm
    simp only [this, if_false]
    cases get S5.files m <;> rfl
  have n6 : get S6.files nFresh = some ⟨nFresh, bts (markL n), (markL n).length⟩ := by rw [f6, get_keep, n5]; simp [bts_size]
  have t6 : Told S6 t := t5.same (fun m hm => g6 m (named_fresh hm))
  have s6 : get S6.files (nSnap n) = some ⟨nSnap n, bts (fileL n d), (fileL n d).length⟩ := by rw [g6 _ e1.symm]; exact s5
  -- 6
  rcases rename_way S6 may_fresh may_mark n6 with ⟨S7, h7, f7, o7, _, w7⟩ | ⟨S7, h7, f7, o7, w7⟩
  case inr => exact .inr ⟨S7, seq_bad h7, .inl (t6.same (fun m _ => by rw [f7])), o7, (r6.trans (still_run (u := 0) (c := 0) r6.sorted f7 w7)).mono (by omega) (by omega) (by omega)⟩
  rw [seq_ok (show step6 S6 = (0, S7) from h7)]
  have f7 : S7.files = put ⟨nMark, bts (markL n), (markL n).length⟩ (drop nFresh S6.files) := f7
  have hdc := drop_count r6.sorted n6
  have hdc2 : used (drop nFresh S6.files) + (markL n).length = used S6.files := hdc.2
  have hpu : used (put ⟨nMark, bts (markL n), (markL n).length⟩ (drop nFresh S6.files)) ≤ (markL n).length + used (drop nFresh S6.files) := put_used_le _
  have sd := sorted_drop r6.sorted nFresh
  have r7 := r6.trans (Run.of (u := 0) (c := 0) w7 (by rw [f7]; exact sorted_put sd _) (by rw [f7]; omega) (by rw [f7]; have := put_length_le (l := drop nFresh S6.files) ⟨nMark, bts (markL n), (markL n).length⟩; have := hdc.1; omega))
  have t7 : Told S7 (some (n, d)) := by
    refine ⟨hn, hd, ?_, ?_⟩
    · rw [f7, get_putn sd, if_pos rfl]
    · rw [f7, get_putn sd, if_neg (ne_lst e2.symm), get_drop r6.sorted, if_neg (ne_lst e1.symm)]; exact s6
  have hx : ∀ x ∈ namesOf S7 [nFront], may x = true ∧ (get S7.files x).isSome = true := fun x hx => by
    refine ⟨?_, names_there r7.sorted hx⟩
    obtain ⟨f, hf, rfl⟩ := names_mem hx
    rw [f7] at hf
    rcases mem_put.1 hf with rfl | ⟨hf, _⟩
    · exact may_mark
    have hf := (mem_drop.1 hf).1
    rw [f6] at hf
    obtain ⟨f', hf', rfl⟩ := List.mem_map.1 hf
    have e : (keepOne [nFresh] f').name = f'.name := by unfold keepOne; split <;> rfl
    rw [e]
    rw [f5] at hf'
    rcases mem_put.1 hf' with rfl | ⟨hf', _⟩
    · exact may_fresh
    rw [f4] at hf'
    obtain ⟨f'', hf'', rfl⟩ := List.mem_map.1 hf'
    have e : (keepOne [nSnap n] f'').name = f''.name := by unfold keepOne; split <;> rfl
    rw [e]
    rw [f3] at hf''
    rcases mem_put.1 hf'' with rfl | ⟨hf'', _⟩
    · exact may_snap n hn
    rw [f2] at hf''
    have hf'' := (mem_drop.1 hf'').1
    rw [f1] at hf''
    exact hfine _ (mem_drop.1 hf'').1
  have hcnt := names_count S7 [nFront]
  have ln7 := r7.len
  rcases others_way (nSnap n) (namesOf S7 [nFront]) 0 S7 r7.sorted (names_pair r7.sorted _) hx o7 with ⟨j, T, h8, f8, _, o8, r8⟩ | ⟨T, h8, o8, g8, r8⟩
  · refine .inl ⟨T, seq_ok (r := []) (show step7 n S7 = (0, T) by unfold step7 othersS; rw [h8]), ?_, o8, (r7.trans r8).mono (by omega) (by omega) (by omega)⟩
    refine t7.same (fun m hm => ?_)
    rw [f8, get_filter (keepIn (nSnap n) (namesOf S7 [nFront]))]
    rw [if_pos]
    rcases hm with rfl | ⟨k, e, he, rfl⟩
    · simp [keepIn_iff, front_mark]
    · simp only [Option.some.injEq, Prod.mk.injEq] at he
      obtain ⟨rfl, rfl⟩ := he
      simp [keepIn_iff]
  · refine .inr ⟨T, seq_bad (r := []) (show step7 n S7 = (7, T) by unfold step7 othersS; rw [h8]), .inr (t7.same (fun m hm => g8 m ?_)), o8, (r7.trans r8).mono (by omega) (by omega) (by omega)⟩
    rcases hm with rfl | ⟨k, e, he, rfl⟩
    · exact .inr front_mark
    · simp only [Option.some.injEq, Prod.mk.injEq] at he
      obtain ⟨rfl, rfl⟩ := he
      exact .inl rfl
end Snp
end Go.Proofs.YtmdkjcigmhgpeaaGreatDoor

/- A Save that is done, on the plain disk. No program in sight. -/
namespace Go.Proofs.YtmdkjcigmhgpeaaGreatDoor
namespace Snp
open SealMath Dsk

/-- What a Save by a number that may be comes to, where nothing is told under that number yet, there is room, and data aren't too long. -/
theorem save_way {S : DS} {t : Option (Nat × List UInt8)} {n : Nat} {d : List UInt8} (hs : Sorted S.files) (hfine : ∀ f ∈ S.files, may f.name = true) (ho : S.off = false) (ht : Told S t) (hn : n ≤ 99999999) (hd : d.length ≤ 960000) (hne : ∀ k e, t = some (k, e) → k ≠ n)
    (hfree : ((fileL n d).length + (markL n).length : Nat) ≤ free S) (hneed : (needS d : Int) ≤ free S) (hlen : S.files.length < 98) :
    (∃ T, saveS S n d = (0, T) ∧ Told T (some (n, d)) ∧ T.off = false ∧ Run S T ((fileL n d).length + (markL n).length) 2 107) ∨
    (∃ T, saveS S n d = (7, T) ∧ (Told T t ∨ Told T (some (n, d))) ∧ T.off = true ∧ Run S T ((fileL n d).length + (markL n).length) 2 107) := by
  have hl := ht.load ho
  have hct : ¬ ((loadS S).2.2 = 0 ∧ (loadS S).1 = ((n : Nat) : Int).toNat) := by
    rw [hl]
    cases t with
    | none => simp [answer]
    | some p =>
      obtain ⟨k, e⟩ := p
      have := hne k e rfl
      simp only [answer, true_and, Int.toNat_natCast]
      exact this
  have e : saveS S n d = seqS (steps n d) S := by
    unfold saveS
    have hm : mayN ((n : Nat) : Int) = true := by unfold mayN; simp; omega
    rw [if_neg (by rw [hm]; simp), if_neg (by rw [ho]; simp), if_neg hct, if_neg (by omega), if_neg (by omega), Int.toNat_natCast]
  rw [e]
  refine seq_way hs hfine ht hn hd (fun k e ht' => ⟨?_, hne k e ht'⟩) hfree hlen
  subst ht'
  exact ht.1
theorem headL_le (n : Nat) (d : List UInt8) : (fileL n d).length ≤ d.length + 12 * (d.length / 60000 + 1) + 30 := by
  have h1 := fileL_length n d
  have h2 := headL_length n d
  have h3 := piecesL_count d (d.length / 60000 + 1) (by omega)
  omega
theorem needS_le (d : List UInt8) : needS d ≤ d.length + 12 * (d.length / 60000 + 1) + 51 := by
  have h1 := headL_le 99999999 d
  have h2 := markL_length 99999999
  unfold needS; omega
/-- .. done, where the power stays. -/
theorem save_done {S : DS} {t : Option (Nat × List UInt8)} {n : Nat} {d : List UInt8} (hs : Sorted S.files) (hfine : ∀ f ∈ S.files, may f.name = true) (ho : S.off = false) (ha : S.armed = false) (ht : Told S t) (hn : n ≤ 99999999) (hd : d.length ≤ 960000) (hne : ∀ k e, t = some (k, e) → k ≠ n)
    (hfree : ((d.length + 12 * (d.length / 60000 + 1) + 51 : Nat) : Int) ≤ free S) (hlen : S.files.length < 98) :
    ∃ T, saveS S n d = (0, T) ∧ Told T (some (n, d)) ∧ T.off = false ∧ Run S T ((fileL n d).length + (markL n).length) 2 107 := by
  have h1 := headL_le n d
  have h2 := needS_le d
  have h3 := markL_length n
  rcases save_way hs hfine ho ht hn hd hne (by omega) (by omega) hlen with h | ⟨T, _, _, h, hr⟩
  · exact h
  · rw [hr.calm ho ha] at h; cases h
end Snp
end Go.Proofs.YtmdkjcigmhgpeaaGreatDoor
