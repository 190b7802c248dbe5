/- The plain law of frames: what is framed, opened and told, on lists of bytes. No program in sight. -/
import Derived.Test.YtmdkjcigmhgpeaaGreatDoorSealMath
namespace Go.Proofs.YtmdkjcigmhgpeaaGreatDoor.SealMath

def be4 (n : Nat) : List UInt8 := [UInt8.ofNat (n / 16777216), UInt8.ofNat (n / 65536 % 256), UInt8.ofNat (n / 256 % 256), UInt8.ofNat (n % 256)]
theorem be4_length (n : Nat) : (be4 n).length = 4 := rfl
def sealed (x : List UInt8) : List UInt8 := x ++ le 8 (crc x)
def frameL (l : List UInt8) : List UInt8 := sealed (be4 l.length ++ l)
theorem frameL_length (l : List UInt8) : (frameL l).length = l.length + 12 := by simp [frameL, sealed, le_length, be4_length]; omega
def toldL : List UInt8 → Nat
  | a :: b :: c :: d :: _ => 16777216 * a.toNat + 65536 * b.toNat + 256 * c.toNat + d.toNat
  | _ => 0
theorem toldL_be4 (n : Nat) (h : n < 4294967296) (l : List UInt8) : toldL (be4 n ++ l) = n := by
  simp only [be4, List.cons_append, toldL, UInt8.toNat_ofNat']
  omega
/-- What is framed at the beginning. -/
def openL (s : List UInt8) : List UInt8 × Nat × Nat :=
  if s.length < 4 then ([], 0, 1)
  else if 65536 < toldL s then ([], 0, 2)
  else if s.length < toldL s + 12 then ([], 0, 1)
  else if le 8 (crc (s.take (4 + toldL s))) ≠ (s.take (toldL s + 12)).drop (4 + toldL s) then ([], 0, 2)
  else ((s.take (4 + toldL s)).drop 4, toldL s + 12, 0)
theorem openL_le (s d : List UInt8) (n : Nat) (h : openL s = (d, n, 0)) : 12 ≤ n ∧ n ≤ s.length ∧ n = d.length + 12 := by
  unfold openL at h
  repeat' split at h
  all_goals simp only [Prod.mk.injEq] at h
  all_goals first | (exfalso; omega) | skip
  obtain ⟨rfl, rfl, _⟩ := h
  simp; omega
theorem openL_why (s : List UInt8) : (openL s).2.2 = 0 ∨ openL s = ([], 0, 1) ∨ openL s = ([], 0, 2) := by
  unfold openL
  repeat' split
  all_goals simp
/-- What is framed, one behind the other; so many frames at most. -/
def allF : Nat → List UInt8 → List (List UInt8) × Nat × Nat
  | 0, _ => ([], 0, 0)
  | f + 1, s => if s = [] then ([], 0, 0) else
    if (openL s).2.2 = 0 then ((openL s).1 :: (allF f (s.drop (openL s).2.1)).1, (openL s).2.1 + (allF f (s.drop (openL s).2.1)).2.1, (allF f (s.drop (openL s).2.1)).2.2)
    else ([], 0, (openL s).2.2)
def allL (s : List UInt8) : List (List UInt8) × Nat × Nat := allF s.length s
theorem allF_more (f g : Nat) (s : List UInt8) (hf : s.length ≤ f) (hg : s.length ≤ g) : allF f s = allF g s := by
  induction f generalizing g s with
  | zero =>
    have : s = [] := List.eq_nil_of_length_eq_zero (by omega)
    subst this
    cases g <;> simp [allF]
  | succ f ih =>
    cases g with
    | zero =>
      have : s = [] := List.eq_nil_of_length_eq_zero (by omega)
      subst this; simp [allF]
    | succ g =>
      simp only [allF]
      split
      · rfl
      · split
        · rename_i hs hw
          have hl := openL_le s (openL s).1 (openL s).2.1 (by rw [← hw])
          rw [ih g (s.drop (openL s).2.1) (by simp; omega) (by simp; omega)]
        · rfl
theorem allL_nil : allL [] = ([], 0, 0) := rfl
theorem allL_whole (s d : List UInt8) (n : Nat) (h : openL s = (d, n, 0)) : allL s = (d :: (allL (s.drop n)).1, n + (allL (s.drop n)).2.1, (allL (s.drop n)).2.2) := by
  have hl := openL_le s d n h
  unfold allL
  cases hs : s.length with
  | zero => omega
  | succ k =>
    simp only [allF, h]
    rw [if_neg (by intro e; subst e; simp at hs)]
    simp only [if_true]
    rw [allF_more k (s.drop n).length (s.drop n) (by simp; omega) (Nat.le_refl _)]
theorem allL_stop (s : List UInt8) (h : (openL s).2.2 ≠ 0) (h0 : s ≠ []) : allL s = ([], 0, (openL s).2.2) := by
  unfold allL
  cases hs : s.length with
  | zero => exact absurd (List.eq_nil_of_length_eq_zero hs) h0
  | succ k => simp only [allF]; rw [if_neg h0, if_neg h]
theorem frame_take (l r : List UInt8) (h : l.length ≤ 65536) : toldL (frameL l ++ r) = l.length := by
  unfold frameL sealed
  rw [List.append_assoc, List.append_assoc]
  exact toldL_be4 _ (by omega) _
theorem openL_frame (l r : List UInt8) (h : l.length ≤ 65536) : openL (frameL l ++ r) = (l, l.length + 12, 0) := by
  have ht := frame_take l r h
  have hl := frameL_length l
  unfold openL
  rw [ht, if_neg (by simp; omega), if_neg (by omega), if_neg (by simp; omega)]
  have e1 : (frameL l ++ r).take (4 + l.length) = be4 l.length ++ l := by
    unfold frameL sealed
    rw [List.append_assoc]
    exact List.take_left' (by simp [be4_length])
  have e2 : ((frameL l ++ r).take (l.length + 12)).drop (4 + l.length) = le 8 (crc (be4 l.length ++ l)) := by
    rw [List.take_left' hl]
    unfold frameL sealed
    exact List.drop_left' (by simp [be4_length])
  rw [e1, e2, if_neg (by simp)]
  simp [be4]
theorem be4_told (s : List UInt8) (h : 4 ≤ s.length) : be4 (toldL s) = s.take 4 := by
  match s, h with
  | a :: b :: c :: d :: s, _ =>
    have := a.toNat_lt; have := b.toNat_lt; have := c.toNat_lt; have := d.toNat_lt
    simp only [toldL, be4, List.take_succ_cons, List.take_zero]
    rw [show (16777216 * a.toNat + 65536 * b.toNat + 256 * c.toNat + d.toNat) / 16777216 = a.toNat by omega,
      show (16777216 * a.toNat + 65536 * b.toNat + 256 * c.toNat + d.toNat) / 65536 % 256 = b.toNat by omega,
      show (16777216 * a.toNat + 65536 * b.toNat + 256 * c.toNat + d.toNat) / 256 % 256 = c.toNat by omega,
      show (16777216 * a.toNat + 65536 * b.toNat + 256 * c.toNat + d.toNat) % 256 = d.toNat by omega]
    simp
theorem frame_iff (s : List UInt8) (t : Nat) (ht : toldL s = t) (h : t + 12 ≤ s.length) :
    frameL ((s.take (4 + t)).drop 4) = s.take (t + 12) ↔ le 8 (crc (s.take (4 + t))) = (s.take (t + 12)).drop (4 + t) := by
  have hl : ((s.take (4 + t)).drop 4).length = t := by simp; omega
  have e1 : be4 t ++ (s.take (4 + t)).drop 4 = s.take (4 + t) := by
    have h1 := be4_told s (by omega)
    rw [ht] at h1
    have h2 := List.take_append_drop 4 (s.take (4 + t))
    rw [List.take_take, Nat.min_eq_left (by omega)] at h2
    rw [h1, h2]
  unfold frameL sealed
  rw [hl, e1]
  have e2 : s.take (t + 12) = s.take (4 + t) ++ (s.take (t + 12)).drop (4 + t) := by
    have h2 := List.take_append_drop (4 + t) (s.take (t + 12))
    rw [List.take_take, Nat.min_eq_left (by omega)] at h2
    rw [h2]
  constructor
  · intro hh
    conv at hh => rhs; rw [e2]
    exact List.append_cancel_left hh
  · intro hh
    rw [hh]; exact e2.symm
/-- Frames, one behind the other. -/
def framesL (l : List (List UInt8)) : List UInt8 := (l.map frameL).flatten
theorem allL_frames (l : List (List UInt8)) (h : ∀ x ∈ l, x.length ≤ 65536) : allL (framesL l) = (l, (framesL l).length, 0) := by
  induction l with
  | nil => rfl
  | cons x l ih =>
    have ho : openL (framesL (x :: l)) = (x, x.length + 12, 0) := by
      show openL (frameL x ++ framesL l) = _
      exact openL_frame x _ (h x (by simp))
    rw [allL_whole _ _ _ ho]
    have hd : (framesL (x :: l)).drop (x.length + 12) = framesL l := by
      show (frameL x ++ framesL l).drop _ = _
      exact List.drop_left' (frameL_length x)
    rw [hd, ih (fun y hy => h y (by simp [hy]))]
    simp [framesL, frameL_length]

/-- A frame's beginning is short. -/
theorem openL_cut (l r : List UInt8) (k : Nat) (h : l.length ≤ 65536) (hk : k < l.length + 12) : openL ((frameL l ++ r).take k) = ([], 0, 1) := by
  have hl := frameL_length l
  unfold openL
  by_cases h4 : k < 4
  · rw [if_pos (by simp; omega)]
  · rw [if_neg (by simp; omega)]
    have ht : toldL ((frameL l ++ r).take k) = l.length := by
      have e : (frameL l ++ r).take k = be4 l.length ++ ((frameL l ++ r).take k).drop 4 := by
        have := List.take_append_drop 4 ((frameL l ++ r).take k)
        rw [List.take_take, Nat.min_eq_left (by omega)] at this
        conv => lhs; rw [← this]
        congr 1
      rw [e]
      exact toldL_be4 _ (by omega) _
    rw [ht, if_neg (by omega), if_pos (by simp; omega)]

/-- Frames, cut off anywhere: all ahead are told; the next one is short. -/
theorem allL_cut (l : List (List UInt8)) (h : ∀ x ∈ l, x.length ≤ 65536) (k : Nat) (hk : k ≤ (framesL l).length) :
    ∃ m, m ≤ l.length ∧ (allL ((framesL l).take k)).1 = l.take m ∧ (allL ((framesL l).take k)).2.1 ≤ k ∧
      ((allL ((framesL l).take k)).2.1 = k ↔ (allL ((framesL l).take k)).2.2 = 0) ∧ (allL ((framesL l).take k)).2.2 ≠ 2 := by
  induction l generalizing k with
  | nil =>
    simp [framesL] at hk
    subst hk
    exact ⟨0, by simp, by simp [framesL, allL_nil]⟩
  | cons x l ih =>
    have hx := h x (by simp)
    have hf : framesL (x :: l) = frameL x ++ framesL l := rfl
    have hfl := frameL_length x
    by_cases h0 : k = 0
    · subst h0
      exact ⟨0, by simp, by simp [allL_nil]⟩
    by_cases hlt : k < x.length + 12
    · have ho := openL_cut x (framesL l) k hx hlt
      rw [← hf] at ho
      have hs := allL_stop ((framesL (x :: l)).take k) (by rw [ho]; simp) (by
        intro e
        have := congrArg List.length e
        rw [List.length_take, List.length_nil, hf, List.length_append] at this
        omega)
      rw [ho] at hs
      refine ⟨0, by simp, ?_⟩
      rw [hs]
      simp; omega
    · have e : (framesL (x :: l)).take k = frameL x ++ (framesL l).take (k - (x.length + 12)) := by
        rw [hf, List.take_append, hfl, List.take_of_length_le (by omega)]
      have ho : openL ((framesL (x :: l)).take k) = (x, x.length + 12, 0) := by rw [e]; exact openL_frame x _ hx
      have ha := allL_whole _ _ _ ho
      have hd : ((framesL (x :: l)).take k).drop (x.length + 12) = (framesL l).take (k - (x.length + 12)) := by rw [e]; exact List.drop_left' hfl
      rw [hd] at ha
      obtain ⟨m, h1, h2, h3, h4, h5⟩ := ih (fun y hy => h y (by simp [hy])) (k - (x.length + 12)) (by rw [hf] at hk; simp [hfl] at hk; omega)
      refine ⟨m + 1, by simp; omega, ?_⟩
      rw [ha]
      refine ⟨by simp [h2], by simp only; omega, ?_, h5⟩
      simp only
      rw [← h4]
      omega

/-- Bytes in which a burst turned something. The bits of a number, from a bit on. -/
def turnByte (l : List UInt8) (j m : Nat) : List UInt8 := l.set j (UInt8.ofNat ((l[j]?.getD 0).toNat ^^^ 2 ^ m))
theorem turnByte_length (l : List UInt8) (j m : Nat) : (turnByte l j m).length = l.length := by simp [turnByte]
theorem W_turn (l : List UInt8) (j m : Nat) (hj : j < l.length) (hm : m < 8) : W (turnByte l j m) = W l ^^^ 2 ^ (8 * j + m) := by
  induction l generalizing j with
  | nil => simp at hj
  | cons c l ih =>
    cases j with
    | zero =>
      simp only [turnByte, List.set_cons_zero, W, List.getElem?_cons_zero, Option.getD_some, UInt8.toNat_ofNat', Nat.mul_zero, Nat.zero_add]
      have h2 : c.toNat ^^^ 2 ^ m < 256 := Nat.xor_lt_two_pow (n := 8) c.toNat_lt (Nat.pow_lt_pow_right (by omega) hm)
      rw [Nat.mod_eq_of_lt h2, Nat.xor_assoc, Nat.xor_assoc, Nat.xor_comm (2 ^ m)]
    | succ j =>
      have := ih j (by simpa using hj)
      simp only [turnByte, List.set_cons_succ, W, List.getElem?_cons_succ] at this ⊢
      rw [this, Nat.xor_assoc]
      congr 1
      have e := Nat.shiftLeft_xor_distrib (a := W l) (b := 2 ^ (8 * j + m)) (i := 8)
      simp only [Nat.shiftLeft_eq] at e
      rw [Nat.mul_comm, show (256 : Nat) = 2 ^ 8 from rfl, e, Nat.mul_comm (W l), ← Nat.pow_add]
      congr 2; omega
/-- The first i bits of the burst. -/
def turnedN (s : List UInt8) (at_ bits : Nat) : Nat → List UInt8
  | 0 => s
  | i + 1 => if bits / 2 ^ i % 2 = 1 then turnByte (turnedN s at_ bits i) ((at_ + i) / 8) ((at_ + i) % 8) else turnedN s at_ bits i
theorem turnedN_length (s : List UInt8) (at_ bits i : Nat) : (turnedN s at_ bits i).length = s.length := by
  induction i with
  | zero => rfl
  | succ i ih => simp only [turnedN]; split <;> simp [turnByte_length, ih]
theorem turnedN_W (s : List UInt8) (at_ bits i : Nat) (h : at_ + i ≤ 8 * s.length) : W (turnedN s at_ bits i) = W s ^^^ 2 ^ at_ * (bits % 2 ^ i) := by
  induction i with
  | zero => simp [turnedN, Nat.mod_one]
  | succ i ih =>
    have ih := ih (by omega)
    have hp : bits % 2 ^ (i + 1) = bits % 2 ^ i + 2 ^ i * (bits / 2 ^ i % 2) := by
      rw [Nat.pow_succ, Nat.mod_mul]
    simp only [turnedN]
    split
    · rename_i hb
      rw [W_turn _ _ _ (by rw [turnedN_length]; omega) (by omega), ih, Nat.xor_assoc]
      congr 1
      rw [hp, hb, Nat.mul_one, show 8 * ((at_ + i) / 8) + (at_ + i) % 8 = at_ + i by omega, Nat.pow_add]
      have e2 : bits % 2 ^ i + 2 ^ i = bits % 2 ^ i ^^^ 2 ^ i := by
        have hlt : bits % 2 ^ i < 2 ^ i := Nat.mod_lt _ (Nat.two_pow_pos _)
        have h := Nat.two_pow_add_eq_or_of_lt hlt 1
        rw [Nat.mul_one] at h
        rw [Nat.add_comm, h]
        apply Nat.eq_of_testBit_eq; intro k
        rw [Nat.testBit_or, Nat.testBit_xor, Nat.testBit_two_pow]
        by_cases hk : i = k
        · subst hk
          have : (bits % 2 ^ i).testBit i = false := Nat.testBit_lt_two_pow hlt
          simp [this]
        · simp [hk]
      rw [e2]
      have e := Nat.shiftLeft_xor_distrib (a := bits % 2 ^ i) (b := 2 ^ i) (i := at_)
      simp only [Nat.shiftLeft_eq] at e
      rw [Nat.mul_comm (2 ^ at_) (_ ^^^ _), e, Nat.mul_comm (2 ^ at_), Nat.mul_comm (2 ^ at_)]
    · rename_i hb
      rw [ih, hp, show bits / 2 ^ i % 2 = 0 by omega]; simp
theorem turnedN_take (s : List UInt8) (at_ bits i : Nat) (h : 32 ≤ at_) : (turnedN s at_ bits i).take 4 = s.take 4 := by
  induction i with
  | zero => rfl
  | succ i ih =>
    simp only [turnedN]
    split
    · rw [turnByte, List.take_set_of_le (by omega), ih]
    · exact ih
/-- How many bits of it there are. -/
def turnedL (s : List UInt8) (at_ bits : Nat) : List UInt8 := turnedN s at_ bits (min 64 (8 * s.length - at_))
theorem turned_tells (s : List UInt8) (at_ bits r : Nat) (h : at_ < 8 * s.length) (hr : reg r s = reg r (turnedL s at_ bits)) : turnedL s at_ bits = s := by
  refine (burst s (turnedL s at_ bits) (turnedN_length _ _ _ _).symm at_ (bits % 2 ^ (min 64 (8 * s.length - at_))) r ?_ (by omega) (turnedN_W s at_ bits _ (by omega)) hr).symm
  exact Nat.lt_of_lt_of_le (Nat.mod_lt _ (Nat.two_pow_pos _)) (Nat.pow_le_pow_right (by omega) (by omega))
theorem crc_reg (a b : List UInt8) (h : crc a = crc b) : reg ones a = reg ones b := by
  rw [crc_eq, crc_eq] at h
  have := congrArg (· ^^^ ones) h
  simpa [Nat.xor_assoc] using this
/-- A frame in which a burst turned something behind its first four bytes isn't opened. -/
theorem turned_frame (l : List UInt8) (hl : l.length ≤ 65536) (at_ bits : Nat) (h : 32 ≤ at_) (h2 : at_ < 8 * (l.length + 12)) :
    (turnedL (frameL l) at_ bits = frameL l ↔ (openL (turnedL (frameL l) at_ bits)).2.2 = 0) := by
  have hfl := frameL_length l
  have hlen : (turnedL (frameL l) at_ bits).length = l.length + 12 := by rw [← hfl]; exact turnedN_length _ _ _ _
  constructor
  · intro e; rw [e]
    have := openL_frame l [] hl
    rw [List.append_nil] at this
    rw [this]
  · intro e
    generalize hg : turnedL (frameL l) at_ bits = g at *
    have h4 : g.take 4 = be4 l.length := by
      rw [← hg]
      show (turnedN _ _ _ _).take 4 = _
      rw [turnedN_take _ _ _ _ h]
      unfold frameL sealed
      rw [List.append_assoc, List.take_left' (be4_length _)]
    have ht : toldL g = l.length := by
      rw [← List.take_append_drop 4 g, h4]
      exact toldL_be4 _ (by omega) _
    unfold openL at e
    rw [ht, if_neg (by omega), if_neg (by omega), if_neg (by omega)] at e
    split at e
    · simp at e
    · rename_i hc
      have hc : le 8 (crc (g.take (4 + l.length))) = (g.take (l.length + 12)).drop (4 + l.length) := Classical.byContradiction fun h => hc h
      have hgg : g = g.take (4 + l.length) ++ le 8 (crc (g.take (4 + l.length))) := by
        rw [hc, List.take_of_length_le (by omega : g.length ≤ l.length + 12), List.take_append_drop]
      have r1 : reg ones g = stN 64 ones := by rw [hgg]; exact reg_sealed _
      have r2 : reg ones (frameL l) = stN 64 ones := reg_sealed _
      have := turned_tells (frameL l) at_ bits ones (by omega) (by rw [hg, r1, r2])
      rw [hg] at this
      exact this
end Go.Proofs.YtmdkjcigmhgpeaaGreatDoor.SealMath
