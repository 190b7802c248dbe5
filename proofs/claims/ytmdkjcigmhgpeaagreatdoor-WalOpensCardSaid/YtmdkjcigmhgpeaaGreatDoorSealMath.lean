/- Plain mathematics of CRC-64: the register as a number, its steps, bursts, frames. No program in sight. No condition. -/
namespace Go.Proofs.YtmdkjcigmhgpeaaGreatDoor.SealMath

def poly : Nat := 0xc96c5795d7870f42
def ones : Nat := 0xffffffffffffffff

/-- One step of the register, the bit that comes in being 0. -/
def st0 (r : Nat) : Nat := if r % 2 = 1 then r / 2 ^^^ poly else r / 2
def stN : Nat → Nat → Nat
  | 0, r => r
  | k + 1, r => stN k (st0 r)

theorem xor_div2 (a b : Nat) : (a ^^^ b) / 2 = a / 2 ^^^ b / 2 := by
  have := Nat.shiftRight_xor_distrib (a := a) (b := b) (i := 1)
  simpa [Nat.shiftRight_eq_div_pow] using this
theorem xor_mod2 (a b : Nat) : (a ^^^ b) % 2 = (a % 2 + b % 2) % 2 := by
  have h : ∀ n : Nat, n % 2 = (n.testBit 0).toNat := by intro n; simp [Nat.testBit_zero]; rcases Nat.mod_two_eq_zero_or_one n with h | h <;> simp [h]
  rw [h (a ^^^ b), h a, h b, Nat.testBit_xor]
  cases a.testBit 0 <;> cases b.testBit 0 <;> rfl
theorem xor_mul2 (a b : Nat) : 2 * (a ^^^ b) = 2 * a ^^^ 2 * b := by
  have := Nat.shiftLeft_xor_distrib (a := a) (b := b) (i := 1)
  simp only [Nat.shiftLeft_eq] at this
  rw [Nat.mul_comm 2 (a ^^^ b), Nat.mul_comm 2 a, Nat.mul_comm 2 b]; simpa using this

theorem st0_xor (a b : Nat) : st0 (a ^^^ b) = st0 a ^^^ st0 b := by
  unfold st0
  rw [xor_mod2, xor_div2]
  rcases Nat.mod_two_eq_zero_or_one a with h | h <;> rcases Nat.mod_two_eq_zero_or_one b with h' | h' <;> simp [h, h', Nat.xor_assoc]
  · rw [Nat.xor_comm (b / 2) poly]
  · rw [Nat.xor_comm (b / 2) poly, ← Nat.xor_assoc poly poly]; simp
theorem stN_xor (k a b : Nat) : stN k (a ^^^ b) = stN k a ^^^ stN k b := by
  induction k generalizing a b with
  | zero => rfl
  | succ k ih => simp only [stN]; rw [st0_xor, ih]
theorem stN_add (j k r : Nat) : stN (j + k) r = stN k (stN j r) := by
  induction j generalizing r with
  | zero => simp [stN]
  | succ j ih => rw [Nat.succ_add]; simp only [stN]; exact ih _
theorem st0_two (y : Nat) : st0 (2 * y) = y := by unfold st0; rw [if_neg (by omega)]; omega
theorem stN_pow (k y : Nat) : stN k (2 ^ k * y) = y := by
  induction k with
  | zero => simp [stN]
  | succ k ih => simp only [stN]; rw [show 2 ^ (k + 1) * y = 2 * (2 ^ k * y) by rw [Nat.pow_succ]; ac_rfl, st0_two, ih]
theorem st0_lt (r : Nat) (h : r < 2 ^ 64) : st0 r < 2 ^ 64 := by
  unfold st0; split
  · exact Nat.xor_lt_two_pow (by omega) (by decide)
  · omega
theorem st0_zero (r : Nat) (h : r < 2 ^ 64) (h0 : st0 r = 0) : r = 0 := by
  unfold st0 at h0
  split at h0
  · exfalso
    have h1 : r / 2 = poly := by
      have := congrArg (· ^^^ poly) h0
      simpa [Nat.xor_assoc] using this
    have h2 : r / 2 < 2 ^ 63 := by omega
    rw [h1] at h2
    exact absurd h2 (by decide)
  · omega
theorem stN_zero (k r : Nat) (h : r < 2 ^ 64) (h0 : stN k r = 0) : r = 0 := by
  induction k generalizing r with
  | zero => exact h0
  | succ k ih => exact st0_zero r h (ih _ (st0_lt r h) h0)
theorem stN_lt (k r : Nat) (h : r < 2 ^ 64) : stN k r < 2 ^ 64 := by
  induction k generalizing r with
  | zero => exact h
  | succ k ih => exact ih _ (st0_lt r h)

/-- One bit. -/
def bitStep (r b : Nat) : Nat := if r % 2 ≠ b % 2 then r / 2 ^^^ poly else r / 2
theorem bitStep_eq (r b : Nat) : bitStep r b = st0 (r ^^^ b % 2) := by
  unfold bitStep st0
  rw [xor_mod2, xor_div2]
  rcases Nat.mod_two_eq_zero_or_one r with h | h <;> rcases Nat.mod_two_eq_zero_or_one b with h' | h' <;> simp [h, h']
/-- k bits of c, the lowest first. -/
def bitsStep : Nat → Nat → Nat → Nat
  | 0, r, _ => r
  | k + 1, r, c => bitsStep k (bitStep r c) (c / 2)
theorem bitsStep_eq (k r c : Nat) (h : c < 2 ^ k) : bitsStep k r c = stN k (r ^^^ c) := by
  induction k generalizing r c with
  | zero => simp at h; subst h; simp [bitsStep, stN]
  | succ k ih =>
    simp only [bitsStep, stN]
    rw [ih _ _ (by rw [Nat.pow_succ] at h; omega), bitStep_eq]
    congr 1
    have e : r ^^^ c = (r ^^^ c % 2) ^^^ 2 * (c / 2) := by
      have e2 : c % 2 ^^^ 2 * (c / 2) = c := by
        apply Nat.eq_of_testBit_eq; intro i
        rw [Nat.testBit_xor]
        cases i with
        | zero => simp only [Nat.testBit_zero]; rcases Nat.mod_two_eq_zero_or_one c with h | h <;> simp [h] 
        | succ i => 
          rw [Nat.testBit_succ, Nat.testBit_succ, Nat.testBit_succ]
          rw [show c % 2 / 2 = 0 by omega, show 2 * (c / 2) / 2 = c / 2 by omega]; simp
      rw [Nat.xor_assoc, e2]
    rw [e, st0_xor _ (2 * (c / 2)), st0_two]

def byteStep (r c : Nat) : Nat := stN 8 (r ^^^ c)
/-- The register behind bytes. -/
def reg (r : Nat) (l : List UInt8) : Nat := l.foldl (fun r c => byteStep r c.toNat) r
/-- Bytes as a number, the lowest first. -/
def W : List UInt8 → Nat
  | [] => 0
  | c :: l => c.toNat ^^^ 256 * W l
theorem reg_eq (l : List UInt8) (r : Nat) : reg r l = stN (8 * l.length) (r ^^^ W l) := by
  induction l generalizing r with
  | nil => simp [reg, W, stN]
  | cons c l ih =>
    show reg (byteStep r c.toNat) l = _
    rw [ih, List.length_cons, show 8 * (l.length + 1) = 8 + 8 * l.length by omega, stN_add]
    congr 1
    simp only [W, byteStep]
    rw [← Nat.xor_assoc, stN_xor 8 (r ^^^ c.toNat) (256 * W l)]
    rw [show (256 : Nat) = 2 ^ 8 from rfl, stN_pow 8 (W l)]
theorem reg_append (r : Nat) (a b : List UInt8) : reg r (a ++ b) = reg (reg r a) b := by simp [reg]
theorem byteStep_lt (r c : Nat) (h : r < 2 ^ 64) (hc : c < 256) : byteStep r c < 2 ^ 64 :=
  stN_lt 8 _ (Nat.xor_lt_two_pow h (by omega))
theorem reg_lt (r : Nat) (l : List UInt8) (h : r < 2 ^ 64) : reg r l < 2 ^ 64 := by
  induction l generalizing r with
  | nil => exact h
  | cons c l ih => exact ih _ (byteStep_lt r _ h (by have := c.toNat_lt; omega))
def crc (l : List UInt8) : Nat := ones - reg ones l
theorem ones_pow : ones = 2 ^ 64 - 1 := by decide
theorem ones_xor (r : Nat) (h : r < 2 ^ 64) : ones - r = r ^^^ ones := by
  rw [ones_pow, show 2 ^ 64 - 1 - r = 2 ^ 64 - (r + 1) by omega]
  apply Nat.eq_of_testBit_eq; intro i
  rw [Nat.testBit_two_pow_sub_succ h, Nat.testBit_xor, Nat.testBit_two_pow_sub_one]
  by_cases hi : i < 64
  · simp [hi]
  · rw [show r.testBit i = false from Nat.testBit_lt_two_pow (Nat.lt_of_lt_of_le h (Nat.pow_le_pow_right (by omega) (by omega)))]
    simp [hi]
theorem crc_eq (l : List UInt8) : crc l = reg ones l ^^^ ones := ones_xor _ (reg_lt _ _ (by decide))
theorem crc_lt (l : List UInt8) : crc l < 2 ^ 64 := by
  have := ones_pow
  unfold crc; omega

theorem W_lt (l : List UInt8) : W l < 2 ^ (8 * l.length) := by
  induction l with
  | nil => simp [W]
  | cons c l ih =>
    have hp : 2 ^ (8 * (l.length + 1)) = 256 * 2 ^ (8 * l.length) := by rw [show 8 * (l.length + 1) = 8 + 8 * l.length by omega, Nat.pow_add]
    simp only [W, List.length_cons]
    refine Nat.xor_lt_two_pow ?_ (by rw [hp]; omega)
    have := c.toNat_lt
    have h1 : 1 ≤ 2 ^ (8 * l.length) := Nat.one_le_two_pow
    rw [hp]; omega
theorem W_cons_add (c : UInt8) (l : List UInt8) : W (c :: l) = c.toNat + 256 * W l := by
  simp only [W]
  have h := Nat.two_pow_add_eq_or_of_lt (i := 8) (b := c.toNat) (by have := c.toNat_lt; omega) (W l)
  apply Nat.eq_of_testBit_eq; intro i
  rw [Nat.add_comm, show (256 : Nat) = 2 ^ 8 from rfl, h, Nat.testBit_or, Nat.testBit_xor]
  by_cases hi : i < 8
  · have h1 : (2 ^ 8 * W l).testBit i = false := by rw [Nat.testBit_two_pow_mul]; simp; omega
    rw [h1]; simp
  · have h2 : (c.toNat).testBit i = false :=
      Nat.testBit_lt_two_pow (Nat.lt_of_lt_of_le c.toNat_lt (Nat.pow_le_pow_right (by omega) (by omega)))
    rw [h2]; simp
theorem W_inj (a b : List UInt8) (hl : a.length = b.length) (h : W a = W b) : a = b := by
  induction a generalizing b with
  | nil => cases b with | nil => rfl | cons => simp at hl
  | cons c a ih =>
    cases b with
    | nil => simp at hl
    | cons d b =>
      rw [W_cons_add, W_cons_add] at h
      have h1 := c.toNat_lt
      have h2 := d.toNat_lt
      have hc : c = d := UInt8.toNat_inj.1 (by omega)
      subst hc
      rw [ih b (by simpa using hl) (by omega)]

/-- Eight bytes of a number, the lowest first. -/
def le (k n : Nat) : List UInt8 := match k with
  | 0 => []
  | k + 1 => UInt8.ofNat (n % 256) :: le k (n / 256)
theorem le_length (k n : Nat) : (le k n).length = k := by induction k generalizing n with | zero => rfl | succ k ih => simp [le, ih]
theorem W_le (k n : Nat) (h : n < 2 ^ (8 * k)) : W (le k n) = n := by
  induction k generalizing n with
  | zero => simp at h; subst h; rfl
  | succ k ih =>
    simp only [le]
    rw [W_cons_add, ih _ (by rw [show 8 * (k + 1) = 8 + 8 * k by omega, Nat.pow_add] at h; omega)]
    simp
    omega

/-- Bytes and their sum behind them: the register is always the same. -/
theorem reg_sealed (x : List UInt8) : reg ones (x ++ le 8 (crc x)) = stN 64 ones := by
  rw [reg_append, reg_eq, le_length, W_le _ _ (crc_lt x), crc_eq]
  congr 1
  rw [← Nat.xor_assoc, Nat.xor_self, Nat.zero_xor]

/-- A burst of less than 64 bits tells: two lists of bytes of one length whose numbers differ by B at a bit have another register. -/
theorem burst (a b : List UInt8) (hl : a.length = b.length) (at_ B r : Nat) (hB : B < 2 ^ 64) (ha : at_ ≤ 8 * a.length)
    (hd : W b = W a ^^^ 2 ^ at_ * B) (h : reg r a = reg r b) : a = b := by
  rw [reg_eq, reg_eq, ← hl, hd, ← Nat.xor_assoc, stN_xor _ (r ^^^ W a)] at h
  have h0 : stN (8 * a.length) (2 ^ at_ * B) = 0 := by
    have := congrArg (stN (8 * a.length) (r ^^^ W a) ^^^ ·) h
    simp only [Nat.xor_self, ← Nat.xor_assoc, Nat.zero_xor] at this
    exact this.symm
  rw [show 8 * a.length = at_ + (8 * a.length - at_) by omega, stN_add, stN_pow] at h0
  have hz := stN_zero _ _ hB h0
  subst hz
  refine W_inj a b hl ?_
  rw [hd]; simp

/-- Four steps at once, by the table. -/
def nib (i : Nat) : Nat := stN 4 i
theorem nib_step (r : Nat) : r / 16 ^^^ nib (r % 16) = stN 4 r := by
  have e : r = 2 ^ 4 * (r / 16) ^^^ r % 16 := by
    have h := Nat.two_pow_add_eq_or_of_lt (i := 4) (b := r % 16) (by omega) (r / 16)
    apply Nat.eq_of_testBit_eq; intro i
    conv => lhs; rw [show r = 2 ^ 4 * (r / 16) + r % 16 by omega, h, Nat.testBit_or]
    rw [Nat.testBit_xor]
    by_cases hi : i < 4
    · have h1 : (2 ^ 4 * (r / 16)).testBit i = false := by rw [Nat.testBit_two_pow_mul]; simp; omega
      rw [h1]; simp
    · have h2 : (r % 16).testBit i = false :=
        Nat.testBit_lt_two_pow (Nat.lt_of_lt_of_le (show r % 16 < 2 ^ 4 by omega) (Nat.pow_le_pow_right (by omega) (by omega)))
      rw [h2]; simp
  conv => rhs; rw [e, stN_xor, stN_pow]
  rfl
theorem nib_lt (i : Nat) (h : i < 16) : nib i < 2 ^ 64 := stN_lt 4 i (by omega)
theorem and15 (r : Nat) : r &&& 15 = r % 16 := by
  have := Nat.and_two_pow_sub_one_eq_mod r 4
  simpa using this
theorem byteStep_two (r c : Nat) : byteStep r c = stN 4 (stN 4 (r ^^^ c)) := by unfold byteStep; exact stN_add 4 4 _

end Go.Proofs.YtmdkjcigmhgpeaaGreatDoor.SealMath
