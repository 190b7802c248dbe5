/- What lies in the log's segments: the order of their names, their bytes, what is read of them whole or cut off. No program in sight. -/
import Derived.Test.YtmdkjcigmhgpeaaGreatDoorWalPlain
namespace Go.Proofs.YtmdkjcigmhgpeaaGreatDoor
namespace Wal
open SealMath Dsk Snp

/-! ### the order of the segments' names -/
theorem lt_front {a b : List UInt8} (p : List UInt8) (h : a < b) : p ++ a < p ++ b := by
  induction p with
  | nil => exact h
  | cons c p ih => exact List.cons_lt_cons_iff.2 (.inr ⟨rfl, ih⟩)
theorem lt_same : ∀ (a b x y : List UInt8), a.length = b.length → a < b → a ++ x < b ++ y
  | [], [], _, _, _, h => absurd h (List.lt_irrefl _)
  | [], _ :: _, _, _, h, _ => by simp at h
  | _ :: _, [], _, _, h, _ => by simp at h
  | c :: a, d :: b, x, y, hl, h => by
    rcases List.cons_lt_cons_iff.1 h with h1 | ⟨h1, h2⟩
    · exact List.cons_lt_cons_iff.2 (.inl h1)
    · exact List.cons_lt_cons_iff.2 (.inr ⟨h1, lt_same a b x y (by simpa using hl) h2⟩)
def dig : Nat → Nat → List UInt8
  | 0, _ => []
  | k + 1, n => dig k (n / 10) ++ [UInt8.ofNat (48 + n % 10)]
theorem dig_len (k : Nat) : ∀ n, (dig k n).length = k := by
  induction k with
  | zero => intro n; rfl
  | succ k ih => intro n; simp [dig, ih]
theorem dig_zero (k : Nat) : dig k 0 = List.replicate k 48 := by
  induction k with
  | zero => rfl
  | succ k ih =>
    unfold dig
    rw [Nat.zero_div, ih, List.replicate_succ']
    rfl
theorem dig_decF (k : Nat) : ∀ (f n : Nat), n < 10 ^ k → k ≤ f → List.replicate (k - (decF f n).length) 48 ++ decF f n = dig k n := by
  induction k with
  | zero =>
    intro f n h _
    have : n = 0 := by simp at h; exact h
    subst this
    cases f <;> simp [decF, dig]
  | succ k ih =>
    intro f n h hf
    obtain ⟨f, rfl⟩ : ∃ g, f = g + 1 := ⟨f - 1, by omega⟩
    by_cases h0 : n = 0
    · subst h0
      have : decF (f + 1) 0 = [] := by unfold decF; rw [if_pos rfl]
      rw [this, dig_zero]; simp
    · have e : decF (f + 1) n = decF f (n / 10) ++ [UInt8.ofNat (48 + n % 10)] := by
        conv => lhs; unfold decF
        rw [if_neg h0]
      have e2 : dig (k + 1) n = dig k (n / 10) ++ [UInt8.ofNat (48 + n % 10)] := rfl
      rw [e, e2, ← ih f (n / 10) (by rw [Nat.pow_succ] at h; omega) (by omega), List.length_append, List.length_singleton, Nat.add_sub_add_right, List.append_assoc]
theorem dec8_dig (n : Nat) (h : n ≤ 99999999) : dec8 n = dig 8 n := by
  by_cases h0 : n = 0
  · subst h0; decide
  · unfold dec8 dec
    rw [if_neg h0]
    exact dig_decF 8 20 n (by omega) (by omega)
theorem dig_lt (k : Nat) : ∀ m n, m < n → n < 10 ^ k → dig k m < dig k n := by
  induction k with
  | zero => intro m n h1 h2; simp at h2; omega
  | succ k ih =>
    intro m n h1 h2
    unfold dig
    rw [Nat.pow_succ] at h2
    by_cases hd : m / 10 = n / 10
    · rw [hd]
      refine lt_front _ (List.cons_lt_cons_iff.2 (.inl ?_))
      rw [UInt8.lt_iff_toNat_lt, digit_toNat _ (by omega), digit_toNat _ (by omega)]
      omega
    · exact lt_same _ _ _ _ (by rw [dig_len, dig_len]) (ih _ _ (by omega) (by omega))
theorem seg_lt {name : ByteArray} {m n : Nat} (h : m < n) (hn : n ≤ 99999999) : lst (seg name m) < lst (seg name n) := by
  rw [lst_seg, lst_seg]
  unfold segL
  refine lt_front _ (List.cons_lt_cons_iff.2 (.inr ⟨rfl, ?_⟩))
  rw [dec8_dig m (by omega), dec8_dig n hn]
  exact dig_lt 8 m n h (by omega)

/-! ### lists of files, the last one, the first one -/
theorem ins_last (f : FD) (l : List FD) (h : ∀ g ∈ l, g.key < f.key) : ins f l = l ++ [f] := by
  induction l with
  | nil => rfl
  | cons g r ih =>
    unfold ins
    rw [if_neg (fun hlt => Dsk.lt_irrefl _ (Dsk.lt_trans hlt (h g (by simp)))), ih (fun x hx => h x (by simp [hx]))]; rfl
theorem drop_fresh (n : ByteArray) (l : List FD) (h : ∀ g ∈ l, g.key < lst n) : drop n l = l :=
  drop_none (get_none_iff.2 (fun g hg e => Dsk.lt_irrefl _ (e ▸ h g hg)))
theorem get_fresh (n : ByteArray) (l : List FD) (h : ∀ g ∈ l, g.key < lst n) : get l n = none := get_none_iff.2 (fun g hg e => Dsk.lt_irrefl _ (e ▸ h g hg))
theorem put_new (f : FD) (l : List FD) (h : ∀ g ∈ l, g.key < f.key) : put f l = l ++ [f] := by
  unfold put; rw [drop_fresh _ _ h]; exact ins_last f l h
theorem drop_last (g : FD) (l : List FD) (h : ∀ x ∈ l, x.key < g.key) : drop g.name (l ++ [g]) = l := by
  have e := drop_fresh g.name l h
  unfold drop at e ⊢
  rw [List.filter_append, e]
  simp [FD.key]
theorem put_same (f g : FD) (l : List FD) (e : g.name = f.name) (h : ∀ x ∈ l, x.key < g.key) : put f (l ++ [g]) = l ++ [f] := by
  unfold put
  rw [← e, drop_last g l h]
  exact ins_last f l (fun x hx => by have := h x hx; unfold FD.key at this ⊢; rw [← e]; exact this)
theorem get_last (g : FD) (l : List FD) (h : ∀ x ∈ l, x.key < g.key) : get (l ++ [g]) g.name = some g := by
  have e := get_fresh g.name l h
  unfold Dsk.get at e ⊢
  rw [List.find?_append, e]
  simp [FD.key]
theorem keepOne_other (n : ByteArray) (l : List FD) (h : ∀ x ∈ l, x.key < lst n) : l.map (keepOne [n]) = l := by
  conv => rhs; rw [← List.map_id l]
  refine List.map_congr_left (fun x hx => ?_)
  unfold keepOne
  rw [if_neg]
  · rfl
  · simp only [List.any_cons, List.any_nil, Bool.or_false, beq_iff_eq]
    intro e
    exact Dsk.lt_irrefl _ (e ▸ h x hx)
theorem keep_last (g : FD) (l : List FD) (h : ∀ x ∈ l, x.key < g.key) : (l ++ [g]).map (keepOne [g.name]) = l ++ [⟨g.name, g.data, g.data.size⟩] := by
  rw [List.map_append, keepOne_other _ _ h]
  congr 1
  show [keepOne [g.name] g] = _
  unfold keepOne
  rw [if_pos (by simp [FD.key])]
theorem drop_first (f : FD) (l : List FD) (h : ∀ x ∈ l, f.key < x.key) : drop f.name (f :: l) = l := by
  unfold drop
  rw [List.filter_cons, if_neg (by simp [FD.key])]
  rw [List.filter_eq_self]
  intro x hx
  simp only [Bool.not_eq_true', beq_eq_false_iff_ne]
  intro e
  exact Dsk.lt_irrefl _ (by have := h x hx; rw [e] at this; exact this)
theorem segs_of {S : DS} {name : ByteArray} {ns : List Nat} (h : S.files.map (·.name) = ns.map (seg name)) (hn : ∀ n ∈ ns, n ≤ 99999999) : segs S name = ns := by
  unfold segs namesOf names
  rw [h, List.filter_eq_self.2]
  · rw [List.filterMap_map]
    clear h
    induction ns with
    | nil => rfl
    | cons n r ih =>
      rw [List.filterMap_cons]
      have : (numOf name ∘ seg name) n = some n := numOf_some.2 ⟨hn n (by simp), rfl⟩
      rw [this, ih (fun x hx => hn x (by simp [hx]))]
  · intro s hs
    obtain ⟨n, _, rfl⟩ := List.mem_map.1 hs
    simp [seg_starts]

/-! ### a segment's bytes -/
def itemsOf : Nat → List (List UInt8) → List (List UInt8)
  | _, [] => []
  | n, x :: r => (be8 n ++ x) :: itemsOf (n + 1) r
def bytesOf (n : Nat) (l : List (List UInt8)) : List UInt8 := framesL (itemsOf n l)
theorem bytesOf_nil (n : Nat) : bytesOf n [] = [] := rfl
theorem bytesOf_cons (n : Nat) (x : List UInt8) (r : List (List UInt8)) : bytesOf n (x :: r) = recB n x ++ bytesOf (n + 1) r := rfl
theorem bytesOf_append (a b : List (List UInt8)) : ∀ n, bytesOf n (a ++ b) = bytesOf n a ++ bytesOf (n + a.length) b := by
  induction a with
  | nil => intro n; rfl
  | cons x r ih =>
    intro n
    rw [List.cons_append, bytesOf_cons, bytesOf_cons, ih (n + 1), List.append_assoc, List.length_cons, Nat.add_assoc, Nat.add_comm 1]
theorem bytesOf_one (n : Nat) (x : List UInt8) : bytesOf n [x] = recB n x := by rw [bytesOf_cons, bytesOf_nil, List.append_nil]
theorem itemsOf_length (l : List (List UInt8)) : ∀ n, (itemsOf n l).length = l.length := by
  induction l with
  | nil => intro n; rfl
  | cons x r ih => intro n; simp [itemsOf, ih]
theorem itemsOf_take (l : List (List UInt8)) : ∀ (n k : Nat), (itemsOf n l).take k = itemsOf n (l.take k) := by
  induction l with
  | nil => intro n k; simp [itemsOf]
  | cons x r ih =>
    intro n k
    cases k with
    | zero => rfl
    | succ k => simp [itemsOf, ih]
theorem itemsOf_small {l : List (List UInt8)} (h : ∀ x ∈ l, x.length ≤ 65000) : ∀ n, ∀ y ∈ itemsOf n l, y.length ≤ 65536 := by
  induction l with
  | nil => intro n y hy; simp [itemsOf] at hy
  | cons x r ih =>
    intro n y hy
    rcases List.mem_cons.1 hy with rfl | hy
    · have := h x (by simp)
      rw [List.length_append, be8_length]; omega
    · exact ih (fun z hz => h z (by simp [hz])) _ y hy
theorem readF_items (l : List (List UInt8)) : ∀ n, readF n (itemsOf n l) = (l, (bytesOf n l).length, true) := by
  induction l with
  | nil => intro n; rfl
  | cons x r ih =>
    intro n
    have e : itemsOf n (x :: r) = (be8 n ++ x) :: itemsOf (n + 1) r := rfl
    have h1 : (be8 n ++ x).take 8 = be8 n := by rw [List.take_append_of_le_length (by rw [be8_length]; exact Nat.le_refl _), List.take_of_length_le (by rw [be8_length]; exact Nat.le_refl _)]
    have h2 : (be8 n ++ x).drop 8 = x := List.drop_left' (be8_length n)
    rw [e, readF, if_pos h1, h2, ih (n + 1), bytesOf_cons, List.length_append, List.length_append, be8_length, recB_length]
    simp only
    congr 2
    omega
theorem readW_bytes (n : Nat) (l : List (List UInt8)) (h : ∀ x ∈ l, x.length ≤ 65000) : readW (bytesOf n l) n = (l, (bytesOf n l).length, true) := by
  unfold readW
  have e : allL (bytesOf n l) = (itemsOf n l, (bytesOf n l).length, 0) := allL_frames _ (itemsOf_small h n)
  rw [e]
  simp only
  rw [readF_items]
  simp
theorem frames_take_le (l : List (List UInt8)) {i j : Nat} (h : i ≤ j) : (framesL (l.take i)).length ≤ (framesL (l.take j)).length := by
  have e : l.take j = l.take i ++ (l.take j).drop i := by
    have := List.take_append_drop i (l.take j)
    rw [List.take_take, Nat.min_eq_left h] at this
    exact this.symm
  rw [e]
  unfold framesL
  rw [List.map_append, List.flatten_append, List.length_append]
  omega
theorem allL_cut2 (l : List (List UInt8)) (h : ∀ x ∈ l, x.length ≤ 65536) (k : Nat) (hk : k ≤ (framesL l).length) :
    ∃ m, m ≤ l.length ∧ (allL ((framesL l).take k)).1 = l.take m ∧ (framesL (l.take m)).length ≤ k ∧ (m < l.length → k < (framesL (l.take (m + 1))).length) := by
  induction l generalizing k with
  | nil =>
    simp [framesL] at hk
    subst hk
    exact ⟨0, by simp, by simp [framesL, allL_nil]⟩
  | cons x l ih =>
    have hx := h x (by simp)
    have hf : framesL (x :: l) = frameL x ++ framesL l := rfl
    have hfl := frameL_length x
    by_cases h0 : k = 0
    · subst h0
      refine ⟨0, by simp, by simp [allL_nil], by simp [framesL], fun _ => ?_⟩
      simp [framesL, hfl]
    by_cases hlt : k < x.length + 12
    · have ho := openL_cut x (framesL l) k hx hlt
      rw [← hf] at ho
      have hs := allL_stop ((framesL (x :: l)).take k) (by rw [ho]; simp) (by
        intro e
        have := congrArg List.length e
        rw [List.length_take, List.length_nil, hf, List.length_append] at this
        omega)
      refine ⟨0, by simp, by rw [hs]; rfl, by simp [framesL], fun _ => ?_⟩
      simp [framesL, hfl]; omega
    · have e : (framesL (x :: l)).take k = frameL x ++ (framesL l).take (k - (x.length + 12)) := by
        rw [hf, List.take_append, hfl, List.take_of_length_le (by omega)]
      have ho : openL ((framesL (x :: l)).take k) = (x, x.length + 12, 0) := by rw [e]; exact openL_frame x _ hx
      have ha := allL_whole _ _ _ ho
      have hd : ((framesL (x :: l)).take k).drop (x.length + 12) = (framesL l).take (k - (x.length + 12)) := by rw [e]; exact List.drop_left' hfl
      rw [hd] at ha
      obtain ⟨m, h1, h2, h3, h4⟩ := ih (fun y hy => h y (by simp [hy])) (k - (x.length + 12)) (by rw [hf] at hk; simp [hfl] at hk; omega)
      refine ⟨m + 1, by simp; omega, by rw [ha, h2]; rfl, ?_, fun hm => ?_⟩
      · show (frameL x ++ framesL (l.take m)).length ≤ k
        rw [List.length_append, hfl]; omega
      · have := h4 (by simpa using hm)
        show k < (frameL x ++ framesL (l.take (m + 1))).length
        rw [List.length_append, hfl]; omega
/-- A segment that was cut off anywhere. -/
theorem readW_cut (n : Nat) (l : List (List UInt8)) (h : ∀ x ∈ l, x.length ≤ 65000) (k : Nat) (hk : k ≤ (bytesOf n l).length) :
    ∃ j b, j ≤ l.length ∧ readW ((bytesOf n l).take k) n = (l.take j, (bytesOf n (l.take j)).length, b) ∧ (bytesOf n (l.take j)).length ≤ k ∧ ∀ i, i ≤ l.length → (bytesOf n (l.take i)).length ≤ k → i ≤ j := by
  obtain ⟨m, h1, h2, h3, h4⟩ := allL_cut2 (itemsOf n l) (itemsOf_small h n) k hk
  rw [itemsOf_length] at h1 h4
  rw [itemsOf_take] at h2 h3
  refine ⟨m, (true && decide ((allL ((bytesOf n l).take k)).2.1 = ((bytesOf n l).take k).length)), h1, ?_, h3, fun i hi hle => ?_⟩
  · unfold readW
    have e : (allL ((bytesOf n l).take k)).1 = itemsOf n (l.take m) := h2
    rw [e, readF_items]
  · apply Classical.byContradiction
    intro hlt
    have h5 := h4 (by omega)
    have h6 := frames_take_le (itemsOf n l) (show m + 1 ≤ i by omega)
    rw [itemsOf_take l n i] at h6
    unfold bytesOf at hle
    omega
theorem bytesOf_take (n : Nat) (l : List (List UInt8)) (j : Nat) : (bytesOf n l).take (bytesOf n (l.take j)).length = bytesOf n (l.take j) := by
  have e : bytesOf n l = bytesOf n (l.take j) ++ bytesOf (n + (l.take j).length) (l.drop j) := by
    rw [← bytesOf_append, List.take_append_drop]
  rw [e]
  exact List.take_left' rfl
theorem bytesOf_le {l : List (List UInt8)} {m : Nat} (h : ∀ x ∈ l, x.length ≤ m) : ∀ n, (bytesOf n l).length ≤ (m + 20) * l.length := by
  induction l with
  | nil => intro n; simp [bytesOf_nil]
  | cons x r ih =>
    intro n
    have := h x (by simp)
    have := ih (fun y hy => h y (by simp [hy])) (n + 1)
    rw [bytesOf_cons, List.length_append, recB_length, List.length_cons, Nat.mul_add, Nat.mul_one]
    omega
end Wal
end Go.Proofs.YtmdkjcigmhgpeaaGreatDoor
