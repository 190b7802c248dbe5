/- calc.Parse: a text's number (printed by gen_parse.py). -/
import Derived.Test.YtmdkjcigmhgpeaaGreatDoorSnapPlain
import Derived.Test.YtmdkjcigmhgpeaaGreatDoorBase
import Derived.Shelf.Small.Bits
import Derived.Test.YtmdkjcigmhgpeaaGreatDoorShelf
import Derived.Laws.Externs

namespace Go.Proofs.YtmdkjcigmhgpeaaGreatDoor
open Go.RowKit Snp

def digs (l : List UInt8) : Prop := ∀ c ∈ l, 48 ≤ c.toNat ∧ c.toNat ≤ 57
theorem valL_take (l : List UInt8) (k : Nat) (h : k < l.length) : valL (l.take (k + 1)) = 10 * valL (l.take k) + (l[k].toNat - 48) := by
  rw [List.take_succ_eq_append_getElem h, valL_snoc]
theorem valL_lt (l : List UInt8) (h : digs l) : ∀ k, k ≤ l.length → valL (l.take k) < 10 ^ k := by
  intro k
  induction k with
  | zero => intro _; simp [valL]
  | succ k ih =>
    intro hk
    have := ih (by omega)
    have hc := h l[k] (List.getElem_mem _)
    rw [valL_take l k hk, Nat.pow_succ]
    omega
theorem ne_size {s : ByteArray} (h : ¬ s.toList = []) : 0 < s.size := by
  apply Classical.byContradiction
  intro h0
  exact h (by rw [Lib.toList_data]; exact List.eq_nil_of_length_eq_zero (by show s.size = 0; omega))
/-- What the loop of Parse knows. -/
def Sofar (l : List UInt8) (k m : Nat) (b : Bool) : Prop := digs l → l.length ≤ 18 → b = false ∧ m = valL (l.take k)
theorem Sofar.step {l : List UInt8} {k m : Nat} {b : Bool} (h : Sofar l k m b) (hlt : k < l.length) {c : UInt8} (hc : l[k] = c) (hd : 48 ≤ c.toNat ∧ c.toNat ≤ 57) {hi lo sm cy : Nat}
    (e1 : hi = m * 10 / 18446744073709551616) (e2 : lo = m * 10 % 18446744073709551616) (e3 : sm = (lo + (c.toNat - 48)) % 18446744073709551616) (e4 : cy = (lo + (c.toNat - 48)) / 18446744073709551616) {b' : Bool} (hb : b' = (b || decide (hi ≠ 0) || decide (cy ≠ 0))) : Sofar l (k + 1) sm b' := by
  intro hD h18
  obtain ⟨rfl, hm⟩ := h hD h18
  have h1 := valL_lt l hD k (by omega)
  have h2 : 10 ^ k ≤ 10 ^ 17 := Nat.pow_le_pow_right (by omega) (by omega)
  have hm17 : m < 10 ^ 17 := by omega
  have hhi : hi = 0 := by omega
  have hlo : lo = m * 10 := by omega
  have hcy : cy = 0 := by omega
  refine ⟨by rw [hb, hhi, hcy]; rfl, ?_⟩
  rw [valL_take l k hlt, hc, ← hm]
  omega
theorem add64_ext (x y : Nat) (u : World) : (callFunc 191 #[.int .u64 (x : Nat), .int .u64 (y : Nat), .int .u64 0]).run Tryz.prog u = .ok (.value (.tuple #[.int .u64 ((x + y) % 18446744073709551616 : Nat), .int .u64 ((x + y) / 18446744073709551616 : Nat)])) u := by
  rw [run_callFunc_extern (f := 191) (fn := Tryz.f191) (by kernel_rfl) (by kernel_rfl) (by kernel_rfl) (by kernel_rfl) (e := add64Entry) (by kernel_rfl), run_add64 x y 0 (by omega) (by omega) (by omega) (by omega)]
  simp only [Result.andThen]
  congr 5 <;> omega
/-- What Parse answers. -/
def ParseDone (s : ByteArray) (w : World) (e : Ending) (w' : World) : Prop :=
  (∃ (v : Int) (k : Nat), e = .returned (.tuple #[.int .i64 v, .int .i64 (k : Nat)]) ∧ -9223372036854775808 ≤ v ∧ v ≤ 9223372036854775807 ∧
    (lst s ≠ [] → digs (lst s) → (lst s).head? ≠ some 48 → (lst s).length ≤ 18 → v = (valL (lst s) : Nat) ∧ k = 0)) ∧ Ext w w'
def SignDone (n : Nat) (neg : Bool) (w : World) (e : Ending) (w' : World) : Prop :=
  (∃ (v : Int) (k : Nat), e = .returned (.tuple #[.int .i64 v, .int .i64 (k : Nat)]) ∧ -9223372036854775808 ≤ v ∧ v ≤ 9223372036854775807 ∧ (neg = false → n ≤ 9223372036854775807 → v = n ∧ k = 0)) ∧ w' = w
theorem signed_any (n : Nat) (h : n < 18446744073709551616) (neg : Bool) (w : World) :
    Calls Tryz.prog 192 #[.bool neg, .int .u64 (n : Nat)] w (SignDone n neg w) := by
  cases neg with
  | true =>
    by_cases h1 : n ≤ 9223372036854775808
    · have h2 : (n : Int) ≤ 9223372036854775808 := by omega
      go_enter Tryz.func192, Tryz.ntmps192
      go_wp2_with fail
      go_ret2
      refine ⟨⟨_, 0, rfl, ?_, ?_, fun k => by cases k⟩, rfl⟩
      all_goals (unfold wrap64; omega)
    · have h2 : ¬ (n : Int) ≤ 9223372036854775808 := by omega
      go_enter Tryz.func192, Tryz.ntmps192
      go_wp2_with fail
      go_ret2
      exact ⟨⟨0, 2, rfl, by omega, by omega, fun k => by cases k⟩, rfl⟩
  | false =>
    by_cases h1 : n ≤ 9223372036854775807
    · have h2 : (n : Int) ≤ 9223372036854775807 := by omega
      go_enter Tryz.func192, Tryz.ntmps192
      go_wp2_with fail
      go_ret2
      exact ⟨⟨n, 0, rfl, by omega, by omega, fun _ _ => ⟨rfl, rfl⟩⟩, rfl⟩
    · have h2 : ¬ (n : Int) ≤ 9223372036854775807 := by omega
      go_enter Tryz.func192, Tryz.ntmps192
      go_wp2_with fail
      go_ret2
      exact ⟨⟨0, 2, rfl, by omega, by omega, fun _ k => absurd k h1⟩, rfl⟩
theorem bytes_cells (w : World) (r : ByteArray) (cap m : Nat) (t : TypeId) (j : Nat) (hj : j < r.size) : (w.alloc (.cells (bytesRow r cap) t (m, m + 1))).cell? ⟨w.heap.size, j, none⟩ = some (.int .u8 (r[j].toNat : Int)) := by
  rw [cell_of_row _ _ _ _ _ _ (heap_alloc_new w _), bytesRow_at r cap j hj]
  rfl
theorem ParseDone.bad {s : ByteArray} {w w' : World} {e : Ending} {k : Nat} (h : lst s ≠ [] → digs (lst s) → (lst s).head? ≠ some 48 → False) (he : e = .returned (.tuple #[.int .i64 0, .int .i64 (k : Nat)])) (hx : Ext w w') : ParseDone s w e w' :=
  ⟨⟨0, k, he, by omega, by omega, fun h1 h2 h3 _ => (h h1 h2 h3).elim⟩, hx⟩
theorem head_of {s : ByteArray} (h : 0 < s.size) : (lst s).head? = some s[0] := by
  have h1 : 0 < (lst s).length := by rw [lst_length]; exact h
  rw [List.head?_eq_getElem?, List.getElem?_eq_getElem h1]
  rfl
set_option maxRecDepth 20000 in
set_option maxHeartbeats 8000000 in
theorem parse_empty (w : World) :
    Calls Tryz.prog 167 #[.string ⟨#[]⟩] w (ParseDone ⟨#[]⟩ w) := by
  go_enter Tryz.func167, Tryz.ntmps167
  go_wp2_with fail
  go_ret2
  exact ParseDone.bad (fun h => absurd rfl h) rfl (Ext.refl _)
set_option maxRecDepth 20000 in
set_option maxHeartbeats 8000000 in
theorem parse_minus (s : ByteArray) (hs : s.size ≤ 1000) (h0 : 0 < s.size) (h45 : (s[0].toNat : Int) = 45) (w : World) :
    Calls Tryz.prog 167 #[.string s] w (ParseDone s w) := by
  have HB : Hid (lst s ≠ [] → digs (lst s) → (lst s).head? ≠ some 48 → False) := fun _ h2 _ => by
    have := h2 s[0] (by
      have h1 : 0 < (lst s).length := by rw [lst_length]; exact h0
      exact List.getElem_mem h1)
    omega
  have e1 : (s.toList = []) = False := eq_false (by
    rw [Lib.toList_data]; intro e
    have : s.size = 0 := by rw [← lst_length]; show s.data.toList.length = 0; rw [e]; rfl
    omega)
  have e2 : s.toList.isEmpty = false := by simp [e1]
  have e3 : ((s[0].toNat : Int) == 45) = true := by rw [h45]; rfl
  have hrs : (s.extract 1 s.size).size = s.size - 1 := by simp [ByteArray.size_extract]
  by_cases h1 : s.size = 1
  · have er : s.extract 1 s.size = ⟨#[]⟩ := lst_inj (List.eq_nil_of_length_eq_zero (by rw [lst_length]; omega))
    go_enter Tryz.func167, Tryz.ntmps167
    go_wp2_with fail
    go_ret2
    exact ParseDone.bad HB.out rfl (Ext.refl _)
  have hr0 : 0 < (s.extract 1 s.size).size := by omega
  have g1 : ((s.extract 1 s.size).toList = []) = False := eq_false (by
    rw [Lib.toList_data]; intro e
    have : (s.extract 1 s.size).size = 0 := by rw [← lst_length]; show (s.extract 1 s.size).data.toList.length = 0; rw [e]; rfl
    omega)
  have g2 : (s.extract 1 s.size).toList.isEmpty = false := by simp [g1]
  have g4 : 0 < s.size - 1 := by omega
  by_cases hz : ((s.extract 1 s.size)[0].toNat : Int) = 48
  · have g3 : (((s.extract 1 s.size)[0].toNat : Int) == 48) = true := by rw [hz]; rfl
    go_enter Tryz.func167, Tryz.ntmps167
    go_wp2_with fail
    go_ret2
    exact ParseDone.bad HB.out rfl (Ext.refl _)
  · have g3 : (((s.extract 1 s.size)[0].toNat : Int) == 48) = false := by rw [beq_eq_false_iff_ne]; exact hz
    have HBB : Hid (∀ k (hk : k < (s.extract 1 s.size).size), ¬ (48 ≤ (s.extract 1 s.size)[k].toNat ∧ (s.extract 1 s.size)[k].toNat ≤ 57) → lst s ≠ [] → digs (lst s) → (lst s).head? ≠ some 48 → False) := fun _ _ _ => HB.out
    have HOV : Hid (∀ m, Sofar (lst (s.extract 1 s.size)) (s.extract 1 s.size).size m true → lst s ≠ [] → digs (lst s) → (lst s).head? ≠ some 48 → (lst s).length ≤ 18 → False) := fun _ _ h1 h2 h3 _ => HB.out h1 h2 h3
    have HOK : Hid (∀ m (v : Int) (k : Nat), Sofar (lst (s.extract 1 s.size)) (s.extract 1 s.size).size m false → (true = false → m ≤ 9223372036854775807 → v = m ∧ k = 0) → lst s ≠ [] → digs (lst s) → (lst s).head? ≠ some 48 → (lst s).length ≤ 18 → v = (valL (lst s) : Nat) ∧ k = 0) := fun _ _ _ _ _ h1 h2 h3 _ => (HB.out h1 h2 h3).elim
    have hrl : (s.extract 1 s.size).size ≤ 1000 := by omega
    have hcv := run_bytes_of_string w 9 25 5 (s.extract 1 s.size) Tryz.underlying9 Tryz.underlying25 Tryz.underlying5
    generalize grownCap w (s.extract 1 s.size).size 0 5 = cap at hcv
    generalize hmm : (bytesRow (s.extract 1 s.size) cap).size = mm at hcv
    clear hmm
    have HX0 : Hid (Ext w (w.alloc (.cells (bytesRow (s.extract 1 s.size) cap) 5 (mm, mm + 1)))) := (Ext.refl w).alloc _
    have HC0 : Hid (∀ j (hj : j < (s.extract 1 s.size).size), (w.alloc (.cells (bytesRow (s.extract 1 s.size) cap) 5 (mm, mm + 1))).cell? ⟨w.heap.size, j, none⟩ = some (.int .u8 ((s.extract 1 s.size)[j].toNat : Int))) := fun j hj => bytes_cells w (s.extract 1 s.size) cap mm 5 j hj
    go_enter Tryz.func167, Tryz.ntmps167
    go_wp2_with fail
    go_loopg [6, 7, 42] (s.extract 1 s.size).size (fun g n over i wr => ∃ (k m : Nat) (b : Bool), n = .int .u64 m ∧ over = .bool b ∧ i = .int .i64 k ∧ k ≤ (s.extract 1 s.size).size ∧ m < 18446744073709551616 ∧ g = (s.extract 1 s.size).size - k ∧ Hid (Sofar (lst (s.extract 1 s.size)) k m b) ∧ Hid (Ext w wr) ∧ Hid (∀ j (hj : j < (s.extract 1 s.size).size), wr.cell? ⟨w.heap.size, j, none⟩ = some (.int .u8 ((s.extract 1 s.size)[j].toNat : Int))))
    case atStart => exact ⟨0, 0, false, rfl, rfl, rfl, Nat.zero_le _, by decide, rfl, (fun _ _ => ⟨rfl, rfl⟩), HX0.out.drew, HC0⟩
    case round =>
      obtain ⟨k, m, b, rfl, rfl, rfl, hk, hm, rfl, HS, HX, HC⟩ := hrel
      by_cases hlt : k < (s.extract 1 s.size).size
      · have hcell := HC.out k hlt
        have HBK := Lib.hid (HBB.out k hlt)
        have HL : Hid ((lst (s.extract 1 s.size))[k]'(by rw [lst_length]; exact hlt) = (s.extract 1 s.size)[k]) := rfl
        generalize (s.extract 1 s.size)[k] = c at hcell HBK HL
        by_cases hd : 48 ≤ c.toNat ∧ c.toNat ≤ 57
        · obtain ⟨hd1, hd2⟩ := hd
          have hd3 : (48 : Int) ≤ (c.toNat : Int) := by omega
          have hd4 : (c.toNat : Int) ≤ 57 := by omega
          obtain ⟨hi, lo, sm, cy, E1, E2, E3, E4⟩ : ∃ hi lo sm cy : Nat, Hid (hi = m * 10 / 18446744073709551616) ∧ Hid (lo = m * 10 % 18446744073709551616) ∧ Hid (sm = (lo + (c.toNat - 48)) % 18446744073709551616) ∧ Hid (cy = (lo + (c.toNat - 48)) / 18446744073709551616) := ⟨_, _, _, _, rfl, rfl, rfl, rfl⟩
          have hmul : ∀ u, Calls Tryz.prog 152 #[.int .u64 (m : Nat), .int .u64 10] u fun e w' => e = .returned (.tuple #[.int .u64 (hi : Nat), .int .u64 (lo : Nat)]) ∧ w' = u := fun u => by
            have := Tryz.bits_Mul64 m 10 hm (by decide) u
            rw [← E1.out, ← E2.out] at this
            exact this
          have hadd : ∀ u, (callFunc 191 #[.int .u64 (lo : Nat), .int .u64 ((c.toNat : Int) - 48), .int .u64 0]).run Tryz.prog u = .ok (.value (.tuple #[.int .u64 (sm : Nat), .int .u64 (cy : Nat)])) u := fun u => by
            have := add64_ext lo (c.toNat - 48) u
            rw [← E3.out, ← E4.out, show ((c.toNat - 48 : Nat) : Int) = (c.toNat : Int) - 48 by omega] at this
            exact this
          have hsm : sm < 18446744073709551616 := by have := E3.out; omega
          have HST : Hid (∀ b', b' = (b || decide (hi ≠ 0) || decide (cy ≠ 0)) → Sofar (lst (s.extract 1 s.size)) (k + 1) sm b') := fun b' hb' => HS.out.step (by rw [lst_length]; exact hlt) HL.out ⟨hd1, hd2⟩ E1.out E2.out E3.out E4.out hb'
          clear E1 E2 E3 E4 HBK
          cases b with
          | true =>
            go_wp2_with (first | (go_at_call 152; refine (hmul _).mono ?_; rintro e w' ⟨rfl, rfl⟩))
            go_roundg ((s.extract 1 s.size).size - (k + 1))
            case measure => omega
            case rel => exact ⟨k + 1, sm, true, rfl, rfl, by go_num, by omega, hsm, rfl, HST.out _ (by simp), HX, HC⟩
          | false =>
            by_cases hh : hi = 0
            · have hh1 : ((hi : Int) != 0) = false := by rw [bne_eq_false_iff_eq]; omega
              have hh2 : (hi : Int) = 0 := by omega
              by_cases hy : cy = 0
              · have hy1 : ((cy : Int) != 0) = false := by rw [bne_eq_false_iff_eq]; omega
                have hy2 : (cy : Int) = 0 := by omega
                go_wp2_with (first | (go_at_call 152; refine (hmul _).mono ?_; rintro e w' ⟨rfl, rfl⟩))
                go_roundg ((s.extract 1 s.size).size - (k + 1))
                case measure => omega
                case rel => exact ⟨k + 1, sm, false, rfl, rfl, by go_num, by omega, hsm, rfl, HST.out _ (by simp [hh, hy]), HX, HC⟩
              · have hy1 : ((cy : Int) != 0) = true := by rw [bne_iff_ne]; omega
                have hy2 : ¬ (cy : Int) = 0 := by omega
                go_wp2_with (first | (go_at_call 152; refine (hmul _).mono ?_; rintro e w' ⟨rfl, rfl⟩))
                go_roundg ((s.extract 1 s.size).size - (k + 1))
                case measure => omega
                case rel => exact ⟨k + 1, sm, true, rfl, rfl, by go_num, by omega, hsm, rfl, HST.out _ (by simp [hh, hy]), HX, HC⟩
            · have hh1 : ((hi : Int) != 0) = true := by rw [bne_iff_ne]; omega
              have hh2 : ¬ (hi : Int) = 0 := by omega
              go_wp2_with (first | (go_at_call 152; refine (hmul _).mono ?_; rintro e w' ⟨rfl, rfl⟩))
              go_roundg ((s.extract 1 s.size).size - (k + 1))
              case measure => omega
              case rel => exact ⟨k + 1, sm, true, rfl, rfl, by go_num, by omega, hsm, rfl, HST.out _ (by simp [hh]), HX, HC⟩
        · have HBB2 := Lib.hid (HBK.out hd)
          have hd1 : (c.toNat : Int) < 48 ∨ ¬ (c.toNat : Int) < 48 ∧ (57 : Int) < (c.toNat : Int) := by omega
          clear hd
          rcases hd1 with hd1 | ⟨hd1, hd2⟩
          · go_wp2_with fail
            go_ret2
            exact ParseDone.bad HBB2.out rfl HX.out
          · go_wp2_with fail
            go_ret2
            exact ParseDone.bad HBB2.out rfl HX.out
      · have ek : k = (s.extract 1 s.size).size := by omega
        subst ek
        cases b with
        | true =>
          go_wp2_with fail
          go_ret2
          exact ⟨⟨0, 2, rfl, by omega, by omega, fun h1 h2 h3 h4 => (HOV.out m HS.out h1 h2 h3 h4).elim⟩, HX.out⟩
        | false =>
          have hcall := signed_any m hm true wr
          go_wp2_with fail
          refine hcall.mono ?_
          clear hcall
          rintro e w2 ⟨⟨v, q, rfl, hv1, hv2, hv3⟩, rfl⟩
          go_wp2_with fail
          go_ret2
          exact ⟨⟨v, q, rfl, hv1, hv2, fun h1 h2 h3 h4 => HOK.out m v q HS.out hv3 h1 h2 h3 h4⟩, HX.out⟩
set_option maxRecDepth 20000 in
set_option maxHeartbeats 8000000 in
theorem parse_plain (s : ByteArray) (hs : s.size ≤ 1000) (h0 : 0 < s.size) (h45 : (s[0].toNat : Int) ≠ 45) (w : World) :
    Calls Tryz.prog 167 #[.string s] w (ParseDone s w) := by
  have e1 : (s.toList = []) = False := eq_false (by
    rw [Lib.toList_data]; intro e
    have : s.size = 0 := by rw [← lst_length]; show s.data.toList.length = 0; rw [e]; rfl
    omega)
  have e2 : s.toList.isEmpty = false := by simp [e1]
  have e3 : ((s[0].toNat : Int) == 45) = false := by rw [beq_eq_false_iff_ne]; exact h45
  have HBB : Hid (∀ k (hk : k < s.size), ¬ (48 ≤ s[k].toNat ∧ s[k].toNat ≤ 57) → lst s ≠ [] → digs (lst s) → (lst s).head? ≠ some 48 → False) := fun k hk hn _ h2 _ => hn (h2 s[k] (by
    have h1 : k < (lst s).length := by rw [lst_length]; exact hk
    exact List.getElem_mem h1))
  have HOV : Hid (∀ m, Sofar (lst s) s.size m true → lst s ≠ [] → digs (lst s) → (lst s).head? ≠ some 48 → (lst s).length ≤ 18 → False) := fun m hS _ h2 _ h4 => by
    have := (hS h2 h4).1; cases this
  have HOK : Hid (∀ m (v : Int) (k : Nat), Sofar (lst s) s.size m false → (false = false → m ≤ 9223372036854775807 → v = m ∧ k = 0) → lst s ≠ [] → digs (lst s) → (lst s).head? ≠ some 48 → (lst s).length ≤ 18 → v = (valL (lst s) : Nat) ∧ k = 0) := fun m v k hS hv _ h2 _ h4 => by
    have e := (hS h2 h4).2
    have h5 := valL_lt (lst s) h2 (lst s).length (Nat.le_refl _)
    have h6 : 10 ^ (lst s).length ≤ 10 ^ 18 := Nat.pow_le_pow_right (by omega) h4
    rw [List.take_of_length_le (by rw [lst_length]; exact Nat.le_refl _)] at e
    rw [List.take_of_length_le (Nat.le_refl _)] at h5
    obtain ⟨hv1, hv2⟩ := hv rfl (by rw [e]; omega)
    exact ⟨by rw [hv1, e], hv2⟩
  have hrl : s.size ≤ 1000 := hs
  by_cases hz : (s[0].toNat : Int) = 48
  · have g3 : ((s[0].toNat : Int) == 48) = true := by rw [hz]; rfl
    by_cases h1 : s.size = 1
    · have h1' : ¬ (1 : Int) < (s.size : Int) := by omega
      have hcv := run_bytes_of_string w 9 25 5 s Tryz.underlying9 Tryz.underlying25 Tryz.underlying5
      generalize grownCap w s.size 0 5 = cap at hcv
      generalize hmm : (bytesRow s cap).size = mm at hcv
      clear hmm
      have HX0 : Hid (Ext w (w.alloc (.cells (bytesRow s cap) 5 (mm, mm + 1)))) := (Ext.refl w).alloc _
      have HC0 : Hid (∀ j (hj : j < s.size), (w.alloc (.cells (bytesRow s cap) 5 (mm, mm + 1))).cell? ⟨w.heap.size, j, none⟩ = some (.int .u8 (s[j].toNat : Int))) := fun j hj => bytes_cells w s cap mm 5 j hj
      go_enter Tryz.func167, Tryz.ntmps167
      go_wp2_with fail
      go_loopg [6, 7, 42] s.size (fun g n over i wr => ∃ (k m : Nat) (b : Bool), n = .int .u64 m ∧ over = .bool b ∧ i = .int .i64 k ∧ k ≤ s.size ∧ m < 18446744073709551616 ∧ g = s.size - k ∧ Hid (Sofar (lst s) k m b) ∧ Hid (Ext w wr) ∧ Hid (∀ j (hj : j < s.size), wr.cell? ⟨w.heap.size, j, none⟩ = some (.int .u8 (s[j].toNat : Int))))
      case atStart => exact ⟨0, 0, false, rfl, rfl, rfl, Nat.zero_le _, by decide, rfl, (fun _ _ => ⟨rfl, rfl⟩), HX0.out.drew, HC0⟩
      case round =>
        obtain ⟨k, m, b, rfl, rfl, rfl, hk, hm, rfl, HS, HX, HC⟩ := hrel
        by_cases hlt : k < s.size
        · have hcell := HC.out k hlt
          have HBK := Lib.hid (HBB.out k hlt)
          have HL : Hid ((lst s)[k]'(by rw [lst_length]; exact hlt) = s[k]) := rfl
          generalize s[k] = c at hcell HBK HL
          by_cases hd : 48 ≤ c.toNat ∧ c.toNat ≤ 57
          · obtain ⟨hd1, hd2⟩ := hd
            have hd3 : (48 : Int) ≤ (c.toNat : Int) := by omega
            have hd4 : (c.toNat : Int) ≤ 57 := by omega
            obtain ⟨hi, lo, sm, cy, E1, E2, E3, E4⟩ : ∃ hi lo sm cy : Nat, Hid (hi = m * 10 / 18446744073709551616) ∧ Hid (lo = m * 10 % 18446744073709551616) ∧ Hid (sm = (lo + (c.toNat - 48)) % 18446744073709551616) ∧ Hid (cy = (lo + (c.toNat - 48)) / 18446744073709551616) := ⟨_, _, _, _, rfl, rfl, rfl, rfl⟩
            have hmul : ∀ u, Calls Tryz.prog 152 #[.int .u64 (m : Nat), .int .u64 10] u fun e w' => e = .returned (.tuple #[.int .u64 (hi : Nat), .int .u64 (lo : Nat)]) ∧ w' = u := fun u => by
              have := Tryz.bits_Mul64 m 10 hm (by decide) u
              rw [← E1.out, ← E2.out] at this
              exact this
            have hadd : ∀ u, (callFunc 191 #[.int .u64 (lo : Nat), .int .u64 ((c.toNat : Int) - 48), .int .u64 0]).run Tryz.prog u = .ok (.value (.tuple #[.int .u64 (sm : Nat), .int .u64 (cy : Nat)])) u := fun u => by
              have := add64_ext lo (c.toNat - 48) u
              rw [← E3.out, ← E4.out, show ((c.toNat - 48 : Nat) : Int) = (c.toNat : Int) - 48 by omega] at this
              exact this
            have hsm : sm < 18446744073709551616 := by have := E3.out; omega
            have HST : Hid (∀ b', b' = (b || decide (hi ≠ 0) || decide (cy ≠ 0)) → Sofar (lst s) (k + 1) sm b') := fun b' hb' => HS.out.step (by rw [lst_length]; exact hlt) HL.out ⟨hd1, hd2⟩ E1.out E2.out E3.out E4.out hb'
            clear E1 E2 E3 E4 HBK
            cases b with
            | true =>
              go_wp2_with (first | (go_at_call 152; refine (hmul _).mono ?_; rintro e w' ⟨rfl, rfl⟩))
              go_roundg (s.size - (k + 1))
              case measure => omega
              case rel => exact ⟨k + 1, sm, true, rfl, rfl, by go_num, by omega, hsm, rfl, HST.out _ (by simp), HX, HC⟩
            | false =>
              by_cases hh : hi = 0
              · have hh1 : ((hi : Int) != 0) = false := by rw [bne_eq_false_iff_eq]; omega
                have hh2 : (hi : Int) = 0 := by omega
                by_cases hy : cy = 0
                · have hy1 : ((cy : Int) != 0) = false := by rw [bne_eq_false_iff_eq]; omega
                  have hy2 : (cy : Int) = 0 := by omega
                  go_wp2_with (first | (go_at_call 152; refine (hmul _).mono ?_; rintro e w' ⟨rfl, rfl⟩))
                  go_roundg (s.size - (k + 1))
                  case measure => omega
                  case rel => exact ⟨k + 1, sm, false, rfl, rfl, by go_num, by omega, hsm, rfl, HST.out _ (by simp [hh, hy]), HX, HC⟩
                · have hy1 : ((cy : Int) != 0) = true := by rw [bne_iff_ne]; omega
                  have hy2 : ¬ (cy : Int) = 0 := by omega
                  go_wp2_with (first | (go_at_call 152; refine (hmul _).mono ?_; rintro e w' ⟨rfl, rfl⟩))
                  go_roundg (s.size - (k + 1))
                  case measure => omega
                  case rel => exact ⟨k + 1, sm, true, rfl, rfl, by go_num, by omega, hsm, rfl, HST.out _ (by simp [hh, hy]), HX, HC⟩
              · have hh1 : ((hi : Int) != 0) = true := by rw [bne_iff_ne]; omega
                have hh2 : ¬ (hi : Int) = 0 := by omega
                go_wp2_with (first | (go_at_call 152; refine (hmul _).mono ?_; rintro e w' ⟨rfl, rfl⟩))
                go_roundg (s.size - (k + 1))
                case measure => omega
                case rel => exact ⟨k + 1, sm, true, rfl, rfl, by go_num, by omega, hsm, rfl, HST.out _ (by simp [hh]), HX, HC⟩
          · have HBB2 := Lib.hid (HBK.out hd)
            have hd1 : (c.toNat : Int) < 48 ∨ ¬ (c.toNat : Int) < 48 ∧ (57 : Int) < (c.toNat : Int) := by omega
            clear hd
            rcases hd1 with hd1 | ⟨hd1, hd2⟩
            · go_wp2_with fail
              go_ret2
              exact ParseDone.bad HBB2.out rfl HX.out
            · go_wp2_with fail
              go_ret2
              exact ParseDone.bad HBB2.out rfl HX.out
        · have ek : k = s.size := by omega
          subst ek
          cases b with
          | true =>
            go_wp2_with fail
            go_ret2
            exact ⟨⟨0, 2, rfl, by omega, by omega, fun h1 h2 h3 h4 => (HOV.out m HS.out h1 h2 h3 h4).elim⟩, HX.out⟩
          | false =>
            have hcall := signed_any m hm false wr
            go_wp2_with fail
            refine hcall.mono ?_
            clear hcall
            rintro e w2 ⟨⟨v, q, rfl, hv1, hv2, hv3⟩, rfl⟩
            go_wp2_with fail
            go_ret2
            exact ⟨⟨v, q, rfl, hv1, hv2, fun h1 h2 h3 h4 => HOK.out m v q HS.out hv3 h1 h2 h3 h4⟩, HX.out⟩
    · have h1' : (1 : Int) < (s.size : Int) := by omega
      have HH := head_of h0
      go_enter Tryz.func167, Tryz.ntmps167
      go_wp2_with fail
      go_ret2
      refine ParseDone.bad (fun _ _ h3 => h3 ?_) rfl (Ext.refl _)
      rw [HH]
      congr 1
      apply UInt8.toNat_inj.1
      have : s[0].toNat = 48 := by omega
      rw [this]; rfl
  · have g3 : ((s[0].toNat : Int) == 48) = false := by rw [beq_eq_false_iff_ne]; exact hz
    have hcv := run_bytes_of_string w 9 25 5 s Tryz.underlying9 Tryz.underlying25 Tryz.underlying5
    generalize grownCap w s.size 0 5 = cap at hcv
    generalize hmm : (bytesRow s cap).size = mm at hcv
    clear hmm
    have HX0 : Hid (Ext w (w.alloc (.cells (bytesRow s cap) 5 (mm, mm + 1)))) := (Ext.refl w).alloc _
    have HC0 : Hid (∀ j (hj : j < s.size), (w.alloc (.cells (bytesRow s cap) 5 (mm, mm + 1))).cell? ⟨w.heap.size, j, none⟩ = some (.int .u8 (s[j].toNat : Int))) := fun j hj => bytes_cells w s cap mm 5 j hj
    go_enter Tryz.func167, Tryz.ntmps167
    go_wp2_with fail
    go_loopg [6, 7, 42] s.size (fun g n over i wr => ∃ (k m : Nat) (b : Bool), n = .int .u64 m ∧ over = .bool b ∧ i = .int .i64 k ∧ k ≤ s.size ∧ m < 18446744073709551616 ∧ g = s.size - k ∧ Hid (Sofar (lst s) k m b) ∧ Hid (Ext w wr) ∧ Hid (∀ j (hj : j < s.size), wr.cell? ⟨w.heap.size, j, none⟩ = some (.int .u8 (s[j].toNat : Int))))
    case atStart => exact ⟨0, 0, false, rfl, rfl, rfl, Nat.zero_le _, by decide, rfl, (fun _ _ => ⟨rfl, rfl⟩), HX0.out.drew, HC0⟩
    case round =>
      obtain ⟨k, m, b, rfl, rfl, rfl, hk, hm, rfl, HS, HX, HC⟩ := hrel
      by_cases hlt : k < s.size
      · have hcell := HC.out k hlt
        have HBK := Lib.hid (HBB.out k hlt)
        have HL : Hid ((lst s)[k]'(by rw [lst_length]; exact hlt) = s[k]) := rfl
        generalize s[k] = c at hcell HBK HL
        by_cases hd : 48 ≤ c.toNat ∧ c.toNat ≤ 57
        · obtain ⟨hd1, hd2⟩ := hd
          have hd3 : (48 : Int) ≤ (c.toNat : Int) := by omega
          have hd4 : (c.toNat : Int) ≤ 57 := by omega
          obtain ⟨hi, lo, sm, cy, E1, E2, E3, E4⟩ : ∃ hi lo sm cy : Nat, Hid (hi = m * 10 / 18446744073709551616) ∧ Hid (lo = m * 10 % 18446744073709551616) ∧ Hid (sm = (lo + (c.toNat - 48)) % 18446744073709551616) ∧ Hid (cy = (lo + (c.toNat - 48)) / 18446744073709551616) := ⟨_, _, _, _, rfl, rfl, rfl, rfl⟩
          have hmul : ∀ u, Calls Tryz.prog 152 #[.int .u64 (m : Nat), .int .u64 10] u fun e w' => e = .returned (.tuple #[.int .u64 (hi : Nat), .int .u64 (lo : Nat)]) ∧ w' = u := fun u => by
            have := Tryz.bits_Mul64 m 10 hm (by decide) u
            rw [← E1.out, ← E2.out] at this
            exact this
          have hadd : ∀ u, (callFunc 191 #[.int .u64 (lo : Nat), .int .u64 ((c.toNat : Int) - 48), .int .u64 0]).run Tryz.prog u = .ok (.value (.tuple #[.int .u64 (sm : Nat), .int .u64 (cy : Nat)])) u := fun u => by
            have := add64_ext lo (c.toNat - 48) u
            rw [← E3.out, ← E4.out, show ((c.toNat - 48 : Nat) : Int) = (c.toNat : Int) - 48 by omega] at this
            exact this
          have hsm : sm < 18446744073709551616 := by have := E3.out; omega
          have HST : Hid (∀ b', b' = (b || decide (hi ≠ 0) || decide (cy ≠ 0)) → Sofar (lst s) (k + 1) sm b') := fun b' hb' => HS.out.step (by rw [lst_length]; exact hlt) HL.out ⟨hd1, hd2⟩ E1.out E2.out E3.out E4.out hb'
          clear E1 E2 E3 E4 HBK
          cases b with
          | true =>
            go_wp2_with (first | (go_at_call 152; refine (hmul _).mono ?_; rintro e w' ⟨rfl, rfl⟩))
            go_roundg (s.size - (k + 1))
            case measure => omega
            case rel => exact ⟨k + 1, sm, true, rfl, rfl, by go_num, by omega, hsm, rfl, HST.out _ (by simp), HX, HC⟩
          | false =>
            by_cases hh : hi = 0
            · have hh1 : ((hi : Int) != 0) = false := by rw [bne_eq_false_iff_eq]; omega
              have hh2 : (hi : Int) = 0 := by omega
              by_cases hy : cy = 0
              · have hy1 : ((cy : Int) != 0) = false := by rw [bne_eq_false_iff_eq]; omega
                have hy2 : (cy : Int) = 0 := by omega
                go_wp2_with (first | (go_at_call 152; refine (hmul _).mono ?_; rintro e w' ⟨rfl, rfl⟩))
                go_roundg (s.size - (k + 1))
                case measure => omega
                case rel => exact ⟨k + 1, sm, false, rfl, rfl, by go_num, by omega, hsm, rfl, HST.out _ (by simp [hh, hy]), HX, HC⟩
              · have hy1 : ((cy : Int) != 0) = true := by rw [bne_iff_ne]; omega
                have hy2 : ¬ (cy : Int) = 0 := by omega
                go_wp2_with (first | (go_at_call 152; refine (hmul _).mono ?_; rintro e w' ⟨rfl, rfl⟩))
                go_roundg (s.size - (k + 1))
                case measure => omega
                case rel => exact ⟨k + 1, sm, true, rfl, rfl, by go_num, by omega, hsm, rfl, HST.out _ (by simp [hh, hy]), HX, HC⟩
            · have hh1 : ((hi : Int) != 0) = true := by rw [bne_iff_ne]; omega
              have hh2 : ¬ (hi : Int) = 0 := by omega
              go_wp2_with (first | (go_at_call 152; refine (hmul _).mono ?_; rintro e w' ⟨rfl, rfl⟩))
              go_roundg (s.size - (k + 1))
              case measure => omega
              case rel => exact ⟨k + 1, sm, true, rfl, rfl, by go_num, by omega, hsm, rfl, HST.out _ (by simp [hh]), HX, HC⟩
        · have HBB2 := Lib.hid (HBK.out hd)
          have hd1 : (c.toNat : Int) < 48 ∨ ¬ (c.toNat : Int) < 48 ∧ (57 : Int) < (c.toNat : Int) := by omega
          clear hd
          rcases hd1 with hd1 | ⟨hd1, hd2⟩
          · go_wp2_with fail
            go_ret2
            exact ParseDone.bad HBB2.out rfl HX.out
          · go_wp2_with fail
            go_ret2
            exact ParseDone.bad HBB2.out rfl HX.out
      · have ek : k = s.size := by omega
        subst ek
        cases b with
        | true =>
          go_wp2_with fail
          go_ret2
          exact ⟨⟨0, 2, rfl, by omega, by omega, fun h1 h2 h3 h4 => (HOV.out m HS.out h1 h2 h3 h4).elim⟩, HX.out⟩
        | false =>
          have hcall := signed_any m hm false wr
          go_wp2_with fail
          refine hcall.mono ?_
          clear hcall
          rintro e w2 ⟨⟨v, q, rfl, hv1, hv2, hv3⟩, rfl⟩
          go_wp2_with fail
          go_ret2
          exact ⟨⟨v, q, rfl, hv1, hv2, fun h1 h2 h3 h4 => HOK.out m v q HS.out hv3 h1 h2 h3 h4⟩, HX.out⟩
theorem parse_any (s : ByteArray) (hs : s.size ≤ 1000) (w : World) :
    Calls Tryz.prog 167 #[.string s] w (ParseDone s w) := by
  by_cases h0 : s.size = 0
  · obtain rfl : s = ⟨#[]⟩ := lst_inj (List.eq_nil_of_length_eq_zero (by rw [lst_length]; exact h0))
    exact parse_empty w
  · by_cases h45 : (s[0]'(by omega)).toNat = 45
    · exact parse_minus s hs (by omega) (by omega) w
    · exact parse_plain s hs (by omega) (by omega) w
end Go.Proofs.YtmdkjcigmhgpeaaGreatDoor
