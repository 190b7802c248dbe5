/- Records in memory: a slice of api.Rec, each two cells; the walk of wal.read. -/
import Derived.Test.YtmdkjcigmhgpeaaGreatDoorWalBack
import Derived.Test.YtmdkjcigmhgpeaaGreatDoorWalNumber
import Derived.Test.YtmdkjcigmhgpeaaGreatDoorSealAll
import Derived.Test.YtmdkjcigmhgpeaaGreatDoorDiskCut
import Derived.Laws.OwnMore
import Derived.Laws.AppendOwnNone
import Derived.OneCell
import Derived.Deep.AppendLies
import Derived.Deep.RegionLaw
namespace Go.Proofs.YtmdkjcigmhgpeaaGreatDoor
open Go.RowKit Snp SealMath Wal

def rvals (x : RC) : List Value := [.int .i64 (x.1 : Nat), .string x.2]
def rrows (l : List RC) : List Value := l.flatMap rvals
theorem rrows_append (a b : List RC) : rrows (a ++ b) = rrows a ++ rrows b := by simp [rrows]
theorem rrows_one (x : RC) : rrows [x] = rvals x := by simp [rrows]
theorem rrows_length (l : List RC) : (rrows l).length = l.length * 2 := by
  induction l with
  | nil => rfl
  | cons x r ih =>
    have e : rrows (x :: r) = rvals x ++ rrows r := rfl
    rw [e, List.length_append, ih, List.length_cons]
    show 2 + _ = _
    omega
theorem rrows_get (l : List RC) (i : Nat) (hi : i < l.length) (j : Nat) (hj : j < 2) : (rrows l)[i * 2 + j]? = (rvals l[i])[j]? := by
  induction l generalizing i with
  | nil => simp at hi
  | cons x r ih =>
    have e : rrows (x :: r) = rvals x ++ rrows r := rfl
    have hl : (rvals x).length = 2 := rfl
    rw [e]
    cases i with
    | zero => rw [Nat.zero_mul, Nat.zero_add, List.getElem?_append_left (by rw [hl]; exact hj)]; rfl
    | succ i =>
      rw [List.getElem?_append_right (by rw [hl]; omega), hl, show (i + 1) * 2 + j - 2 = i * 2 + j by omega, ih i (by simpa using hi)]
      rfl
theorem rvals_one (x : RC) : ∀ u ∈ rvals x, u.oneCell' = true := by
  intro u hu
  simp only [rvals, List.mem_cons, List.not_mem_nil, or_false] at hu
  rcases hu with rfl | rfl <;> rfl
theorem rrows_ones (l : List RC) : ∀ u ∈ rrows l, u.oneCell' = true := by
  intro u hu
  unfold rrows at hu
  obtain ⟨x, _, hx⟩ := List.mem_flatMap.1 hu
  exact rvals_one x u hx
/-- The slice at a holds these records. -/
def RecsAt (w : World) (a : Option Addr) (l : List RC) : Prop :=
  ∀ (i : Nat) x, l[i]? = some x → ∃ g o, a = some ⟨g, o, none⟩ ∧ w.cell? ⟨g, o + i * 2, none⟩ = some (.int .i64 (x.1 : Nat)) ∧ w.cell? ⟨g, o + i * 2 + 1, none⟩ = some (.string x.2)
theorem RecsAt.only {F : Nat → Prop} {w w' : World} {a : Option Addr} {l : List RC} (h : RecsAt w a l) (k : Only F w w') (hF : ∀ bk o, a = some ⟨bk, o, none⟩ → ¬ F bk) : RecsAt w' a l := by
  intro i x hi
  obtain ⟨g, o, rfl, h0, h1⟩ := h i x hi
  have := hF _ _ rfl
  exact ⟨g, o, rfl, k.cell h0 this, k.cell h1 this⟩
theorem RecsAt.ext {w w' : World} {a : Option Addr} {l : List RC} (h : RecsAt w a l) (k : Ext w w') : RecsAt w' a l := h.only (F := fun _ => False) (Only.ext k) (fun _ _ _ hf => hf)
theorem info_rec : (Tryz.prog.info? 68).map (fun i => (i.zero, i.size, i.bytes)) = some (some (.agg #[.int .i64 0, .string ⟨#[]⟩]), 2, 24) := by kernel_rfl
/-- A slice of records that the call owns. -/
def OwnRecs (w : World) (B : Nat) (v : Value) (l : List RC) : Prop := w.ownsRow B 68 2 v l.length (rrows l)
theorem OwnRecs.nil (w : World) (B : Nat) : OwnRecs w B (.slice none 0 0) [] := World.ownsRow_nil _ _ _ _
theorem OwnRecs.ext {w w' : World} {B : Nat} {v : Value} {l : List RC} (h : OwnRecs w B v l) (k : Ext w w') : OwnRecs w' B v l := ownsRow_ext h k
theorem OwnRecs.base {w : World} {A B : Nat} {v : Value} {l : List RC} (h : OwnRecs w B v l) (k : A ≤ B) : OwnRecs w A v l := by
  obtain ⟨h0, h | ⟨g, cap, cur, rfl, hB, hg, h1, h2, h3, h4⟩⟩ := h
  · exact ⟨h0, .inl h⟩
  · exact ⟨h0, .inr ⟨g, cap, cur, rfl, Nat.le_trans k hB, hg, h1, h2, h3, h4⟩⟩
theorem OwnRecs.form {w : World} {B : Nat} {v : Value} {l : List RC} (h : OwnRecs w B v l) : ∃ a c, v = .slice a l.length c ∧ l.length ≤ c ∧ c ≤ maxLen ∧ RecsAt w a l ∧ (∀ bk o, a = some ⟨bk, o, none⟩ → o = 0 ∧ B ≤ bk ∧ bk < w.heap.size) ∧ (l ≠ [] → ∃ bk, a = some ⟨bk, 0, none⟩) := by
  have h' := h
  obtain ⟨_, h | ⟨g, cap, cur, rfl, hb, hg, hn, hc, _⟩⟩ := h
  · have : l = [] := List.eq_nil_of_length_eq_zero h.2
    subst this
    exact ⟨none, 0, h.1, Nat.le_refl _, Nat.zero_le _, fun i f hi => by simp at hi, (fun _ _ e => by cases e), fun h => absurd rfl h⟩
  · refine ⟨_, _, rfl, hn, hc, ?_, ?_, fun _ => ⟨g, rfl⟩⟩
    · intro i x hi
      obtain ⟨hi', rfl⟩ := List.getElem?_eq_some_iff.1 hi
      have key : ∀ j, j < 2 → w.cell? ⟨g, 0 + (i * 2 + j), none⟩ = (rvals l[i])[j]? := fun j hj => by
        have hr := rrows_get l i hi' j hj
        obtain ⟨u, hu⟩ : ∃ u, (rvals l[i])[j]? = some u := ⟨_, List.getElem?_eq_getElem (show j < 2 from hj)⟩
        rw [hu] at hr ⊢
        have := World.ownsRow.cells h' (g := g) rfl _ _ hr
        rw [← this]
        congr 1
        unfold Addr.add
        split <;> simp_all
      refine ⟨g, 0, rfl, key 0 (by omega), ?_⟩
      rw [Nat.add_assoc]; exact key 1 (by omega)
    · intro bk o e
      injection e with e; injection e with e1 e2
      subst e1; subst e2
      exact ⟨rfl, hb, (Array.getElem?_eq_some_iff.1 hg).1⟩
theorem cell_rec_new (w : World) (x : RC) (t : TypeId) : ∀ j u, (rvals x)[j]? = some u → (w.alloc (.cells #[.int .i64 (x.1 : Nat), .string x.2] t)).cell? ((⟨w.heap.size, 0, none⟩ : Addr).add j) = some u := by
  intro j u hj
  have e : (⟨w.heap.size, 0, none⟩ : Addr).add j = ⟨w.heap.size, j, none⟩ := by unfold Addr.add; split <;> simp_all
  rw [e, cell_new]
  simpa [rvals] using hj

/-- What read tells. -/
def ReadDone (s : ByteArray) (n : Nat) (w : World) (e : Ending) (w' : World) : Prop :=
  ∃ v, e = .returned (.tuple #[v, .int .i64 ((readW (lst s) n).2.1 : Nat), .bool (readW (lst s) n).2.2]) ∧ OwnRecs w' w.heap.size v (num n (readW (lst s) n).1) ∧ Ext w w'
theorem readW_of {s : List UInt8} {n p y q : Nat} {l : List (List UInt8)} {acc : List (List UInt8)} {b : Bool} (ha : allL s = (l, p, y)) (hr : readF n l = (acc, q, b)) : readW s n = (acc, q, b && decide (p = s.length)) := by
  unfold readW
  rw [ha, hr]
set_option maxRecDepth 20000 in
set_option maxHeartbeats 4000000 in
theorem read8_any (s : ByteArray) (hs : s.size ≤ 1048576) (n : Nat) (hn : n ≤ 99999999) (w : World) (hnb : Nibs w) :
    Calls Tryz.prog 132 #[.string s, .int .i64 (n : Nat)] w (ReadDone s n w) := by
  obtain ⟨i0, hi, hz0, hz1, hz2⟩ := info_parts info_rec
  have hcall := all_any s (by omega) w hnb
  clear hnb
  go_enter Tryz.func132, Tryz.ntmps132
  go_wp2_with fail
  refine hcall.mono ?_
  clear hcall
  rintro e w1 ⟨l, a, c, p, y, rfl, ha, hst, hc, hp, hx⟩
  have HX := Lib.hid hx
  have HA := Lib.hid ha
  have HST := Lib.hid hst
  clear hx ha hst
  go_wp2_with fail
  go_loopg [10, 11, 22] (l.length) (fun g v t i wr => ∃ (k q : Nat) (acc : List (List UInt8)), i = .int .i64 k ∧ t = .int .i64 q ∧ k ≤ l.length ∧ g = l.length - k ∧ acc.length = k ∧ q ≤ s.size ∧ OwnRecs wr w1.heap.size v (num n acc) ∧ Hid (Ext w1 wr) ∧
    Hid (readF n (l.map lst) = (acc ++ (readF (n + k) ((l.map lst).drop k)).1, q + (readF (n + k) ((l.map lst).drop k)).2.1, (readF (n + k) ((l.map lst).drop k)).2.2)))
  case atStart => exact ⟨0, 0, [], rfl, rfl, Nat.zero_le _, rfl, rfl, Nat.zero_le _, OwnRecs.nil _ _, Ext.refl _, (show Hid _ from by show _ = _; simp)⟩
  case round =>
    obtain ⟨k, q, acc, rfl, rfl, hk, rfl, hac, hq, hown, HXW, HR⟩ := hrel
    by_cases hlt : k < l.length
    · obtain ⟨bk, o, rfl, _, hcell⟩ := (HST.out.ext HXW.out) k _ (List.getElem?_eq_getElem hlt)
      have HD : Hid ((l.map lst).drop k = lst l[k] :: (l.map lst).drop (k + 1)) := by
        show _ = _
        rw [List.drop_eq_getElem_cons (by rw [List.length_map]; exact hlt), List.getElem_map]
      generalize l[k] = x at hcell HD
      obtain ⟨a2, c2, rfl, hc1, hc2, hrec, _, _⟩ := hown.form
      have hl : (num n acc).length = k := by rw [num_length]; exact hac
      rw [hl] at hc1 hown ⊢
      have HREC := Lib.hid hrec
      have HAC := Lib.hid hac
      have HOWN := Lib.hid hown
      clear hrec hac hown hl
      have hw1 : IntKind.i64.wrap ((n : Int) + (k : Int)) = (n : Int) + (k : Int) := by rw [IntKind.wrap_i64]; omega
      by_cases h8 : (x.size : Int) < 8
      · have hg : decide ((x.size : Int) < 8) = true := decide_eq_true h8
        go_wp2_with fail
        go_quiet (fail)
        go_wp2_with fail
        go_ret3
        have hrf : readF n (l.map lst) = (acc, q, false) := by
          rw [HR.out, HD.out, readF, if_neg]
          · simp
          · intro e
            have := congrArg List.length e
            rw [List.length_take, be8_length, lst_length] at this
            omega
        have hw := readW_of HA.out hrf
        refine ⟨_, by rw [hw]; rfl, ?_, ?_⟩
        · rw [hw]; exact (HOWN.out.base HX.out.size).ext ((Ext.refl wr).drewN _)
        · exact HX.out.trans (HXW.out.trans ((Ext.refl wr).drewN _))
      · have hnum : ∀ u, Calls Tryz.prog 92 #[.int .i64 ((n : Int) + (k : Int))] u fun e w' => ∃ r, e = .returned (.string r) ∧ lst r = be8 (n + k) ∧ Ext u w' := fun u => by
          have := number8_any (n + k) u
          rwa [Int.natCast_add] at this
        have hg : decide ((x.size : Int) < 8) = false := decide_eq_false h8
        have HTK : Hid (lst (x.extract 0 8) = (lst x).take 8 ∧ lst (x.extract 8 x.size) = (lst x).drop 8) := by
          refine ⟨by rw [extract_take], ?_⟩
          rw [show lst (x.extract 8 x.size) = (x.extract 8 x.size).data.toList from rfl, Lib.extract_data, List.take_of_length_le (by simp)]
        go_wp2_with fail
        go_region_held3 (fun _ => True) (trivial)
          (first | (go_at_call 92; refine (hnum _).mono ?_; rintro e v ⟨r, rfl, hr, hx0⟩))
        have HX2 := Lib.hid (HXW.out.trans (Ext.trans ((Ext.refl wr).drew) hx0))
        have HR8 := Lib.hid hr
        clear hr
        have hown2 := HOWN.out.ext (Ext.trans ((Ext.refl wr).drew) hx0)
        have hsz2 : w1.heap.size ≤ v.heap.size := HX2.out.size
        go_wp2_with (at_builtin; refine wpList_append_own _ rfl _ _ 61 rfl w1.heap.size 68 i0 (.agg #[.int .i64 0, .string ⟨#[]⟩]) 2 24 Tryz.underlying61 hi hz0 hz1 hz2 rfl (by decide) _ _ _ rfl (World.ownsRow.alloc hown2 _) ⟨v.heap.size, 0, none⟩ 1 1 [.int .i64 ((n : Int) + (k : Int)), .string (x.extract 8 x.size)] rfl rfl ?c1 ?c2 ?c3 ?c4 ?c5 ?_)
        · rename_i hq
          have HT8 : Hid ((lst x).take 8 ≠ be8 (n + k)) := fun h => by
            have : x.extract 0 8 = r := lst_inj (by rw [HTK.out.1, h, HR8.out])
            rw [this] at hq
            simp at hq
          go_ret3
          have hrf : readF n (l.map lst) = (acc, q, false) := by
            rw [HR.out, HD.out, readF, if_neg HT8.out]
            simp
          have hw := readW_of HA.out hrf
          refine ⟨_, by rw [hw]; rfl, ?_, ?_⟩
          · rw [hw]; exact (HOWN.out.base HX.out.size).ext (Ext.trans ((Ext.refl wr).drew) hx0)
          · exact HX.out.trans HX2.out
        case c1 => exact cell_rec_new v (n + k, x.extract 8 x.size) 68
        case c2 => exact rvals_one (n + k, x.extract 8 x.size)
        case c3 => rw [num_length, HAC.out]; unfold maxLen; omega
        case c4 => rw [num_length, HAC.out]; omega
        case c5 => simp; omega
        have hq := ‹(!(_ : Bool)) = false›
        have HT8 : Hid ((lst x).take 8 = be8 (n + k)) := by
          show _ = _
          have h1 : x.extract 0 8 = r := by
            rw [Bool.not_eq_false'] at hq
            have hq2 := eq_of_beq hq
            rw [ByteArray.toList_eq, ByteArray.toList_eq] at hq2
            exact lst_inj hq2
          rw [← HTK.out.1, h1, HR8.out]
        clear hq
        intro v' w2 hown3 hg3 _
        have hlt2 := World.ownsRow.lt hown2
        have k2 : Ext w1 w2 := Below.grown (HX2.out.alloc _) hg3 (by simp; omega) (fun kk e => (hlt2 kk e).1)
        have HO2 : Hid (OwnRecs w2 w1.heap.size v' (num n (acc ++ [(lst x).drop 8]))) := by
          show OwnRecs _ _ _ _
          rw [num_append, HAC.out]
          unfold OwnRecs
          rw [List.length_append, rrows_append]
          have e : rrows (num (n + k) [(lst x).drop 8]) = [.int .i64 ((n : Int) + (k : Int)), .string (x.extract 8 x.size)] := by
            have : bts ((lst x).drop 8) = x.extract 8 x.size := lst_inj (by rw [HTK.out.2]; rfl)
            show [Value.int .i64 ((n + k : Nat) : Int), Value.string (bts ((lst x).drop 8))] = _
            rw [this, Int.natCast_add]
          rw [e]
          exact hown3
        have HR2 : Hid (readF n (l.map lst) = (acc ++ [(lst x).drop 8] ++ (readF (n + (k + 1)) ((l.map lst).drop (k + 1))).1, q + (x.size + 12) + (readF (n + (k + 1)) ((l.map lst).drop (k + 1))).2.1, (readF (n + (k + 1)) ((l.map lst).drop (k + 1))).2.2)) := by
          show _ = _
          rw [HR.out, HD.out, readF, if_pos HT8.out, Nat.add_assoc n k 1]
          simp only [List.append_assoc, List.cons_append, List.nil_append, lst_length, Nat.add_assoc]
        have hq2 : q + (x.size + 12) ≤ s.size := by
          have h1 := frames_all (lst s)
          have h2 := readF_end n (l.map lst)
          rw [HA.out] at h1
          rw [HR2.out] at h2
          simp only at h1 h2
          rw [lst_length] at h1
          omega
        have HK2 := Lib.hid k2
        clear hown3 hg3 hown2 hx0 hlt2 k2 HR HD HT8 HTK
        go_wp2_with fail
        go_roundg (l.length - (k + 1))
        case measure => omega
        case rel => exact ⟨k + 1, q + (x.size + 12), acc ++ [(lst x).drop 8], by go_num, by go_num, by omega, rfl, by rw [List.length_append, HAC.out]; rfl, hq2, HO2.out, HK2, HR2⟩
    · have ek : k = l.length := by omega
      subst ek
      obtain ⟨a2, c2, rfl, hc1, hc2, hrec, _, _⟩ := hown.form
      have hl : (num n acc).length = l.length := by rw [num_length]; exact hac
      rw [hl] at hc1 hown ⊢
      have HOWN := Lib.hid hown
      clear hrec hac hown hl
      go_wp2_with fail
      go_ret3
      have hrf : readF n (l.map lst) = (acc, q, true) := by
        rw [HR.out, List.drop_of_length_le (by rw [List.length_map]; exact Nat.le_refl _)]
        simp [readF]
      have hw := readW_of HA.out hrf
      have hb : ((p : Int) == (s.size : Int)) = (true && decide (p = (lst s).length)) := by
        rw [Bool.true_and, Bool.eq_iff_iff, beq_iff_eq, decide_eq_true_eq, lst_length]; omega
      refine ⟨_, by rw [hw, ← hb]; rfl, ?_, ?_⟩
      · rw [hw]; exact HOWN.out.base HX.out.size
      · exact HX.out.trans HXW.out
end Go.Proofs.YtmdkjcigmhgpeaaGreatDoor
