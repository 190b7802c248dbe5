/- Several texts in one (each under its own head): the first: law 07's eight: a number's eight bytes, the highest first. -/
import Derived.Test.YtmdkjcigmhgpeaaGreatDoorWalNumber
import Derived.Test.YtmdkjcigmhgpeaaGreatDoorSealRef
import Derived.Test.YtmdkjcigmhgpeaaGreatDoorWalLaw
import Derived.Test.YtmdkjcigmhgpeaaGreatDoorRefPrint
import Derived.Laws.Concat
import Derived.Test.YtmdkjcigmhgpeaaGreatDoorWalRunZ
import Derived.Deep.RegionLaw
import Derived.Deep.AppendLies
/- law 07's eight: a number's eight bytes, the highest first. -/
namespace Go.Proofs.YtmdkjcigmhgpeaaGreatDoor
open Go.RowKit Snp SealMath

set_option maxRecDepth 20000 in
set_option maxHeartbeats 1000000 in
theorem eight8_any (n : Nat) (hn : n ≤ 9223372036854775807) (w : World) :
    Calls Tryz.prog 99 #[.int .i64 n] w fun e w' => ∃ r, e = .returned (.string r) ∧ lst r = be8 n ∧ Ext w w' := by
  obtain ⟨i0, hi, hz0, hz1, hz2⟩ := info_parts info_byte
  have hcall := eight_any n (by omega) w
  go_enter Tryz.func99, Tryz.ntmps99
  go_wp2_with fail
  refine hcall.mono ?_
  clear hcall
  rintro e w1 ⟨s, rfl, hs, hx⟩
  have hsz : s.size = 8 := by rw [← lst_length, hs, le_length]
  have HSL := Lib.hid hs
  have HX := Lib.hid hx
  clear hs hx
  go_wp2_with fail
  go_loopg [4, 5] 8 (fun g v i wr => ∃ (j : Int) (k : Nat) (done : List Int), i = .int .i64 j ∧ j = (k : Int) - 1 ∧ k ≤ 8 ∧ k = g ∧ done.length ≤ 8 - k ∧ OwnBytes wr w.heap.size v done ∧ Ext w wr ∧ Hid (done.map (fun n => UInt8.ofNat n.toNat) = ((lst s).drop k).reverse))
  case atStart => exact ⟨7, 8, [], rfl, rfl, Nat.le_refl _, rfl, Nat.zero_le _, OwnBytes.nil _ _, HX.out, (show Hid _ from by
    show _ = _
    rw [List.drop_of_length_le (by rw [lst_length, hsz]; exact Nat.le_refl _)]; rfl)⟩
  case round =>
    obtain ⟨j, k, done, rfl, hj, hk8, rfl, hd, hown, hk, HD⟩ := hrel
    by_cases h0 : k = 0
    · subst h0
      obtain rfl : j = -1 := by omega
      clear hj
      have hcv := hown.str
      have HR : Hid (lst (strOfNums done) = be8 n) := by
        show _ = _
        rw [lst_nums, HD.out, List.drop_zero, HSL.out]; rfl
      obtain ⟨r, hr⟩ : ∃ r, strOfNums done = r := ⟨_, rfl⟩
      rw [hr] at hcv HR
      clear hr hown
      go_wp2_with fail
      go_ret
      exact ⟨_, rfl, HR.out, hk⟩
    · obtain ⟨m, rfl⟩ : ∃ m, k = m + 1 := ⟨k - 1, by omega⟩
      obtain rfl : j = (m : Int) := by omega
      clear hj h0
      have hm : m < s.size := by omega
      have HB : Hid (((lst s).drop m).reverse = ((lst s).drop (m + 1)).reverse ++ [s[m]]) := by
        show _ = _
        have hlt : m < (lst s).length := by rw [lst_length]; exact hm
        rw [List.drop_eq_getElem_cons hlt, List.reverse_cons]; rfl
      have hc := s[m].toNat_lt
      go_wp2_with (at_builtin; refine wpList_append_own _ rfl _ _ 25 rfl w.heap.size 5 i0 (.int .u8 0) 1 1 Tryz.underlying25 hi hz0 hz1 hz2 rfl (by decide) _ _ _ rfl (hown.alloc _) ⟨wr.heap.size, 0, none⟩ 1 1 [.int .u8 (s[m].toNat : Int)] rfl rfl ?c1 ?c2 ?c3 ?c4 ?c5 ?_)
      case c1 => exact cell_one_new _ _ _
      case c2 => intro u hu; simp at hu; subst hu; rfl
      case c3 => unfold maxLen; omega
      case c4 => omega
      case c5 => have := hk.size; simp; omega
      intro v' w2 hown2 hg2 _
      have hlt2 := hown.lt
      have k2 : Ext w w2 := Below.grown (hk.alloc _) hg2 (by have := hk.size; simp; omega) (fun k e => (hlt2 k e).1)
      have HO2 : OwnBytes w2 w.heap.size v' (done ++ [(s[m].toNat : Int)]) := by
        unfold OwnBytes
        rw [List.length_append, List.map_append]
        exact hown2
      clear hown2 hown hlt2
      go_wp2_with fail
      go_roundg m
      case measure => omega
      case rel => exact ⟨(m : Int) - 1, m, done ++ [(s[m].toNat : Int)], by go_num, rfl, by omega, rfl, by simp; omega, HO2, k2, (show Hid _ from by
        show _ = _
        rw [List.map_append, HD.out, HB.out, List.map_cons, List.map_nil, Int.toNat_natCast, UInt8.ofNat_toNat])⟩
end Go.Proofs.YtmdkjcigmhgpeaaGreatDoor

/- Law 07's own telling: file, bytes, told. -/
namespace Go.Proofs.YtmdkjcigmhgpeaaGreatDoor
open Go.RowKit Snp SealMath Dsk Wal

set_option maxRecDepth 20000 in
set_option maxHeartbeats 1000000 in
/-- file: a segment's file. -/
theorem file7_any (n : Nat) (hn : n ≤ 99999999) (w : World) :
    Calls Tryz.prog 40 #[.int .i64 (n : Nat)] w fun e w' => e = .returned (.string (seg nameW n)) ∧ Ext w w' := by
  have hcall := rprint_any n hn w
  go_enter Tryz.func40, Tryz.ntmps40
  go_wp2_with fail
  refine hcall.mono ?_
  clear hcall
  rintro e w1 ⟨r, rfl, hr, hx⟩
  have hsz : r.size ≤ 8 := by rw [← lst_length, hr]; exact dec_len n (by omega)
  have HR := Lib.hid hr
  have HX := Lib.hid hx
  clear hr hx
  go_wp2_with fail
  go_loopg [3] (8 - r.size) (fun g x wr => ∃ (s : ByteArray) (k : Nat), x = .string s ∧ s.size = r.size + k ∧ s.size ≤ 8 ∧ g = 8 - s.size ∧ Hid (lst s = List.replicate k 48 ++ lst r) ∧ w1 = wr)
  case atStart => exact ⟨r, 0, rfl, rfl, hsz, rfl, rfl, rfl⟩
  case round =>
    obtain ⟨s, k, rfl, hsk, hs8, rfl, HP, rfl⟩ := hrel
    have HSK := Lib.hid hsk
    clear hsk
    by_cases hlt : s.size < 8
    · have hz : (⟨#[48]⟩ : ByteArray).size = 1 := rfl
      go_wp2_with fail
      go_roundg (8 - (1 + s.size))
      case measure => omega
      case rel => exact ⟨⟨#[48]⟩ ++ s, k + 1, rfl, by rw [ByteArray.size_append]; have := HSK.out; omega, by rw [ByteArray.size_append]; omega, by rw [ByteArray.size_append, hz], (show Hid _ from by
        show _ = _
        rw [lst_append, show lst (⟨#[48]⟩ : ByteArray) = [48] from rfl, HP.out, List.replicate_succ]; rfl), rfl⟩
    · go_wp2_with fail
      go_ret
      refine ⟨ret_str (lst_inj ?_), HX.out⟩
      rw [lst_append, show lst (⟨#[119, 46]⟩ : ByteArray) = [119, 46] from rfl, HP.out, lst_seg]
      unfold segL dec8
      rw [← HR.out, lst_length, show 8 - r.size = k by have := HSK.out; omega]; rfl

/-! ### told -/
/-- What told tells. -/
def ToldDone (s : ByteArray) (n : Nat) (w : World) (e : Ending) (w' : World) : Prop :=
  ∃ v, e = .returned (.tuple #[v, .int .i64 ((readW (lst s) n).2.1 : Nat), .bool (readW (lst s) n).2.2]) ∧ OwnRecs w' w.heap.size v (num n (readW (lst s) n).1) ∧ Ext w w'
set_option maxRecDepth 20000 in
set_option maxHeartbeats 4000000 in
theorem told7_any (s : ByteArray) (hs : s.size ≤ 60000) (n : Nat) (hn : n ≤ 99999999) (w : World) :
    Calls Tryz.prog 41 #[.string s, .int .i64 (n : Nat)] w (ToldDone s n w) := by
  obtain ⟨i0, hi0, hz0, hz1, hz2⟩ := info_parts info_rec
  have hcall := refall_any s (by omega) w
  go_enter Tryz.func41, Tryz.ntmps41
  go_wp2_with fail
  refine hcall.mono ?_
  clear hcall
  rintro e w1 ⟨l, a, c, p, y, rfl, ha, hst, hc, hp, hx⟩
  have HX := Lib.hid hx
  have HA := Lib.hid ha
  have HST := Lib.hid hst
  have HLS : Hid (l.length * 12 ≤ s.size) := hp
  clear hx ha hst hp
  go_wp2_with fail
  go_loopg [10, 11, 12] (l.length) (fun g v t i wr => ∃ (k q : Nat) (acc : List (List UInt8)), i = .int .i64 k ∧ t = .int .i64 q ∧ k ≤ l.length ∧ g = l.length - k ∧ acc.length = k ∧ q ≤ s.size ∧ OwnRecs wr w1.heap.size v (num n acc) ∧ Hid (Ext w1 wr) ∧
    Hid (readF n (l.map lst) = (acc ++ (readF (n + k) ((l.map lst).drop k)).1, q + (readF (n + k) ((l.map lst).drop k)).2.1, (readF (n + k) ((l.map lst).drop k)).2.2)))
  case atStart => exact ⟨0, 0, [], rfl, rfl, Nat.zero_le _, rfl, rfl, Nat.zero_le _, OwnRecs.nil _ _, Ext.refl _, (show Hid _ from by show _ = _; simp)⟩
  case round =>
    obtain ⟨k, q, acc, rfl, rfl, hk, rfl, hac, hq, hown, HXW, HR⟩ := hrel
    by_cases hlt : k < l.length
    · obtain ⟨bk, o, rfl, hbk1, hcell1⟩ := HST.out k _ (List.getElem?_eq_getElem hlt)
      have HD : Hid ((l.map lst).drop k = lst l[k] :: (l.map lst).drop (k + 1)) := by
        show _ = _
        rw [List.drop_eq_getElem_cons (by rw [List.length_map]; exact hlt), List.getElem_map]
      generalize l[k] = x at hcell1 HD
      have hcell := Ext.cell HXW.out hcell1
      have HC1 := Lib.hid hcell1
      obtain ⟨a2, c2, hv, hc1, hc2, hrec, hzz, hzy⟩ := hown.form
      subst hv
      have hl : (num n acc).length = k := by rw [num_length]; exact hac
      rw [hl] at hc1 hown ⊢
      have HAC := Lib.hid hac
      have HOWN := Lib.hid hown
      clear hrec hzz hzy hac hown hl hcell1
      have HXS : Hid (x.size + 12 ≤ s.size) := by
        have h1 := frames_all (lst s)
        rw [HA.out] at h1
        have h2 : framesL (l.map lst) = framesL ((l.map lst).take k) ++ framesL ((l.map lst).drop k) := by
          rw [← framesL_append, List.take_append_drop]
        rw [h2, HD.out, framesL_cons, List.length_append, List.length_append, frameL_length, lst_length, lst_length] at h1
        show _ ≤ _
        omega
      have hw1 : IntKind.i64.wrap ((n : Int) + (k : Int)) = (n : Int) + (k : Int) := by rw [IntKind.wrap_i64]; have := HLS.out; omega
      by_cases h8 : (x.size : Int) < 8
      · have hg : decide ((x.size : Int) < 8) = true := decide_eq_true h8
        go_upto_region 7 with fail
        go_cut [42] (fun s42 wx => s42 = .bool true ∧ Hid (Ext wr wx))
        case first =>
          go_quiet (fail)
          go_wp2_with fail
          go_meet
          exact ⟨rfl, (Ext.refl wr).drewN nq⟩
        obtain ⟨rfl, HX5⟩ := hcut
        go_wp2_with fail
        go_ret3
        have hrf : readF n (l.map lst) = (acc, q, false) := by
          rw [HR.out, HD.out, readF, if_neg]
          · simp
          · intro e
            have := congrArg List.length e
            rw [List.length_take, be8_length, lst_length] at this
            omega
        have hw := readW_of HA.out hrf
        refine ⟨_, by rw [hw]; rfl, ?_, ?_⟩
        · rw [hw]; exact OwnRecs.ext (HOWN.out.base HX.out.size) HX5.out
        · exact HX.out.trans (HXW.out.trans HX5.out)
      · have hg : decide ((x.size : Int) < 8) = false := decide_eq_false h8
        have hnum : ∀ u, Calls Tryz.prog 99 #[.int .i64 ((n : Int) + (k : Int))] u fun e w' => ∃ r, e = .returned (.string r) ∧ lst r = be8 (n + k) ∧ Ext u w' := fun u => by
          have := eight8_any (n + k) (by have := HLS.out; omega) u
          rwa [Int.natCast_add] at this
        have HTK : Hid (lst (x.extract 0 8) = (lst x).take 8 ∧ lst (x.extract 8 x.size) = (lst x).drop 8) := by
          refine ⟨by rw [extract_take], ?_⟩
          rw [show lst (x.extract 8 x.size) = (x.extract 8 x.size).data.toList from rfl, Lib.extract_data, List.take_of_length_le (by simp)]
        have h8a : (8 : Int) ≤ (x.size : Int) := by omega
        have h8b : 8 ≤ x.size := by omega
        have HNUM := Lib.hid hnum
        clear hnum
        go_upto_region 7 with fail
        go_cut [42] (fun s42 wx => s42 = .bool (decide ((lst x).take 8 ≠ be8 (n + k))) ∧ Hid (Ext wr wx))
        case first =>
          go_region_held3 (fun u => u.cell? ⟨bk, o + k, none⟩ = some (.string x)) (first | exact hcell | exact Ext.cell hx9 hcell)
            (first | (go_at_call 99; refine (HNUM.out _).mono ?_; rintro e v ⟨r, rfl, hr, hx0⟩; have hx9 : Ext wr v := Ext.trans (by first | exact Ext.refl _ | exact (Ext.refl _).drew) hx0; have HX9 := Lib.hid hx9; have HR8 := Lib.hid hr; clear hr hx0))
          all_goals
            go_wp2_with fail
            go_meet
            refine ⟨congrArg Value.bool ?_, HX9.out⟩
            rw [ByteArray.toList_eq, ByteArray.toList_eq, Bool.eq_iff_iff]
            simp only [Bool.not_eq_true', beq_eq_false_iff_ne, decide_eq_true_eq]
            rw [← HTK.out.1, ← HR8.out]
        obtain ⟨rfl, HX5⟩ := hcut
        by_cases ht : (lst x).take 8 = be8 (n + k)
        · rw [decide_eq_false (p := (lst x).take 8 ≠ be8 (n + k)) (fun h => h ht)]
          have HT8 := Lib.hid ht
          have hcell5 := Ext.cell HX5.out hcell
          have hown5 := OwnRecs.ext HOWN.out HX5.out
          clear ht hcell
          go_wp2_with (at_builtin; refine wpList_append_own _ rfl _ _ 61 rfl w1.heap.size 68 i0 (.agg #[.int .i64 0, .string ⟨#[]⟩]) 2 24 Tryz.underlying61 hi0 hz0 hz1 hz2 rfl (by decide) _ _ _ rfl (World.ownsRow.alloc hown5 _) ⟨wc.heap.size, 0, none⟩ 1 1 [.int .i64 ((n : Int) + (k : Int)), .string (x.extract 8 x.size)] rfl rfl ?c1 ?c2 ?c3 ?c4 ?c5 ?_)
          case c2 => exact ⟨rfl, rfl⟩
          case c3 => rw [num_length, HAC.out]; have := HLS.out; unfold maxLen; omega
          case c4 => rw [num_length, HAC.out]; have := HLS.out; omega
          case c5 => have := HXW.out.size; have := HX5.out.size; simp; omega
          intro v' w2 hown3 hg3 _
          have hlt2 := World.ownsRow.lt hown5
          have k2 : Ext w1 w2 := Below.grown ((HXW.out.trans HX5.out).alloc _) hg3 (by have := HXW.out.size; have := HX5.out.size; simp; omega) (fun kk e => (hlt2 kk e).1)
          have HO2 : Hid (OwnRecs w2 w1.heap.size v' (num n (acc ++ [(lst x).drop 8]))) := by
            show OwnRecs _ _ _ _
            rw [num_append, HAC.out]
            unfold OwnRecs
            rw [List.length_append, rrows_append]
            have e : rrows (num (n + k) [(lst x).drop 8]) = [.int .i64 ((n : Int) + (k : Int)), .string (x.extract 8 x.size)] := by
              have : bts ((lst x).drop 8) = x.extract 8 x.size := lst_inj (by rw [HTK.out.2]; rfl)
              show [Value.int .i64 ((n + k : Nat) : Int), Value.string (bts ((lst x).drop 8))] = _
              rw [this, Int.natCast_add]
            rw [e]
            exact hown3
          have HR2 : Hid (readF n (l.map lst) = (acc ++ [(lst x).drop 8] ++ (readF (n + (k + 1)) ((l.map lst).drop (k + 1))).1, q + (x.size + 12) + (readF (n + (k + 1)) ((l.map lst).drop (k + 1))).2.1, (readF (n + (k + 1)) ((l.map lst).drop (k + 1))).2.2)) := by
            show _ = _
            rw [HR.out, HD.out, readF, if_pos HT8.out, Nat.add_assoc n k 1]
            simp only [List.append_assoc, List.cons_append, List.nil_append, lst_length, Nat.add_assoc]
          have hq2 : q + (x.size + 12) ≤ s.size := by
            have h1 := frames_all (lst s)
            have h2 := readF_end n (l.map lst)
            rw [HA.out] at h1
            rw [HR2.out] at h2
            simp only at h1 h2
            rw [lst_length] at h1
            omega
          have HK2 := Lib.hid k2
          have hcell2 := Ext.cell k2 HC1.out
          have hfr := refframe_any x (by have := HXS.out; omega) w2
          have HQ2 := Lib.hid hq2
          clear hown3 hg3 hown5 hlt2 k2 HR HD HTK hcell5 hq2
          go_wp2_with fail
          refine hfr.mono ?_
          clear hfr
          rintro e w3 ⟨r3, rfl, hr3, hx3⟩
          have HSZ3 : Hid (r3.size = x.size + 12) := Lib.hid (by rw [← lst_length, hr3, frameL_length, lst_length])
          have hw4 : IntKind.i64.wrap ((q : Int) + (r3.size : Int)) = ((q + (x.size + 12) : Nat) : Int) := by rw [IntKind.wrap_i64]; have := HSZ3.out; have := HQ2.out; omega
          have hk1 : IntKind.i64.wrap ((k : Int) + 1) = (k : Int) + 1 := by rw [IntKind.wrap_i64]; have := HLS.out; omega
          have HX3 := Lib.hid (HK2.out.trans hx3)
          have HO3 := Lib.hid (OwnRecs.ext HO2.out hx3)
          clear hx3 hr3
          go_wp2_with fail
          go_roundg (l.length - (k + 1))
          case measure => omega
          case rel => exact ⟨k + 1, q + (x.size + 12), acc ++ [(lst x).drop 8], by go_num, by go_num, by omega, rfl, by rw [List.length_append, HAC.out]; rfl, HQ2.out, HO3.out, HX3, HR2⟩
        · rw [decide_eq_true (p := (lst x).take 8 ≠ be8 (n + k)) ht]
          have HT8 := Lib.hid ht
          clear ht
          go_wp2_with fail
          go_ret3
          have hrf : readF n (l.map lst) = (acc, q, false) := by
            rw [HR.out, HD.out, readF, if_neg]
            · simp
            · exact HT8.out
          have hw := readW_of HA.out hrf
          refine ⟨_, by rw [hw]; rfl, ?_, ?_⟩
          · rw [hw]; exact OwnRecs.ext (HOWN.out.base HX.out.size) HX5.out
          · exact HX.out.trans (HXW.out.trans HX5.out)
    · have ek : k = l.length := by omega
      subst ek
      obtain ⟨a2, c2, hv, hc1, hc2, hrec, hzz, hzy⟩ := hown.form
      subst hv
      have hl : (num n acc).length = l.length := by rw [num_length]; exact hac
      rw [hl] at hc1 hown ⊢
      have HOWN := Lib.hid hown
      clear hrec hzz hzy hac hown hl
      go_wp2_with fail
      go_ret3
      have hrf : readF n (l.map lst) = (acc, q, true) := by
        rw [HR.out, List.drop_of_length_le (by rw [List.length_map]; exact Nat.le_refl _)]
        simp [readF]
      have hw := readW_of HA.out hrf
      have hb : ((p : Int) == (s.size : Int)) = (true && decide (p = (lst s).length)) := by
        rw [Bool.true_and, Bool.eq_iff_iff, beq_iff_eq, decide_eq_true_eq, lst_length]; omega
      refine ⟨_, by rw [hw, ← hb]; rfl, ?_, ?_⟩
      · rw [hw]; exact HOWN.out.base HX.out.size
      · exact HX.out.trans HXW.out
end Go.Proofs.YtmdkjcigmhgpeaaGreatDoor

/- Law 07's bytes: what lies in a segment. -/
namespace Go.Proofs.YtmdkjcigmhgpeaaGreatDoor
open Go.RowKit Snp SealMath Dsk Wal

/-- A segment's bytes. -/
def recF (r : RC) : List UInt8 := be8 r.1 ++ lst r.2
def bytesP (recs : List RC) (more : ByteArray) : List UInt8 := framesL ((recs.take 10).map recF) ++ lst more
theorem bytesP_len (recs : List RC) (more : ByteArray) (h : ∀ r ∈ recs, r.2.size ≤ 300) (hm : more.size ≤ 300) : (bytesP recs more).length ≤ 4000 := by
  have key : ∀ l : List RC, (∀ r ∈ l, r.2.size ≤ 300) → (framesL (l.map recF)).length ≤ l.length * 320 := by
    intro l
    induction l with
    | nil => intro _; simp [framesL]
    | cons x r ih =>
      intro hh
      have h1 := ih (fun y hy => hh y (by simp [hy]))
      have h2 := hh x (by simp)
      have e : (recF x).length = 8 + x.2.size := by unfold recF; rw [List.length_append, be8_length, lst_length]
      rw [List.map_cons, framesL_cons, List.length_append, frameL_length, List.length_cons, e]
      omega
  unfold bytesP
  have h1 := key (recs.take 10) (fun r hr => h r (List.mem_of_mem_take hr))
  rw [List.length_append, lst_length]
  rw [List.length_take] at h1
  omega
theorem r2_le {q y r : ByteArray} (h8 : q.size = 8) (h : lst r = frameL (lst q ++ lst y)) (hy : y.size ≤ 300) : r.size ≤ 320 := by
  have h1 := congrArg List.length h
  rw [frameL_length, List.length_append, lst_length, lst_length, lst_length] at h1
  omega
set_option maxRecDepth 20000 in
set_option maxHeartbeats 4000000 in
theorem bytes7_any (first : Int) (ar : Option Addr) (cr : Nat) (recs : List RC) (more : ByteArray) (hseq : ∀ r ∈ recs, r.1 ≤ 9223372036854775807) (hr : ∀ r ∈ recs, r.2.size ≤ 300) (hm : more.size ≤ 300) (w : World) (hs : RecsAt w ar recs) :
    Calls Tryz.prog 39 #[.agg #[.int .i64 first, .slice ar recs.length cr, .string more]] w fun e w' => ∃ r, e = .returned (.string r) ∧ lst r = bytesP recs more ∧ Ext w w' := by
  obtain ⟨w0, hw0⟩ : ∃ u, u = w.alloc (.cells #[.int .i64 first, .slice ar recs.length cr, .string more] 77) := ⟨_, rfl⟩
  obtain ⟨bx, hbx⟩ : ∃ k, k = w.heap.size := ⟨_, rfl⟩
  have hx0 : Ext w w0 := by rw [hw0]; exact (Ext.refl w).alloc _
  have hb : w0.heap[bx]? = some (.cells #[.int .i64 first, .slice ar recs.length cr, .string more] 77 (0, 0)) := by rw [hw0, hbx]; exact heap_alloc_new w _
  have HB := Lib.hid hb
  have HX0 := Lib.hid hx0
  have HS := Lib.hid (hs.ext hx0)
  have HR := Lib.hid (And.intro hr (And.intro hm hseq))
  clear hs hr hm hseq hx0 hb
  go_enter Tryz.func39, Tryz.ntmps39
  go_upto_region 1 with fail
  rw [← hw0, ← hbx]
  clear hw0 hbx
  go_wp2_with fail
  go_loopg [3, 4] (recs.length) (fun g t i wr => ∃ (j : Nat) (s : ByteArray), t = .string s ∧ i = .int .i64 j ∧ j ≤ recs.length ∧ j ≤ 10 ∧ g = recs.length - j ∧ Hid (lst s = framesL ((recs.take j).map recF) ∧ s.size ≤ j * 400) ∧ Hid (Ext w0 wr))
  case atStart => exact ⟨0, ⟨#[]⟩, rfl, rfl, Nat.zero_le _, Nat.zero_le _, rfl, ⟨rfl, Nat.le_refl _⟩, Ext.refl _⟩
  case round =>
    obtain ⟨j, s, rfl, rfl, hj, hj10, rfl, HP, HX⟩ := hrel
    have hs4 : s.size ≤ 4000 := by have := HP.out.2; omega
    have b1 : wr.cell? ⟨bx, 1, none⟩ = some (.slice ar recs.length cr) := Ext.cell HX.out (Go.Joins.cell_of_block HB.out 1)
    by_cases hgo : j < recs.length ∧ j < 10
    · obtain ⟨hlt, hl10⟩ := hgo
      obtain ⟨bk, o, har, hcx, hdx⟩ := (HS.out.ext HX.out) j _ (List.getElem?_eq_getElem hlt)
      subst har
      have HT : Hid (recs.take (j + 1) = recs.take j ++ [recs[j]]) := List.take_succ_eq_append_getElem hlt
      have HY : Hid (recs[j].2.size ≤ 300 ∧ recs[j].1 ≤ 9223372036854775807) := ⟨HR.out.1 _ (List.getElem_mem hlt), HR.out.2.2 _ (List.getElem_mem hlt)⟩
      generalize recs[j] = y at hcx hdx HT HY
      have HEI : Hid (∀ u, Calls Tryz.prog 99 #[.int .i64 (y.1 : Nat)] u fun e w' => ∃ r, e = .returned (.string r) ∧ (lst r = be8 y.1 ∧ r.size = 8) ∧ Ext u w') := fun u => by
        refine (eight8_any y.1 HY.out.2 u).mono ?_
        rintro e w' ⟨r, rfl, h1, h2⟩
        exact ⟨r, rfl, ⟨h1, by rw [← lst_length, h1, be8_length]⟩, h2⟩
      have HFR : Hid (∀ u (q : ByteArray), q.size = 8 → Calls Tryz.prog 98 #[.string (q ++ y.2)] u fun e w' => ∃ r, e = .returned (.string r) ∧ lst r = frameL (lst q ++ lst y.2) ∧ Ext u w') := fun u q hq => by
        refine (refframe_any (q ++ y.2) (by rw [ByteArray.size_append]; have := HY.out.1; omega) u).mono ?_
        rintro e w' ⟨r, rfl, h1, h2⟩
        exact ⟨r, rfl, by rw [h1, lst_append], h2⟩
      have hy3 : y.2.size ≤ 300 := HY.out.1
      go_wp2_with fail
      go_region_held3 (fun u => u.cell? ⟨bx, 1, none⟩ = some (.slice (some ⟨bk, o, none⟩) recs.length cr) ∧ u.cell? ⟨bk, o + j * 2, none⟩ = some (.int .i64 (y.1 : Nat)) ∧ u.cell? ⟨bk, o + j * 2 + 1, none⟩ = some (.string y.2))
        (first | exact ⟨b1, hcx, hdx⟩ | exact ⟨Ext.cell hx9 b1, Ext.cell hx9 hcx, Ext.cell hx9 hdx⟩ | exact ⟨Ext.cell hx10 b1, Ext.cell hx10 hcx, Ext.cell hx10 hdx⟩)
        (first | (go_at_call 99; refine (HEI.out _).mono ?_; rintro e v ⟨r, rfl, hr8, hx0⟩; have hx9 : Ext wr v := Ext.trans (by first | exact Ext.refl _ | exact (Ext.refl _).drew) hx0; have HR8 := Lib.hid hr8; have hs8 : r.size = 8 := hr8.2; have ha1 : ∀ u, (Op.stringOp .add r y.2).run Tryz.prog u = .ok (.string (r ++ y.2)) u := (fun u => run_string_add_sum u _ _ (by omega)); clear hr8 hx0) | (go_at_call 98; refine (HFR.out _ _ HR8.out.2).mono ?_; rintro e v2 ⟨r2, rfl, hr2, hx0⟩; have hx10 : Ext wr v2 := Ext.trans (by first | exact hx9 | exact hx9.drew) hx0; have HX10 := Lib.hid hx10; have HR2 := Lib.hid hr2; have hsz : r2.size ≤ 320 := r2_le HR8.out.2 hr2 hy3; have ha3 : ∀ u, (Op.stringOp .add s r2).run Tryz.prog u = .ok (.string (s ++ r2)) u := (fun u => run_string_add_sum u _ _ (by omega)); clear hr2 hx0))
      all_goals
        have HSZ := Lib.hid hsz
        have hji : IntKind.i64.wrap ((j : Int) + 1) = (j : Int) + 1 := by rw [IntKind.wrap_i64]; omega
        clear hsz
        go_wp2_with fail
        go_roundg (recs.length - (j + 1))
        case measure => omega
        case rel => exact ⟨j + 1, s ++ r2, rfl, by go_num, by omega, by omega, rfl, ⟨by
          rw [lst_append, HP.out.1, HR2.out, HT.out, List.map_append, framesL_append, HR8.out.1]
          simp [framesL, recF], by rw [ByteArray.size_append]; have := HP.out.2; have := HSZ.out; omega⟩, HX.out.trans HX10.out⟩
    · have hm3 : more.size ≤ 300 := HR.out.2.1
      have b2 : wr.cell? ⟨bx, 2, none⟩ = some (.string more) := Ext.cell HX.out (Go.Joins.cell_of_block HB.out 2)
      have HPE : Hid (lst s = framesL ((recs.take 10).map recF)) := by
        show _ = _
        rw [HP.out.1]
        by_cases hlt : j < recs.length
        · rw [show j = 10 by omega]
        · rw [List.take_of_length_le (by omega), List.take_of_length_le (by omega)]
      by_cases hlt : j < recs.length
      · have h10 : ¬ (j : Int) < 10 := by omega
        go_wp2_with fail
        go_ret
        exact ⟨_, rfl, by rw [lst_append, HPE.out]; rfl, HX0.out.trans HX.out⟩
      · go_wp2_with fail
        go_ret
        exact ⟨_, rfl, by rw [lst_append, HPE.out]; rfl, HX0.out.trans HX.out⟩
end Go.Proofs.YtmdkjcigmhgpeaaGreatDoor

/- Segments as data (law 07's Seg); how a slice of them lies in memory; an argument opened to it. -/
namespace Go.Proofs.YtmdkjcigmhgpeaaGreatDoor
open Go.RowKit Go.Maps Dsk Go.ChangeShapes Go.WideShapes Go.Deep

/-- A record with any number. -/
abbrev RZ := Int × ByteArray
structure SgD where
  first : Int
  recs : List RZ
  more : ByteArray
instance : Inhabited SgD := ⟨⟨0, [], ⟨#[]⟩⟩⟩
structure SgOk (x : SgD) : Prop where
  first : I64 x.first
  recs : ∀ r ∈ x.recs, I64 r.1
  len : x.recs.length ≤ 140737488355328
def zvals (x : RZ) : List Value := [.int .i64 x.1, .string x.2]
def RecsZ (w : World) (a : Option Addr) (xs : List RZ) : Prop :=
  ∀ (j : Nat) x, xs[j]? = some x → ∃ bk o, a = some ⟨bk, o, none⟩ ∧ (∀ (i : Nat) u, (zvals x)[i]? = some u → w.cell? ⟨bk, o + (j * 2 + i), none⟩ = some u)
theorem RecsZ.ext {w w' : World} {a : Option Addr} {xs : List RZ} (h : RecsZ w a xs) (k : Ext w w') : RecsZ w' a xs := by
  intro j x hj
  obtain ⟨bk, o, rfl, hc⟩ := h j x hj
  exact ⟨bk, o, rfl, fun i u hu => k.cell (hc i u hu)⟩
def gvals (x : SgD) (ar : Option Addr) (cr : Nat) : List Value := [.int .i64 x.first, .slice ar x.recs.length cr, .string x.more]
def SegsAt (w : World) (a : Option Addr) (xs : List SgD) : Prop :=
  ∀ (j : Nat) x, xs[j]? = some x → ∃ bk o ar cr, a = some ⟨bk, o, none⟩ ∧ (∀ (i : Nat) u, (gvals x ar cr)[i]? = some u → w.cell? ⟨bk, o + (j * 3 + i), none⟩ = some u) ∧ RecsZ w ar x.recs
theorem SegsAt.ext {w w' : World} {a : Option Addr} {xs : List SgD} (h : SegsAt w a xs) (k : Ext w w') : SegsAt w' a xs := by
  intro j x hj
  obtain ⟨bk, o, ar, cr, rfl, hc, hz⟩ := h j x hj
  exact ⟨bk, o, ar, cr, rfl, fun i u hu => k.cell (hc i u hu), hz.ext k⟩

section
variable {H : Type} {enc : TypeId × Value → H} {W : World}
theorem under_rec : ∃ fs : Array Field, Tryz.prog.underlying 68 = some (.struct fs) ∧ fs.map (fun f => (f.type, f.offset)) = #[(3, 0), (9, 1)] := by
  have key : (match Tryz.prog.underlying 68 with | some (.struct fs) => decide (fs.map (fun f => (f.type, f.offset)) = #[(3, 0), (9, 1)]) | _ => false) = true := by kernel_rfl
  split at key
  · rename_i fs e
    exact ⟨fs, e, of_decide_eq_true key⟩
  · cases key
theorem under_seg : ∃ fs : Array Field, Tryz.prog.underlying 77 = some (.struct fs) ∧ fs.map (fun f => (f.type, f.offset)) = #[(3, 0), (61, 1), (9, 2)] := by
  have key : (match Tryz.prog.underlying 77 with | some (.struct fs) => decide (fs.map (fun f => (f.type, f.offset)) = #[(3, 0), (61, 1), (9, 2)]) | _ => false) = true := by kernel_rfl
  split at key
  · rename_i fs e
    exact ⟨fs, e, of_decide_eq_true key⟩
  · cases key
theorem cells_recs : Tryz.prog.cellsOf 68 = 2 ∧ Tryz.prog.cellsOf 77 = 3 ∧ Tryz.prog.cellsOf 61 = 1 := ⟨by kernel_rfl, by kernel_rfl, by kernel_rfl⟩
theorem field_at {fs : Array Field} {ts : Array (TypeId × Nat)} (h : fs.map (fun f => (f.type, f.offset)) = ts) {i : Nat} {t : TypeId} {o : Nat} (hi : ts[i]? = some (t, o)) : ∃ f, fs[i]? = some f ∧ f.type = t ∧ f.offset = o := by
  rw [← h, Array.getElem?_map] at hi
  cases hf : fs[i]? with
  | none => rw [hf] at hi; cases hi
  | some f =>
    rw [hf] at hi
    simp only [Option.map_some, Option.some.injEq, Prod.mk.injEq] at hi
    exact ⟨f, rfl, hi.1, hi.2⟩
set_option maxRecDepth 20000 in
theorem rec_in {fuel : Nat} {vs : List Value} {y : DataW H × List MemPlace} (h : DataW.trod enc Tryz.prog W 0 (fun _ => true) true fuel 68 vs = some y) :
    ∃ x : RZ, vs = zvals x ∧ I64 x.1 := by
  obtain ⟨fs, hua, hts⟩ := under_rec
  obtain ⟨ys, n, _, hy, hlen, hyl, hf⟩ := DataW.trod_struct hua h
  rw [cells_recs.1] at hlen
  have hsz : fs.size = 2 := by have := congrArg Array.size hts; simpa using this
  rw [hsz] at hyl
  match vs, hlen with
  | [c0, c1], _ =>
    match ys, hyl with
    | [y0, y1], _ =>
      obtain ⟨f0, e0, t0, o0⟩ := field_at hts (i := 0) rfl
      obtain ⟨f1, e1, t1, o1⟩ := field_at hts (i := 1) rfl
      have h0 := hf 0 f0 e0
      have h1 := hf 1 f1 e1
      rw [t0, o0, act_one7.1] at h0
      rw [t1, o1, act_one7.2] at h1
      simp only [List.drop_zero, List.drop_succ_cons, List.take_succ_cons, List.take_zero, List.getElem?_cons_zero, List.getElem?_cons_succ] at h0 h1
      obtain ⟨k, hk0, hk1, hk2⟩ := DataW.trod_int Tryz.underlying3 h0
      obtain ⟨s, hs0, hs1, hs2⟩ := DataW.trod_string Tryz.underlying9 h1
      simp only [List.cons.injEq, and_true] at hk0 hs0
      have b0 := bounds_i64 hk2
      exact ⟨(k, s), by rw [hk0, hs0]; rfl, by unfold I64; exact b0⟩
set_option maxRecDepth 20000 in
theorem recs_in {fuel : Nat} {v : Value} {y : DataW H × List MemPlace} (h : DataW.trod enc Tryz.prog W 0 (fun _ => true) true fuel 61 [v] = some y) (hw : ∀ n ∈ y.1.weights Tryz.prog 61, n ≤ reachBytes) :
    ∃ a c, ∃ xs : List RZ, v = .slice a xs.length c ∧ xs.length ≤ c ∧ xs.length ≤ 140737488355328 ∧ (∀ x ∈ xs, I64 x.1) ∧ RecsZ W a xs := by
  rcases open_slice Tryz.underlying61 h with ⟨hcs, hx⟩ | ⟨a', len, cap, m, k, D, Pl, hcs, _, hl, hm, hmm, hx, hi⟩
  · simp only [List.cons.injEq, and_true] at hcs
    exact ⟨none, 0, [], hcs, Nat.le_refl _, by simp, by simp, fun j x hj => by simp at hj⟩
  · simp only [List.cons.injEq, and_true] at hcs
    simp only [if_true] at hmm
    obtain rfl : m = cap := hmm
    subst hx
    have hbytes : Tryz.prog.bytesOf 68 = 24 := by kernel_rfl
    have hlen : len ≤ 140737488355328 := by
      have := hw (((List.range len).map D).length + ((List.range (m - len)).map fun j => D (len + j)).length |> (· * 24)) (by
        simp only [DataW.weights, Tryz.underlying61, hbytes]
        exact List.mem_cons_self)
      simp only [List.length_map, List.length_range, reachBytes] at this
      omega
    have hsp : 0 < len → a'.spot = none := fun h0 => by
      obtain ⟨cs', hc, ht'⟩ := hi 0 (by omega)
      rw [cells_recs.1] at hc
      obtain ⟨_, hcl, hat⟩ := World.cells?_some hc
      have h1 := hat 0 (by omega)
      rw [List.getElem?_eq_getElem (by omega)] at h1
      have := World.cell?_spot h1
      simpa [Addr.add] using this
    obtain ⟨X, hX⟩ := choose_lt (n := len) (α := RZ) (p := fun i x => ∃ bk o, a' = ⟨bk, o, none⟩ ∧ (∀ (t : Nat) u, (zvals x)[t]? = some u → W.cell? ⟨bk, o + (i * 2 + t), none⟩ = some u) ∧ I64 x.1) (fun i hin => by
      obtain ⟨cs', hc, ht'⟩ := hi i (by omega)
      obtain ⟨x, hv, h2⟩ := rec_in ht'
      rw [cells_recs.1] at hc
      obtain ⟨_, hcl, hat⟩ := World.cells?_some hc
      have hspot := hsp (by omega)
      obtain ⟨bk, o, spot⟩ := a'
      simp only at hspot
      subst hspot
      refine ⟨x, bk, o, rfl, fun t u hu => ?_, h2⟩
      have ht6 : t < 2 := by have := (List.getElem?_eq_some_iff.1 hu).1; simpa [zvals] using this
      have h := hat t ht6
      rw [hv, hu] at h
      rw [← h, add_add]
      congr 1
      unfold Addr.add
      split <;> simp_all)
    refine ⟨some a', m, (List.range len).map X, by rw [List.length_map, List.length_range]; exact hcs, by rw [List.length_map, List.length_range]; exact hl, by rw [List.length_map, List.length_range]; exact hlen, ?_, ?_⟩
    · intro x hx
      obtain ⟨i, hi', rfl⟩ := List.mem_map.1 hx
      obtain ⟨_, _, _, _, h⟩ := hX i (List.mem_range.1 hi')
      exact h
    · intro j x hj
      rw [List.getElem?_map] at hj
      cases hr : (List.range len)[j]? with
      | none => rw [hr] at hj; cases hj
      | some i =>
        rw [hr] at hj
        simp only [Option.map_some, Option.some.injEq] at hj
        subst hj
        obtain ⟨hl', he⟩ := List.getElem?_eq_some_iff.1 hr
        rw [List.getElem_range] at he
        subst he
        obtain ⟨bk, o, rfl, h1, _⟩ := hX j (by simpa using hl')
        exact ⟨bk, o, rfl, h1⟩
set_option maxRecDepth 20000 in
theorem seg_in {fuel : Nat} {vs : List Value} {y : DataW H × List MemPlace} (h : DataW.trod enc Tryz.prog W 0 (fun _ => true) true fuel 77 vs = some y) (hw : ∀ n ∈ y.1.weights Tryz.prog 77, n ≤ reachBytes) :
    ∃ (x : SgD) (ar : Option Addr) (cr : Nat), vs = gvals x ar cr ∧ RecsZ W ar x.recs ∧ SgOk x := by
  obtain ⟨fs, hua, hts⟩ := under_seg
  obtain ⟨ys, n, _, hy, hlen, hyl, hf⟩ := DataW.trod_struct hua h
  rw [cells_recs.2.1] at hlen
  have hsz : fs.size = 3 := by have := congrArg Array.size hts; simpa using this
  rw [hsz] at hyl
  match vs, hlen with
  | [c0, c1, c2], _ =>
    match ys, hyl with
    | [y0, y1, y2], _ =>
      obtain ⟨f0, e0, t0, o0⟩ := field_at hts (i := 0) rfl
      obtain ⟨f1, e1, t1, o1⟩ := field_at hts (i := 1) rfl
      obtain ⟨f2, e2, t2, o2⟩ := field_at hts (i := 2) rfl
      have h0 := hf 0 f0 e0
      have h1 := hf 1 f1 e1
      have h2 := hf 2 f2 e2
      rw [t0, o0, act_one7.1] at h0
      rw [t1, o1, cells_recs.2.2] at h1
      rw [t2, o2, act_one7.2] at h2
      simp only [List.drop_zero, List.drop_succ_cons, List.take_succ_cons, List.take_zero, List.getElem?_cons_zero, List.getElem?_cons_succ] at h0 h1 h2
      subst hy
      have hwt : ∀ (j : Nat) (t : TypeId) (d : DataW H), ([3, 61, 9] : List TypeId)[j]? = some t → [y0.1, y1.1, y2.1][j]? = some d → ∀ n ∈ d.weights Tryz.prog t, n ≤ reachBytes := fun j t d ht hd n hn => by
        refine hw n ?_
        have htt : fs.toList.map (·.type) = [3, 61, 9] := by
          have := congrArg (fun a => a.toList.map (·.1)) hts
          rw [Array.toList_map, List.map_map] at this
          exact this
        simp only [DataW.weights, hua, htt, List.map_cons, List.map_nil]
        exact DataW.weights_mem_each ht hd n hn
      obtain ⟨k, hk0, hk1, hk2⟩ := DataW.trod_int Tryz.underlying3 h0
      obtain ⟨ar, cr, rs, hr0, hr1, hr2, hr3, hr4⟩ := recs_in h1 (hwt 1 _ _ rfl rfl)
      obtain ⟨s, hs0, hs1, hs2⟩ := DataW.trod_string Tryz.underlying9 h2
      simp only [List.cons.injEq, and_true] at hk0 hs0
      have b0 := bounds_i64 hk2
      exact ⟨⟨k, rs, s⟩, ar, cr, by rw [hk0, hr0, hs0]; rfl, hr4, ⟨by unfold I64; exact b0, hr3, hr2⟩⟩
set_option maxRecDepth 20000 in
/-- An argument that is a slice of segments. -/
theorem segs_arg {a : Option Addr} {n c : Nat} {d : DataW H} {p : List MemPlace} (h : DataW.Trod enc Tryz.prog W 0 (fun _ => true) true 75 (.slice a n c) d p)
    {ts : List TypeId} {ds : List (DataW H)} (hsz : (DataW.weightsEach Tryz.prog ts ds).all (· ≤ reachBytes) = true) {j : Nat} (ht : ts[j]? = some 75) (hd : ds[j]? = some d) :
    ∃ xs : List SgD, n = xs.length ∧ n ≤ c ∧ n ≤ 140737488355328 ∧ (∀ x ∈ xs, SgOk x) ∧ SegsAt W a xs := by
  obtain ⟨fuel, hf⟩ := h
  have hw : ∀ n ∈ d.weights Tryz.prog 75, n ≤ reachBytes := fun n hn => by
    have := List.all_eq_true.1 hsz _ (DataW.weights_mem_each ht hd n hn)
    simpa using this
  rcases open_slice Tryz.underlying75 hf with ⟨hcs, hx⟩ | ⟨a', len, cap, m, k, D, Pl, hcs, _, hl, hm, hmm, hx, hi⟩
  · simp [Value.cells] at hcs
    obtain ⟨rfl, rfl, rfl⟩ := hcs
    exact ⟨[], rfl, Nat.le_refl _, by omega, by simp, fun j x hj => by simp at hj⟩
  · simp [Value.cells] at hcs
    obtain ⟨rfl, rfl, rfl⟩ := hcs
    simp only [if_true] at hmm
    obtain rfl : m = c := hmm
    simp only [Prod.mk.injEq] at hx
    obtain ⟨rfl, _⟩ := hx
    have hbytes : Tryz.prog.bytesOf 77 = 48 := by kernel_rfl
    have hlen : n ≤ 140737488355328 := by
      have := hw (((List.range n).map D).length + ((List.range (m - n)).map fun j => D (n + j)).length |> (· * 48)) (by
        simp only [DataW.weights, Tryz.underlying75, hbytes]
        exact List.mem_cons_self)
      simp only [List.length_map, List.length_range, reachBytes] at this
      omega
    have hsp : 0 < n → a'.spot = none := fun h0 => by
      obtain ⟨cs', hc, ht'⟩ := hi 0 (by omega)
      rw [cells_recs.2.1] at hc
      obtain ⟨_, hcl, hat⟩ := World.cells?_some hc
      have h1 := hat 0 (by omega)
      rw [List.getElem?_eq_getElem (by omega)] at h1
      have := World.cell?_spot h1
      simpa [Addr.add] using this
    obtain ⟨X, hX⟩ := choose_lt (n := n) (α := SgD) (p := fun i x => ∃ bk o ar cr, a' = ⟨bk, o, none⟩ ∧ (∀ (t : Nat) u, (gvals x ar cr)[t]? = some u → W.cell? ⟨bk, o + (i * 3 + t), none⟩ = some u) ∧ RecsZ W ar x.recs ∧ SgOk x) (fun i hin => by
      obtain ⟨cs', hc, ht'⟩ := hi i (by omega)
      obtain ⟨x, ar, cr, hv, h1, h2⟩ := seg_in ht' (fun q hq => hw q (by
        simp only [DataW.weights, Tryz.underlying75]
        refine List.mem_cons_of_mem _ (List.mem_append_left _ ?_)
        exact weightsAll_mem (List.mem_map.2 ⟨i, List.mem_range.2 hin, rfl⟩) q hq))
      rw [cells_recs.2.1] at hc
      obtain ⟨_, hcl, hat⟩ := World.cells?_some hc
      have hspot := hsp (by omega)
      obtain ⟨bk, o, spot⟩ := a'
      simp only at hspot
      subst hspot
      refine ⟨x, bk, o, ar, cr, rfl, fun t u hu => ?_, h1, h2⟩
      have ht6 : t < 3 := by have := (List.getElem?_eq_some_iff.1 hu).1; simpa [gvals] using this
      have h := hat t ht6
      rw [hv, hu] at h
      rw [← h, add_add]
      congr 1
      unfold Addr.add
      split <;> simp_all)
    refine ⟨(List.range n).map X, by simp, hl, hlen, ?_, ?_⟩
    · intro x hx
      obtain ⟨i, hi', rfl⟩ := List.mem_map.1 hx
      obtain ⟨_, _, _, _, _, _, _, h⟩ := hX i (List.mem_range.1 hi')
      exact h
    · intro j x hj
      rw [List.getElem?_map] at hj
      cases hr : (List.range n)[j]? with
      | none => rw [hr] at hj; cases hj
      | some i =>
        rw [hr] at hj
        simp only [Option.map_some, Option.some.injEq] at hj
        subst hj
        obtain ⟨hl', he⟩ := List.getElem?_eq_some_iff.1 hr
        rw [List.getElem_range] at he
        subst he
        obtain ⟨bk, o, ar, cr, rfl, h1, h2, _⟩ := hX j (by simpa using hl')
        exact ⟨bk, o, ar, cr, rfl, h1, h2⟩
end
end Go.Proofs.YtmdkjcigmhgpeaaGreatDoor

/- What Open tells of segments that lie on a disk in the order of their numbers. No program in sight. -/
namespace Go.Proofs.YtmdkjcigmhgpeaaGreatDoor
namespace Wal
open SealMath Dsk Snp

abbrev PS := List (Nat × ByteArray)
def fileP (p : Nat × ByteArray) : FD := ⟨seg nameW p.1, p.2, p.2.size⟩
/-- Segments on a disk. -/
structure Laid (S : DS) (ps : PS) : Prop where
  on : S.off = false
  armed : S.armed = false
  files : S.files = ps.map fileP
  room : S.room = 1048576
  uses : S.uses = 0
  asc : ps.Pairwise (fun p q => p.1 < q.1)
  lim : ∀ p ∈ ps, p.1 ≤ 99999999
  small : ∀ p ∈ ps, p.2.size ≤ 4000
theorem Laid.first : Laid (new 1048576) [] := ⟨rfl, rfl, rfl, rfl, rfl, List.Pairwise.nil, by simp, by simp⟩
variable {S : DS} {ps : PS}
theorem Laid.sorted (h : Laid S ps) : Sorted S.files := by
  rw [h.files]
  refine List.pairwise_map.2 (h.asc.imp_of_mem (fun _ hq k => ?_))
  exact seg_lt k (h.lim _ hq)
theorem Laid.get (h : Laid S ps) {p : Nat × ByteArray} (hp : p ∈ ps) : Dsk.get S.files (seg nameW p.1) = some (fileP p) :=
  h.sorted.get (f := fileP p) (by rw [h.files]; exact List.mem_map_of_mem hp) rfl
theorem Laid.read (h : Laid S ps) {p : Nat × ByteArray} (hp : p ∈ ps) : (Dsk.read S (seg nameW p.1)).1 = p.2 := by
  unfold Dsk.read
  rw [if_neg (by simp [h.on]), h.get hp]; rfl
theorem Laid.segs (h : Laid S ps) : segs S nameW = ps.map Prod.fst := by
  refine segs_of ?_ ?_
  · rw [h.files, List.map_map, List.map_map]; rfl
  · intro n hn
    obtain ⟨p, hp, rfl⟩ := List.mem_map.1 hn
    exact h.lim p hp
theorem used_laid : ∀ l : PS, (∀ p ∈ l, p.2.size ≤ 4000) → used (l.map fileP) ≤ l.length * 4000 := by
  intro l
  induction l with
  | nil => intro _; simp [used]
  | cons p r ih =>
    intro hh
    have h1 := ih (fun q hq => hh q (by simp [hq]))
    have h2 := hh p (by simp)
    have e : used ((p :: r).map fileP) = p.2.size + used (r.map fileP) := rfl
    rw [e, List.length_cons]
    omega
theorem Laid.put (h : Laid S ps) (n : Nat) (t : ByteArray) (hn : n ≤ 99999999) (hasc : ∀ p ∈ ps, p.1 < n) (ht : t.size ≤ 4000) (hl : ps.length ≤ 5) :
    ∃ T, lay S (seg nameW n) t = (0, T) ∧ Laid T (ps ++ [(n, t)]) := by
  have hk : ∀ g ∈ S.files, g.key < lst (seg nameW n) := by
    rw [h.files]
    intro g hg
    obtain ⟨p, hp, rfl⟩ := List.mem_map.1 hg
    exact seg_lt (hasc p hp) hn
  have hg := get_fresh _ _ hk
  have hu : used S.files ≤ 20000 := by
    rw [h.files]
    have := used_laid ps h.small
    omega
  have hlen : S.files.length ≤ 5 := by rw [h.files, List.length_map]; exact hl
  have hf : fits S (seg nameW n) t.size 0 = 0 := by
    unfold fits
    rw [decide_eq_false (p := 1048576 < t.size) (by omega), decide_eq_false (p := 100 ≤ S.files.length) (by omega), Bool.and_false, Bool.or_false, if_neg (by simp), if_neg (by rw [h.room]; omega)]
  refine ⟨Dsk.files S (Dsk.put ⟨seg nameW n, t, t.size⟩ S.files), ?_, ?_⟩
  · unfold lay
    rw [if_pos (may_seg n hn), hg]
    show (if fits S (seg nameW n) t.size 0 = 0 then _ else _) = _
    rw [if_pos hf]
  · refine ⟨h.on, h.armed, ?_, h.room, h.uses, ?_, ?_, ?_⟩
    · show Dsk.put _ S.files = _
      rw [put_new _ _ hk, h.files, List.map_append]; rfl
    · refine List.pairwise_append.2 ⟨h.asc, List.pairwise_singleton _ _, fun p hp q hq => ?_⟩
      simp at hq; subst hq
      exact hasc p hp
    · intro p hp
      rcases List.mem_append.1 hp with hp | hp
      · exact h.lim p hp
      · simp at hp; subst hp; exact hn
    · intro p hp
      rcases List.mem_append.1 hp with hp | hp
      · exact h.small p hp
      · simp at hp; subst hp; exact ht
/-- Where a log is behind a segment. -/
def placedP (p : Nat × ByteArray) (L : LG) : LG := ⟨seg nameW p.1, (readW (lst p.2) p.1).2.1, p.1 + (readW (lst p.2) p.1).1.length, false, L.safe, L.err⟩
theorem Laid.load_more (h : Laid S ps) {p : Nat × ByteArray} (hp : p ∈ ps) (q : Nat) (r : List Nat) (out : List RC) (L : LG) :
    loadL nameW S (p.1 :: q :: r) out L = if (readW (lst p.2) p.1).2.2 = true ∧ q = p.1 + (readW (lst p.2) p.1).1.length then loadL nameW S (q :: r) (out ++ num p.1 (readW (lst p.2) p.1).1) (placedP p L) else (11, [], L, S) := by
  have e1 : wholeAt nameW S p.1 = (readW (lst p.2) p.1).2.2 := by unfold wholeAt; rw [h.read hp]
  have e2 : recsAt nameW S p.1 = num p.1 (readW (lst p.2) p.1).1 := by unfold recsAt; rw [h.read hp]
  have e3 : placed nameW S p.1 L = placedP p L := by unfold placed placedP; rw [h.read hp]
  show (if wholeAt nameW S p.1 = true ∧ q = (placed nameW S p.1 L).next then loadL nameW S (q :: r) (out ++ recsAt nameW S p.1) (placed nameW S p.1 L) else (11, [], L, S)) = _
  rw [e1, e2, e3]; rfl
theorem Laid.load_one {pre : PS} {p : Nat × ByteArray} (h : Laid S (pre ++ [p])) (out : List RC) (L : LG) :
    ∃ T, loadL nameW S [p.1] out L = (0, out ++ num p.1 (readW (lst p.2) p.1).1, placedP p L, T) ∧ (Dsk.read T (seg nameW p.1)).1 = bts ((lst p.2).take (readW (lst p.2) p.1).2.1) ∧ T.off = false ∧ T.uses ≤ 2 := by
  have hp : p ∈ pre ++ [p] := by simp
  have hk : ∀ g ∈ pre.map fileP, g.key < lst (seg nameW p.1) := by
    intro g hg
    obtain ⟨q, hq, rfl⟩ := List.mem_map.1 hg
    exact seg_lt ((List.pairwise_append.1 h.asc).2.2 q hq p (by simp)) (h.lim p hp)
  have hf : S.files = pre.map fileP ++ [⟨seg nameW p.1, p.2, p.2.size⟩] := by rw [h.files, List.map_append]; rfl
  obtain ⟨T, t1, t2, t3, t4, t5, t6⟩ := lastS_way (e := (readW (lst p.2) p.1).2.1) h.on h.armed hf hk (may_seg p.1 (h.lim p hp)) (by rw [← lst_length]; exact readW_end _ _)
  have e2 : recsAt nameW S p.1 = num p.1 (readW (lst p.2) p.1).1 := by unfold recsAt; rw [h.read hp]
  have e3 : placed nameW S p.1 L = placedP p L := by unfold placed placedP; rw [h.read hp]
  refine ⟨T, ?_, ?_, t3, by have := h.uses; omega⟩
  · rw [loadL_one, e2, e3]
    show ((lastS S (seg nameW p.1) (readW (lst p.2) p.1).2.1).1, if (lastS S (seg nameW p.1) (readW (lst p.2) p.1).2.1).1 = 0 then out ++ num p.1 (readW (lst p.2) p.1).1 else [], placedP p L, (lastS S (seg nameW p.1) (readW (lst p.2) p.1).2.1).2) = _
    rw [t1]; rfl
  · unfold Dsk.read
    have hg := get_last ⟨seg nameW p.1, bts ((lst p.2).take (readW (lst p.2) p.1).2.1), (readW (lst p.2) p.1).2.1⟩ (pre.map fileP) hk
    rw [if_neg (by simp [t3]), t2]
    show (match Dsk.get (pre.map fileP ++ [_]) (seg nameW p.1) with | none => _ | some f => _ : ByteArray × Nat).1 = _
    rw [hg]
end Wal
end Go.Proofs.YtmdkjcigmhgpeaaGreatDoor

/- Law 07's segments under way in memory: the disk, the numbers, the texts, each in blocks of its own. -/
namespace Go.Proofs.YtmdkjcigmhgpeaaGreatDoor
open Go.RowKit Snp SealMath Dsk Wal

structure OS7 (B : Nat) (w : World) (d : Nat) (S : DS) (nv tv : Value) (ps : PS) (ns : List Nat) (ts : List ByteArray) : Prop where
  disk : ∃ G, DiskAt w d S G ∧ ∀ x, G x → B ≤ x ∧ nv.ownBlock ≠ some x ∧ tv.ownBlock ≠ some x
  laid : Laid S ps
  nums : OffInts w B nv ns
  texts : OwnStrs w B tv ts
  apart : ∀ g, nv.ownBlock = some g → tv.ownBlock ≠ some g
  big : B ≤ w.heap.size
variable {B : Nat} {w w' : World} {d : Nat} {S T : DS} {nv tv : Value} {ps qs : PS} {ns : List Nat} {ts : List ByteArray}
theorem OwnStrs.lt {w : World} {B : Nat} {v : Value} {l : List ByteArray} (h : OwnStrs w B v l) : ∀ g, v.ownBlock = some g → B ≤ g ∧ g < w.heap.size := World.ownsRow.lt h
theorem OwnStrs.only {G : Nat → Prop} {w w' : World} {B : Nat} {v : Value} {l : List ByteArray} (h : OwnStrs w B v l) (k : Only G w w') (hG : ∀ g, v.ownBlock = some g → ¬ G g) : OwnStrs w' B v l := by
  obtain ⟨h0, h | ⟨g, cap, cur, rfl, hB, hg, h1, h2, h3, h4⟩⟩ := h
  · exact ⟨h0, .inl h⟩
  · exact ⟨h0, .inr ⟨g, cap, cur, rfl, hB, (k.block g (lt_of_heap hg) (hG g rfl)).trans hg, h1, h2, h3, h4⟩⟩
theorem OS7.ext (h : OS7 B w d S nv tv ps ns ts) (k : Ext w w') : OS7 B w' d S nv tv ps ns ts := by
  obtain ⟨G, h1, h2⟩ := h.disk
  exact ⟨⟨G, h1.ext k, h2⟩, h.laid, h.nums.ext k, h.texts.ext k, h.apart, Nat.le_trans h.big k.size⟩
theorem OS7.pushN (h : OS7 B w d S nv tv ps ns ts) (hg : w.grownBy w' nv.ownBlock) {g o n c : Nat} {more : List Nat} (ho : OffInts w' B (.slice (some ⟨g, o, none⟩) n c) more) (hat : nv.ownBlock = some g ∨ g = w.heap.size) : OS7 B w' d S (.slice (some ⟨g, o, none⟩) n c) tv ps more ts := by
  obtain ⟨G, h1, h2⟩ := h.disk
  have ho1 := only_grown hg
  have ht := OwnStrs.lt h.texts
  refine ⟨⟨fun x => G x ∧ x < w.heap.size, (disk_small h1).only ho1 (fun x hx hy => (h2 x hx.1).2.1 hy), fun x hx => ⟨(h2 x hx.1).1, fun e => ?_, (h2 x hx.1).2.2⟩⟩, h.laid, ho, h.texts.only ho1 (fun y hy e => h.apart y e hy), fun y e hy => ?_, Nat.le_trans h.big hg.size⟩
  · have e2 : g = x := Option.some.inj e
    rcases hat with k | k
    · exact (h2 x hx.1).2.1 (e2 ▸ k)
    · have := hx.2; omega
  · have e2 : g = y := Option.some.inj e
    rcases hat with k | k
    · exact h.apart _ (e2 ▸ k) hy
    · have := (ht _ hy).2; omega
theorem OS7.pushT (h : OS7 B w d S nv tv ps ns ts) (hg : w.grownBy w' tv.ownBlock) {g n c : Nat} {more : List ByteArray} (ho : OwnStrs w' B (.slice (some ⟨g, 0, none⟩) n c) more) (hat : tv.ownBlock = some g ∨ g = w.heap.size) : OS7 B w' d S nv (.slice (some ⟨g, 0, none⟩) n c) ps ns more := by
  obtain ⟨G, h1, h2⟩ := h.disk
  have ho1 := only_grown hg
  have hn := h.nums.lt
  refine ⟨⟨fun x => G x ∧ x < w.heap.size, (disk_small h1).only ho1 (fun x hx hy => (h2 x hx.1).2.2 hy), fun x hx => ⟨(h2 x hx.1).1, (h2 x hx.1).2.1, fun e => ?_⟩⟩, h.laid, h.nums.only ho1 (fun y hy e => h.apart y hy e), ho, fun y hy e => ?_, Nat.le_trans h.big hg.size⟩
  · have e2 : g = x := Option.some.inj e
    rcases hat with k | k
    · exact (h2 x hx.1).2.2 (e2 ▸ k)
    · have := hx.2; omega
  · have e2 : g = y := Option.some.inj e
    rcases hat with k | k
    · exact h.apart _ hy (e2 ▸ k)
    · have := (hn _ hy).2; omega
theorem OS7.turn {G : Nat → Prop} (h : OS7 B w d S nv tv ps ns ts) (hG : ∀ x, G x → B ≤ x ∧ nv.ownBlock ≠ some x ∧ tv.ownBlock ≠ some x) (hd : DiskAt w' d T (More G w)) (ho : Only G w w') (hl : Laid T qs) : OS7 B w' d T nv tv qs ns ts ∧ Below B w w' := by
  have hn := h.nums.lt
  have ht := OwnStrs.lt h.texts
  refine ⟨⟨⟨More G w, hd, fun x hx => ?_⟩, hl, h.nums.only ho (fun g hg k => (hG g k).2.1 hg), h.texts.only ho (fun g hg k => (hG g k).2.2 hg), h.apart, Nat.le_trans h.big ho.size⟩, ho.below h.big (fun x k => (hG x k).1)⟩
  rcases hx with hx | hx
  · exact hG x hx
  · exact ⟨Nat.le_trans h.big hx, fun e => by have := (hn _ e).2; omega, fun e => by have := (ht _ e).2; omega⟩
/-- Put: a segment more. -/
theorem OS7.put (h : OS7 B w d S nv tv ps ns ts) (n : Nat) (t : ByteArray) (hn : n ≤ 99999999) (hasc : ∀ p ∈ ps, p.1 < n) (ht : t.size ≤ 4000) (hl : ps.length ≤ 5) :
    Calls Tryz.prog 23 #[.pointer (some ⟨d, 0, none⟩), .string (seg nameW n), .string t] w fun e w' => ∃ T, e = .returned (.int .i64 0) ∧ OS7 B w' d T nv tv (ps ++ [(n, t)]) ns ts ∧ Below B w w' := by
  obtain ⟨G, h1, h2⟩ := h.disk
  obtain ⟨T, t1, t2⟩ := h.laid.put n t hn hasc ht hl
  have hp := put_any d S G (seg nameW n) t (by rw [seg_size _ _ hn]; decide) (by omega) w h1
  rw [t1] at hp
  refine hp.mono ?_
  rintro e w' ⟨rfl, hd, ho⟩
  have := h.turn h2 hd ho t2
  exact ⟨T, rfl, this.1, this.2⟩
end Go.Proofs.YtmdkjcigmhgpeaaGreatDoor

/- What Open tells, segment by segment, as law 07 goes through them. No program in sight. -/
namespace Go.Proofs.YtmdkjcigmhgpeaaGreatDoor
namespace Wal
open SealMath Dsk Snp

abbrev RO := Nat × List RC × LG × DS
/-- Behind the load: the log is safe as far as it goes. -/
def fin (R : RO) : RO := (R.1, R.2.1, { R.2.2.1 with safe := R.2.2.1.next }, R.2.2.2)
/-- The law stands ahead of segment i: what Open tells is what is left of its load. -/
structure Left (S : DS) (ps : PS) (R : RO) (i : Nat) (out : List RC) (next : Nat) : Prop where
  more : i < ps.length → ∃ L, R = fin (loadL nameW S ((ps.drop i).map Prod.fst) out L)
  done : i = ps.length → R.1 = 0 ∧ R.2.1 = out ∧ R.2.2.1.next = next ∧ R.2.2.1.safe = next
variable {S : DS} {ps : PS} {R : RO} {i : Nat} {out : List RC} {next : Nat}
theorem Left.first (h : Laid S ps) (first : Nat) (hR : R = openW S nameW first) : Left S ps R 0 [] first := by
  have e : openW S nameW first = fin (loadL nameW S (ps.map Prod.fst) [] (emptyL first)) := by rw [← h.segs]; rfl
  refine ⟨fun _ => ⟨emptyL first, by rw [hR, e, List.drop_zero]⟩, fun h0 => ?_⟩
  have hn : ps = [] := List.eq_nil_of_length_eq_zero h0.symm
  subst hn
  rw [hR, e]
  exact ⟨rfl, rfl, rfl, rfl⟩
theorem drop_two {l : PS} {i : Nat} (hi : i + 1 < l.length) : (l.drop i).map Prod.fst = l[i].1 :: l[i + 1].1 :: (l.drop (i + 2)).map Prod.fst := by
  rw [List.drop_eq_getElem_cons (by omega), List.drop_eq_getElem_cons hi]; rfl
theorem Left.bad (h : Left S ps R i out next) (hl : Laid S ps) (hi : i + 1 < ps.length) (hb : ¬ ((readW (lst ps[i].2) ps[i].1).2.2 = true ∧ ps[i + 1].1 = ps[i].1 + (readW (lst ps[i].2) ps[i].1).1.length)) : R.1 = 11 ∧ R.2.1 = [] := by
  obtain ⟨L, hR⟩ := h.more (by omega)
  rw [hR, drop_two hi, hl.load_more (List.getElem_mem (by omega)), if_neg hb]
  exact ⟨rfl, rfl⟩
theorem Left.step (h : Left S ps R i out next) (hl : Laid S ps) (hi : i + 1 < ps.length) (hb : (readW (lst ps[i].2) ps[i].1).2.2 = true ∧ ps[i + 1].1 = ps[i].1 + (readW (lst ps[i].2) ps[i].1).1.length) : Left S ps R (i + 1) (out ++ num ps[i].1 (readW (lst ps[i].2) ps[i].1).1) (ps[i].1 + (readW (lst ps[i].2) ps[i].1).1.length) := by
  obtain ⟨L, hR⟩ := h.more (by omega)
  refine ⟨fun _ => ⟨placedP ps[i] L, ?_⟩, fun e => by omega⟩
  rw [hR, drop_two hi, hl.load_more (List.getElem_mem (by omega)), if_pos hb, List.drop_eq_getElem_cons hi]; rfl
theorem Left.last (h : Left S ps R i out next) (hl : Laid S ps) (hi : i < ps.length) (hi1 : i + 1 = ps.length) : R.1 = 0 ∧ (Dsk.read R.2.2.2 (seg nameW ps[i].1)).1 = bts ((lst ps[i].2).take (readW (lst ps[i].2) ps[i].1).2.1) ∧
    Left S ps R (i + 1) (out ++ num ps[i].1 (readW (lst ps[i].2) ps[i].1).1) (ps[i].1 + (readW (lst ps[i].2) ps[i].1).1.length) := by
  obtain ⟨L, hR⟩ := h.more hi
  have hd : ps.drop i = [ps[i]] := by
    rw [List.drop_eq_getElem_cons hi, List.drop_eq_nil_of_le (by omega)]
  have hps : ps = ps.take i ++ [ps[i]] := by
    rw [← hd, List.take_append_drop]
  have hl2 : Laid S (ps.take i ++ [ps[i]]) := by rw [← hps]; exact hl
  obtain ⟨T, t1, t2, _, _⟩ := hl2.load_one out L
  rw [hd] at hR
  have hR2 : R = fin (0, out ++ num ps[i].1 (readW (lst ps[i].2) ps[i].1).1, placedP ps[i] L, T) := by rw [hR]; exact congrArg fin t1
  refine ⟨by rw [hR2]; rfl, by rw [hR2]; exact t2, fun e => by omega, fun _ => ?_⟩
  rw [hR2]
  exact ⟨rfl, rfl, rfl, rfl⟩
end Wal
end Go.Proofs.YtmdkjcigmhgpeaaGreatDoor

/- The walk of WalOpens: of any segments, whatever lies in them: which records there are, that something is corrupt, and where the next record goes. -/
namespace Go.Proofs.YtmdkjcigmhgpeaaGreatDoor
open Go.RowKit Snp SealMath Dsk Wal

def toRC (r : RZ) : RC := (r.1.toNat, r.2)
theorem recsz_at {w : World} {a : Option Addr} {l : List RZ} (h : RecsZ w a l) (hp : ∀ r ∈ l, 0 ≤ r.1) : RecsAt w a (l.map toRC) := by
  intro i x hi
  rw [List.getElem?_map] at hi
  cases hl : l[i]? with
  | none => rw [hl] at hi; cases hi
  | some r =>
    rw [hl] at hi
    simp only [Option.map_some, Option.some.injEq] at hi
    subst hi
    obtain ⟨bk, o, ha, hc⟩ := h i r hl
    have h0 := hp r (List.mem_of_getElem? hl)
    have c0 := hc 0 _ rfl
    have c1 := hc 1 _ rfl
    rw [Nat.add_zero] at c0
    refine ⟨bk, o, ha, ?_, by rw [Nat.add_assoc]; exact c1⟩
    rw [c0]
    show some (Value.int .i64 r.1) = some (.int .i64 ((r.1.toNat : Nat) : Int))
    rw [Int.toNat_of_nonneg h0]
/-- A segment that the law goes on with. -/
structure Ok7 (x : SgD) : Prop where
  low : 0 ≤ x.first
  high : x.first ≤ 99999999
  more : x.more.size ≤ 300
  recs : ∀ r ∈ x.recs, r.2.size ≤ 300 ∧ 0 ≤ r.1
def pairOf (x : SgD) : Nat × ByteArray := (x.first.toNat, bts (bytesP (x.recs.map toRC) x.more))
theorem pair_small {x : SgD} (h : Ok7 x) : (pairOf x).2.size ≤ 4000 := by
  show (bts _).size ≤ 4000
  rw [bts_size]
  exact bytesP_len _ _ (fun r hr => by
    obtain ⟨z, hz, rfl⟩ := List.mem_map.1 hr
    exact (h.recs z hz).1) h.more

theorem frames_many : ∀ l : List (List UInt8), l.length ≤ (framesL l).length := by
  intro l
  induction l with
  | nil => simp [framesL]
  | cons x r ih =>
    rw [framesL_cons, List.length_append, frameL_length, List.length_cons]
    omega
theorem readW_count (s : List UInt8) (n : Nat) : (readW s n).1.length ≤ s.length :=
  Nat.le_trans (readF_length n (allL s).1) (Nat.le_trans (frames_many _) (frames_all s))
theorem left_bad {S : DS} {ps : PS} {R : RO} {i : Nat} {out : List RC} {next n m : Nat} {t : ByteArray} {rs : List (List UInt8)} {en : Nat} {wh : Bool} (h : Wal.Left S ps R i out next) (hl : Laid S ps) (hp : ps[i]? = some (n, t)) (hm : (ps.map Prod.fst)[i + 1]? = some m) (hrw : readW (lst t) n = (rs, en, wh)) (hb : ¬ (wh = true ∧ m = n + rs.length)) : R.1 = 11 ∧ R.2.1 = [] := by
  obtain ⟨hi, e⟩ := List.getElem?_eq_some_iff.1 hp
  obtain ⟨hi1, e1⟩ := List.getElem?_eq_some_iff.1 hm
  rw [List.length_map] at hi1
  rw [List.getElem_map] at e1
  refine h.bad hl hi1 ?_
  rw [e, hrw, e1]
  exact hb
theorem left_step {S : DS} {ps : PS} {R : RO} {i : Nat} {out : List RC} {next n m : Nat} {t : ByteArray} {rs : List (List UInt8)} {en : Nat} {wh : Bool} (h : Wal.Left S ps R i out next) (hl : Laid S ps) (hp : ps[i]? = some (n, t)) (hm : (ps.map Prod.fst)[i + 1]? = some m) (hrw : readW (lst t) n = (rs, en, wh)) (hb : wh = true ∧ m = n + rs.length) : Wal.Left S ps R (i + 1) (out ++ num n rs) (n + rs.length) := by
  obtain ⟨hi, e⟩ := List.getElem?_eq_some_iff.1 hp
  obtain ⟨hi1, e1⟩ := List.getElem?_eq_some_iff.1 hm
  rw [List.length_map] at hi1
  rw [List.getElem_map] at e1
  have := h.step hl hi1 (by rw [e, hrw, e1]; exact hb)
  rw [e, hrw] at this
  exact this
theorem left_last {S : DS} {ps : PS} {R : RO} {i : Nat} {out : List RC} {next n : Nat} {t : ByteArray} {rs : List (List UInt8)} {en : Nat} {wh : Bool} (h : Wal.Left S ps R i out next) (hl : Laid S ps) (hp : ps[i]? = some (n, t)) (hi1 : i + 1 = ps.length) (hrw : readW (lst t) n = (rs, en, wh)) : R.1 = 0 ∧ (Dsk.read R.2.2.2 (seg nameW n)).1 = bts ((lst t).take en) ∧ Wal.Left S ps R (i + 1) (out ++ num n rs) (n + rs.length) := by
  obtain ⟨hi, e⟩ := List.getElem?_eq_some_iff.1 hp
  have := h.last hl hi hi1
  rw [e, hrw] at this
  exact this
theorem OS7.text_cell {B : Nat} {w : World} {d : Nat} {S : DS} {nv : Value} {ps : PS} {ns : List Nat} {ts : List ByteArray} {g j n c : Nat} {t : ByteArray} (h : OS7 B w d S nv (.slice (some ⟨g, 0, none⟩) n c) ps ns ts) (ht : ts[j]? = some t) : w.cell? ⟨g, j, none⟩ = some (.string t) := by
  obtain ⟨a9, c9, e9, _, _, h9⟩ := OwnStrs.form h.texts
  obtain ⟨b9, o9, e8, _, h8⟩ := h9 j t ht
  injection e9 with e1 _ _
  rw [← e1] at e8
  cases e8
  rw [Nat.zero_add] at h8
  exact h8
set_option maxRecDepth 20000 in
set_option maxHeartbeats 16000000 in
theorem walopens_any (xs : List SgD) (a : Option Addr) (c : Nat) (hN : xs.length ≤ 140737488355328) (hok : ∀ x ∈ xs, SgOk x) (first : Int) (w : World) (hs : SegsAt w a xs) (hnb : Nibs w) :
    Calls Tryz.prog 9 #[.slice a xs.length c, .int .i64 first] w fun e w' => e = .returned (.bool true) ∧ Ext w w' := by
  obtain ⟨i0, hi0, hz0, hz1, hz2⟩ := info_parts info_string
  have HN := Lib.hid hnb
  have HNL := Lib.hid (cell_lt (hnb 0 (by omega)))
  have HS := Lib.hid hs
  have HOK := Lib.hid hok
  clear hnb hs hok
  have HAW : Hid (∀ u, Ext w u → Calls Tryz.prog 32 #[] u fun e w' => e = .returned (.bool true) ∧ Ext u w') := fun u k => awake7_any u (HN.out.ext k)
  by_cases h5 : 5 < xs.length
  · have hg : decide ((5 : Int) < (xs.length : Int)) = true := decide_eq_true (by omega)
    go_enter Tryz.func9, Tryz.ntmps9
    go_wp2_with (go_at_call 32; refine (HAW.out _ (Ext.refl _)).mono ?_; rintro e w1 ⟨rfl, hx⟩; have HX1 := Lib.hid hx; clear hx)
    all_goals
      go_wp2_with fail
      go_ret
      exact ⟨rfl, HX1.out⟩
  have hg : decide ((5 : Int) < (xs.length : Int)) = false := decide_eq_false (by omega)
  go_enter Tryz.func9, Tryz.ntmps9
  go_wp2_with (go_at_call 32; refine (HAW.out _ (Ext.refl _)).mono ?_; rintro e w1 ⟨rfl, hx⟩; have HX1 := Lib.hid hx; clear hx)
  all_goals
    go_wp2_with fail
    refine (new_held 1048576 (by decide) w1).mono ?_
    rintro e w2 ⟨d, rfl, hd, hx⟩
    have HX2 := Lib.hid (HX1.out.trans hx)
    have HO2 : Hid (OS7 w1.heap.size w2 d (new 1048576) (.slice none 0 0) (.slice none 0 0) [] [] []) :=
      ⟨⟨_, hd, fun x k => ⟨k.1, nofun, nofun⟩⟩, Laid.first, OffInts.nil _ _, OwnStrs.nil _ _, nofun, hx.size⟩
    clear hd hx
    go_wp2_with fail
    go_loopg [6, 7, 8] (xs.length) (fun g s6 s7 i wr => ∃ (j : Nat) (nv tv : Value) (S : DS), i = .int .i64 j ∧ nv = s6 ∧ tv = s7 ∧ j ≤ xs.length ∧ g = xs.length - j ∧ Hid (OS7 w1.heap.size wr d S nv tv ((xs.take j).map pairOf) (((xs.take j).map pairOf).map Prod.fst) (((xs.take j).map pairOf).map Prod.snd)) ∧ Hid (∀ x ∈ xs.take j, Ok7 x) ∧ Hid (Ext w wr))
    case atStart => exact ⟨0, _, _, new 1048576, rfl, rfl, rfl, Nat.zero_le _, rfl, HO2, (by intro x hx; simp at hx), HX2⟩
    case round =>
      obtain ⟨j, nv, tv, S, rfl, rfl, rfl, hj, rfl, HO, HK, HX⟩ := hrel
      by_cases hlt : j < xs.length
      · obtain ⟨bk, o, ar, cr, rfl, hc, hz⟩ := HS.out j _ (List.getElem?_eq_getElem hlt)
        have HZ := Lib.hid hz
        have HXO : Hid (SgOk xs[j]) := HOK.out _ (List.getElem_mem hlt)
        have HT : Hid (xs.take (j + 1) = xs.take j ++ [xs[j]]) := List.take_succ_eq_append_getElem hlt
        generalize xs[j] = x at hc HZ HXO HT
        have c0 := hc 0 _ rfl
        have c1 := hc 1 _ rfl
        have c2 := hc 2 _ rfl
        rw [Nat.add_zero] at c0
        rw [← Nat.add_assoc] at c1 c2
        have HCW : Hid (∀ u, Ext w u → u.cell? ⟨bk, o + j * 3, none⟩ = some (.int .i64 x.first) ∧ u.cell? ⟨bk, o + j * 3 + 1, none⟩ = some (.slice ar x.recs.length cr) ∧ u.cell? ⟨bk, o + j * 3 + 2, none⟩ = some (.string x.more)) := fun u k => ⟨Ext.cell k c0, Ext.cell k c1, Ext.cell k c2⟩
        have c0 := (HCW.out wr HX.out).1
        have c1 := (HCW.out wr HX.out).2.1
        have c2 := (HCW.out wr HX.out).2.2
        clear hc hz
        go_wp2_with fail
        go_loopg [9] (x.recs.length) (fun g s9 w3 => ∃ k : Nat, s9 = .int .i64 k ∧ k ≤ x.recs.length ∧ g = x.recs.length - k ∧ Hid (∀ r ∈ x.recs.take k, r.2.size ≤ 300 ∧ 0 ≤ r.1) ∧ wr = w3)
        case atStart => exact ⟨0, rfl, Nat.zero_le _, rfl, (by intro r hr; simp at hr), rfl⟩
        case round =>
          obtain ⟨k, rfl, hk, rfl, HRK, rfl⟩ := hrel
          have hk1 : IntKind.i64.wrap ((k : Int) + 1) = (k : Int) + 1 := by rw [IntKind.wrap_i64]; have := HXO.out.len; omega
          by_cases hlk : k < x.recs.length
          · obtain ⟨b2, o2, har, hc⟩ := (HZ.out.ext HX.out) k _ (List.getElem?_eq_getElem hlk)
            subst har
            have HTK : Hid (x.recs.take (k + 1) = x.recs.take k ++ [x.recs[k]]) := List.take_succ_eq_append_getElem hlk
            generalize x.recs[k] = r at hc HTK
            have d0 := hc 0 _ rfl
            have d1 := hc 1 _ rfl
            rw [Nat.add_zero] at d0
            rw [← Nat.add_assoc] at d1
            clear hc
            by_cases h300 : 300 < (r.2.size : Int)
            · go_wp2_with fail
              go_ret
              exact ⟨rfl, HX.out⟩
            · by_cases hneg : r.1 < 0
              · go_wp2_with fail
                go_ret
                exact ⟨rfl, HX.out⟩
              · have HRK2 : Hid (∀ z ∈ x.recs.take (k + 1), z.2.size ≤ 300 ∧ 0 ≤ z.1) := fun z hz => by
                  rw [HTK.out] at hz
                  rcases List.mem_append.1 hz with hz | hz
                  · exact HRK.out z hz
                  · simp at hz; subst hz; exact ⟨by omega, by omega⟩
                go_wp2_with fail
                go_roundg (x.recs.length - (k + 1))
                case measure => omega
                case rel => exact ⟨k + 1, by go_num, by omega, rfl, HRK2, rfl⟩
          · have HRA : Hid (∀ z ∈ x.recs, z.2.size ≤ 300 ∧ 0 ≤ z.1) := fun z hz => HRK.out z (by rw [List.take_of_length_le (by omega)]; exact hz)
            clear HRK
            obtain ⟨ps, hps⟩ : ∃ ps, ps = (xs.take j).map pairOf := ⟨_, rfl⟩
            rw [← hps] at HO
            have HPL : Hid (ps.length = j) := by show _ = _; rw [hps, List.length_map, List.length_take, Nat.min_eq_left hj]
            have HPS := Lib.hid hps
            clear hps
            have hnl : (ps.map Prod.fst).length = j := by rw [List.length_map]; exact HPL.out
            have htl : (ps.map Prod.snd).length = j := by rw [List.length_map]; exact HPL.out
            obtain ⟨an, cn, hnv, hn1, hn2, hn3⟩ := HO.out.nums.form
            obtain ⟨ta, ct, htv, ht1, ht2, ht3⟩ := HO.out.texts.form
            have HN3 := Lib.hid hn3
            rw [hnl] at hnv hn1
            rw [htl] at htv ht1
            subst hnv
            subst htv
            clear hn3 ht3
            go_upto_region 14 with fail
            go_cut [108] (fun s108 wx => ∃ b : Bool, s108 = .bool b ∧ Hid (b = false → Ok7 x ∧ (∀ p ∈ ps, p.1 < x.first.toNat)) ∧ Hid (Ext wr wx))
            case first =>
              by_cases hlo : x.first < 0
              · go_quiet (fail)
                go_wp2_with fail
                go_meet
                exact ⟨true, rfl, (fun h => by cases h), (Ext.refl wr).drewN nq⟩
              · by_cases hhi : 99999999 < x.first
                · go_quiet (fail)
                  go_wp2_with fail
                  go_meet
                  exact ⟨true, rfl, (fun h => by cases h), (Ext.refl wr).drewN nq⟩
                · by_cases hmo : 300 < (x.more.size : Int)
                  · go_quiet (fail)
                    go_wp2_with fail
                    go_meet
                    exact ⟨true, rfl, (fun h => by cases h), (Ext.refl wr).drewN nq⟩
                  · have HOK7 : Hid (Ok7 x) := ⟨by omega, by omega, by omega, HRA.out⟩
                    by_cases hj0 : j = 0
                    · have hj1 : ¬ 0 < j := by omega
                      have hj2 : decide (0 < j) = false := decide_eq_false hj1
                      have HJ0 := Lib.hid hj0
                      clear hj0
                      go_quiet (fail)
                      go_wp2_with fail
                      go_meet
                      exact ⟨false, rfl, (fun _ => ⟨HOK7.out, fun p hp => by
                        have h1 := HPL.out
                        rw [HJ0.out] at h1
                        rw [List.eq_nil_of_length_eq_zero h1] at hp
                        cases hp⟩), (Ext.refl wr).drewN nq⟩
                    · have hj1 : 0 < j := by omega
                      have hj2 : decide (0 < j) = true := decide_eq_true hj1
                      obtain ⟨jm, HJM⟩ : ∃ jm : Nat, Hid (j = jm + 1) := ⟨j - 1, by show _ = _; omega⟩
                      have hjm : IntKind.i64.wrap ((j : Int) - 1) = (jm : Int) := by rw [IntKind.wrap_i64]; have := HJM.out; omega
                      have hjl : (jm : Int) < (j : Int) := by have := HJM.out; omega
                      obtain ⟨pv, hpv⟩ : ∃ pv, (ps.map Prod.fst)[jm]? = some pv := ⟨_, List.getElem?_eq_getElem (by rw [hnl]; have := HJM.out; omega)⟩
                      obtain ⟨gn, on, han, hcn⟩ := HN3.out jm pv hpv
                      subst han
                      have HPV : Hid (∀ p ∈ ps, p.1 ≤ pv) := fun p hp => by
                        obtain ⟨i, hi, rfl⟩ := List.getElem_of_mem hp
                        have h1 := HPL.out
                        have h0 := HJM.out
                        rw [List.getElem?_map] at hpv
                        have hjp : jm < ps.length := by omega
                        have h2 : ps[jm]? = some ps[jm] := List.getElem?_eq_getElem hjp
                        rw [h2] at hpv
                        simp only [Option.map_some, Option.some.injEq] at hpv
                        rw [← hpv]
                        by_cases e : i = jm
                        · subst e; exact Nat.le_refl _
                        · exact Nat.le_of_lt (List.pairwise_iff_getElem.1 HO.out.laid.asc i jm hi hjp (by omega))
                      clear hpv hj0
                      by_cases hle : x.first ≤ (pv : Int)
                      · go_quiet (fail)
                        go_wp2_with fail
                        go_meet
                        exact ⟨true, rfl, (fun h => by cases h), (Ext.refl wr).drewN nq⟩
                      · go_quiet (fail)
                        go_wp2_with fail
                        go_meet
                        exact ⟨false, rfl, (fun _ => ⟨HOK7.out, fun p hp => by have := HPV.out p hp; omega⟩), (Ext.refl wr).drewN nq⟩
            obtain ⟨b, rfl, HB, HX6⟩ := hcut
            cases b with
            | true =>
              go_wp2_with fail
              go_ret
              exact ⟨rfl, HX.out.trans HX6.out⟩
            | false =>
              have HOK7 : Hid (Ok7 x ∧ ∀ p ∈ ps, p.1 < x.first.toNat) := HB.out rfl
              clear HB c0 c1 c2
              have HXC : Hid (Ext w wc) := HX.out.trans HX6.out
              have HOC := Lib.hid (HO.out.ext HX6.out)
              obtain ⟨fn, hfn⟩ : ∃ fn : Nat, x.first = (fn : Int) := ⟨x.first.toNat, by have := HOK7.out.1.low; omega⟩
              have c0 := (HCW.out wc HXC.out).1
              rw [hfn] at c0
              have HFN := Lib.hid hfn
              have hj5 : j < 5 := by omega
              clear hfn
              have a0 : ∀ t, (wc.alloc (.cells #[.int .i64 (fn : Int)] t)).cell? ⟨bk, o + j * 3, none⟩ = some (.int .i64 (fn : Int)) := fun t => Ext.cell ((Ext.refl wc).alloc _) c0
              go_wp2_with (at_builtin; refine wpList_append_off rfl _ _ 41 rfl Tryz.underlying41 w1.heap.size _ (ps.map Prod.fst) rfl (OffInts.ext HOC.out.nums ((Ext.refl wc).alloc _)) wc.heap.size 0 1 fn rfl ?c1 ?c2 ?c3 _ rfl ?_)
              case c1 => exact Go.Joins.cell_of_block (heap_alloc_new wc _) 0
              case c2 => rw [hnl]; omega
              case c3 => have := HOC.out.big; simp; omega
              intro g5 o5 cap5 w5 hown5 hg5 hat5 hlt5
              have HX5 : Hid (Ext w w5) := Below.grown (HXC.out.alloc _) hg5 (by have := HXC.out.size; simp; omega) (fun kk e => Nat.le_trans HX1.out.size (HOC.out.nums.lt kk e).1)
              have HO5 := Lib.hid ((HOC.out.ext ((Ext.refl wc).alloc (.cells #[.int .i64 (fn : Int)] 3))).pushN hg5 hown5 (hat5.imp id (fun e => by rw [e]; simp)))
              clear hown5 hg5 hat5 hlt5 c0 a0
              have c0 := (HCW.out w5 HX5.out).1
              have c1 := (HCW.out w5 HX5.out).2.1
              have c2 := (HCW.out w5 HX5.out).2.2
              rw [HFN.out] at c0
              have HBY : Hid (∀ u, Ext w5 u → Calls Tryz.prog 39 #[.agg #[.int .i64 (fn : Int), .slice ar x.recs.length cr, .string x.more]] u fun e w' => ∃ r, e = .returned (.string r) ∧ r = (pairOf x).2 ∧ Ext u w') := fun u k => by
                have h := bytes7_any (fn : Int) ar cr (x.recs.map toRC) x.more (fun r hr => by
                  obtain ⟨z, hz, rfl⟩ := List.mem_map.1 hr
                  have := HXO.out.recs z hz
                  unfold I64 at this
                  show z.1.toNat ≤ _
                  omega) (fun r hr => by
                  obtain ⟨z, hz, rfl⟩ := List.mem_map.1 hr
                  exact (HRA.out z hz).1) HOK7.out.1.more u (recsz_at (HZ.out.ext (HX5.out.trans k)) (fun z hz => (HRA.out z hz).2))
                rw [List.length_map] at h
                refine h.mono ?_
                rintro e w' ⟨r, rfl, hr, hx⟩
                exact ⟨r, rfl, lst_inj (by rw [hr]; exact (lst_bts _).symm), hx⟩
              go_wp2_with fail
              refine (HBY.out _ (Ext.refl _)).mono ?_
              rintro e w6 ⟨r6, rfl, hr6, hx6⟩
              have HO6 := Lib.hid (HO5.out.ext hx6)
              have HX7 : Hid (Ext w w6) := HX5.out.trans hx6
              have HR6 := Lib.hid hr6
              clear hx6 hr6 c0 c1 c2
              go_wp2_with (at_builtin; refine wpList_append_lies _ rfl _ _ 28 rfl w1.heap.size 9 i0 (.string ⟨#[]⟩) 1 16 Tryz.underlying28 hi0 hz0 hz1 hz2 rfl (by decide) _ _ _ rfl (World.ownsRow.alloc HO6.out.texts _) ⟨w6.heap.size, 0, none⟩ 1 1 [.string r6] rfl rfl ?c1 ?c2 (by decide) ?c3 ?c4 ?c5 _ rfl ?_)
              case c1 => exact World.news_of_block (heap_alloc_new w6 _)
              case c2 => intro u hu; simp at hu; subst hu; rfl
              case c3 => rw [htl]; unfold maxLen; omega
              case c4 => rw [htl]; omega
              case c5 => have := HO6.out.big; simp; omega
              intro g7 cap7 w7 hown7 hg7 hat7 hlt7
              have hOS7 : OwnStrs w7 w1.heap.size (.slice (some ⟨g7, 0, none⟩) (j + 1) cap7) (ps.map Prod.snd ++ [r6]) := by
                unfold OwnStrs
                rw [List.length_append, htl, List.map_append, List.map_map]
                exact hown7
              have HX8 : Hid (Ext w w7) := Below.grown (HX7.out.alloc _) hg7 (by have := HX7.out.size; simp; omega) (fun kk e => Nat.le_trans HX1.out.size (OwnStrs.lt HO6.out.texts kk e).1)
              have HO7 := Lib.hid ((HO6.out.ext ((Ext.refl w6).alloc (.cells #[.string r6] 9))).pushT hg7 hOS7 (hat7.imp id (fun e => by rw [e]; simp)))
              clear hOS7 hown7 hg7 hat7 hlt7
              have c0 := (HCW.out w7 HX8.out).1
              rw [HFN.out] at c0
              have hfn9 : fn ≤ 99999999 := by have := HOK7.out.1.high; have := HFN.out; omega
              have HFI : Hid (∀ u, Calls Tryz.prog 40 #[.int .i64 (fn : Int)] u fun e w' => e = .returned (.string (seg nameW fn)) ∧ Ext u w') := fun u => file7_any fn hfn9 u
              have HTJ : Hid ((ps.map Prod.snd ++ [r6])[j]? = some r6) := by
                show _ = _
                rw [List.getElem?_append_right (by rw [htl]; omega), htl, Nat.sub_self]; rfl
              have d0 : w7.cell? ⟨g7, j, none⟩ = some (.string r6) := HO7.out.text_cell HTJ.out
              have hjj : j < j + 1 := Nat.lt_succ_self j
              have hjk : (j : Int) < (j : Int) + 1 := by omega
              have hjl : (j : Int) < ((j + 1 : Nat) : Int) := by omega
              have HPU : Hid (∀ u, Ext w7 u → Calls Tryz.prog 23 #[.pointer (some ⟨d, 0, none⟩), .string (seg nameW fn), .string r6] u fun e w' => ∃ T, e = .returned (.int .i64 0) ∧ OS7 w1.heap.size w' d T (.slice (some ⟨g5, o5, none⟩) (j + 1) cap5) (.slice (some ⟨g7, 0, none⟩) (j + 1) cap7) (ps ++ [(fn, r6)]) (ps.map Prod.fst ++ [fn]) (ps.map Prod.snd ++ [r6]) ∧ Below w1.heap.size u w') := fun u k =>
                (HO7.out.ext k).put fn r6 hfn9 (fun p hp => by have := HOK7.out.2 p hp; have := HFN.out; omega) (by rw [HR6.out]; exact pair_small HOK7.out.1) (by rw [HPL.out]; omega)
              clear hfn9
              go_wp2_with fail
              go_cut [137] (fun s137 wx => s137 = .bool false ∧ ∃ T, Hid (OS7 w1.heap.size wx d T (.slice (some ⟨g5, o5, none⟩) (j + 1) cap5) (.slice (some ⟨g7, 0, none⟩) (j + 1) cap7) (ps ++ [(fn, r6)]) (ps.map Prod.fst ++ [fn]) (ps.map Prod.snd ++ [r6])) ∧ Hid (Ext w wx))
              case first =>
                go_region_held3 (fun u => u.cell? ⟨bk, o + j * 3, none⟩ = some (.int .i64 (fn : Int)) ∧ u.cell? ⟨g7, j, none⟩ = some (.string r6)) (first | exact ⟨c0, d0⟩ | exact ⟨q1, q2⟩ | exact ⟨Ext.cell hx9 c0, Ext.cell hx9 d0⟩)
                  (first | (go_at_call 40; refine (HFI.out _).mono ?_; rintro e u ⟨rfl, hx0⟩; have hx9 : Ext w7 u := Ext.trans (by first | exact Ext.refl _ | exact (Ext.refl _).drew) hx0; clear hx0) | (go_at_call 23; refine (HPU.out _ (by first | exact hx9 | exact hx9.drew)).mono ?_; rintro e u2 ⟨T, rfl, ho8, hb8⟩; have HO8 := Lib.hid ho8; have HX9 : Hid (Ext w u2) := Below.trans (HX8.out.trans (by first | exact hx9 | exact hx9.drew)) (Below.mono hb8 HX1.out.size); have q1 : u2.cell? ⟨bk, o + j * 3, none⟩ = some (.int .i64 (fn : Int)) := (by rw [← HFN.out]; exact (HCW.out u2 HX9.out).1); have q2 := HO8.out.text_cell HTJ.out; clear ho8 hb8))
                all_goals
                  go_wp2_with fail
                  go_meet
                  exact ⟨rfl, T, HO8, HX9⟩
              obtain ⟨rfl, T, HO8, HX9⟩ := hcut
              have HKN : Hid (∀ z ∈ xs.take (j + 1), Ok7 z) := fun z hz => by
                rw [HT.out] at hz
                rcases List.mem_append.1 hz with hz | hz
                · exact HK.out z hz
                · simp at hz; subst hz; exact HOK7.out.1
              have HON : Hid (OS7 w1.heap.size wc d T (.slice (some ⟨g5, o5, none⟩) (j + 1) cap5) (.slice (some ⟨g7, 0, none⟩) (j + 1) cap7) ((xs.take (j + 1)).map pairOf) (((xs.take (j + 1)).map pairOf).map Prod.fst) (((xs.take (j + 1)).map pairOf).map Prod.snd)) := by
                have e : pairOf x = (fn, r6) := by
                  have h := HFN.out
                  have h2 : x.first.toNat = fn := by omega
                  rw [HR6.out, ← h2]; rfl
                show OS7 _ _ _ _ _ _ _ _ _
                rw [HT.out, List.map_append, ← HPS.out, List.map_append, List.map_append]
                show OS7 _ _ _ _ _ _ (ps ++ [pairOf x]) (_ ++ [(pairOf x).1]) (_ ++ [(pairOf x).2])
                rw [e]
                exact HO8.out
              clear c0 d0
              go_wp2_with fail
              go_roundg (xs.length - (j + 1))
              case measure => omega
              case rel => exact ⟨j + 1, _, _, T, by go_num, rfl, rfl, by omega, rfl, HON, HKN, HX9⟩
      · obtain rfl : j = xs.length := by omega
        obtain ⟨ps, hps⟩ : ∃ ps, ps = (xs.take xs.length).map pairOf := ⟨_, rfl⟩
        rw [← hps] at HO
        have hpl : ps.length = xs.length := by rw [hps, List.length_map, List.length_take, Nat.min_self]
        rw [← hpl] at h5 ⊢
        have HXL := Lib.hid hpl
        clear hps HK hg hlt hj hpl HOK HS HAW
        obtain ⟨an, cn, hnv, hn1, hn2, hn3⟩ := HO.out.nums.form
        obtain ⟨ta, ct, htv, ht1, ht2, ht3⟩ := HO.out.texts.form
        rw [List.length_map] at hnv htv
        subst hnv
        subst htv
        have HN3 := Lib.hid hn3
        have HT3 := Lib.hid ht3
        clear hn3 ht3 hn1 hn2 ht1 ht2
        by_cases hbad : first < 0 ∨ 99999999 < first
        · have hop := lopen_bad d nameW (by decide) first (.inr hbad) wr
          rcases hbad with hb | hb
          all_goals
            go_wp2_with fail
            refine hop.mono ?_
            clear hop
            rintro e w4 ⟨rfl, hx⟩
            have HX4 := Lib.hid (HX.out.trans hx)
            clear hx
            go_wp2_with fail
            go_ret
            exact ⟨rfl, HX4.out⟩
        · obtain ⟨fs, rfl⟩ : ∃ fs : Nat, first = (fs : Int) := ⟨first.toNat, by omega⟩
          have hf0 : ¬ (fs : Int) < 0 := by omega
          have hf1 : ¬ (99999999 : Int) < (fs : Int) := by omega
          have hf2 : decide ((fs : Int) < 0) = false := decide_eq_false hf0
          have hf3 : decide ((99999999 : Int) < (fs : Int)) = false := decide_eq_false hf1
          obtain ⟨G, hd, hG⟩ := HO.out.disk
          have HG := Lib.hid hG
          have hop := lopen_any d nameW right_w fs (by omega) S G HO.out.laid.on (by rw [HO.out.laid.uses]; decide) wr hd (HN.out.ext HX.out) (fun k => by have h1 := (hG _ k).1; have h2 := HNL.out; have h3 := HX1.out.size; omega)
          have HLF : Hid (Wal.Left S ps (openW S nameW fs) 0 [] fs) := Wal.Left.first HO.out.laid fs rfl
          generalize openW S nameW fs = R at hop HLF
          obtain ⟨re, rl, RL, RT⟩ := R
          clear hd hG hbad
          go_wp2_with fail
          refine hop.mono ?_
          clear hop
          rintro e w4 ⟨p, v, rfl, hown, hok, hno, ho⟩
          simp only at hown hok hno
          have HX4 : Hid (Ext w w4) := Below.trans HX.out (Only.below ho HX.out.size (fun b k => by have := (HG.out b k).1; have := HX1.out.size; omega))
          have HOK := Lib.hid hok
          have HNO := Lib.hid hno
          have HOWN := Lib.hid hown
          have HNUM : Hid (∀ u, Ext w4 u → ∀ i y, (ps.map Prod.fst)[i]? = some y → ∃ g o, an = some ⟨g, o, none⟩ ∧ u.cell? ⟨g, o + i, none⟩ = some (.int .i64 (y : Nat))) := fun u k i y hi => by
            obtain ⟨g, o, e, h⟩ := HN3.out i y hi
            exact ⟨g, o, e, Ext.cell k (Only.cell ho h (fun hg => (HG.out _ hg).2.1 (by rw [e]; rfl)))⟩
          have HTXT : Hid (∀ u, Ext w4 u → ∀ i y, (ps.map Prod.snd)[i]? = some y → ∃ g o, ta = some ⟨g, o, none⟩ ∧ u.cell? ⟨g, o + i, none⟩ = some (.string y)) := fun u k i y hi => by
            obtain ⟨g, o, e, _, h⟩ := HT3.out i y hi
            exact ⟨g, o, e, Ext.cell k (Only.cell ho h (fun hg => (HG.out _ hg).2.2 (by rw [e]; rfl)))⟩
          have HLA := Lib.hid HO.out.laid
          obtain ⟨av, cv, hv, z1, z2, z3, z4, z5⟩ := hown.form
          clear z1 z2 z3 z4 z5 hown hok hno ho HG HN3 HT3 HO
          subst hv
          go_wp2_with fail
          clear hf0 hf1 hf2 hf3
          go_loopg [13, 14, 15] (ps.length) (fun g vw nx i wr2 => ∃ (k next : Nat) (out : List RC) (vv : Value), i = .int .i64 k ∧ nx = .int .i64 next ∧ vv = vw ∧ k ≤ ps.length ∧ g = ps.length - k ∧ Hid (out.length ≤ k * 4000) ∧ Hid (OwnRecs wr2 w4.heap.size vv out) ∧ Hid (Wal.Left S ps (re, rl, RL, RT) k out next) ∧ Hid (Ext w4 wr2))
          case atStart => exact ⟨0, fs, [], _, rfl, rfl, rfl, Nat.zero_le _, rfl, Nat.zero_le _, OwnRecs.nil _ _, HLF, Ext.refl _⟩
          case round =>
            obtain ⟨k, next, out, vv, rfl, rfl, rfl, hk, rfl, HOL, HOW, HL, HXW⟩ := hrel
            by_cases hlk : k < ps.length
            · obtain ⟨n, t, hpk⟩ : ∃ n t, ps[k]? = some (n, t) := ⟨_, _, List.getElem?_eq_getElem hlk⟩
              obtain ⟨g, o, han, hcn⟩ := HNUM.out wr HXW.out k n (by rw [List.getElem?_map, hpk]; rfl)
              obtain ⟨g2, o2, hta, hct⟩ := HTXT.out wr HXW.out k t (by rw [List.getElem?_map, hpk]; rfl)
              subst han
              subst hta
              have HMN : Hid (∀ u, Ext w4 u → ∀ m, (ps.map Prod.fst)[k + 1]? = some m → u.cell? ⟨g, o + (k + 1), none⟩ = some (.int .i64 (m : Nat))) := fun u kk m hm => by
                obtain ⟨g', o', e, h⟩ := HNUM.out u kk (k + 1) m hm
                cases e
                exact h
              obtain ⟨rs, en, wh, hrw⟩ : ∃ rs en wh, readW (lst t) n = (rs, en, wh) := ⟨_, _, _, rfl⟩
              have hn9 : n ≤ 99999999 := HLA.out.lim _ (List.mem_of_getElem? hpk)
              have ht4 : t.size ≤ 4000 := HLA.out.small _ (List.mem_of_getElem? hpk)
              have HRL : Hid (rs.length ≤ 4000) := by
                have h := readW_count (lst t) n
                rw [hrw, lst_length] at h
                exact Nat.le_trans h ht4
              have HEN : Hid (en ≤ t.size) := by
                have h := readW_end (lst t) n
                rw [hrw, lst_length] at h
                exact h
              have HTO : Hid (∀ u, Calls Tryz.prog 41 #[.string t, .int .i64 (n : Nat)] u fun e w' => ∃ v, e = .returned (.tuple #[v, .int .i64 (en : Nat), .bool wh]) ∧ OwnRecs w' u.heap.size v (num n rs) ∧ Ext u w') := fun u => by
                have h := told7_any t (by omega) n hn9 u
                unfold ToldDone at h
                rw [hrw] at h
                exact h
              have HN9 := Lib.hid hn9
              have HT4 := Lib.hid ht4
              have HPK := Lib.hid hpk
              have HRW := Lib.hid hrw
              clear hn9 ht4 hpk hrw
              have hlkI : (k : Int) < (ps.length : Int) := by omega
              have hlk0 : (0 : Int) ≤ (k : Int) := by omega
              have hlk2 : k < ps.length := hlk
              go_wp2_with fail
              go_cut [16, 17, 18] (fun s16 s17 s18 wx => ∃ v, v = s16 ∧ s17 = .int .i64 (en : Nat) ∧ s18 = .bool wh ∧ Hid (OwnRecs wx wr.heap.size v (num n rs)) ∧ Hid (Ext wr wx))
              case first =>
                go_region_held3 (fun u => u.cell? ⟨g2, o2 + k, none⟩ = some (.string t) ∧ u.cell? ⟨g, o + k, none⟩ = some (.int .i64 (n : Nat))) (first | exact ⟨hct, hcn⟩ | exact ⟨Ext.cell hx9 hct, Ext.cell hx9 hcn⟩)
                  (first | (go_at_call 41; refine (HTO.out _).mono ?_; rintro e u ⟨v6, rfl, hown6, hx0⟩; have hx9 : Ext wr u := Ext.trans (by first | exact Ext.refl _ | exact (Ext.refl _).drew) hx0; have HX9 := Lib.hid hx9; have HO9 : Hid (OwnRecs u wr.heap.size v6 (num n rs)) := Lib.hid hown6; clear hx0 hown6))
                all_goals
                  go_wp2_with fail
                  go_meet
                  exact ⟨_, rfl, rfl, rfl, HO9, HX9⟩
              obtain ⟨v6, rfl, rfl, rfl, HO6, HX6⟩ := hcut
              obtain ⟨a6, c6, hv6, z1, z2, z3, z4, z5⟩ := HO6.out.form
              clear z1 z2 z3 z4 z5
              rw [num_length] at hv6
              subst hv6
              have hcn := Ext.cell HX6.out hcn
              have hct := Ext.cell HX6.out hct
              have HXC : Hid (Ext w4 wc) := HXW.out.trans HX6.out
              have hw1 : IntKind.i64.wrap ((n : Int) + (rs.length : Int)) = ((n + rs.length : Nat) : Int) := by rw [IntKind.wrap_i64]; have := HN9.out; have := HRL.out; omega
              have hk1 : IntKind.i64.wrap ((k : Int) + 1) = ((k + 1 : Nat) : Int) := by rw [IntKind.wrap_i64]; omega
              go_upto_region 30 with fail
              go_cut [206] (fun s206 wx => ∃ b : Bool, s206 = .bool b ∧ Hid (b = true → re = 11 ∧ rl = []) ∧ Hid (b = false → ∀ m, (ps.map Prod.fst)[k + 1]? = some m → wh = true ∧ m = n + rs.length) ∧ wc = wx)
              case first =>
                by_cases hkk : k + 1 < ps.length
                · obtain ⟨m, hm⟩ : ∃ m, (ps.map Prod.fst)[k + 1]? = some m := ⟨_, List.getElem?_eq_getElem (by rw [List.length_map]; exact hkk)⟩
                  have hcm := HMN.out wc HXC.out m hm
                  have hki : ((k : Int) + 1) < (ps.length : Int) := by omega
                  have hkj : ((k + 1 : Nat) : Int) < (ps.length : Int) := by omega
                  have HM := Lib.hid hm
                  clear hm
                  cases wh with
                  | false =>
                    have HB : Hid (re = 11 ∧ rl = []) := left_bad HL.out HLA.out HPK.out HM.out HRW.out (by simp)
                    go_wp2_with fail
                    go_meet
                    exact ⟨true, rfl, fun _ => HB.out, (fun h => by cases h), rfl⟩
                  | true =>
                    by_cases hme : m = n + rs.length
                    · have hne : ((m : Int) != ((n : Int) + (rs.length : Int))) = false := by rw [bne_eq_false_iff_eq]; omega
                      have HME := Lib.hid hme
                      clear hme
                      go_wp2_with fail
                      go_meet
                      exact ⟨false, rfl, (fun h => by cases h), (fun _ m' hm' => ⟨by trivial, by
                        have h := HM.out
                        rw [hm'] at h
                        rw [Option.some.inj h]
                        exact HME.out⟩), rfl⟩
                    · have hne : ((m : Int) != ((n : Int) + (rs.length : Int))) = true := by rw [bne_iff_ne]; omega
                      have HB : Hid (re = 11 ∧ rl = []) := left_bad HL.out HLA.out HPK.out HM.out HRW.out (fun h => hme h.2)
                      clear hme
                      go_wp2_with fail
                      go_meet
                      exact ⟨true, rfl, fun _ => HB.out, (fun h => by cases h), rfl⟩
                · have hki : ¬ ((k : Int) + 1) < (ps.length : Int) := by omega
                  have hkn : ¬ k + 1 < ps.length := hkk
                  have HKN : Hid (∀ m, ¬ (ps.map Prod.fst)[k + 1]? = some m) := fun m hm => by
                    have := (List.getElem?_eq_some_iff.1 hm).1
                    rw [List.length_map] at this
                    exact hkk this
                  clear hkk
                  go_wp2_with fail
                  go_meet
                  exact ⟨false, rfl, (fun h => by cases h), (fun _ m hm => absurd hm (HKN.out m)), rfl⟩
              obtain ⟨b, rfl, HBT, HBF, rfl⟩ := hcut
              cases b with
              | true =>
                obtain ⟨rfl, rfl⟩ := HBT.out rfl
                obtain ⟨rfl, hv⟩ := HNO.out (by decide)
                injection hv with e1 e2 e3
                subst e1
                go_wp2_with fail
                go_ret
                exact ⟨rfl, HX4.out.trans HXC.out⟩
              | false =>
                obtain ⟨aw, cw, hvw, z1, z2, z3, z4, z5⟩ := HOW.out.form
                clear z1 z2 z3 z4 z5 HBT
                subst hvw
                have hnl : (num n rs).length = rs.length := num_length _ _
                have hrv : OwnRecs wc wr.heap.size (.slice a6 rs.length c6) (num n rs) := HO6.out
                have how : OwnRecs wc w4.heap.size (.slice aw out.length cw) out := HOW.out.ext HX6.out
                have HNL2 := Lib.hid hnl
                clear hnl
                go_wp2_with (at_builtin; refine wpList_append_recs rfl _ _ rfl w4.heap.size _ out (num n rs) rfl how wr.heap.size _ rfl hrv ?c1 ?c2 ?_)
                case c1 => exact HXC.out.size
                case c2 => rw [HNL2.out]; have := HOL.out; have := HRL.out; omega
                intro v7 w7 hown7 hb7
                have HO7 := Lib.hid hown7
                have HX7 : Hid (Ext w4 w7) := Below.trans HXC.out hb7
                clear hown7 hb7 hrv how hcn hct
                have HOL7 : Hid ((out ++ num n rs).length ≤ (k + 1) * 4000) := by
                  show _ ≤ _
                  rw [List.length_append, HNL2.out]
                  have := HOL.out; have := HRL.out; omega
                obtain ⟨g', o', e', hcn⟩ := HNUM.out w7 HX7.out k n (by rw [List.getElem?_map, HPK.out]; rfl)
                cases e'
                obtain ⟨g', o', e', hct⟩ := HTXT.out w7 HX7.out k t (by rw [List.getElem?_map, HPK.out]; rfl)
                cases e'
                by_cases hkk : k + 1 < ps.length
                · obtain ⟨m, hm⟩ : ∃ m, (ps.map Prod.fst)[k + 1]? = some m := ⟨_, List.getElem?_eq_getElem (by rw [List.length_map]; exact hkk)⟩
                  have HL7 : Hid (Wal.Left S ps (re, rl, RL, RT) (k + 1) (out ++ num n rs) (n + rs.length)) := left_step HL.out HLA.out HPK.out hm HRW.out (HBF.out (by trivial) m hm)
                  have hke : (((k : Int) + 1) == (ps.length : Int)) = false := by rw [beq_eq_false_iff_ne]; omega
                  have hkf : ((k + 1 : Nat) == ps.length) = false := by rw [beq_eq_false_iff_ne]; omega
                  clear hm
                  go_wp2_with fail
                  go_roundg (ps.length - (k + 1))
                  case measure => omega
                  case rel => exact ⟨k + 1, n + rs.length, out ++ num n rs, _, by go_num, by go_num, rfl, by omega, rfl, HOL7, HO7, HL7, HX7⟩
                · have hk1e : k + 1 = ps.length := by omega
                  obtain ⟨hre, hrd, hlf⟩ := left_last HL.out HLA.out HPK.out hk1e HRW.out
                  have HL7 : Hid (Wal.Left S ps (re, rl, RL, RT) (k + 1) (out ++ num n rs) (n + rs.length)) := hlf
                  simp only at hre hrd
                  subst hre
                  have hke : (((k : Int) + 1) == (ps.length : Int)) = true := by rw [beq_iff_eq]; omega
                  have hkf : ((k + 1 : Nat) == ps.length) = true := by rw [beq_iff_eq]; omega
                  have HK1 := Lib.hid hk1e
                  have HRD : Hid ((Dsk.read RT (seg nameW n)).1 = t.extract 0 en) := by
                    show _ = _
                    rw [hrd, extract_take]; rfl
                  obtain ⟨bl, hp, hbl, hla7, G7, hd7, _⟩ := HOK.out rfl
                  have HFI : Hid (∀ u, Calls Tryz.prog 40 #[.int .i64 (n : Nat)] u fun e w' => e = .returned (.string (seg nameW n)) ∧ Ext u w') := fun u => file7_any n HN9.out u
                  have HRE : Hid (∀ u, Ext w7 u → Calls Tryz.prog 26 #[.pointer (some ⟨d, 0, none⟩), .string (seg nameW n)] u fun e w' => e = .returned (.tuple #[.string (t.extract 0 en), .int .i64 ((Dsk.read RT (seg nameW n)).2 : Nat)]) ∧ u = w') := fun u kk => by
                    have h := read_any d RT G7 (seg nameW n) (by rw [seg_size _ _ HN9.out]; decide) u (hd7.ext (HX7.out.trans kk))
                    rw [HRD.out] at h
                    exact h
                  clear hp hbl hla7 hd7 hrd hlf hk1e hkk
                  go_wp2_with fail
                  refine (HFI.out _).mono ?_
                  rintro e w8 ⟨rfl, hx8⟩
                  have hread := HRE.out w8 hx8
                  have HX8 : Hid (Ext w4 w8) := HX7.out.trans hx8
                  have hct := Ext.cell hx8 hct
                  have HO8 := Lib.hid (HO7.out.ext hx8)
                  have hen1 : (0 : Int) ≤ (en : Int) := by omega
                  have hen2 : (en : Int) ≤ (t.size : Int) := by have := HEN.out; omega
                  have hen3 : en ≤ t.size := HEN.out
                  clear hx8 hcn
                  go_wp2_with fail
                  refine hread.mono ?_
                  clear hread
                  rintro e w9 ⟨rfl, rfl⟩
                  go_wp2_with fail
                  all_goals
                    go_roundg (ps.length - (k + 1))
                    case measure => omega
                    case rel => exact ⟨k + 1, n + rs.length, out ++ num n rs, _, by go_num, by go_num, rfl, by have := HK1.out; omega, rfl, HOL7, HO8, HL7, HX8⟩
            · have hke : k = ps.length := by omega
              obtain ⟨hre, hrl, hn1, hs1⟩ := HL.out.done hke
              simp only at hre hrl hn1 hs1
              subst hre
              subst hrl
              have HNX := Lib.hid hn1
              have HSF := Lib.hid hs1
              clear hn1 hs1 hke
              obtain ⟨bl, hp, hbl, hla7, _⟩ := HOK.out rfl
              subst hp
              obtain ⟨aw, cw, hvw, z1, z2, z3, z4, z5⟩ := HOW.out.form
              have HRW := Lib.hid z3
              clear z1 z2 z3 z4 z5 hbl
              subst hvw
              obtain ⟨aq, cq, hq, z1, z2, z3, z4, z5⟩ := HOWN.out.form
              injection hq with e1 e2 e3
              subst e1
              have HRV := Lib.hid z3
              have HLA7 := Lib.hid hla7
              clear z1 z2 z3 z4 z5 e2 e3 hla7
              have HSAME : Hid (∀ u, Ext wr u → Calls Tryz.prog 38 #[.slice av rl.length cv, .slice aw rl.length cw] u fun e w' => e = .returned (.bool true) ∧ Ext u w') := fun u kk => by
                have h := same7_any av cv rl aw cw rl (by have := HOL.out; omega) u (HRV.out.ext (HXW.out.trans kk)) (HRW.out.ext kk)
                rw [decide_eq_true rfl] at h
                exact h
              have HNEXT : Hid (∀ u, Ext wr u → Calls Tryz.prog 42 #[.pointer (some ⟨bl, 0, none⟩)] u fun e w' => e = .returned (.int .i64 (next : Nat)) ∧ u = w') := fun u kk => by
                have h := lnext_any bl d nameW RL u (HLA7.out.ext (HXW.out.trans kk))
                rw [HNX.out] at h
                exact h
              have HSAFE : Hid (∀ u, Ext wr u → Calls Tryz.prog 43 #[.pointer (some ⟨bl, 0, none⟩)] u fun e w' => e = .returned (.int .i64 (next : Nat)) ∧ u = w') := fun u kk => by
                have h := lsafe_any bl d nameW RL u (HLA7.out.ext (HXW.out.trans kk))
                rw [HSF.out] at h
                exact h
              go_wp2_with fail
              refine (HSAME.out _ (Ext.refl _)).mono ?_
              rintro e w8 ⟨rfl, hx8⟩
              have HX8 := Lib.hid hx8
              clear hx8
              go_wp2_with fail
              refine (HNEXT.out w8 HX8.out).mono ?_
              rintro e w9 ⟨rfl, rfl⟩
              go_wp2_with fail
              refine (HSAFE.out w8 HX8.out).mono ?_
              rintro e w9 ⟨rfl, rfl⟩
              go_wp2_with fail
              go_ret
              exact ⟨rfl, HX4.out.trans (HXW.out.trans HX8.out)⟩
end Go.Proofs.YtmdkjcigmhgpeaaGreatDoor
