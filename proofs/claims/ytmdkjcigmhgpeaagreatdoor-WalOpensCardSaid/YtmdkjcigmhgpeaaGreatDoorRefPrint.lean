/- The walks of the document's Print: a number's digits; of Name. -/
import Derived.Test.YtmdkjcigmhgpeaaGreatDoorSnapFiles
import Derived.Test.YtmdkjcigmhgpeaaGreatDoorRefFile
namespace Go.Proofs.YtmdkjcigmhgpeaaGreatDoor
open Go.RowKit Snp SealMath

theorem info_int : (Tryz.prog.info? 3).map (fun i => (i.zero, i.size, i.bytes)) = some (some (.int .i64 0), 1, 8) := by kernel_rfl
/-- A slice of numbers that the call owns. -/
def OwnI (w : World) (base : Nat) (v : Value) (l : List Nat) : Prop := w.ownsRow base 3 1 v l.length (l.map (fun n : Nat => Value.int .i64 (n : Int)))
theorem OwnI.nil (w : World) (base : Nat) : OwnI w base (.slice none 0 0) [] := World.ownsRow_nil _ _ _ _
theorem OwnI.ext {w w' : World} {base : Nat} {v : Value} {l : List Nat} (h : OwnI w base v l) (k : Ext w w') : OwnI w' base v l := ownsRow_ext h k
theorem OwnI.form {w : World} {base : Nat} {v : Value} {l : List Nat} (h : OwnI w base v l) : (l = [] ∧ v = .slice none 0 0) ∨ ∃ g c, v = .slice (some ⟨g, 0, none⟩) l.length c ∧ l.length ≤ c ∧ (∀ (j n : Nat), l[j]? = some n → w.cell? ⟨g, j, none⟩ = some (.int .i64 (n : Int))) := by
  have h' := h
  obtain ⟨h0, h | ⟨g, cap, cur, rfl, hb, hg, hn, hc, _⟩⟩ := h
  · have : l = [] := List.eq_nil_of_length_eq_zero h.2
    exact .inl ⟨this, h.1⟩
  · refine .inr ⟨g, cap, rfl, hn, fun j n hj => ?_⟩
    have := World.ownsRow.cells h' (g := g) rfl j (.int .i64 (n : Int)) (by simp [hj])
    rw [← this]
    congr 1
    unfold Addr.add
    split <;> simp_all
/-- trim, where nothing is to be trimmed. -/
theorem trim_any (v : Value) (l : List Nat) (base : Nat) (hl : ∀ n, l.getLast? = some n → n ≠ 0) (hN : l.length ≤ 1000) (w : World) (h : OwnI w base v l) :
    Calls Tryz.prog 185 #[v] w fun e w' => e = .returned v ∧ w' = w := by
  rcases h.form with ⟨rfl, rfl⟩ | ⟨g, c, rfl, hc, hcell⟩
  · clear h
    go_enter Tryz.func185, Tryz.ntmps185
    go_wp2_with fail
    go_loopg [0] 0 (fun k x wr => x = .slice none 0 0 ∧ k = 0 ∧ w = wr)
    case atStart => exact ⟨rfl, rfl, rfl⟩
    case round =>
      obtain ⟨rfl, rfl, rfl⟩ := hrel
      go_wp2_with fail
      go_ret
      exact ⟨rfl, rfl⟩
  · clear h
    by_cases h0 : l.length = 0
    · generalize l.length = N at h0 hc ⊢
      subst h0
      clear hcell
      go_enter Tryz.func185, Tryz.ntmps185
      go_wp2_with fail
      go_loopg [0] 0 (fun k x wr => x = .slice (some ⟨g, 0, none⟩) 0 c ∧ k = 0 ∧ w = wr)
      case atStart => exact ⟨rfl, rfl, rfl⟩
      case round =>
        obtain ⟨rfl, rfl, rfl⟩ := hrel
        go_wp2_with fail
        go_ret
        exact ⟨rfl, rfl⟩
    · obtain ⟨m, hm⟩ : ∃ m, l.length = m + 1 := ⟨l.length - 1, by omega⟩
      obtain ⟨n, hn⟩ : ∃ n, l[m]? = some n := ⟨l[m], List.getElem?_eq_getElem (by omega)⟩
      have hn0 : n ≠ 0 := hl n (by rw [List.getLast?_eq_getElem?, hm]; exact hn)
      have hcl := hcell m n hn
      have hn1 : ((n : Int) == 0) = false := by rw [beq_eq_false_iff_ne]; omega
      have hn2 : ((n : Int) = 0) = False := eq_false (by omega)
      clear hcell hn h0
      rw [hm] at hN hc ⊢
      clear hm
      go_enter Tryz.func185, Tryz.ntmps185
      go_wp2_with fail
      go_loopg [0] 0 (fun k x wr => x = .slice (some ⟨g, 0, none⟩) (m + 1) c ∧ k = 0 ∧ w = wr)
      case atStart => exact ⟨rfl, rfl, rfl⟩
      case round =>
        obtain ⟨rfl, rfl, rfl⟩ := hrel
        have hpos : (0 : Int) < (m : Int) + 1 := by omega
        have hlt : (m : Int) < (m : Int) + 1 := by omega
        go_wp2_with fail
        go_ret
        exact ⟨rfl, rfl⟩

set_option maxRecDepth 20000 in
theorem sign_any (v : Value) (l : List Nat) (base : Nat) (hl : ∀ n, l.getLast? = some n → n ≠ 0) (hN : l.length ≤ 1000) (w : World) (h : OwnI w base v l) :
    Calls Tryz.prog 153 #[.bool false, v] w fun e w' => e = .returned (.agg #[.bool false, v]) ∧ Ext w w' := by
  have hx : Ext w (w.alloc (.cells #[.bool false, .slice none 0 0] 168)) := (Ext.refl w).alloc _
  have hcall := trim_any v l base hl hN _ (h.ext hx)
  have HX := Lib.hid hx
  obtain ⟨a, n, c, rfl⟩ : ∃ a n c, v = .slice a n c := by
    rcases h.form with ⟨_, rfl⟩ | ⟨g, c, rfl, _, _⟩
    · exact ⟨_, _, _, rfl⟩
    · exact ⟨_, _, _, rfl⟩
  clear h hx
  go_enter Tryz.func153, Tryz.ntmps153
  go_wp2_with fail
  refine hcall.mono ?_
  clear hcall
  rintro e w1 ⟨rfl, rfl⟩
  go_wp2_with fail
  have hl0 : (w.alloc (.cells #[.bool false, .slice a n c] 168)).cell? ⟨w.heap.size, 0, none⟩ = some (.bool false) := cell_new w _ _ 0
  have hl1 : (w.alloc (.cells #[.bool false, .slice a n c] 168)).cell? ⟨w.heap.size, 1, none⟩ = some (.slice a n c) := cell_new w _ _ 1
  refine bodyPost_ret (v := .agg #[.bool false, .slice a n c]) (by
    simp [results, Tryz.results153, go_sem]) rfl ⟨rfl, (Ext.refl w).alloc _⟩

/-- Digits, the lowest first, as a text has them. -/
def digL (ds : List Nat) : List UInt8 := (ds.map (fun d => UInt8.ofNat (48 + d))).reverse
theorem digL_snoc (ds : List Nat) (d : Nat) : digL (ds ++ [d]) = UInt8.ofNat (48 + d) :: digL ds := by simp [digL]
theorem digL_length (ds : List Nat) : (digL ds).length = ds.length := by simp [digL]
def OfDone (n : Nat) (w : World) (e : Ending) (w' : World) : Prop := ∃ v ds, e = .returned (.agg #[.bool false, v]) ∧ OwnI w' w.heap.size v ds ∧ decF 20 n = digL ds ∧ ds.length ≤ 8 ∧ (∀ d ∈ ds, d < 10) ∧ Ext w w'
set_option maxRecDepth 20000 in
set_option maxHeartbeats 1000000 in
theorem of1_any (n : Nat) (hn : n ≤ 99999999) (w : World) :
    Calls Tryz.prog 124 #[.int .i64 (n : Nat)] w (OfDone n w) := by
  obtain ⟨i0, hi, hz0, hz1, hz2⟩ := info_parts info_int
  have hl0 : ¬ ((n : Nat) : Int) < 0 := by omega
  obtain ⟨w1, hw1⟩ : ∃ w1, w1 = w.alloc (.cells #[.bool false, .slice none 0 0] 168) := ⟨_, rfl⟩
  obtain ⟨b, hb⟩ : ∃ b, b = w.heap.size := ⟨_, rfl⟩
  have hrow : w1.heap[b]? = some (.cells #[.bool false, .slice none 0 0] 168 (0, 0)) := by rw [hw1, hb]; exact heap_alloc_new w _
  have hs1 : w1.heap.size = b + 1 := by rw [hw1, hb]; simp
  have hx1 : Ext w w1 := by rw [hw1]; exact (Ext.refl w).alloc _
  go_enter Tryz.func124, Tryz.ntmps124
  go_upto_region 4 with fail
  rw [← hw1, ← hb]
  have HB := Lib.hid (And.intro hb hrow)
  have HS1 := Lib.hid (And.intro hs1 hx1)
  clear hw1 hb hrow hs1 hx1
  go_wp2_with fail
  go_loopg [3, 4] n (fun g u v wr => ∃ (q : Nat) (ds : List Nat), u = .int .u64 q ∧ ds.length ≤ 8 ∧ q < 10 ^ (8 - ds.length) ∧ OwnI wr (b + 1) v ds ∧ Hid (PrintAt n q (digL ds) ∧ (∀ d ∈ ds, d < 10) ∧ (q = 0 → ∀ d, ds.getLast? = some d → d ≠ 0)) ∧ q = g ∧ Below (b + 1) w1 wr)
  case atStart => exact ⟨n, [], rfl, Nat.zero_le _, by simp; omega, OwnI.nil _ _, ⟨by simp [PrintAt, digL], by simp, by simp⟩, rfl, Below.refl _ _⟩
  case round =>
    obtain ⟨q, ds, rfl, hds, hq, hown, HP, rfl, hx⟩ := hrel
    have hsz : b + 1 ≤ wr.heap.size := by have := hx.size; have := HS1.out.1; omega
    by_cases hz : q = 0
    · subst hz
      have hcall := sign_any _ ds (b + 1) (HP.out.2.2 rfl) (by omega) wr hown
      go_wp2_with fail
      refine hcall.mono ?_
      clear hcall
      rintro e w2 ⟨rfl, hx2⟩
      have hrow2 : w2.heap[b]? = some (.cells #[.bool false, .slice none 0 0] 168 (0, 0)) := (hx2.block b (by omega)).trans ((hx.block b (by omega)).trans HB.out.2)
      have c0 : w2.cell? ⟨b, 0, none⟩ = some (.bool false) := cell_of_row _ _ _ _ _ _ hrow2
      have c1 : w2.cell? ⟨b, 1, none⟩ = some (.slice none 0 0) := cell_of_row _ _ _ _ _ _ hrow2
      have f0 := frozen_row hrow2 0
      have f1 := frozen_row hrow2 1
      have HROW2 := Lib.hid hrow2
      have HX2 := Lib.hid hx2
      have HOWN := Lib.hid (hown.ext hx2)
      have HX := Lib.hid hx
      obtain ⟨a, m, c, rfl⟩ : ∃ a m c, u4 = .slice a m c := by
        rcases hown.form with ⟨_, rfl⟩ | ⟨g, c, rfl, _, _⟩
        · exact ⟨_, _, _, rfl⟩
        · exact ⟨_, _, _, rfl⟩
      clear hown hx2 hx hrow2
      go_wp2_with fail
      have hrow5 : ((w2.setCell ⟨b, 0, none⟩ (.bool false)).setCell ⟨b, 1, none⟩ (.slice a m c)).heap[b]? = some (.cells #[.bool false, .slice a m c] 168 (0, 0)) := by
        rw [setCell_heap (setCell_heap HROW2.out (j := 0) _) (j := 1) _]; rfl
      have hg5 : w2.grownBy ((w2.setCell ⟨b, 0, none⟩ (.bool false)).setCell ⟨b, 1, none⟩ (.slice a m c)) (some b) := ⟨rfl, rfl, rfl, by simp [World.setCell], fun k _ hk => by
        rw [Below.heap_setCell _ _ _ _ (fun e => hk (by rw [e])), Below.heap_setCell _ _ _ _ (fun e => hk (by rw [e]))]⟩
      have hown5 : OwnI ((w2.setCell ⟨b, 0, none⟩ (.bool false)).setCell ⟨b, 1, none⟩ (.slice a m c)) (b + 1) (.slice a m c) ds := by
        refine World.ownsRow.kept HOWN.out hg5 ?_
        have hlt3 := World.ownsRow.lt HOWN.out
        cases hv : (Value.slice a m c).ownBlock with
        | none => exact .inl rfl
        | some k => have := (hlt3 k hv).1; exact .inr (by simp; omega)
      have hx5 : Ext w ((w2.setCell ⟨b, 0, none⟩ (.bool false)).setCell ⟨b, 1, none⟩ (.slice a m c)) := by
        have h1 : Ext w w2 := Ext.trans (Below.trans HS1.out.2 (Below.mono HX.out (by rw [HB.out.1]; omega))) HX2.out
        exact Below.grown h1 hg5 (by have := h1.size; omega) (fun k e => by injection e with e; rw [← e, HB.out.1]; exact Nat.le_refl _)
      generalize ((w2.setCell ⟨b, 0, none⟩ (.bool false)).setCell ⟨b, 1, none⟩ (.slice a m c)) = w5 at hrow5 hown5 hx5 ⊢
      have d0 : w5.cell? ⟨b, 0, none⟩ = some (.bool false) := cell_of_row _ _ _ _ _ _ hrow5
      have d1 : w5.cell? ⟨b, 1, none⟩ = some (.slice a m c) := cell_of_row _ _ _ _ _ _ hrow5
      refine bodyPost_ret (v := .agg #[.bool false, .slice a m c]) (by
        simp [results, Tryz.results124, go_sem, d0, d1]) rfl ⟨.slice a m c, ds, rfl, ?_, HP.out.1.done, hds, HP.out.2.1, hx5⟩
      obtain ⟨r1, r2⟩ := hown5
      refine ⟨r1, r2.imp id ?_⟩
      rintro ⟨g, cap, cur, q1, q2, q3⟩
      exact ⟨g, cap, cur, q1, by have := HB.out.1; omega, q3⟩
    · have hlt : ds.length < 8 := by
        apply Classical.byContradiction; intro h
        have : 8 - ds.length = 0 := by omega
        rw [this] at hq; simp at hq; exact hz hq
      have hqb : q < 100000000 := Nat.lt_of_lt_of_le hq (by have := Nat.pow_le_pow_right (n := 10) (by omega) (show 8 - ds.length ≤ 8 by omega); simpa using this)
      go_wp2_with (at_builtin; refine wpList_append_own _ rfl _ _ 41 rfl (b + 1) 3 i0 (.int .i64 0) 1 8 Tryz.underlying41 hi hz0 hz1 hz2 rfl (by decide) _ _ _ rfl (World.ownsRow.alloc hown _) ⟨wr.heap.size, 0, none⟩ 1 1 [.int .i64 ((q : Int) % 10)] rfl rfl ?c1 ?c2 ?c3 ?c4 ?c5 ?_)
      case c1 => exact cell_one_new _ _ _
      case c2 => intro u hu; simp at hu; subst hu; rfl
      case c3 => unfold maxLen; omega
      case c4 => omega
      case c5 => simp; omega
      intro v' w2 hown2 hg2 _
      have hlt2 := World.ownsRow.lt hown
      have k2 : Below (b + 1) w1 w2 := Below.grown (hx.alloc hsz _) hg2 (by simp; omega) (fun k e => (hlt2 k e).1)
      have HO2 : OwnI w2 (b + 1) v' (ds ++ [q % 10]) := by
        unfold OwnI
        rw [List.length_append, List.map_append]
        exact hown2
      clear hown2 hown hlt2
      go_wp2_with fail
      go_roundg (q / 10)
      case measure => omega
      case rel => exact ⟨q / 10, ds ++ [q % 10], congrArg (Value.int .u64) (by first | omega | (rw [IntKind.wrap_u64]; omega)), by simp; omega, by
        rw [List.length_append, List.length_singleton]
        have : 8 - ds.length = (8 - (ds.length + 1)) + 1 := by omega
        rw [this, Nat.pow_succ] at hq; omega, HO2, (show Hid _ from by
        refine ⟨?_, ?_, ?_⟩
        · rw [digL_snoc]; exact HP.out.1.step (by omega) (by rw [digL_length]; omega)
        · intro d hd
          rcases List.mem_append.1 hd with hd | hd
          · exact HP.out.2.1 d hd
          · simp at hd; subst hd; omega
        · intro h0 d hd
          simp at hd; subst hd; omega), rfl, k2⟩

theorem digL_take (ds : List Nat) (k : Nat) (h : k < ds.length) : digL (ds.take (k + 1)) = UInt8.ofNat (48 + ds[k]) :: digL (ds.take k) := by
  rw [List.take_succ_eq_append_getElem h, digL_snoc]
set_option maxRecDepth 20000 in
set_option maxHeartbeats 1000000 in
/-- The document's Print, of what isn't below 0. -/
theorem rprint_any (n : Nat) (hn : n ≤ 99999999) (w : World) :
    Calls Tryz.prog 86 #[.int .i64 (n : Nat)] w fun e w' => ∃ r, e = .returned (.string r) ∧ lst r = dec n ∧ Ext w w' := by
  have hcall := of1_any n hn w
  have hl0 : ¬ ((n : Nat) : Int) < 0 := by omega
  go_enter Tryz.func86, Tryz.ntmps86
  go_wp2_with fail
  refine hcall.mono ?_
  clear hcall
  rintro e w1 ⟨v, ds, rfl, hown, hdec, hds, hlt10, hx⟩
  have HX := Lib.hid hx
  have HD := Lib.hid (And.intro hdec hlt10)
  clear hx hdec hlt10
  obtain ⟨a, c, rfl, hcell⟩ : ∃ a c, v = .slice a ds.length c ∧ (∀ (j n : Nat), ds[j]? = some n → ∃ g, a = some ⟨g, 0, none⟩ ∧ w1.cell? ⟨g, j, none⟩ = some (.int .i64 (n : Int))) := by
    rcases hown.form with ⟨rfl, rfl⟩ | ⟨g, c, rfl, _, hc⟩
    · exact ⟨none, 0, rfl, by intro j n hj; simp at hj⟩
    · exact ⟨_, c, rfl, fun j n hj => ⟨g, rfl, hc j n hj⟩⟩
  clear hown
  have HC := Lib.hid hcell
  by_cases h0 : ds.length = 0
  · have hn0 : n = 0 := by
      apply Classical.byContradiction; intro h
      have := decF_ne n h
      rw [HD.out.1, digL_length] at this; omega
    have HN0 : Hid (dec n = [48]) := by show _ = _; rw [hn0]; rfl
    clear hn0 hcell HC HD
    generalize ds.length = N at h0 ⊢
    subst h0
    go_wp2_with fail
    go_ret
    exact ⟨_, rfl, by rw [HN0.out], HX.out.alloc _⟩
  · have hn0 : n ≠ 0 := by
      rintro rfl
      have h1 : decF 20 0 = [] := rfl
      rw [h1] at HD
      have := congrArg List.length HD.out.1
      rw [digL_length] at this
      exact h0 this.symm
    have HN0 : Hid (dec n = digL ds) := by
      show _ = _
      unfold dec
      rw [if_neg hn0]; exact HD.out.1
    have hlen0 : ((ds.length : Int) == 0) = false := by rw [beq_eq_false_iff_ne]; omega
    clear hn0 hcell
    go_upto_region 2 with fail
    have hx2 : Ext w1 (w1.alloc (.cells #[.bool false, .slice a ds.length c] 168)) := (Ext.refl w1).alloc _
    have c0 : (w1.alloc (.cells #[.bool false, .slice a ds.length c] 168)).cell? ⟨w1.heap.size, 0, none⟩ = some (.bool false) := cell_new w1 _ _ 0
    have c1 : (w1.alloc (.cells #[.bool false, .slice a ds.length c] 168)).cell? ⟨w1.heap.size, 1, none⟩ = some (.slice a ds.length c) := cell_new w1 _ _ 1
    have HX2 := Lib.hid (Ext.trans HX.out hx2)
    have HC2 : Hid (∀ (j n : Nat), ds[j]? = some n → ∃ g, a = some ⟨g, 0, none⟩ ∧ (w1.alloc (.cells #[.bool false, .slice a ds.length c] 168)).cell? ⟨g, j, none⟩ = some (.int .i64 (n : Int))) := fun j n hj => by
      obtain ⟨g, e, hc⟩ := HC.out j n hj
      exact ⟨g, e, hx2.cell hc⟩
    generalize (w1.alloc (.cells #[.bool false, .slice a ds.length c] 168)) = w2 at c0 c1 HX2 HC2 hx2 ⊢
    generalize w1.heap.size = b at c0 c1 ⊢
    clear hx2 HC
    have H01 := Lib.hid (And.intro c0 c1)
    go_wp2_with fail
    clear c0 c1
    go_loopg [4, 5] (ds.length) (fun g x i wr => ∃ (s : ByteArray) (k : Nat), x = .string s ∧ i = .int .i64 k ∧ k ≤ ds.length ∧ g = ds.length - k ∧ s.size = k ∧ Hid (lst s = digL (ds.take k)) ∧ Ext w2 wr)
    case atStart => exact ⟨⟨#[]⟩, 0, rfl, rfl, Nat.zero_le _, rfl, rfl, rfl, Ext.refl _⟩
    case round =>
      obtain ⟨s, k, rfl, rfl, hk, rfl, hsk, HP, hx⟩ := hrel
      have c0 := hx.cell H01.out.1
      have c1 := hx.cell H01.out.2
      by_cases hlt : k < ds.length
      · obtain ⟨g, rfl, hc⟩ := HC2.out k _ (List.getElem?_eq_getElem hlt)
        have hcell := hx.cell hc
        have hd10 := HD.out.2 _ (List.getElem_mem hlt)
        have HT := Lib.hid (digL_take ds k hlt)
        generalize ds[k] = q at hcell hd10 HT hc
        clear hc
        have hone := one_byte wr (48 + (q : Int))
        have HO : Hid (lst (strOfNums [48 + (q : Int)]) = [UInt8.ofNat (48 + q)]) := by
          rw [show (48 + (q : Int)) = ((48 + q : Nat) : Int) by omega]
          exact lst_one _
        have hos : (strOfNums [48 + (q : Int)]).size = 1 := rfl
        generalize strOfNums [48 + (q : Int)] = o at hone HO hos
        have hx2 : Ext w2 (wr.alloc (.cells #[.int .u8 (48 + (q : Int))] 5)) := hx.alloc _
        go_wp2_with fail
        go_roundg (ds.length - (k + 1))
        case measure => omega
        case rel => exact ⟨o ++ s, k + 1, rfl, by go_num, by omega, rfl, by rw [ByteArray.size_append]; omega, (show Hid _ from by
          show _ = _
          rw [lst_append, HO.out, HP.out, HT.out]; rfl), hx2⟩
      · have ek : k = ds.length := by omega
        have HK := Lib.hid ek
        clear ek
        go_wp2_with fail
        go_ret
        refine ⟨s, rfl, ?_, HX2.out.trans hx⟩
        rw [HP.out, HK.out, List.take_length, HN0.out]

set_option maxRecDepth 20000 in
set_option maxHeartbeats 1000000 in
/-- The document's Name. -/
theorem rname_any (n : Nat) (hn : n ≤ 99999999) (w : World) :
    Calls Tryz.prog 24 #[.int .i64 (n : Nat)] w fun e w' => e = .returned (.string (nSnap n)) ∧ Ext w w' := by
  have hcall := rprint_any n hn w
  go_enter Tryz.func24, Tryz.ntmps24
  go_wp2_with fail
  refine hcall.mono ?_
  clear hcall
  rintro e w1 ⟨r, rfl, hr, hx⟩
  have hsz : r.size ≤ 8 := by rw [← lst_length, hr]; exact dec_len n (by omega)
  have HR := Lib.hid hr
  have HX := Lib.hid hx
  clear hr hx
  go_wp2_with fail
  go_loopg [3] (8 - r.size) (fun g x wr => ∃ (s : ByteArray) (k : Nat), x = .string s ∧ s.size = r.size + k ∧ s.size ≤ 8 ∧ g = 8 - s.size ∧ Hid (lst s = List.replicate k 48 ++ lst r) ∧ w1 = wr)
  case atStart => exact ⟨r, 0, rfl, rfl, hsz, rfl, rfl, rfl⟩
  case round =>
    obtain ⟨s, k, rfl, hsk, hs8, rfl, HP, rfl⟩ := hrel
    have HSK := Lib.hid hsk
    clear hsk
    by_cases hlt : s.size < 8
    · have hz : (⟨#[48]⟩ : ByteArray).size = 1 := rfl
      go_wp2_with fail
      go_roundg (8 - (1 + s.size))
      case measure => omega
      case rel => exact ⟨⟨#[48]⟩ ++ s, k + 1, rfl, by rw [ByteArray.size_append]; have := HSK.out; omega, by rw [ByteArray.size_append]; omega, by rw [ByteArray.size_append, hz], (show Hid _ from by
        show _ = _
        rw [lst_append, show lst (⟨#[48]⟩ : ByteArray) = [48] from rfl, HP.out, List.replicate_succ]; rfl), rfl⟩
    · go_wp2_with fail
      go_ret
      refine ⟨ret_str (lst_inj ?_), HX.out⟩
      rw [lst_append, show lst (⟨#[115, 46]⟩ : ByteArray) = [115, 46] from rfl, HP.out, lst_nSnap]
      unfold dec8
      rw [← HR.out, lst_length, show 8 - r.size = k by have := HSK.out; omega]; rfl
end Go.Proofs.YtmdkjcigmhgpeaaGreatDoor
