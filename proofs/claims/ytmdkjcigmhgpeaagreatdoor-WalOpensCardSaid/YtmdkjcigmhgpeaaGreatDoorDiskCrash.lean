/- The walk of Crash. -/
import Derived.Test.YtmdkjcigmhgpeaaGreatDoorDiskNames
namespace Go.Proofs.YtmdkjcigmhgpeaaGreatDoor
open Go.RowKit Go.Maps Dsk

/-- The slice at a holds these numbers. -/
def IntsAt (w : World) (a : Option Addr) (ks : List Int) : Prop :=
  ∀ (j : Nat) k, ks[j]? = some k → ∃ bk o, a = some ⟨bk, o, none⟩ ∧ bk < w.heap.size ∧ w.cell? ⟨bk, o + j, none⟩ = some (.int .i64 k)
theorem IntsAt.only {F : Nat → Prop} {w w' : World} {a : Option Addr} {ks : List Int} (h : IntsAt w a ks) (k : Only F w w') (hF : ∀ bk o, a = some ⟨bk, o, none⟩ → ¬ F bk) : IntsAt w' a ks := by
  intro j x hj
  obtain ⟨bk, o, rfl, hl, hc⟩ := h j x hj
  exact ⟨bk, o, rfl, Nat.lt_of_lt_of_le hl k.size, k.cell hc (hF _ _ rfl)⟩
theorem IntsAt.nil (w : World) (a : Option Addr) : IntsAt w a [] := by intro j x h; simp at h
theorem IntsAt.onlyN {F : Nat → Prop} {w w' : World} {a : Option Addr} {ks : List Int} (h : IntsAt w a ks) (k : Only F w w') (hF : ks ≠ [] → ∀ bk o, a = some ⟨bk, o, none⟩ → ¬ F bk) : IntsAt w' a ks := by
  cases ks with
  | nil => exact IntsAt.nil _ _
  | cons x r => exact h.only k (hF (List.cons_ne_nil _ _))
theorem IntsAt.one (w : World) (x : Int) (t : TypeId) : IntsAt (w.alloc (.cells #[.int .i64 x] t)) (some ⟨w.heap.size, 0, none⟩) [x] := by
  intro j y hj
  match j, hj with
  | 0, hj =>
    simp at hj; subst hj
    exact ⟨_, _, rfl, by simp, by rw [cell_new]; rfl⟩
theorem IntsAt.ext {w w' : World} {a : Option Addr} {ks : List Int} (h : IntsAt w a ks) (k : Ext w w') : IntsAt w' a ks := h.only (F := fun _ => False) (Only.ext k) (fun _ _ _ hf => hf)

def crashUpTo (ks : List Int) (n : Nat) (l : List FD) : List FD := l.mapIdx (fun i f => if i < n then crashF (ks.getD i 0) f else f)
theorem crashF_key (k : Int) (f : FD) : (crashF k f).key = f.key := rfl
theorem crashUpTo_get (ks : List Int) (n : Nat) (l : List FD) (j : Nat) : (crashUpTo ks n l)[j]? = (l[j]?).map (fun f => if j < n then crashF (ks.getD j 0) f else f) := by
  unfold crashUpTo; rw [List.getElem?_mapIdx]
theorem crashUpTo_zero (ks : List Int) (l : List FD) : crashUpTo ks 0 l = l := by
  refine List.ext_getElem? (fun j => ?_)
  rw [crashUpTo_get]; simp
theorem crashUpTo_all (ks : List Int) (S : DS) : crashUpTo ks S.files.length S.files = (crash S ks).files := by
  unfold crash
  refine List.ext_getElem? (fun j => ?_)
  rw [crashUpTo_get]
  show _ = (S.files.mapIdx _)[j]?
  rw [List.getElem?_mapIdx]
  by_cases h : j < S.files.length
  · simp [h]
  · simp [List.getElem?_eq_none (Nat.le_of_not_lt h)]
theorem crashUpTo_step {ks : List Int} {n : Nat} {l : List FD} (hs : Sorted l) (hn : n < l.length) : crashUpTo ks (n + 1) l = (crashUpTo ks n l).map (fun x => if x.key = l[n].key then crashF (ks.getD n 0) x else x) := by
  refine List.ext_getElem? (fun j => ?_)
  rw [List.getElem?_map, crashUpTo_get, crashUpTo_get, Option.map_map]
  cases hj : l[j]? with
  | none => rfl
  | some f =>
    simp only [Option.map_some, Function.comp]
    have hjl : j < l.length := (List.getElem?_eq_some_iff.1 hj).1
    have hjf : l[j] = f := (List.getElem?_eq_some_iff.1 hj).2
    have hkey : ∀ g : FD, (if j < n then crashF (ks.getD j 0) f else f).key = f.key := fun _ => by split <;> rfl
    have hiff : f.key = l[n].key ↔ j = n := by
      constructor
      · intro e
        have h := hs
        unfold Sorted at h
        rw [List.pairwise_iff_getElem] at h
        rcases Nat.lt_trichotomy j n with h1 | h1 | h1
        · have := h j n hjl hn h1
          rw [hjf, e] at this
          exact absurd this (lt_irrefl _)
        · exact h1
        · have := h n j hn hjl h1
          rw [hjf, e] at this
          exact absurd this (lt_irrefl _)
      · rintro rfl; rw [hjf]
    rw [hkey f]
    by_cases e : j = n
    · subst e
      rw [if_pos (by omega), if_pos (hiff.2 rfl), if_neg (by omega)]
    · rw [if_neg (fun h => e (hiff.1 h))]
      by_cases h1 : j < n
      · rw [if_pos (by omega), if_pos h1]
      · rw [if_neg (by omega), if_neg h1]
theorem crashUpTo_keys {ks : List Int} {n : Nat} {l : List FD} {x : FD} (h : x ∈ crashUpTo ks n l) : ∃ f ∈ l, x.key = f.key := by
  obtain ⟨j, hj⟩ := List.getElem?_of_mem h
  rw [crashUpTo_get] at hj
  cases hl : l[j]? with
  | none => rw [hl] at hj; cases hj
  | some f =>
    rw [hl] at hj
    simp only [Option.map_some, Option.some.injEq] at hj
    refine ⟨f, List.mem_of_getElem? hl, ?_⟩
    rw [← hj]; split <;> rfl
theorem fine_crash {f : FD} (h : Fine f) (k : Int) : Fine (crashF k f) := by
  have hd := h.data
  have hk := h.kept
  have hs : (takeB f.data (f.kept + min k.toNat (f.data.size - f.kept))).size = f.kept + min k.toNat (f.data.size - f.kept) := takeB_size _ _ (by omega)
  refine ⟨h.name, ?_, ?_⟩
  · show (takeB f.data (f.kept + min k.toNat (f.data.size - f.kept))).size ≤ _
    rw [hs]; omega
  · show f.kept + min k.toNat (f.data.size - f.kept) ≤ (takeB f.data (f.kept + min k.toNat (f.data.size - f.kept))).size
    rw [hs]; exact Nat.le_refl _
theorem foot_crash {d mb : Nat} {β : List UInt8 → Nat} {S : DS} {ks : List Int} {b : Nat} (h : foot d mb β (crash S ks).files b) : foot d mb β S.files b := by
  rcases h with h | h | ⟨f, hf, rfl⟩
  · exact .inl h
  · exact .inr (.inl h)
  · rw [← crashUpTo_all] at hf
    obtain ⟨g, hg, e⟩ := crashUpTo_keys hf
    exact .inr (.inr ⟨g, hg, by rw [e]⟩)
def crashQ (f : FD) (k : Int) : Nat := f.kept + min k.toNat (f.data.size - f.kept)
def crashW (wr : World) (b : Nat) (f : FD) (q : Nat) : World := ((wr.setCell ⟨b, 0, none⟩ (.string (f.data.extract 0 q))).setCell ⟨b, 1, none⟩ (.int .i64 (q : Nat))).drew
theorem crash_step {wr : World} {d mb : Nat} {β : List UInt8 → Nat} {T : DS} {L : List FD} {f : FD} (k : Int) (h : DiskIn wr d mb β (files T L)) (hf : f ∈ L) :
    DiskIn (crashW wr (β f.key) f (crashQ f k)) d mb β (files T (L.map (fun x => if x.key = f.key then crashF k x else x))) ∧ Only (fun b => b = β f.key) wr (crashW wr (β f.key) f (crashQ f k)) := by
  have ho : Only (fun b => b = β f.key) wr (crashW wr (β f.key) f (crashQ f k)) := (((Only.refl _ wr).at _ _).at _ _).andThen (Only.ext ((Ext.refl _).drew))
  have hrow := Go.Joins.block_setCell (i := 1) (Go.Joins.block_setCell (i := 0) (h.file f hf) (.string (f.data.extract 0 (crashQ f k)))) (.int .i64 ((crashQ f k : Nat) : Int))
  simp only [fcells, List.setIfInBounds_toArray, List.set_cons_zero, List.set_cons_succ] at hrow
  have e : fcells (crashF k f) = #[.string (f.data.extract 0 (crashQ f k)), .int .i64 ((crashQ f k : Nat) : Int)] := by
    unfold fcells crashF crashQ
    rw [extract_take]
  refine ⟨h.each (fun x => if x.key = f.key then crashF k x else x) hf (fun x _ => ?_) (fun x _ hne => if_neg hne) ?_ ?_ ho, ho⟩
  · show FD.key (if x.key = f.key then crashF k x else x) = _
    split <;> rfl
  · show Fine (if f.key = f.key then crashF k f else f)
    rw [if_pos rfl]; exact fine_crash (h.good.fine f hf) k
  · show _ = some (Obj.cells (fcells (if f.key = f.key then crashF k f else f)) _ _)
    rw [if_pos rfl, e]
    exact hrow
theorem crashQ_int (f : FD) (k : Int) (h : f.kept ≤ f.data.size) : (f.kept : Int) + min (max k 0) ((f.data.size : Int) - (f.kept : Int)) = ((crashQ f k : Nat) : Int) := by
  unfold crashQ; omega
def woken (S : DS) : DS := { S with off := false, armed := false }

set_option maxHeartbeats 1000000 in
/-- Crash. -/
theorem crash_gen (d : Nat) (S : DS) (F : Nat → Prop) (a : Option Addr) (c : Nat) (ks : List Int) (hN : ks.length ≤ 140737488355328) (hM : ∀ k ∈ ks, -9223372036854775808 ≤ k ∧ k ≤ 9223372036854775807)
    (w : World) (h : DiskAt w d S F) (hs : IntsAt w a ks) (hNF : ks ≠ [] → ∀ bk o, a = some ⟨bk, o, none⟩ → ¬ F bk) :
    Calls Tryz.prog 30 #[.pointer (some ⟨d, 0, none⟩), .slice a ks.length c] w fun e w' => e = .returned (.tuple #[]) ∧ DiskAt w' d (crash S ks) F ∧ Only F w w' := by
  obtain ⟨mb, β, h, hF⟩ := h
  have c0 := Own.c0 h.row
  have c1 := Own.c1 h.row
  have f0 := Own.free h.row 0
  have f1 := Own.free h.row 1
  have hrow := Go.Joins.block_setCell (i := 1) (Go.Joins.block_setCell (i := 0) h.row (.bool false)) (.bool false)
  have hon : Only (fun b => b = d) w ((w.setCell ⟨d, 0, none⟩ (.bool false)).setCell ⟨d, 1, none⟩ (.bool false)) := ((Only.refl _ w).at _ _).at _ _
  obtain ⟨w1, hw1⟩ : ∃ w1, w1 = (w.setCell ⟨d, 0, none⟩ (.bool false)).setCell ⟨d, 1, none⟩ (.bool false) := ⟨_, rfl⟩
  rw [← hw1] at hrow hon
  have hd1 : DiskIn w1 d mb β (woken S) := h.power ⟨h.good.sorted, h.good.fine, h.good.many, h.good.left, h.good.room⟩ rfl (by
    have h := hrow
    simp only [dcells, List.setIfInBounds_toArray, List.set_cons_zero, List.set_cons_succ] at h
    exact h) hon
  have hnames := names_any d (woken S) (foot d mb β S.files) none 0 [] (by simp) w1 ⟨mb, β, hd1, fun _ hb => hb⟩ (StrsAt.nil _ _)
  have e0 : namesOf (woken S) [] = S.files.map (·.name) := by unfold namesOf; simp [names, woken]
  rw [e0] at hnames
  have HGood := Lib.hid h.good
  have HD1 := Lib.hid hd1; clear hd1 h hrow
  have HON := Lib.hid hon; clear hon
  have HF := Lib.hid hF
  have HM := Lib.hid hM; clear hM
  have HS := Lib.hid (IntsAt.onlyN hs (HON.out.mono (G := F) (fun b _ e => hF b (.inl e))) hNF); clear hs
  have HNF := Lib.hid hNF; clear hNF hF
  have HLEN := Lib.hid (show (S.files.map (·.name)).length = S.files.length by simp)
  go_enter Tryz.func30, Tryz.ntmps30
  go_wp2_with fail
  rw [← hw1]
  have HW1 := Lib.hid hw1; clear hw1 c0 c1 f0 f1
  refine hnames.mono ?_
  rintro e w2 ⟨v, rfl, ho, hx⟩
  obtain ⟨av, cv, rfl, _, _, hsv⟩ := OwnStrs.form ho
  rw [HLEN.out] at *
  have HX := Lib.hid hx; clear hx hnames
  have HNB := Lib.hid (fun bk o (e : av = some ⟨bk, o, none⟩) => ((World.ownsRow.lt ho) bk (by rw [e]; rfl)).1)
  have HSV := Lib.hid hsv; clear hsv ho
  have HD2 := Lib.hid (HD1.out.ext HX.out)
  have HS2 := Lib.hid (HS.out.ext HX.out)
  have hmany := HGood.out.many
  have HFF := Lib.hid (fun b (hb : foot d mb β S.files b) => (show b < w1.heap.size from HD1.out.foot_lt hb))
  have hsl : (files (woken S) (crashUpTo ks S.files.length S.files)) = crash S ks := by rw [crashUpTo_all]; rfl
  have HSL := Lib.hid hsl; clear hsl
  have HSORT := Lib.hid HGood.out.sorted
  go_wp2
  go_loopg [4, 5, 6, 7, 8, 22] (S.files.length) (fun k s4 s5 s6 s7 s8 s22 wr => ∃ n : Nat, s22 = .int .i64 n ∧ n ≤ S.files.length ∧ k = S.files.length - n ∧ Hid (DiskIn wr d mb β (files (woken S) (crashUpTo ks n S.files))) ∧ Hid (Only (foot d mb β S.files) w2 wr))
  case atStart => exact ⟨0, rfl, Nat.zero_le _, rfl, (by rw [crashUpTo_zero]; exact HD2.out), Only.refl _ _⟩
  case round =>
    obtain ⟨n, rfl, hn, rfl, HDn, HOn⟩ := hrel
    by_cases hlt : n < S.files.length
    · obtain ⟨bk, o, rfl, _, hcell⟩ := (StrsAt.only HSV.out HOn.out (fun bk o e hf => by
        have h1 := HNB.out bk o e
        have h2 := HFF.out bk hf
        have h3 := HX.out.size
        omega)) n S.files[n].name (by rw [List.getElem?_map, List.getElem?_eq_getElem hlt]; rfl)
      have HSTEP := Lib.hid (crashUpTo_step (ks := ks) HSORT.out hlt)
      have hfm : S.files[n] ∈ (files (woken S) (crashUpTo ks n S.files)).files := by
        refine List.mem_of_getElem? (i := n) ?_
        show (crashUpTo ks n S.files)[n]? = _
        rw [crashUpTo_get, List.getElem?_eq_getElem hlt]
        simp
      have hfm0 : S.files[n] ∈ S.files := List.getElem_mem hlt
      generalize hff : S.files[n] = f at hcell hfm hfm0
      rw [hff] at HSTEP
      have HFF0 := Lib.hid hff; clear hff
      have hg : get (files (woken S) (crashUpTo ks n S.files)).files f.name = some f := HDn.out.good.sorted.get hfm rfl
      have hfine := HDn.out.good.fine f hfm
      have hfd := hfine.data
      have hfk := hfine.kept
      have hfn := (may_size hfine.name).2
      have hmap := HDn.out.map
      have c5 := Own.c5 HDn.out.row
      have hrowf := HDn.out.file f hfm
      have c0f : wr.cell? ⟨β (lst f.name), 0, none⟩ = some (.string f.data) := Go.Joins.cell_of_block hrowf 0
      have c1f : wr.cell? ⟨β (lst f.name), 1, none⟩ = some (.int .i64 (f.kept : Nat)) := Go.Joins.cell_of_block hrowf 1
      have f0f : wr.frozen? ⟨β (lst f.name), 0, none⟩ = false := frozen_row hrowf 0
      have f1f : wr.frozen? ⟨β (lst f.name), 1, none⟩ = false := frozen_row hrowf 1
      have HROWF := Lib.hid hrowf; clear hrowf
      have HFINE := Lib.hid hfine; clear hfine
      have HFM := Lib.hid hfm; clear hfm
      have HFM0 := Lib.hid hfm0; clear hfm0
      by_cases hkl : n < ks.length
      · obtain ⟨bk2, o2, rfl, _, hkc⟩ := (IntsAt.onlyN HS2.out (HOn.out.mono (G := F) (fun b _ hb => HF.out b hb)) HNF.out) n _ (List.getElem?_eq_getElem hkl)
        have hkb := HM.out _ (List.getElem_mem hkl)
        have HKD := Lib.hid (show ks.getD n 0 = ks[n] by rw [List.getD_eq_getElem?_getD, List.getElem?_eq_getElem hkl]; rfl)
        generalize hkk : ks[n] = kk at hkc hkb
        rw [hkk] at HKD
        clear hkk
        have hkl' : (n : Int) < ((ks.length : Nat) : Int) := by omega
        go_wp2_with (first | (at_lookup; refine wpList_file rfl _ _ rfl mb _ _ β f.name f rfl hmap rfl (by unfold maxLen; omega) hg ?_) | go_in)
        go_region
        go_wp2
        go_roundg (S.files.length - (n + 1))
        case measure => omega
        case rel =>
          obtain ⟨h1, h2⟩ := crash_step (ks.getD n 0) HDn.out HFM.out
          have hq := crashQ_int f (ks.getD n 0) hfk
          rw [← HSTEP.out] at h1
          rw [HKD.out] at hq h1 h2
          refine ⟨n + 1, by go_num, by omega, rfl, ?_, ?_⟩
          · rw [hq, Int.toNat_natCast]; exact h1
          · rw [hq, Int.toNat_natCast]; exact HOn.out.andThen (h2.mono (fun b _ e => .inr (.inr ⟨f, HFM0.out, e⟩)))
      · have hkl' : ¬ (n : Int) < ((ks.length : Nat) : Int) := by omega
        have HKD := Lib.hid (show ks.getD n 0 = 0 by rw [List.getD_eq_getElem?_getD, List.getElem?_eq_none (by omega)]; rfl)
        go_wp2_with (first | (at_lookup; refine wpList_file rfl _ _ rfl mb _ _ β f.name f rfl hmap rfl (by unfold maxLen; omega) hg ?_) | go_in)
        go_region
        go_wp2
        go_roundg (S.files.length - (n + 1))
        case measure => omega
        case rel =>
          obtain ⟨h1, h2⟩ := crash_step (ks.getD n 0) HDn.out HFM.out
          have hq := crashQ_int f (ks.getD n 0) hfk
          rw [← HSTEP.out] at h1
          rw [HKD.out] at hq h1 h2
          rw [show max (0 : Int) 0 = 0 from rfl] at hq
          refine ⟨n + 1, by go_num, by omega, rfl, ?_, ?_⟩
          · rw [hq, Int.toNat_natCast]; exact h1
          · rw [hq, Int.toNat_natCast]; exact HOn.out.andThen (h2.mono (fun b _ e => .inr (.inr ⟨f, HFM0.out, e⟩)))
    · obtain rfl : n = S.files.length := by omega
      go_wp2
      go_end0
      have h1 := HDn.out
      rw [HSL.out] at h1
      refine ⟨rfl, ⟨mb, β, h1, fun b hb => HF.out b (foot_crash hb)⟩, ?_⟩
      exact (HON.out.mono (fun b _ e => HF.out b (.inl e))).andThen ((Only.ext HX.out).andThen (HOn.out.mono (fun b _ hb => HF.out b hb)))
theorem crash_any (d : Nat) (S : DS) (F : Nat → Prop) (a : Option Addr) (c : Nat) (ks : List Int) (hN : ks.length ≤ 140737488355328) (hM : ∀ k ∈ ks, -9223372036854775808 ≤ k ∧ k ≤ 9223372036854775807)
    (w : World) (h : DiskAt w d S F) (hs : IntsAt w a ks) (hNF : ∀ bk o, a = some ⟨bk, o, none⟩ → ¬ F bk) :
    Calls Tryz.prog 30 #[.pointer (some ⟨d, 0, none⟩), .slice a ks.length c] w fun e w' => e = .returned (.tuple #[]) ∧ DiskAt w' d (crash S ks) F ∧ Only F w w' :=
  crash_gen d S F a c ks hN hM w h hs (fun _ => hNF)
end Go.Proofs.YtmdkjcigmhgpeaaGreatDoor
