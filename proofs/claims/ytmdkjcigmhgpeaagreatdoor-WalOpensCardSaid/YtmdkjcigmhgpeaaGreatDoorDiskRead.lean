/- The walks of what only reads a disk: Used, Free, fits, Read, Kept. -/
import Derived.Test.YtmdkjcigmhgpeaaGreatDoorDiskBegin
namespace Go.Proofs.YtmdkjcigmhgpeaaGreatDoor
open Go.RowKit Go.Maps Dsk

theorem used_filter_step {l : List FD} (hs : Sorted l) {f : FD} (hf : f ∈ l) (p : FD → Bool) (hp : p f = false) : used (l.filter (fun g => p g || (g.key == f.key))) = used (l.filter p) + f.data.size := by
  induction l with
  | nil => cases hf
  | cons a r ih =>
    obtain ⟨h1, h2⟩ := List.pairwise_cons.1 hs
    by_cases e : a.key = f.key
    · obtain rfl : a = f := hs.eq (by simp) hf e
      have hr : r.filter (fun g => p g || (g.key == a.key)) = r.filter p := List.filter_congr (fun g hg => by
        have : (g.key == a.key) = false := by
          have := h1 g hg
          simp; intro e'; rw [e'] at this; exact lt_irrefl _ this
        rw [this, Bool.or_false])
      simp only [List.filter_cons, hp, Bool.false_or, beq_self_eq_true, if_true, Bool.false_eq_true, if_false, hr, used, List.map_cons, List.sum_cons]
      omega
    · have hf' : f ∈ r := by
        rcases List.mem_cons.1 hf with rfl | h
        · exact absurd rfl e
        · exact h
      have ih := ih h2 hf'
      have hne : (a.key == f.key) = false := by simpa using e
      cases hpa : p a <;> simp only [List.filter_cons, hpa, hne, Bool.or_false, Bool.false_eq_true, if_false, if_true, used, List.map_cons, List.sum_cons] at ih ⊢ <;> omega
theorem used_filter_le (l : List FD) (p : FD → Bool) : used (l.filter p) ≤ used l := by
  induction l with
  | nil => exact Nat.le_refl _
  | cons a r ih => cases h : p a <;> simp only [List.filter_cons, h, Bool.false_eq_true, if_false, if_true, used, List.map_cons, List.sum_cons] at ih ⊢ <;> omega
def ptrOf : Option Nat → Value
  | none => .pointer none
  | some b => .pointer (some ⟨b, 0, none⟩)
theorem ptrElem_shape (v : Value) (y : DataW Unit × List MemPlace) (h : ptrElem v = some y) : ∃ c, v = ptrOf c := by
  unfold ptrElem at h
  split at h
  · exact ⟨none, rfl⟩
  · exact ⟨some _, rfl⟩
  · cases h
/-- What stands at a key of the map is one of the files. -/
theorem at_file {l : List FD} {β : List UInt8 → Nat} {x : List UInt8} {y : DataW Unit} (h : ∀ z, (mapOf l β).atKey (.string x) z = y) : ∃ f ∈ l, f.key = x ∧ y = blk (β x) := by
  cases hg : get l ⟨x.toArray⟩ with
  | none =>
    have h1 := atKey_none (β := β) hg
    have e : lst ⟨x.toArray⟩ = x := by simp [lst]
    rw [e] at h1
    have h2 := (h1 .nil).symm.trans (h .nil)
    have h3 := (h1 (blk 0)).symm.trans (h (blk 0))
    rw [← h2] at h3; cases h3
  | some f =>
    have e : lst ⟨x.toArray⟩ = x := by simp [lst]
    have h1 := atKey_some (β := β) hg .nil
    have h2 := get_mem hg
    rw [e] at h1 h2
    exact ⟨f, h2.1, h2.2, (h .nil).symm.trans h1⟩
theorem keyOf_str_inv (key : Value) (kl : Lit) (h : keyOf Tryz.prog 9 key = some kl) : ∃ x : List UInt8, key = encStr x := by
  obtain ⟨x, hx, _⟩ := Maps.keyOf_str Tryz.underlying9 h
  exact ⟨x, hx⟩
def doneOf (l : List FD) (left : Lit → Bool) : Nat := used (l.filter (fun f => !left (.string f.key)))
theorem has_file {l : List FD} (β : List UInt8 → Nat) {f : FD} (hf : f ∈ l) : Maps.has (mapOf l β) (.string f.key) = true := by
  unfold mapOf
  rw [has_eq, List.any_eq_true]
  exact ⟨ent β f, List.mem_map.2 ⟨f, hf, rfl⟩, by simp [ent, Lit.sameKey]⟩

set_option maxHeartbeats 400000 in
/-- Used. -/
theorem used_any (d : Nat) (S : DS) (F : Nat → Prop) (w : World) (h : DiskAt w d S F) :
    Calls Tryz.prog 90 #[.pointer (some ⟨d, 0, none⟩)] w fun e w' => e = .returned (.int .i64 (used S.files : Nat)) ∧ Ext w w' := by
  obtain ⟨mb, β, h, hF⟩ := h
  have c5 := Own.c5 h.row
  have hmap := h.map
  have HD := Lib.hid h; clear h hF
  go_enter Tryz.func90, Tryz.ntmps90
  go_wp2_with (first | (at_range; refine wpList_range_own _ rfl _ 92 rfl 9 115 keyed Tryz.underlying92 _ mb _ _ rfl hmap ?_; intro w0 hrg0 hg0 hs0) | go_in)
  go_frame
  have HX0 := Lib.hid (show Ext w w0 from ⟨hg0.os, hg0.tape, hg0.output, hg0.size, fun k hk => hg0.block k hk (by simp)⟩)
  clear hg0
  have HR0 := Lib.hid hrg0; clear hrg0 hs0 hmap
  go_loopg [3, 5] (S.files.length) (fun k t v wr => ∃ (n : Nat) (left : Lit → Bool), t = .int .i64 n ∧ n ≤ used S.files ∧ Hid (n = doneOf S.files left) ∧ Hid (wr.ranges Tryz.prog 9 ptrElem mb w.heap.size S.files.length (mapOf S.files β) left k) ∧ Hid (Ext w wr))
  case atStart =>
    refine ⟨0, Maps.has (mapOf S.files β), rfl, Nat.zero_le _, ?_, (by have := HR0.out; rw [size_mapOf] at this; exact this), HX0.out⟩
    show 0 = used _
    rw [List.filter_eq_nil_iff.2 (fun f hf => by rw [has_file β hf]; simp)]
    rfl
  case round =>
    obtain ⟨n, left, rfl, hn, HN, HR, HX⟩ := hrel
    have hmax := HD.out.good.used
    have hrg := HR.out
    have HI := Lib.hid (keyOf_str_inv)
    go_wp2_with (first | (at_next; refine wpList_next_ranges _ rfl _ rfl 9 keyed ptrElem encStr ptrOf HI.out ptrElem_shape mb w.heap.size _ _ _ _ rfl hrg ?_ ?_) | go_in)
    · intro hc0 hl0
      have HL := Lib.hid hl0; clear hl0 hrg
      go_wp2
      go_ret
      refine ⟨ret_nat ?_, HX.out⟩
      rw [HN.out]
      unfold doneOf
      rw [List.filter_eq_self.2 (fun f _ => by rw [HL.out]; rfl)]
    · intro x c kl yd yp w2 cnt2 hkey hlk hv hat hrg2 hlt hg2 hs2 hen
      clear hs2
      obtain ⟨x', ex, rfl, _⟩ := Maps.keyOf_str Tryz.underlying9 hkey
      obtain rfl : x = x' := encStr_inj ex
      obtain ⟨f, hf, rfl, rfl⟩ := at_file hat
      obtain rfl : c = some (β f.key) := by
        have := ptrElem_blk hv
        cases c with
        | none => cases this
        | some b => simp [ptrOf] at this; rw [this]
      have HX2 := Lib.hid (Below.trans HX.out (show Below w.heap.size wr w2 from ⟨hg2.os, hg2.tape, hg2.output, hg2.size, fun k hk => hg2.block k (Nat.lt_of_lt_of_le hk HX.out.size) (fun e => by simp at e; omega)⟩))
      have hcell : w2.cell? ⟨β f.key, 0, none⟩ = some (.string f.data) := Go.Joins.cell_of_block ((HD.out.ext HX2.out).file f hf) 0
      have hsz := (HD.out.good.fine f hf).data
      have HS := Lib.hid (show doneOf S.files (fun z => left z && !z.sameKey (.string f.key)) = n + f.data.size from by
        rw [HN.out]
        unfold doneOf
        rw [← used_filter_step HD.out.good.sorted hf (fun g => !left (.string g.key)) (by simp [hlk])]
        refine congrArg used (List.filter_congr (fun g _ => ?_))
        show (!(left (.string g.key) && !(g.key == f.key))) = _
        cases left (.string g.key) <;> simp)
      have hle : n + f.data.size ≤ used S.files := by
        rw [← HS.out]
        exact used_filter_le _ _
      have HRG := Lib.hid hrg2
      clear hrg2 hkey hlk hv hat hrg hg2
      have hen' : (Instr.entry (.pointer (some ⟨w.heap.size, 0, none⟩))).run Tryz.prog w2 = .ok (.tuple #[encStr f.key, .pointer (some ⟨β f.key, 0, none⟩)]) w2 := hen
      clear hen
      go_wp2
      go_roundg cnt2
      case measure => exact hlt
      case rel => exact ⟨n + f.data.size, _, by go_num, hle, HS.out.symm, HRG.out, HX2.out⟩
theorem used_none (w : World) : Calls Tryz.prog 90 #[.pointer none] w fun e w' => e = .returned (.int .i64 0) ∧ w = w' := by
  go_enter Tryz.func90, Tryz.ntmps90
  go_wp2
  go_ret
  exact ⟨rfl, rfl⟩
/-- Free. -/
theorem free_any (d : Nat) (S : DS) (F : Nat → Prop) (w : World) (h : DiskAt w d S F) :
    Calls Tryz.prog 34 #[.pointer (some ⟨d, 0, none⟩)] w fun e w' => e = .returned (.int .i64 (free S)) ∧ Ext w w' := by
  have hcall : ∀ w', Ext w w' → Calls Tryz.prog 90 #[.pointer (some ⟨d, 0, none⟩)] w' fun e v => e = .returned (.int .i64 (used S.files : Nat)) ∧ Ext w' v := fun w' k => used_any d S F w' (h.ext k)
  have hu := h.good.used
  have hr := h.good.room
  have c4 : w.cell? ⟨d, 4, none⟩ = some (.int .i64 (S.room : Nat)) := by obtain ⟨mb, h⟩ := h.own; exact h.c4
  clear h
  unfold free
  generalize used S.files = n at hu hcall
  generalize S.room = r at hr c4
  clear S F
  have HC := Lib.hid hcall; clear hcall
  have HX := Lib.hid (Ext.refl w)
  have e1 : IntKind.i64.wrap ((r : Int) - (n : Int)) = (r : Int) - (n : Int) := IntWalk.i64_in _ (by omega)
  go_enter Tryz.func34, Tryz.ntmps34
  go_wp2
  go_region_with ((go_at_call 90; refine (HC.out _ (by first | exact HX.out | exact HX.out.drew)).mono ?_; rintro e v ⟨rfl, hx⟩; have c4' : v.cell? ⟨d, 4, none⟩ = some (.int .i64 (r : Nat)) := Ext.cell hx c4))
  all_goals
    have hx' : Ext w v := by first | exact hx | exact ((Ext.refl w).drew).trans hx
    clear hx
    have HX' := Lib.hid hx'; clear hx'
    go_wp2
    go_ret
    exact ⟨rfl, HX'.out⟩
theorem free_none (w : World) : Calls Tryz.prog 34 #[.pointer none] w fun e w' => e = .returned (.int .i64 0) ∧ w = w' := by
  go_enter Tryz.func34, Tryz.ntmps34
  go_wp2
  go_ret
  exact ⟨rfl, rfl⟩
/-- Read. -/
theorem read_any (d : Nat) (S : DS) (F : Nat → Prop) (n : ByteArray) (hn : n.size ≤ 140737488355328) (w : World) (h : DiskAt w d S F) :
    Calls Tryz.prog 26 #[.pointer (some ⟨d, 0, none⟩), .string n] w fun e w' => e = .returned (.tuple #[.string (Dsk.read S n).1, .int .i64 ((Dsk.read S n).2 : Nat)]) ∧ w = w' := by
  obtain ⟨mb, β, h, hF⟩ := h
  have c0 := Own.c0 h.row
  have c5 := Own.c5 h.row
  have hmap := h.map
  have HD := Lib.hid h; clear h hF
  unfold Dsk.read
  go_enter Tryz.func26, Tryz.ntmps26
  cases ho : S.off with
  | true =>
    rw [ho] at c0
    clear ho
    go_wp2
    go_ret2
    exact ⟨rfl, rfl⟩
  | false =>
    rw [ho] at c0
    clear ho
    cases hg : get S.files n with
    | none =>
      go_wp2_with (first | (at_lookup; refine wpList_nofile rfl _ _ rfl mb _ _ β n rfl hmap rfl (by unfold maxLen; omega) hg ?_) | go_in)
      go_ret2
      exact ⟨rfl, rfl⟩
    | some f =>
      have hfile := HD.out.file f (get_mem hg).1
      rw [(get_mem hg).2] at hfile
      have c0f : w.cell? ⟨β (lst n), 0, none⟩ = some (.string f.data) := Go.Joins.cell_of_block hfile 0
      clear hfile
      go_wp2_with (first | (at_lookup; refine wpList_file rfl _ _ rfl mb _ _ β n f rfl hmap rfl (by unfold maxLen; omega) hg ?_) | go_in)
      go_ret2
      exact ⟨rfl, rfl⟩
theorem read_none (n : Value) (w : World) : Calls Tryz.prog 26 #[.pointer none, n] w fun e w' => e = .returned (.tuple #[.string ⟨#[]⟩, .int .i64 1]) ∧ w = w' := by
  go_enter Tryz.func26, Tryz.ntmps26
  go_wp2
  go_ret2
  exact ⟨rfl, rfl⟩
/-- fits. -/
theorem fits_any (d : Nat) (S : DS) (F : Nat → Prop) (n : ByteArray) (hn : n.size ≤ 140737488355328) (size has : Nat) (hs : size ≤ 4611686018427387904) (hh : has ≤ 1048576) (w : World) (h : DiskAt w d S F) :
    Calls Tryz.prog 85 #[.pointer (some ⟨d, 0, none⟩), .string n, .int .i64 (size : Nat), .int .i64 (has : Nat)] w fun e w' => e = .returned (.int .i64 (fits S n size has : Nat)) ∧ Ext w w' := by
  have hcall := free_any d S F w h
  have hu := h.good.used
  have hr := h.good.room
  have hm := h.good.many
  have hfb : -104857600 ≤ free S ∧ free S ≤ 16777216 := by unfold free; omega
  obtain ⟨mb, β, h, hF⟩ := h
  have c5 := Own.c5 h.row
  have hmap := h.map
  clear h hF hu hr
  unfold fits
  rw [show (S.room : Int) - (used S.files : Nat) = free S from rfl]
  generalize free S = fr at hcall hfb
  have g1 : IntKind.i64.wrap ((size : Int) - (has : Int)) = (size : Int) - (has : Int) := IntWalk.i64_in _ (by omega)
  have hlen : Maps.size (mapOf S.files β) = S.files.length := size_mapOf _ _
  have HC := Lib.hid hcall; clear hcall
  generalize hrc : (if (decide (1048576 < size) || (get S.files n).isNone && decide (100 ≤ S.files.length)) = true then 5 else if (size : Int) - (has : Int) > fr then 6 else 0) = rc
  have HRC := Lib.hid hrc; clear hrc
  go_enter Tryz.func85, Tryz.ntmps85
  by_cases hbig : 1048576 < size
  · have hb' : (1048576 : Int) < (size : Int) := by omega
    obtain rfl : rc = 5 := by rw [← HRC.out, if_pos (by simp [hbig])]
    go_wp2
    go_ret
    exact ⟨rfl, Ext.refl w⟩
  · have hb' : ¬ (1048576 : Int) < (size : Int) := by omega
    cases hg : get S.files n with
    | none =>
      by_cases hmany : 100 ≤ S.files.length
      · have hm' : (100 : Int) ≤ ((S.files.length : Nat) : Int) := by omega
        obtain rfl : rc = 5 := by rw [← HRC.out, if_pos (by simp [hg, hmany])]
        go_wp2_with (first | (at_lookup; refine wpList_nofile rfl _ _ rfl mb _ _ β n rfl hmap rfl (by unfold maxLen; omega) hg ?_) | (at_len; refine wpList_count rfl _ rfl mb _ _ β rfl hmap ?_) | go_in)
        go_ret
        exact ⟨rfl, Ext.refl w⟩
      · have hm' : ¬ (100 : Int) ≤ ((S.files.length : Nat) : Int) := by omega
        have hr2 := HRC.out
        rw [if_neg (by simp [hbig, hmany])] at hr2
        have HR2 := Lib.hid hr2; clear hr2 HRC
        by_cases hfr : fr < (size : Int) - (has : Int)
        · obtain rfl : rc = 6 := by rw [← HR2.out, if_pos hfr]
          go_wp2_with (first | (at_lookup; refine wpList_nofile rfl _ _ rfl mb _ _ β n rfl hmap rfl (by unfold maxLen; omega) hg ?_) | (at_len; refine wpList_count rfl _ rfl mb _ _ β rfl hmap ?_) | (go_at_call 34; refine HC.out.mono ?_; rintro e v ⟨rfl, hx⟩) | go_in)
          go_ret
          exact ⟨rfl, hx⟩
        · obtain rfl : rc = 0 := by rw [← HR2.out, if_neg hfr]
          go_wp2_with (first | (at_lookup; refine wpList_nofile rfl _ _ rfl mb _ _ β n rfl hmap rfl (by unfold maxLen; omega) hg ?_) | (at_len; refine wpList_count rfl _ rfl mb _ _ β rfl hmap ?_) | (go_at_call 34; refine HC.out.mono ?_; rintro e v ⟨rfl, hx⟩) | go_in)
          go_ret
          exact ⟨rfl, hx⟩
    | some f =>
      have hr2 := HRC.out
      rw [if_neg (by simp [hbig, hg])] at hr2
      have HR2 := Lib.hid hr2; clear hr2 HRC
      by_cases hfr : fr < (size : Int) - (has : Int)
      · obtain rfl : rc = 6 := by rw [← HR2.out, if_pos hfr]
        go_wp2_with (first | (at_lookup; refine wpList_file rfl _ _ rfl mb _ _ β n f rfl hmap rfl (by unfold maxLen; omega) hg ?_) | (at_len; refine wpList_count rfl _ rfl mb _ _ β rfl hmap ?_) | (go_at_call 34; refine HC.out.mono ?_; rintro e v ⟨rfl, hx⟩) | go_in)
        go_ret
        exact ⟨rfl, hx⟩
      · obtain rfl : rc = 0 := by rw [← HR2.out, if_neg hfr]
        go_wp2_with (first | (at_lookup; refine wpList_file rfl _ _ rfl mb _ _ β n f rfl hmap rfl (by unfold maxLen; omega) hg ?_) | (at_len; refine wpList_count rfl _ rfl mb _ _ β rfl hmap ?_) | (go_at_call 34; refine HC.out.mono ?_; rintro e v ⟨rfl, hx⟩) | go_in)
        go_ret
        exact ⟨rfl, hx⟩
end Go.Proofs.YtmdkjcigmhgpeaaGreatDoor
