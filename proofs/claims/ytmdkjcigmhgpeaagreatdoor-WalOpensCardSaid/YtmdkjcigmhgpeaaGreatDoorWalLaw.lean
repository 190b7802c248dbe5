/- Several texts in one (each under its own head): the first: Law 07's small functions: same, begin, awake. -/
import Derived.Test.YtmdkjcigmhgpeaaGreatDoorWalOpen
import Derived.Test.YtmdkjcigmhgpeaaGreatDoorWalAppend
import Derived.Laws.StructEq
import Derived.Test.YtmdkjcigmhgpeaaGreatDoorWalBack
/- Law 07's small functions: same, begin, awake. -/
namespace Go.Proofs.YtmdkjcigmhgpeaaGreatDoor
open Go.RowKit Snp SealMath Dsk Wal

theorem rec_fields : (Tryz.prog.fieldsOf 68).toList.map (fun f => (f.name, f.type, f.offset)) = [("Seq", 3, 0), ("Data", 9, 1)] := by kernel_rfl
theorem rec_neq (x y : RC) (u : World) : (binOp BinOp.neq 68 (.agg #[.int .i64 (x.1 : Nat), .string x.2]) (.agg #[.int .i64 (y.1 : Nat), .string y.2])).run Tryz.prog u = .ok (.bool (decide (x ≠ y))) u := by
  rw [run_neq_struct, show (10000 : Nat) = 9998 + 1 + 1 from rfl, run_equalIn_struct u (9998 + 1) _ _ _ (by kernel_rfl) (by kernel_rfl)]
  have hf := rec_fields
  generalize (Tryz.prog.fieldsOf 68).toList = fs at hf
  have p1 : ∀ (a b : Value) (v : World), (part 3 #[a, b] 0).run Tryz.prog v = .ok a v := fun a b v => by kernel_rfl
  have p2 : ∀ (a b : Value) (v : World), (part 9 #[a, b] 1).run Tryz.prog v = .ok b v := fun a b v => by kernel_rfl
  cases fs with
  | nil => simp at hf
  | cons f fs =>
    cases fs with
    | nil => simp at hf
    | cons g fs =>
      cases fs with
      | cons h t => simp at hf
      | nil =>
        simp only [List.map_cons, List.map_nil, List.cons.injEq, Prod.mk.injEq, and_true] at hf
        obtain ⟨⟨f1, f2, f3⟩, ⟨g1, g2, g3⟩⟩ := hf
        simp only [Op.eqFields, f1, f2, f3, g1, g2, g3]
        simp [p1, p2, run_equalIn_int (P := Tryz.prog) _ 9998 3 _ .i64 _ _ (by kernel_rfl), run_equalIn_string (P := Tryz.prog) _ 9998 9 _ _ (by kernel_rfl)]
        obtain ⟨x1, x2⟩ := x
        obtain ⟨y1, y2⟩ := y
        simp only [Prod.mk.injEq]
        by_cases h1 : x1 = y1
        · by_cases h2 : x2 = y2
          · subst h1; subst h2; simp
          · have h3 : ¬ x2.toList = y2.toList := fun e => h2 (lst_inj (by rw [ByteArray.toList_eq, ByteArray.toList_eq] at e; exact e))
            simp [h1, h2, h3]
        · have h3 : ¬ (x1 : Int) = (y1 : Int) := by omega
          simp [h1, h3]
/-- same: two lists of records. -/
theorem same7_any (a : Option Addr) (c : Nat) (xs : List RC) (b : Option Addr) (d : Nat) (ys : List RC) (hx : xs.length ≤ 1000000000) (w : World) (h1 : RecsAt w a xs) (h2 : RecsAt w b ys) :
    Calls Tryz.prog 38 #[.slice a xs.length c, .slice b ys.length d] w fun e w' => e = .returned (.bool (decide (xs = ys))) ∧ Ext w w' := by
  by_cases hl : xs.length = ys.length
  · have hl2 : ((xs.length : Int) != ys.length) = false := by simp [hl]
    have H1 := Lib.hid h1; clear h1
    have H2 := Lib.hid h2; clear h2
    have HL := Lib.hid hl; clear hl
    go_enter Tryz.func38, Tryz.ntmps38
    go_wp2_with fail
    go_loopg [5] (xs.length) (fun k i wr => ∃ n : Nat, i = .int .i64 n ∧ n ≤ xs.length ∧ k = xs.length - n ∧ Hid (xs.take n = ys.take n) ∧ Ext w wr)
    case atStart => exact ⟨0, rfl, Nat.zero_le _, rfl, rfl, Ext.refl _⟩
    case round =>
      obtain ⟨n, rfl, hn, rfl, HT, hk⟩ := hrel
      by_cases hlt : n < xs.length
      · have hlt2 : n < ys.length := by have := HL.out; omega
        obtain ⟨bk, o, rfl, hcx, hdx⟩ := (H1.out.ext hk) n _ (List.getElem?_eq_getElem hlt)
        obtain ⟨bk2, o2, rfl, hcy, hdy⟩ := (H2.out.ext hk) n _ (List.getElem?_eq_getElem hlt2)
        have i1 : (0 : Int) ≤ n := by omega
        have i2 : (n : Int) < xs.length := by omega
        have i3 : (n : Int) < ys.length := by omega
        have HX : Hid (xs.take (n + 1) = xs.take n ++ [xs[n]]) := List.take_succ_eq_append_getElem hlt
        have HY : Hid (ys.take (n + 1) = ys.take n ++ [ys[n]]) := List.take_succ_eq_append_getElem hlt2
        have HZ : Hid (xs[n] ≠ ys[n] → xs ≠ ys) := fun h e => h (by simp [e])
        generalize xs[n] = x at hcx hdx HX HZ
        generalize ys[n] = y at hcy hdy HY HZ
        have hne : ∀ u, (binOp BinOp.neq 68 (.agg #[.int .i64 (x.1 : Nat), .string x.2]) (.agg #[.int .i64 (y.1 : Nat), .string y.2])).run Tryz.prog u = .ok (.bool (decide (x ≠ y))) u := rec_neq x y
        obtain ⟨q, HQ⟩ : ∃ q, Hid (q = decide (x ≠ y)) := ⟨_, rfl⟩
        rw [← HQ.out] at hne
        go_wp2_with fail
        go_quiet (fail)
        have k2 := hk.drewN nq
        cases q
        · go_wp2_with fail
          go_roundg (xs.length - (n + 1))
          case measure => omega
          case rel => exact ⟨n + 1, by go_num, by omega, rfl, by
            show _ = _
            have he : x = y := Classical.byContradiction fun h => by have := HQ.out; simp [h] at this
            rw [HX.out, HY.out, HT.out, he], k2⟩
        · go_wp2_with fail
          go_ret
          refine ⟨ret_bool ?_, k2⟩
          rw [eq_comm, decide_eq_false_iff_not]
          exact HZ.out (of_decide_eq_true HQ.out.symm)
      · go_wp2_with fail
        go_ret
        refine ⟨ret_bool ?_, hk⟩
        have h := HT.out
        rw [List.take_of_length_le (by omega), List.take_of_length_le (by have := HL.out; omega)] at h
        simp [h]
  · have hl2 : ((xs.length : Int) != ys.length) = true := by rw [bne_iff_ne]; omega
    have HL := Lib.hid hl; clear hl
    go_enter Tryz.func38, Tryz.ntmps38
    go_wp2_with fail
    go_ret
    refine ⟨ret_bool ?_, Ext.refl _⟩
    rw [eq_comm, decide_eq_false_iff_not]
    intro h
    exact HL.out (by rw [h])
/-- A log under way, in memory. -/
abbrev RunAt (w : World) (rb d lb : Nat) (vr vs : Value) (next safe : Nat) (fresh : Bool) : Prop := w.heap[rb]? = some (.cells #[.pointer (some ⟨d, 0, none⟩), .pointer (some ⟨lb, 0, none⟩), vr, vs, .int .i64 (next : Nat), .int .i64 (safe : Nat), .bool fresh] 64 (0, 0))
theorem right_w : rightB (lst nameW) = true := by decide
/-- What begin leaves. -/
def BeginDone (room : Nat) (w : World) (e : Ending) (w' : World) : Prop :=
  ∃ rb d lb G, e = .returned (.pointer (some ⟨rb, 0, none⟩)) ∧ RunAt w' rb d lb (.slice none 0 0) (.slice none 0 0) 0 0 true ∧ LogAt w' lb d nameW (emptyL 0) ∧ DiskAt w' d (new room) G ∧
    (∀ x, G x → w.heap.size ≤ x) ∧ ¬ G lb ∧ ¬ G rb ∧ w.heap.size ≤ lb ∧ w.heap.size ≤ rb ∧ lb ≠ rb ∧ Ext w w'
set_option maxRecDepth 20000 in
set_option maxHeartbeats 4000000 in
theorem begin7_any (room : Nat) (hr : room ≤ 16777216) (w : World) (hnb : Nibs w) :
    Calls Tryz.prog 33 #[.int .i64 (room : Nat)] w (BeginDone room w) := by
  have hnlt := cell_lt (hnb 0 (by omega))
  have hR : Hid (openW (new room) nameW 0 = (0, [], emptyL 0, new room)) := open_emp (S := new room) 0 rfl
  have HNB := Lib.hid hnb
  have HNL := Lib.hid hnlt
  have hnew := new_held room hr w
  clear hnb hnlt
  go_enter Tryz.func33, Tryz.ntmps33
  go_wp2_with fail
  refine hnew.mono ?_
  clear hnew
  rintro e w1 ⟨d, rfl, hd, hx⟩
  have hop := lopen_any d nameW right_w 0 (by omega) (new room) (Mine w.heap.size w1) rfl (by show 0 + 10 < _; omega) w1 hd (HNB.out.ext hx) (fun k => by have := HNL.out; have := k.1; omega)
  unfold ODone at hop
  rw [hR.out] at hop
  simp only at hop
  have HX := Lib.hid hx
  clear hx hd
  go_wp2_with fail
  refine hop.mono ?_
  clear hop
  rintro e w2 ⟨p, v, rfl, hown, hok, _, ho⟩
  obtain ⟨lb, rfl, hlb, hl, G, hG1, hG2, hG3, _⟩ := hok trivial
  obtain ⟨av, cv, rfl, _, _, _⟩ := hown.form
  have HL := Lib.hid hl
  have HG1 := Lib.hid hG1
  have HG2 := Lib.hid hG2
  have HG3 := Lib.hid hG3
  have HX2 : Hid (Ext w w2) := Below.trans HX.out (ho.below HX.out.size (fun b k => k.1))
  have HLB : Hid (w.heap.size ≤ lb ∧ lb < w2.heap.size) := ⟨Nat.le_trans HX.out.size hlb, lt_of_heap hl⟩
  have HZ : Hid (w.heap.size ≤ w1.heap.size) := HX.out.size
  clear hown hl hlb hG1 hG2 hG3 ho hok
  go_wp2_with fail
  go_ret
  have hxa := (Ext.refl w2).alloc (.cells #[.pointer (some ⟨d, 0, none⟩), .pointer (some ⟨lb, 0, none⟩), .slice none 0 0, .slice none 0 0, .int .i64 0, .int .i64 0, .bool true] 64)
  have hlt : ∀ x, G x ∧ x < w2.heap.size → x < w2.heap.size := fun x k => k.2
  refine ⟨w2.heap.size, d, lb, fun x => G x ∧ x < w2.heap.size, rfl, heap_alloc_new w2 _, HL.out.ext hxa, (disk_small HG1.out).ext hxa, fun x hx => ?_, fun k => HG3.out k.1, fun k => by have := k.2; omega, HLB.out.1, HX2.out.size, by have := HLB.out.2; omega, HX2.out.alloc _⟩
  rcases HG2.out x hx.1 with k | k
  · exact k.1.1
  · have := HZ.out; omega
end Go.Proofs.YtmdkjcigmhgpeaaGreatDoor

/- A log of a law's own: what is kept from use to use. -/
namespace Go.Proofs.YtmdkjcigmhgpeaaGreatDoor
open Go.RowKit Snp SealMath Dsk Wal

/-- A log and its disk, in blocks from B on; the blocks of X (the log's among them) are none of the disk's. -/
structure WH (B : Nat) (X : Nat → Prop) (w : World) (d lb : Nat) (S : DS) (L : LG) : Prop where
  log : LogAt w lb d nameW L
  low : B ≤ lb
  mine : X lb
  lt : ∀ x, X x → x < w.heap.size
  big : B ≤ w.heap.size
  disk : ∃ G, DiskAt w d S G ∧ ∀ x, G x → B ≤ x ∧ ¬ X x
/-- What a use turns: the log's block, and blocks from B on that are none of X. -/
abbrev Turns (B : Nat) (X : Nat → Prop) (lb : Nat) (w w' : World) : Prop := Only (fun x => x = lb ∨ (B ≤ x ∧ ¬ X x)) w w'
theorem Turns.below {B : Nat} {X : Nat → Prop} {lb : Nat} {w w' : World} (h : Turns B X lb w w') (hB : B ≤ w.heap.size) (hl : B ≤ lb) : Below B w w' :=
  Only.below h hB (fun b k => by rcases k with rfl | k; exact hl; exact k.1)
theorem WH.good {B : Nat} {X : Nat → Prop} {w : World} {d lb : Nat} {S : DS} {L : LG} (h : WH B X w d lb S L) : Dsk.Good S := by
  obtain ⟨G, h1, _⟩ := h.disk; exact h1.good
theorem WH.ext {B : Nat} {X : Nat → Prop} {w w' : World} {d lb : Nat} {S : DS} {L : LG} (h : WH B X w d lb S L) (k : Ext w w') : WH B X w' d lb S L := by
  obtain ⟨G, h1, h2⟩ := h.disk
  exact ⟨h.log.ext k, h.low, h.mine, fun x hx => Nat.lt_of_lt_of_le (h.lt x hx) k.size, Nat.le_trans h.big k.size, G, h1.ext k, h2⟩
/-- What turned is of X alone, and not the log's. -/
theorem WH.own {B : Nat} {X Y : Nat → Prop} {w w' : World} {d lb : Nat} {S : DS} {L : LG} (h : WH B X w d lb S L) (k : Only Y w w') (hY : ∀ x, Y x → X x ∧ x ≠ lb) : WH B X w' d lb S L := by
  obtain ⟨G, h1, h2⟩ := h.disk
  exact ⟨h.log.only k (fun hl => (hY _ hl).2 rfl), h.low, h.mine, fun x hx => Nat.lt_of_lt_of_le (h.lt x hx) k.size, Nat.le_trans h.big k.size, G, h1.only k (fun x hx hy => (h2 x hx).2 (hY x hy).1), h2⟩
/-- New blocks join X. -/
theorem WH.more {B : Nat} {X Y : Nat → Prop} {w w' : World} {d lb : Nat} {S : DS} {L : LG} (h : WH B X w d lb S L) (k : Ext w w') (hY : ∀ x, Y x → w.heap.size ≤ x ∧ x < w'.heap.size) : WH B (fun x => X x ∨ Y x) w' d lb S L := by
  obtain ⟨G, h1, h2⟩ := h.disk
  refine ⟨h.log.ext k, h.low, .inl h.mine, fun x hx => ?_, Nat.le_trans h.big k.size, fun x => G x ∧ x < w.heap.size, (disk_small h1).ext k, fun x hx => ⟨(h2 x hx.1).1, fun hn => ?_⟩⟩
  · rcases hx with hx | hx
    · exact Nat.lt_of_lt_of_le (h.lt x hx) k.size
    · exact (hY x hx).2
  · rcases hn with hn | hn
    · exact (h2 x hx.1).2 hn
    · have := (hY x hn).1; have := hx.2; omega
theorem WH.less {B : Nat} {X Y : Nat → Prop} {w : World} {d lb : Nat} {S : DS} {L : LG} (h : WH B X w d lb S L) (hY : ∀ x, Y x → X x) (hl : Y lb) : WH B Y w d lb S L := by
  obtain ⟨G, h1, h2⟩ := h.disk
  exact ⟨h.log, h.low, hl, fun x hx => h.lt x (hY x hx), h.big, G, h1, fun x hx => ⟨(h2 x hx).1, fun k => (h2 x hx).2 (hY x k)⟩⟩
theorem WH.step {B : Nat} {X F : Nat → Prop} {w w' : World} {d lb : Nat} {S T : DS} {L M : LG} (h : WH B X w d lb S L) (hF : ∀ x, F x → B ≤ x ∧ ¬ X x) (hl : LogAt w' lb d nameW M) (hd : DiskAt w' d T (More F w)) (ho : Only (fun x => F x ∨ x = lb) w w') : WH B X w' d lb T M ∧ Turns B X lb w w' := by
  refine ⟨⟨hl, h.low, h.mine, fun x hx => Nat.lt_of_lt_of_le (h.lt x hx) ho.size, Nat.le_trans h.big ho.size, More F w, hd, fun x hx => ?_⟩, ho.mono (fun x _ k => ?_)⟩
  · rcases hx with hx | hx
    · exact hF x hx
    · exact ⟨Nat.le_trans h.big hx, fun k => by have := h.lt x k; omega⟩
  · rcases k with k | k
    · exact .inr (hF x k)
    · exact .inl k
theorem append_wh {B : Nat} {X : Nat → Prop} {w : World} {d lb : Nat} {S : DS} {L : LG} (x : ByteArray) (hx : x.size ≤ 70000) (hu : S.uses + 10 < 4611686018427387904) (hfs : L.file.size ≤ 140737488355328) (hls : L.size ≤ 1000000000) (h : WH B X w d lb S L) (hnb : Nibs w) :
    Calls Tryz.prog 35 #[.pointer (some ⟨lb, 0, none⟩), .string x] w fun e w' =>
      e = .returned (.tuple #[.int .i64 ((appendW nameW S L (lst x)).1.1 : Nat), .int .i64 ((appendW nameW S L (lst x)).1.2 : Nat)]) ∧ WH B X w' d lb (appendW nameW S L (lst x)).2.2 (appendW nameW S L (lst x)).2.1 ∧ Turns B X lb w w' := by
  obtain ⟨G, h1, h2⟩ := h.disk
  refine (lappend_any lb d nameW (by decide) L S G x hx hu hfs hls w h1 h.log (fun k => (h2 _ k).2 h.mine) hnb).mono ?_
  rintro e w' ⟨rfl, hl, hd, ho⟩
  exact ⟨rfl, h.step h2 hl hd ho⟩
theorem commit_wh {B : Nat} {X : Nat → Prop} {w : World} {d lb : Nat} {S : DS} {L : LG} (hu : S.uses < 4611686018427387904) (hfs : L.file.size ≤ 140737488355328) (h : WH B X w d lb S L) :
    Calls Tryz.prog 36 #[.pointer (some ⟨lb, 0, none⟩)] w fun e w' => e = .returned (.int .i64 ((commitW S L).1 : Nat)) ∧ WH B X w' d lb (commitW S L).2.2 (commitW S L).2.1 ∧ Turns B X lb w w' := by
  obtain ⟨G, h1, h2⟩ := h.disk
  refine (lcommit_any lb d nameW L S G hu hfs w h1 h.log (fun k => (h2 _ k).2 h.mine)).mono ?_
  rintro e w' ⟨rfl, hl, hd, ho⟩
  exact ⟨rfl, h.step h2 hl hd ho⟩
theorem rotate_wh {B : Nat} {X : Nat → Prop} {w : World} {d lb : Nat} {S : DS} {L : LG} (hu : S.uses < 4611686018427387904) (hfs : L.file.size ≤ 140737488355328) (h : WH B X w d lb S L) :
    Calls Tryz.prog 48 #[.pointer (some ⟨lb, 0, none⟩)] w fun e w' => e = .returned (.int .i64 ((rotateW S L).1 : Nat)) ∧ WH B X w' d lb (rotateW S L).2.2 (rotateW S L).2.1 ∧ Turns B X lb w w' := by
  obtain ⟨G, h1, h2⟩ := h.disk
  refine (lrotate_any lb d nameW L S G hu hfs w h1 h.log (fun k => (h2 _ k).2 h.mine)).mono ?_
  rintro e w' ⟨rfl, hl, hd, ho⟩
  exact ⟨rfl, h.step h2 hl hd ho⟩
theorem forget_wh {B : Nat} {X : Nat → Prop} {w : World} {d lb : Nat} {S : DS} {L : LG} (below : Int) (hu : S.uses + 200 < 4611686018427387904) (hfs : L.file.size ≤ 140737488355328) (h : WH B X w d lb S L) :
    Calls Tryz.prog 49 #[.pointer (some ⟨lb, 0, none⟩), .int .i64 below] w fun e w' => e = .returned (.int .i64 ((forgetW nameW below S L).1 : Nat)) ∧ WH B X w' d lb (forgetW nameW below S L).2.2 (forgetW nameW below S L).2.1 ∧ Turns B X lb w w' := by
  obtain ⟨G, h1, h2⟩ := h.disk
  refine (lforget_any lb d nameW (by decide) below L S G hu hfs w h1 h.log (fun k => (h2 _ k).2 h.mine)).mono ?_
  rintro e w' ⟨rfl, hl, hd, ho⟩
  exact ⟨rfl, h.step h2 hl hd ho⟩
/-- Open, of a disk that is on: a new log, records of its own, both kept out of the disk. -/
def OpenDone (B : Nat) (X : Nat → Prop) (d : Nat) (R : Nat × List RC × LG × DS) (w : World) (e : Ending) (w' : World) : Prop :=
  ∃ lb v, e = .returned (.tuple #[.pointer (some ⟨lb, 0, none⟩), v, .int .i64 0]) ∧ OwnRecs w' w.heap.size v R.2.1 ∧ w.heap.size ≤ lb ∧ (∀ g, v.ownBlock = some g → g ≠ lb) ∧
    WH B (fun x => X x ∨ x = lb ∨ v.ownBlock = some x) w' d lb R.2.2.2 R.2.2.1 ∧ Only (fun x => B ≤ x ∧ ¬ X x) w w'
theorem open_wh {B : Nat} {X : Nat → Prop} {w : World} {d : Nat} {S : DS} {G : Nat → Prop} (hd : DiskAt w d S G) (hG : ∀ x, G x → B ≤ x ∧ ¬ X x) (hB : B ≤ w.heap.size) (hX : ∀ x, X x → x < w.heap.size) (ho : S.off = false) (hu : S.uses + 10 < 4611686018427387904) (hnb : Nibs w) (hn : 0 < B) (hR : (openW S nameW 0).1 = 0) :
    Calls Tryz.prog 37 #[.pointer (some ⟨d, 0, none⟩), .string nameW, .int .i64 0] w (OpenDone B X d (openW S nameW 0) w) := by
  refine (lopen_any d nameW right_w 0 (by omega) S G ho hu w hd hnb (fun k => by have := (hG _ k).1; omega)).mono ?_
  rintro e w' ⟨p, v, rfl, hown, hok, _, hon⟩
  obtain ⟨lb, rfl, hlb, hl, H, h1, h2, h3, h4⟩ := hok hR
  refine ⟨lb, v, by rw [hR]; rfl, hown, hlb, fun g hg => (h4 g hg).2, ⟨hl, Nat.le_trans hB hlb, .inr (.inl rfl), fun x hx => ?_, Nat.le_trans hB hon.size, H, h1, fun x hx => ⟨?_, ?_⟩⟩, hon.mono (fun x _ k => hG x k)⟩
  · rcases hx with hx | rfl | hx
    · exact Nat.lt_of_lt_of_le (hX x hx) hon.size
    · exact lt_of_heap hl
    · exact (OwnRecs.lt hown x hx).2
  · rcases h2 x hx with k | k
    · exact (hG x k.1).1
    · omega
  · rintro (k | rfl | k)
    · rcases h2 x hx with k2 | k2
      · exact (hG x k2.1).2 k
      · have := hX x k; omega
    · exact h3 hx
    · exact (h4 x k).1 hx
end Go.Proofs.YtmdkjcigmhgpeaaGreatDoor

/- Law 07's example. -/
namespace Go.Proofs.YtmdkjcigmhgpeaaGreatDoor
open Go.RowKit Snp SealMath Dsk Wal

def ak1 := appendW nameW (new 1000) (emptyL 0) [97]
def ak2 := appendW nameW ak1.2.2 ak1.2.1 [98]
def ak3 := commitW ak2.2.2 ak2.2.1
def ak4 := appendW nameW ak3.2.2 ak3.2.1 [99]
def ak5 := openW (crash ak4.2.2 []) nameW 0
theorem ak1_ok : ak1.1 = (0, 0) ∧ ak1.2.2.uses ≤ 10 ∧ ak1.2.1.file.size ≤ 20 ∧ ak1.2.1.size ≤ 1000 := by decide +kernel
theorem ak2_ok : ak2.1 = (1, 0) ∧ ak2.2.2.uses ≤ 10 ∧ ak2.2.1.file.size ≤ 20 ∧ ak2.2.1.size ≤ 1000 := by decide +kernel
theorem ak3_ok : ak3.1 = 0 ∧ ak3.2.2.uses ≤ 10 ∧ ak3.2.1.file.size ≤ 20 ∧ ak3.2.1.size ≤ 1000 ∧ ak3.2.1.safe = 2 := by decide +kernel
theorem ak4_ok : ak4.2.2.uses ≤ 10 := by decide +kernel
theorem ak5_ok : ak5.1 = 0 := by decide +kernel
theorem ak5_recs : ak5.2.1.map (fun p => (p.1, lst p.2)) = [(0, [97]), (1, [98])] := by decide +kernel
theorem crash_wh {B : Nat} {X : Nat → Prop} {w : World} {d lb : Nat} {S : DS} {L : LG} (a : Option Addr) (c : Nat) (ks : List Int) (hN : ks.length ≤ 140737488355328) (hM : ∀ k ∈ ks, -9223372036854775808 ≤ k ∧ k ≤ 9223372036854775807) (h : WH B X w d lb S L) (hs : IntsAt w a ks) (hNB : ks ≠ [] → ∀ bk o, a = some ⟨bk, o, none⟩ → bk < B ∨ X bk) :
    Calls Tryz.prog 30 #[.pointer (some ⟨d, 0, none⟩), .slice a ks.length c] w fun e w' => e = .returned (.tuple #[]) ∧ WH B X w' d lb (crash S ks) L ∧ Turns B X lb w w' := by
  obtain ⟨G, h1, h2⟩ := h.disk
  refine (crash_gen d S G a c ks hN hM w h1 hs (fun hne bk o e k => by
    have := h2 bk k
    rcases hNB hne bk o e with k2 | k2
    · omega
    · exact this.2 k2)).mono ?_
  rintro e w' ⟨rfl, hd, ho⟩
  have hnl : ¬ G lb := fun k => (h2 _ k).2 h.mine
  exact ⟨rfl, ⟨h.log.only ho hnl, h.low, h.mine, fun x hx => Nat.lt_of_lt_of_le (h.lt x hx) ho.size, Nat.le_trans h.big ho.size, G, hd, h2⟩, ho.mono (fun x _ k => .inr (h2 x k))⟩
theorem rec_eql (x y : RC) (u : World) : (binOp BinOp.eql 68 (.agg #[.int .i64 (x.1 : Nat), .string x.2]) (.agg #[.int .i64 (y.1 : Nat), .string y.2])).run Tryz.prog u = .ok (.bool (decide (x = y))) u := by
  have h1 := rec_neq x y u
  rw [run_neq_struct] at h1
  rw [run_eql_struct]
  cases hq : (Op.equalIn 10000 68 (.agg #[.int .i64 (x.1 : Nat), .string x.2]) (.agg #[.int .i64 (y.1 : Nat), .string y.2])).run Tryz.prog u with
  | ok r v =>
    rw [hq] at h1
    simp only [Result.andThen_ok, Result.ok.injEq, Value.bool.injEq] at h1 ⊢
    obtain ⟨h2, h3⟩ := h1
    refine ⟨?_, h3⟩
    cases r <;> simp at h2 ⊢ <;> exact h2
  | halt k v => rw [hq] at h1; cases h1
set_option maxRecDepth 20000 in
set_option maxHeartbeats 4000000 in
theorem awake7_any (w : World) (hnb : Nibs w) : Calls Tryz.prog 32 #[] w fun e w' => e = .returned (.bool true) ∧ Ext w w' := by
  have hnlt := cell_lt (hnb 0 (by omega))
  have hnew := new_held 1000 (by decide) w
  have HNB := Lib.hid hnb
  have HNL := Lib.hid hnlt
  clear hnb hnlt
  go_enter Tryz.func32, Tryz.ntmps32
  go_wp2_with fail
  refine hnew.mono ?_
  clear hnew
  rintro e w1 ⟨d, rfl, hd, hx⟩
  have HX1 := Lib.hid hx
  have hR : openW (new 1000) nameW 0 = (0, [], emptyL 0, new 1000) := open_emp (S := new 1000) 0 rfl
  have hop := open_wh (B := w.heap.size) (X := fun _ => False) hd (fun x k => ⟨k.1, fun k => k⟩) hx.size (fun _ k => k.elim) rfl (by decide) (HNB.out.ext hx) HNL.out (by rw [hR])
  rw [hR] at hop
  clear hx hd
  go_wp2_with fail
  refine hop.mono ?_
  clear hop
  rintro e w2 ⟨lb, v, rfl, hown, hlb, hne, hw, ho⟩
  obtain ⟨av, cv, rfl, _, _, _⟩ := hown.form
  have HX2 : Hid (Ext w w2) := Below.trans HX1.out (Only.below ho HX1.out.size (fun b k => k.1))
  have HW2 := Lib.hid hw
  clear hown hlb hne hw ho hR
  have hap : Calls Tryz.prog 35 #[.pointer (some ⟨lb, 0, none⟩), .string ⟨#[97]⟩] w2 fun e w' => e = .returned (.tuple #[.int .i64 ((ak1.1.1 : Nat) : Int), .int .i64 ((ak1.1.2 : Nat) : Int)]) ∧ WH w.heap.size _ w' d lb ak1.2.2 ak1.2.1 ∧ Turns w.heap.size _ lb w2 w' := append_wh ⟨#[97]⟩ (by decide) (by decide) (by decide) (by decide) HW2.out (HNB.out.ext HX2.out)
  rw [ak1_ok.1] at hap
  simp only at hap
  go_wp2_with fail
  refine hap.mono ?_
  clear hap
  rintro e w3 ⟨rfl, hw, ho⟩
  have HX3 : Hid (Ext w w3) := Below.trans HX2.out (ho.below HW2.out.big HW2.out.low)
  have HW3 := Lib.hid hw
  clear hw ho
  have hap : Calls Tryz.prog 35 #[.pointer (some ⟨lb, 0, none⟩), .string ⟨#[98]⟩] w3 fun e w' => e = .returned (.tuple #[.int .i64 ((ak2.1.1 : Nat) : Int), .int .i64 ((ak2.1.2 : Nat) : Int)]) ∧ WH w.heap.size _ w' d lb ak2.2.2 ak2.2.1 ∧ Turns w.heap.size _ lb w3 w' := append_wh ⟨#[98]⟩ (by decide) (by have := ak1_ok.2.1; omega) (by have := ak1_ok.2.2.1; omega) (by have := ak1_ok.2.2.2; omega) HW3.out (HNB.out.ext HX3.out)
  rw [ak2_ok.1] at hap
  simp only at hap
  go_wp2_with fail
  refine hap.mono ?_
  clear hap
  rintro e w4 ⟨rfl, hw, ho⟩
  have HX4 : Hid (Ext w w4) := Below.trans HX3.out (ho.below HW3.out.big HW3.out.low)
  have HW4 := Lib.hid hw
  clear hw ho
  have hap : Calls Tryz.prog 36 #[.pointer (some ⟨lb, 0, none⟩)] w4 fun e w' => e = .returned (.int .i64 ((ak3.1 : Nat) : Int)) ∧ WH w.heap.size _ w' d lb ak3.2.2 ak3.2.1 ∧ Turns w.heap.size _ lb w4 w' := commit_wh (by have := ak2_ok.2.1; omega) (by have := ak2_ok.2.2.1; omega) HW4.out
  rw [ak3_ok.1] at hap
  go_wp2_with fail
  refine hap.mono ?_
  clear hap
  rintro e w5 ⟨rfl, hw, ho⟩
  have HX5 : Hid (Ext w w5) := Below.trans HX4.out (ho.below HW4.out.big HW4.out.low)
  have HW5 := Lib.hid hw
  have hsf := lsafe_any lb d nameW ak3.2.1 w5 hw.log
  rw [ak3_ok.2.2.2.2] at hsf
  clear hw ho
  go_wp2_with fail
  refine hsf.mono ?_
  clear hsf
  rintro e w6 ⟨rfl, rfl⟩
  have hap : Calls Tryz.prog 35 #[.pointer (some ⟨lb, 0, none⟩), .string ⟨#[99]⟩] w5 fun e w' => e = .returned (.tuple #[.int .i64 ((ak4.1.1 : Nat) : Int), .int .i64 ((ak4.1.2 : Nat) : Int)]) ∧ WH w.heap.size _ w' d lb ak4.2.2 ak4.2.1 ∧ Turns w.heap.size _ lb w5 w' := append_wh ⟨#[99]⟩ (by decide) (by have := ak3_ok.2.1; omega) (by have := ak3_ok.2.2.1; omega) (by have := ak3_ok.2.2.2.1; omega) HW5.out (HNB.out.ext HX5.out)
  go_wp2_with fail
  refine hap.mono ?_
  clear hap
  rintro e w7 ⟨rfl, hw, ho⟩
  have HX7 : Hid (Ext w w7) := Below.trans HX5.out (ho.below HW5.out.big HW5.out.low)
  have HW7 := Lib.hid hw
  clear hw ho
  have hcr := crash_wh none 0 [] (by simp) (by simp) HW7.out (fun j x hj => by simp at hj) (fun h => absurd rfl h)
  go_wp2_with fail
  refine hcr.mono ?_
  clear hcr
  rintro e w8 ⟨rfl, hw, ho⟩
  have HX8 : Hid (Ext w w8) := Below.trans HX7.out (ho.below HW7.out.big HW7.out.low)
  have HW8 := Lib.hid hw
  clear hw ho
  obtain ⟨G8, hg1, hg2⟩ := HW8.out.disk
  have hop := open_wh hg1 hg2 HW8.out.big HW8.out.lt rfl (by show ak4.2.2.uses + 10 < _; have := ak4_ok; omega) (HNB.out.ext HX8.out) HNL.out ak5_ok
  go_wp2_with fail
  refine hop.mono ?_
  clear hop
  rintro e w9 ⟨lb9, v9, rfl, hown, _, _, _, ho⟩
  obtain ⟨a9, c9, rfl, _, _, hrec, hzero, _⟩ := hown.form
  have HX9 : Hid (Ext w w9) := Below.trans HX8.out (Only.below ho HX8.out.size (fun b k => k.1))
  obtain ⟨l9, hl9⟩ : ∃ l, ak5.2.1 = l := ⟨_, rfl⟩
  have hl8 : (openW (crash ak4.2.2 []) nameW 0).2.1 = l9 := hl9
  rw [hl8] at hown hrec ⊢
  have hmap := ak5_recs
  rw [hl9] at hmap
  match l9, hmap, hrec with
  | [x, y], hmap, hrec =>
    simp only [List.map_cons, List.map_nil, List.cons.injEq, Prod.mk.injEq, and_true] at hmap
    obtain ⟨bk, o, rfl, hc0, hc1⟩ := hrec 1 y rfl
    obtain rfl : o = 0 := (hzero bk o rfl).1
    have hy : y = (1, ⟨#[98]⟩) := by
      obtain ⟨y1, y2⟩ := y
      have h1 := hmap.2.1
      have h2 := hmap.2.2
      simp only at h1 h2
      rw [h1, show y2 = ⟨#[98]⟩ from lst_inj h2]
    subst hy
    have hc0 : w9.cell? ⟨bk, 2, none⟩ = some (.int .i64 1) := hc0
    have hc1 : w9.cell? ⟨bk, 3, none⟩ = some (.string ⟨#[98]⟩) := hc1
    have heq : ∀ u, (binOp BinOp.eql 68 (.agg #[.int .i64 1, .string ⟨#[98]⟩]) (.agg #[.int .i64 1, .string ⟨#[98]⟩])).run Tryz.prog u = .ok (.bool true) u := fun u => by
      have := rec_eql (1, ⟨#[98]⟩) (1, ⟨#[98]⟩) u
      rw [decide_eq_true rfl] at this
      exact this
    clear hzero hrec hown ho hg1 hg2 hl8 hl9 hmap
    go_wp2_with fail
    go_ret
    exact ⟨rfl, HX9.out⟩
end Go.Proofs.YtmdkjcigmhgpeaaGreatDoor

/- A log to which records were appended alone: WalFull, WalLong. No program in sight. -/
namespace Go.Proofs.YtmdkjcigmhgpeaaGreatDoor
namespace Wal
open SealMath Dsk Snp

def weight (l : List (List UInt8)) : Nat := (l.map (fun x => x.length + 20)).sum
theorem weight_snoc (l : List (List UInt8)) (x : List UInt8) : weight (l ++ [x]) = weight l + (x.length + 20) := by simp [weight]
structure Grown (room : Nat) (S : DS) (L : LG) (l : List (List UInt8)) : Prop where
  st : (Emp S L ∧ l = []) ∨ ∃ pre s, Stp S L 0 pre s ∧ flat pre ++ s.recs = l
  room : S.room = room
  armed : S.armed = false
  uses : S.uses ≤ 2 * l.length
  used : used S.files = weight l
  len : S.files.length ≤ l.length
  next : L.next = l.length
  size : L.size ≤ weight l
  sorted : Sorted S.files
theorem Grown.first (room : Nat) : Grown room (new room) (emptyL 0) [] :=
  ⟨.inl ⟨emp_first rfl rfl, rfl⟩, rfl, rfl, Nat.le_refl _, rfl, Nat.le_refl _, rfl, Nat.le_refl _, List.Pairwise.nil⟩
theorem Grown.on {room : Nat} {S : DS} {L : LG} {l : List (List UInt8)} (h : Grown room S L l) : S.off = false := by
  rcases h.st with ⟨h1, _⟩ | ⟨pre, s, h1, _⟩
  · exact h1.on
  · exact h1.on
theorem Grown.err {room : Nat} {S : DS} {L : LG} {l : List (List UInt8)} (h : Grown room S L l) : L.err = 0 := by
  rcases h.st with ⟨h1, _⟩ | ⟨pre, s, h1, _⟩
  · exact h1.err
  · exact h1.err
theorem Grown.file {room : Nat} {S : DS} {L : LG} {l : List (List UInt8)} (h : Grown room S L l) : L.file.size ≤ 20 := by
  rcases h.st with ⟨h1, _⟩ | ⟨pre, s, h1, _⟩
  · rw [h1.file]; decide
  · have h2 := h1.next; have h3 := h1.lim
    rw [h1.file, seg_size _ _ (by omega)]
    decide
theorem Grown.append {room : Nat} {S : DS} {L : LG} {l : List (List UInt8)} (h : Grown room S L l) (x : List UInt8) (hx : x.length ≤ 65000) (hr : (x.length : Int) + 20 ≤ free S) (hl : l.length < 90) (hw : weight l + (x.length + 20) ≤ 1048576) :
    ∃ T M, appendW nameW S L x = ((l.length, 0), M, T) ∧ Grown room T M (l ++ [x]) := by
  have hn := h.next
  rcases h.st with ⟨h1, rfl⟩ | ⟨pre, s, h1, h2⟩
  · rcases append_emp h1 x hx hr with ⟨T, M, a1, a2, a3⟩ | ⟨T, M, _, _, _, _, _, _, _, a4⟩
    · have hz : L.size = 0 := h1.size
      refine ⟨T, M, a1, .inr ⟨[], ⟨0, [x], 0⟩, a2, rfl⟩, a3.room.trans h.room, a3.armed.trans h.armed, ?_, ?_, ?_, ?_, ?_, a3.sorted⟩
      · have := a3.uses; have := h.uses; simp at *; omega
      · rw [a3.used, h.used, weight_snoc]
      · have h2 := a3.len; have h3 : S.files.length ≤ 0 := h.len; rw [ends_emp h1, if_pos rfl] at h2; show _ ≤ 1; omega
      · rw [a3.next, hn]; rfl
      · have := a3.size; rw [weight_snoc]; omega
    · exact (a4 h.armed).elim
  · rcases append_stp h1 h.sorted x hx (by have := h.size; omega) hr (by omega) (by have := h.len; omega) with ⟨T, M, p, t, a1, a2, a3, a4⟩ | ⟨T, M, _, _, _, _, _, _, _, a4⟩
    · refine ⟨T, M, by rw [a1, hn], .inr ⟨p, t, a2, ?_⟩, a3.room.trans h.room, a3.armed.trans h.armed, ?_, ?_, ?_, ?_, ?_, a3.sorted⟩
      · rcases a4 with ⟨_, rfl, rfl⟩ | ⟨_, rfl, rfl⟩
        · rw [← h2, List.append_assoc]
        · rw [flat_append, flat_one, ← h2]; rfl
      · have := a3.uses; have := h.uses; simp; omega
      · rw [a3.used, h.used, weight_snoc]
      · have := a3.len; have h3 := h.len
        simp only [List.length_append, List.length_singleton]
        split at this <;> omega
      · rw [a3.next, hn]; simp
      · have := a3.size; have := h.size; rw [weight_snoc]; omega
    · exact (a4 h.armed).elim
theorem Grown.full {room : Nat} {S : DS} {L : LG} {l : List (List UInt8)} (h : Grown room S L l) (x : List UInt8) (hx : x.length ≤ 65000) (hl : l.length < 90) (hr : ¬ (x.length : Int) + 20 ≤ free S) : appendW nameW S L x = ((0, 6), L, S) := by
  have hn := h.next
  unfold appendW
  rw [if_neg (fun k => k h.err), if_neg (by omega), if_pos (.inl (by omega))]
theorem Grown.long {room : Nat} {S : DS} {L : LG} {l : List (List UInt8)} (h : Grown room S L l) (x : List UInt8) (hx : 65000 < x.length) : appendW nameW S L x = ((0, 5), L, S) := by
  unfold appendW
  rw [if_neg (fun k => k h.err), if_pos (.inl hx)]
/-- Committed, and opened anew: all records. -/
theorem Grown.back {room : Nat} {S : DS} {L : LG} {l : List (List UInt8)} (h : Grown room S L l) :
    ∃ T M, commitW S L = (0, M, T) ∧ T.uses ≤ 2 * l.length + 1 ∧ T.off = false ∧ ∃ U N, openW T nameW 0 = (0, num 0 l, N, U) := by
  rcases h.st with ⟨h1, rfl⟩ | ⟨pre, s, h1, h2⟩
  · exact ⟨S, L, commit_emp h1, Nat.le_trans h.uses (Nat.le_succ _), h1.on, S, emptyL 0, open_emp 0 h1.files⟩
  · rcases commit_way h1 with ⟨T, a1, a2, a3, _⟩ | ⟨T, _, _, _, a3, a4⟩
    · obtain ⟨U, u1, _⟩ := open_stp 0 a2 (a3.armed.trans h.armed) (by rw [a2.files, ← h1.synced]; exact keep_sorted h.sorted _)
      have e : flat pre ++ (wholeK s).recs = l := h2
      rw [e] at u1
      exact ⟨T, _, a1, by have := a3.uses; have := h.uses; omega, a2.on, U, _, u1⟩
    · rw [a4.calm h1.on h.armed] at a3; cases a3
theorem num_get (n : Nat) (l : List (List UInt8)) (i : Nat) : (num n l)[i]? = (l[i]?).map (fun x => (n + i, bts x)) := by
  induction l generalizing n i with
  | nil => simp [num]
  | cons x r ih =>
    cases i with
    | zero => simp [num]
    | succ i =>
      simp only [num, List.getElem?_cons_succ, ih]
      congr 1
      funext y
      rw [Nat.add_assoc, Nat.add_comm 1 i]
end Wal
end Go.Proofs.YtmdkjcigmhgpeaaGreatDoor
