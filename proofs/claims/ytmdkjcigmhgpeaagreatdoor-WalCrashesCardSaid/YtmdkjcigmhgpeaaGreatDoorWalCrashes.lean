/- The walk of WalCrashes: behind a crash at any use of the disk, whatever is kept: all records that were committed, and behind them the first ones of the group. -/
import Derived.Test.YtmdkjcigmhgpeaaGreatDoorWalRunZ
namespace Go.Proofs.YtmdkjcigmhgpeaaGreatDoor
open Go.RowKit Snp SealMath Dsk Wal

theorem arm_way (k : Int) : Wal.Way 0 (arm (new 1048576) k) (emptyL 0) [] [] 0 0 true :=
  ⟨.inl ⟨emp_first rfl rfl, rfl, rfl, rfl, rfl⟩, rfl, Nat.le_refl _, Nat.le_refl _, List.Pairwise.nil, rfl⟩
theorem wrap_bounds (n : Int) : -9223372036854775808 ≤ wrap64 n ∧ wrap64 n ≤ 9223372036854775807 := by unfold wrap64; omega
theorem begin_under {B : Nat} {w2 w3 w4 : World} {rb d lb : Nat} {G : Nat → Prop} {K : Int} (hr : RunAt w2 rb d lb (.slice none 0 0) (.slice none 0 0) 0 0 true) (hl : LogAt w2 lb d nameW (emptyL 0)) (hG : ∀ x, G x → B ≤ x) (hG1 : ¬ G lb) (hG2 : ¬ G rb) (hlb : B ≤ lb) (hrb : B ≤ rb) (hne : lb ≠ rb)
    (hd : DiskAt w3 d (arm (new 1048576) K) G) (ho : Only G w2 w3) (hx : Ext w3 w4) (hbu : w3.heap.size < w4.heap.size) (hB : B ≤ w3.heap.size) :
    RH (fun x => x = w3.heap.size) B w4 rb d lb (.slice none 0 0) (.slice none 0 0) (arm (new 1048576) K) (emptyL 0) [] [] 0 0 true := by
  have hr3 := hr.only ho hG2
  have hl3 := hl.only ho hG1
  have hlr := lt_of_heap hr3
  have hll := lt_of_heap hl3
  refine ⟨hr3.ext hx, ⟨⟨hl3.ext hx, hlb, .inl rfl, fun x k => ?_, Nat.le_trans hB hx.size, fun x => G x ∧ x < w3.heap.size, (disk_small hd).ext hx, fun x k => ⟨hG x k.1, fun q => ?_⟩⟩, OwnRecs.nil _ _, OffInts.nil _ _, hrb, fun k => hne k.symm, nofun, nofun, nofun, nofun, nofun, fun k => ?_, fun k => ?_, nofun, nofun⟩⟩
  · rcases k with k | k | k | k | k
    · rw [k]; omega
    · rw [k]; omega
    · cases k
    · cases k
    · rw [k]; exact hbu
  · rcases q with q | q | q | q | q
    · exact hG1 (q ▸ k.1)
    · exact hG2 (q ▸ k.1)
    · cases q
    · cases q
    · have := k.2; omega
  · have k : lb = w3.heap.size := k
    omega
  · have k : rb = w3.heap.size := k
    omega
section
variable {Z : Nat → Prop} {B : Nat} {w w' : World} {rb d lb : Nat} {vr vs : Value} {S T : DS} {L M : LG} {recs : List RC} {starts : List Nat} {next safe : Nat} {fresh : Bool}
theorem RH.zrow (h : RH Z B w rb d lb vr vs S L recs starts next safe fresh) (k : Only Z w w') : RH Z B w' rb d lb vr vs S L recs starts next safe fresh :=
  ⟨h.run.only k h.rest.zr, ⟨h.rest.wh.own k (fun _ hx => ⟨.inr (.inr (.inr (.inr hx))), fun e => h.rest.zl (e ▸ hx)⟩), h.rest.recs.only k h.rest.zvr, h.rest.starts.only k h.rest.zvs, h.rest.low, h.rest.ne, h.rest.vr1, h.rest.vr2, h.rest.vs1, h.rest.vs2, h.rest.apart, h.rest.zl, h.rest.zr, h.rest.zvr, h.rest.zvs⟩⟩
theorem RH.turn4 (h : RH Z B w rb d lb vr vs S L recs starts next safe fresh) (hw : WH B (X4 Z lb rb vr vs) w' d lb T M) (ho : Turns B (X4 Z lb rb vr vs) lb w w') : RH Z B w' rb d lb vr vs T M recs starts next safe fresh :=
  ⟨h.run.only ho (fun k => by
      rcases k with k | k
      · exact h.rest.ne k
      · exact k.2 (.inr (.inl rfl))), h.rest.turn hw ho⟩
theorem RH.bel4 (h : RH Z B w rb d lb vr vs S L recs starts next safe fresh) {u u' : World} (ho : Turns B (X4 Z lb rb vr vs) lb u u') : Bel Z B u u' :=
  ho.mono (fun x _ k => by
    rcases k with rfl | k
    · exact ⟨h.rest.wh.low, h.rest.zl⟩
    · exact ⟨k.1, fun z => k.2 (.inr (.inr (.inr (.inr z))))⟩)
end
theorem off_append {T : DS} {M : LG} (h : M.err = 7) (x : List UInt8) : appendW nameW T M x = ((0, 7), M, T) := by
  unfold appendW
  rw [if_pos (by rw [h]; decide), h]
theorem off_commit {T : DS} {M : LG} (h : M.err = 7) : commitW T M = (7, M, T) := by
  unfold commitW
  rw [if_pos (.inl (by rw [h]; decide)), h]
theorem fair_len {kind below : Int} {safe : Nat} {recs got : List RC} (h : Wal.Fair kind below safe recs got) : got.length ≤ recs.length := by
  unfold Wal.Fair at h
  split at h
  · omega
  · exact h.2.1
theorem own_addr {w : World} {B n : Nat} {a : Option Addr} {c : Nat} {l : List RC} (h : OwnRecs w B (.slice a n c) l) : (a = none ∧ l = []) ∨ ∃ g, a = some ⟨g, 0, none⟩ := by
  obtain ⟨_, ⟨h1, h2⟩ | ⟨g, cap, cur, h1, _⟩⟩ := h
  · injection h1 with e _ _
    exact .inl ⟨e, List.eq_nil_of_length_eq_zero h2⟩
  · injection h1 with e _ _
    exact .inr ⟨g, e⟩
theorem RecsAt.take {w : World} {a : Option Addr} {l : List RC} (h : RecsAt w a l) (n : Nat) : RecsAt w a (l.take n) := fun i x hi => by
  rw [List.getElem?_take] at hi
  split at hi
  · exact h i x hi
  · cases hi
theorem RecsAt.drop {w : World} {g o : Nat} {l : List RC} (h : RecsAt w (some ⟨g, o, none⟩) l) (n : Nat) : RecsAt w (some ⟨g, o + n * 2, none⟩) (l.drop n) := fun i x hi => by
  rw [List.getElem?_drop] at hi
  obtain ⟨g2, o2, e, h1, h2⟩ := h _ x hi
  injection e with e
  injection e with e1 e2
  subst e1
  subst e2
  refine ⟨g, o + n * 2, rfl, ?_, ?_⟩
  · rw [← h1]; congr 2; omega
  · rw [← h2]; congr 2; omega
/-- The law's loop, behind n acts: nothing went off, or the power went off by the act that is noted. -/
def CR (B bu rb d n : Nat) (kind un : Int) (ud : ByteArray) (lb : Nat) (vr vs : Value) (S : DS) (L : LG) (recs : List RC) (starts : List Nat) (next safe : Nat) (fresh : Bool) (w : World) : Prop :=
  RH (fun x => x = bu) B w rb d lb vr vs S L recs starts next safe fresh ∧ w.heap[bu]? = some (.cells #[.int .i64 kind, .int .i64 un, .string ud] 87 (0, 0)) ∧
    ((kind = 9 ∧ Wal.Way n S L recs starts next safe fresh) ∨ ((kind = 0 ∨ kind = 1 ∨ kind = 2 ∨ kind = 3) ∧ Again S kind un safe recs ∧ S.uses ≤ 5000 ∧ recs.length ≤ 100))
theorem CR.ends {B bu rb d n : Nat} {kind un : Int} {ud : ByteArray} {lb : Nat} {vr vs : Value} {S : DS} {L : LG} {recs : List RC} {starts : List Nat} {next safe : Nat} {fresh : Bool} {w : World} (hn : n ≤ 31) (h : CR B bu rb d n kind un ud lb vr vs S L recs starts next safe fresh w) :
    Again S kind un safe recs ∧ S.uses ≤ 5000 ∧ recs.length ≤ 100 := by
  obtain ⟨_, _, ⟨_, h⟩ | ⟨_, h⟩⟩ := h
  · exact ⟨h.again rfl kind un, by have := h.uses; omega, by have := h.counts.1; omega⟩
  · exact h

set_option maxRecDepth 20000 in
set_option maxHeartbeats 16000000 in
theorem walcrashes_any (xs : List AW) (a : Option Addr) (c : Nat) (hN : xs.length ≤ 140737488355328) (am : Int) (ak : Option Addr) (ck : Nat) (ks : List Int) (hks : ks.length ≤ 140737488355328) (hkb : ∀ k ∈ ks, I64 k) (w : World) (hs : ActsWAt w a xs) (hk : IntsAt w ak ks) (hnb : Nibs w) :
    Calls Tryz.prog 11 #[.slice a xs.length c, .int .i64 am, .slice ak ks.length ck] w fun e w' => e = .returned (.bool true) ∧ Ext w w' := by
  have HN := Lib.hid hnb
  have HNL := Lib.hid (cell_lt (hnb 0 (by omega)))
  have HS := Lib.hid hs
  have HK := Lib.hid (And.intro hks (And.intro hkb hk))
  have hgr := great7_any a c xs hN w hs
  clear hnb hs hks hkb hk
  have HAW : Hid (∀ u, Ext w u → Calls Tryz.prog 32 #[] u fun e w' => e = .returned (.bool true) ∧ Ext u w') := fun u k => awake7_any u (HN.out.ext k)
  by_cases hg : greatW xs = true
  · rw [hg] at hgr
    go_enter Tryz.func11, Tryz.ntmps11
    go_wp2_with fail
    refine hgr.mono ?_
    clear hgr
    rintro e w1 ⟨rfl, rfl⟩
    go_wp2_with fail
    refine (HAW.out _ (Ext.refl _)).mono ?_
    rintro e w2 ⟨rfl, hx⟩
    have HX := Lib.hid hx; clear hx
    go_wp2_with fail
    go_ret
    exact ⟨rfl, HX.out⟩
  · have hg0 : greatW xs = false := by simpa using hg
    obtain ⟨hlen, hdat⟩ := greatW_false hg0
    have HDAT := Lib.hid hdat
    rw [hg0] at hgr
    clear hg hg0 hdat
    go_enter Tryz.func11, Tryz.ntmps11
    go_wp2_with fail
    refine hgr.mono ?_
    clear hgr
    rintro e w0 ⟨rfl, rfl⟩
    go_wp2_with fail
    refine (HAW.out _ (Ext.refl _)).mono ?_
    rintro e w1 ⟨rfl, hx⟩
    have HX1 := Lib.hid hx; clear hx
    go_wp2_with fail
    refine (begin7_any 1048576 (by decide) w1 (HN.out.ext HX1.out)).mono ?_
    rintro e w2 ⟨rb, d, lb, G, rfl, hr, hl, hd, hG, hG1, hG2, hlb, hrb, hne, hx⟩
    have HX2 := Lib.hid (HX1.out.trans hx)
    have r0 : w2.cell? ⟨rb, 0, none⟩ = some (.pointer (some ⟨d, 0, none⟩)) := Go.Joins.cell_of_block hr 0
    have HB2 := Lib.hid (And.intro hr (And.intro hl (And.intro hd (And.intro hG (And.intro hG1 (And.intro hG2 (And.intro hlb (And.intro hrb (And.intro hne hx)))))))))
    clear hr hl hd hG hG1 hG2 hlb hrb hne hx
    go_wp2_with fail
    have hKb := wrap_bounds ((IntKind.u64.wrap am).tmod 50)
    generalize wrap64 ((IntKind.u64.wrap am).tmod 50) = K at hKb ⊢
    obtain ⟨hr, hl, hd, hG, hG1, hG2, hlb, hrb, hne, hx⟩ := HB2.out
    refine (arm_any d (new 1048576) G K hKb w2 hd).mono ?_
    rintro e w3 ⟨rfl, hd3, ho3⟩
    have HB3 : Hid (∀ w4, Ext w3 w4 → w3.heap.size < w4.heap.size → RH (fun x => x = w3.heap.size) w1.heap.size w4 rb d lb (.slice none 0 0) (.slice none 0 0) (arm (new 1048576) K) (emptyL 0) [] [] 0 0 true) := fun w4 h1 h2 =>
      begin_under hr hl hG hG1 hG2 hlb hrb hne hd3 ho3 h1 h2 (Nat.le_trans hx.size ho3.size)
    have HX3 : Hid (Ext w w3) := Below.trans HX2.out (Below.mono (ho3.below hx.size hG) HX1.out.size)
    clear hr hl hd hG hG1 hG2 hlb hrb hne hx hd3 ho3 hKb r0 HB2
    go_upto_region 8 with fail
    have HC4 : Hid (CR w1.heap.size w3.heap.size rb d 0 9 0 ⟨#[]⟩ lb (.slice none 0 0) (.slice none 0 0) (arm (new 1048576) K) (emptyL 0) [] [] 0 0 true (w3.alloc (.cells #[.int .i64 9, .int .i64 0, .string ⟨#[]⟩] 87))) := ⟨HB3.out _ ((Ext.refl w3).alloc _) (by simp), heap_alloc_new w3 _, .inl ⟨rfl, arm_way K⟩⟩
    have HX4 : Hid (Ext w (w3.alloc (.cells #[.int .i64 9, .int .i64 0, .string ⟨#[]⟩] 87))) := HX3.out.alloc _
    generalize w3.alloc (.cells #[.int .i64 9, .int .i64 0, .string ⟨#[]⟩] 87) = w4 at HC4 HX4 ⊢
    have HBU : Hid (w1.heap.size ≤ w3.heap.size ∧ w.heap.size ≤ w3.heap.size) := Lib.hid (by have h1 := HX3.out.size; have h2 := (HB3.out _ ((Ext.refl w3).alloc (.cells #[] 0)) (by simp)).rest.low; have h3 := (HB3.out _ ((Ext.refl w3).alloc (.cells #[] 0)) (by simp)).rest.lt; simp at h3; omega)
    clear HB3 HX3 HX2
    generalize w3.heap.size = bu at HC4 HBU ⊢
    have HL30 := Lib.hid hlen
    have HNLB : Hid (0 < w1.heap.size) := Nat.lt_of_lt_of_le HNL.out HX1.out.size
    clear hlen
    go_wp2_with fail
    go_loopg [9] (xs.length) (fun g i wr => ∃ (j n : Nat) (kind un : Int) (ud : ByteArray) (lb' : Nat) (vr vs : Value) (S : DS) (L : LG) (recs : List RC) (starts : List Nat) (next safe : Nat) (fresh : Bool), i = .int .i64 j ∧ j ≤ xs.length ∧ g = xs.length - j ∧ Hid (n ≤ j) ∧ Hid (CR w1.heap.size bu rb d n kind un ud lb' vr vs S L recs starts next safe fresh wr) ∧ Hid (Ext w wr))
    case atStart => exact ⟨0, 0, 9, 0, ⟨#[]⟩, lb, _, _, _, _, _, _, _, _, _, rfl, Nat.zero_le _, rfl, Nat.le_refl _, HC4, HX4⟩
    case round =>
      obtain ⟨j, n, kind, un, ud, lb', vr, vs, S, L, recs, starts, next, safe, fresh, rfl, hj, rfl, HNJ, HC, HX⟩ := hrel
      have u0 : wr.cell? ⟨bu, 0, none⟩ = some (.int .i64 kind) := Go.Joins.cell_of_block HC.out.2.1 0
      have r0 : wr.cell? ⟨rb, 0, none⟩ = some (.pointer (some ⟨d, 0, none⟩)) := Go.Joins.cell_of_block HC.out.1.run 0
      go_upto_region 9 with fail
      go_cut [53] (fun s53 wx => s53 = .bool (decide (j < xs.length) && decide (kind = 9)) ∧ wr = wx)
      case first =>
        by_cases hlt : j < xs.length
        · by_cases h9 : kind = 9
          · subst h9
            go_wp2_with fail
            go_meet
            exact ⟨congrArg Value.bool (by rw [decide_eq_true hlt]; rfl), rfl⟩
          · have h9' : (kind == 9) = false := by rw [beq_eq_false_iff_ne]; exact h9
            go_wp2_with fail
            go_meet
            exact ⟨congrArg Value.bool (by rw [decide_eq_false h9, Bool.and_false]), rfl⟩
        · go_wp2_with fail
          go_meet
          exact ⟨congrArg Value.bool (by rw [decide_eq_false hlt, Bool.false_and]), rfl⟩
      obtain ⟨rfl, rfl⟩ := hcut
      by_cases hgo : j < xs.length ∧ kind = 9
      · obtain ⟨hlt, rfl⟩ := hgo
        have hb : (decide (j < xs.length) && decide ((9 : Int) = 9)) = true := by rw [decide_eq_true hlt]; rfl
        rw [hb]
        clear hb
        have HW : Hid (Wal.Way n S L recs starts next safe fresh) := by
          rcases HC.out.2.2 with ⟨_, h⟩ | ⟨h, _⟩
          · exact h
          · omega
        obtain ⟨bk, o, rfl, hc⟩ := HS.out j _ (List.getElem?_eq_getElem hlt)
        have hx300 := HDAT.out _ (List.getElem_mem hlt)
        have HDI : Hid ((xs[j].kind = 0 ∨ xs[j].kind = 1 ∨ xs[j].kind = 2 ∨ xs[j].kind = 3) → Calls Tryz.prog 45 #[.pointer (some ⟨rb, 0, none⟩), .agg #[.int .i64 xs[j].kind, .int .i64 xs[j].n, .string xs[j].data]] wr (Did (fun x => x = bu) w1.heap.size rb d n xs[j] S recs starts next safe fresh wr)) := fun hk => did_act xs[j] hx300 (by have := HL30.out; have := HNJ.out; omega) HC.out.1 HW.out (HN.out.ext HX.out) hk
        generalize xs[j] = x at hc hx300 HDI
        have c0 := hc 0 _ rfl
        have c1 := hc 1 _ rfl
        have c2 := hc 2 _ rfl
        rw [Nat.add_zero] at c0
        rw [← Nat.add_assoc] at c1 c2
        have HBK : Hid (bk < w.heap.size) := cell_lt c0
        have c0 := Ext.cell HX.out c0
        have c1 := Ext.cell HX.out c1
        have c2 := Ext.cell HX.out c2
        clear hc hx300 u0 r0
        by_cases hlo : x.kind < 0
        · go_wp2_with fail
          go_roundg (xs.length - (j + 1))
          case measure => omega
          case rel => exact ⟨j + 1, n, 9, un, ud, lb', vr, vs, S, L, recs, starts, next, safe, fresh, by go_num, by omega, rfl, Nat.le_succ_of_le HNJ.out, HC, HX⟩
        · by_cases hhi : 3 < x.kind
          · go_wp2_with fail
            go_roundg (xs.length - (j + 1))
            case measure => omega
            case rel => exact ⟨j + 1, n, 9, un, ud, lb', vr, vs, S, L, recs, starts, next, safe, fresh, by go_num, by omega, rfl, Nat.le_succ_of_le HNJ.out, HC, HX⟩
          · have HKD : Hid (x.kind = 0 ∨ x.kind = 1 ∨ x.kind = 2 ∨ x.kind = 3) := Lib.hid (by omega)
            have hcall := HDI.out HKD.out
            go_wp2_with fail
            refine hcall.mono ?_
            clear hcall
            rintro e w5 (⟨lb5, vr5, vs5, T, M, r5, s5, n5, sf5, f5, rfl, hrh, hway, harm, hbe⟩ | ⟨lb5, vr5, vs5, T, M, rfl, hrh, herr, harm, huse, hag, hfile, hsize, hbe⟩)
            · have HX5 : Hid (Ext w w5) := Below.trans HX.out (Below.mono (hbe.below HC.out.1.rest.wh.big) HX1.out.size)
              have HC5 : Hid (CR w1.heap.size bu rb d (n + 1) 9 un ud lb5 vr5 vs5 T M r5 s5 n5 sf5 f5 w5) := ⟨hrh, (hbe.block bu (lt_of_heap HC.out.2.1) (fun k => k.2 rfl)).trans HC.out.2.1, .inl ⟨rfl, hway⟩⟩
              clear hrh hway harm hbe c0 c1 c2
              go_wp2_with fail
              go_roundg (xs.length - (j + 1))
              case measure => omega
              case rel => exact ⟨j + 1, n + 1, 9, un, ud, lb5, vr5, vs5, T, M, r5, s5, n5, sf5, f5, by go_num, by omega, rfl, Nat.succ_le_succ HNJ.out, HC5, HX5⟩
            · have HX5 : Hid (Ext w w5) := Below.trans HX.out (Below.mono (hbe.below HC.out.1.rest.wh.big) HX1.out.size)
              have HU5 : Hid (w5.heap[bu]? = some (.cells #[.int .i64 9, .int .i64 un, .string ud] 87 (0, 0))) := (hbe.block bu (lt_of_heap HC.out.2.1) (fun k => k.2 rfl)).trans HC.out.2.1
              have HH5 := Lib.hid hrh
              have hbkB : ¬ (w1.heap.size ≤ bk ∧ ¬ bk = bu) := fun k => by have := HBK.out; have := HX1.out.size; omega
              have c0 := Only.cell hbe c0 hbkB
              have c1 := Only.cell hbe c1 hbkB
              have c2 := Only.cell hbe c2 hbkB
              have HOF := Lib.hid (And.intro herr (And.intro huse (And.intro hag (And.intro hfile hsize))))
              have u0 : w5.cell? ⟨bu, 0, none⟩ = some (.int .i64 9) := Go.Joins.cell_of_block HU5.out 0
              have u1 : w5.cell? ⟨bu, 1, none⟩ = some (.int .i64 un) := Go.Joins.cell_of_block HU5.out 1
              have u2 : w5.cell? ⟨bu, 2, none⟩ = some (.string ud) := Go.Joins.cell_of_block HU5.out 2
              have f0 := frozen_row HU5.out 0
              have f1 := frozen_row HU5.out 1
              have f2 := frozen_row HU5.out 2
              clear hrh herr harm huse hag hfile hsize hbe hbkB
              go_upto_region 17 with fail
              obtain ⟨w6, hw6⟩ : ∃ u, u = ((w5.setCell ⟨bu, 0, none⟩ (.int .i64 x.kind)).setCell ⟨bu, 1, none⟩ (.int .i64 x.n)).setCell ⟨bu, 2, none⟩ (.string x.data) := ⟨_, rfl⟩
              have HO6 : Hid (Only (fun y => y = bu) w5 w6) := Lib.hid (by
                rw [hw6]
                exact ((only_row _ _ _ _).andThen (only_row _ _ _ _)).andThen (only_row _ _ _ _))
              have HU6 : Hid (w6.heap[bu]? = some (.cells #[.int .i64 x.kind, .int .i64 x.n, .string x.data] 87 (0, 0))) := by
                show _ = _
                rw [hw6]
                have h1 := Go.Joins.block_setCell (i := 0) HU5.out (.int .i64 x.kind)
                have h2 := Go.Joins.block_setCell (i := 1) h1 (.int .i64 x.n)
                have h3 := Go.Joins.block_setCell (i := 2) h2 (.string x.data)
                simpa using h3
              have HH6 := Lib.hid (HH5.out.zrow HO6.out)
              have HX6 : Hid (Ext w w6) := Below.trans HX5.out (HO6.out.below HX5.out.size (fun y hy => by subst hy; exact HBU.out.2))
              have r1 : w6.cell? ⟨rb, 1, none⟩ = some (.pointer (some ⟨lb5, 0, none⟩)) := Go.Joins.cell_of_block HH6.out.run 1
              have hus6 : T.uses ≤ 5000 := by have := HW.out.uses; have := HNJ.out; have := HL30.out; have := HOF.out.2.1; omega
              have HUS6 := Lib.hid hus6
              have HAP6 : Calls Tryz.prog 35 #[.pointer (some ⟨lb5, 0, none⟩), .string ⟨#[120]⟩] w6 fun e w' => e = .returned (.tuple #[.int .i64 0, .int .i64 7]) ∧ WH w1.heap.size (X4 (fun y => y = bu) lb5 rb vr5 vs5) w' d lb5 T M ∧ Turns w1.heap.size (X4 (fun y => y = bu) lb5 rb vr5 vs5) lb5 w6 w' := by
                have h := append_wh ⟨#[120]⟩ (by decide) (by omega) (by have := HOF.out.2.2.2.1; omega) (by have := HOF.out.2.2.2.2; omega) HH6.out.rest.wh (HN.out.ext HX6.out)
                rw [off_append HOF.out.1] at h
                exact h
              rw [← hw6]
              clear hw6 c0 c1 c2 u0 u1 u2 f0 f1 f2 hus6
              go_wp2_with fail
              refine HAP6.mono ?_
              clear HAP6
              rintro e w7 ⟨rfl, hw7, ho7⟩
              have HH7 := Lib.hid (HH6.out.turn4 hw7 ho7)
              have HU7 : Hid (w7.heap[bu]? = some (.cells #[.int .i64 x.kind, .int .i64 x.n, .string x.data] 87 (0, 0))) := ((HH6.out.bel4 ho7).block bu (lt_of_heap HU6.out) (fun k => k.2 rfl)).trans HU6.out
              have HX7 : Hid (Ext w w7) := Below.trans HX6.out (Below.mono ((HH6.out.bel4 ho7).below HH6.out.rest.wh.big) HX1.out.size)
              have HCM7 : Calls Tryz.prog 36 #[.pointer (some ⟨lb5, 0, none⟩)] w7 fun e w' => e = .returned (.int .i64 7) ∧ WH w1.heap.size (X4 (fun y => y = bu) lb5 rb vr5 vs5) w' d lb5 T M ∧ Turns w1.heap.size (X4 (fun y => y = bu) lb5 rb vr5 vs5) lb5 w7 w' := by
                have h := commit_wh (by have := HUS6.out; omega) (by have := HOF.out.2.2.2.1; omega) HH7.out.rest.wh
                rw [off_commit HOF.out.1] at h
                exact h
              have r1 : w7.cell? ⟨rb, 1, none⟩ = some (.pointer (some ⟨lb5, 0, none⟩)) := Go.Joins.cell_of_block HH7.out.run 1
              clear hw7 ho7
              go_wp2_with fail
              refine HCM7.mono ?_
              clear HCM7
              rintro e w8 ⟨rfl, hw8, ho8⟩
              have HH8 := Lib.hid (HH7.out.turn4 hw8 ho8)
              have HU8 : Hid (w8.heap[bu]? = some (.cells #[.int .i64 x.kind, .int .i64 x.n, .string x.data] 87 (0, 0))) := ((HH7.out.bel4 ho8).block bu (lt_of_heap HU7.out) (fun k => k.2 rfl)).trans HU7.out
              have HX8 : Hid (Ext w w8) := Below.trans HX7.out (Below.mono ((HH7.out.bel4 ho8).below HH7.out.rest.wh.big) HX1.out.size)
              have r1 : w8.cell? ⟨rb, 1, none⟩ = some (.pointer (some ⟨lb5, 0, none⟩)) := Go.Joins.cell_of_block HH8.out.run 1
              have her := lerr_any lb5 d nameW M w8 HH8.out.rest.wh.log
              rw [HOF.out.1] at her
              have HC8 : Hid (CR w1.heap.size bu rb d n x.kind x.n x.data lb5 vr5 vs5 T M recs starts next safe fresh w8) := ⟨HH8.out, HU8.out, .inr ⟨HKD.out, HOF.out.2.2.1, HUS6.out, by have := HW.out.counts.1; have := HNJ.out; have := HL30.out; omega⟩⟩
              clear hw8 ho8
              go_wp2_with fail
              refine her.mono ?_
              clear her
              rintro e w9 ⟨rfl, rfl⟩
              go_wp2_with fail
              go_roundg (xs.length - (j + 1))
              case measure => omega
              case rel => exact ⟨j + 1, n, x.kind, x.n, x.data, lb5, vr5, vs5, T, M, recs, starts, next, safe, fresh, by go_num, by omega, rfl, Nat.le_succ_of_le HNJ.out, HC8, HX8⟩
      · have hb : (decide (j < xs.length) && decide (kind = 9)) = false := by
          rw [Bool.and_eq_false_iff, decide_eq_false_iff_not, decide_eq_false_iff_not]
          by_cases h : j < xs.length
          · exact .inr (fun k => hgo ⟨h, k⟩)
          · exact .inl h
        rw [hb]
        clear hb hgo
        obtain ⟨hag, hus, hrl⟩ := HC.out.ends (by have := HNJ.out; have := HL30.out; omega)
        have hcr := crash_wh ak ck ks HK.out.1 HK.out.2.1 HC.out.1.rest.wh (HK.out.2.2.ext HX.out) (fun hne bk o e => .inl (by
          cases ks with
          | nil => exact absurd rfl hne
          | cons k0 kr =>
            obtain ⟨bk2, o2, e2, hcell⟩ := HK.out.2.2 0 k0 rfl
            rw [e] at e2
            injection e2 with e2
            injection e2 with e3 _
            subst e3
            exact Nat.lt_of_lt_of_le hcell.1 HX1.out.size))
        obtain ⟨got, M, T, N, U, o1, o2, o3, o4, hfair⟩ := hag ks
        have HOP := Lib.hid (And.intro o1 (And.intro o2 (And.intro o3 (And.intro o4 hfair))))
        have HUS := Lib.hid (And.intro hus hrl)
        clear hag o1 o2 o3 o4 hfair hus hrl u0
        go_wp2_with fail
        refine hcr.mono ?_
        clear hcr
        rintro e w5 ⟨rfl, hw5, ho5⟩
        have HH5 := Lib.hid (HC.out.1.turn4 hw5 ho5)
        have HU5 : Hid (w5.heap[bu]? = some (.cells #[.int .i64 kind, .int .i64 un, .string ud] 87 (0, 0))) := ((HC.out.1.bel4 ho5).block bu (lt_of_heap HC.out.2.1) (fun k => k.2 rfl)).trans HC.out.2.1
        have HX5 : Hid (Ext w w5) := Below.trans HX.out (Below.mono ((HC.out.1.bel4 ho5).below HC.out.1.rest.wh.big) HX1.out.size)
        have r0 : w5.cell? ⟨rb, 0, none⟩ = some (.pointer (some ⟨d, 0, none⟩)) := Go.Joins.cell_of_block HH5.out.run 0
        clear hw5 ho5
        obtain ⟨G5, g1, g2⟩ := HH5.out.rest.wh.disk
        have hop := open_wh g1 g2 HH5.out.rest.wh.big HH5.out.rest.wh.lt rfl (by show S.uses + 10 < _; have := HUS.out.1; omega) (HN.out.ext HX5.out) HNLB.out (by rw [HOP.out.1])
        rw [HOP.out.1] at hop
        clear g1 g2
        go_wp2_with fail
        refine hop.mono ?_
        clear hop
        rintro e w6 ⟨lb6, v6, rfl, hown6, hlb6, hne6, hw6, ho6⟩
        simp only at hown6 hw6
        have HO6 := Lib.hid ho6
        have HW6 := Lib.hid hw6
        have HOWN6 := Lib.hid hown6
        have HRUN6 := Lib.hid (HH5.out.run.only ho6 (fun k => k.2 (.inr (.inl rfl))))
        have HU6 : Hid (w6.heap[bu]? = some (.cells #[.int .i64 kind, .int .i64 un, .string ud] 87 (0, 0))) := (ho6.block bu (lt_of_heap HU5.out) (fun k => k.2 (.inr (.inr (.inr (.inr rfl)))))).trans HU5.out
        have HREC6 : Hid (OwnRecs w6 w1.heap.size vr recs) := HH5.out.rest.recs.only ho6 (fun g hg k => k.2 (.inr (.inr (.inl hg))))
        have HX6 : Hid (Ext w w6) := Below.trans HX5.out (Below.mono (Only.below ho6 HH5.out.rest.wh.big (fun b k => k.1)) HX1.out.size)
        have r0 : w6.cell? ⟨rb, 0, none⟩ = some (.pointer (some ⟨d, 0, none⟩)) := Go.Joins.cell_of_block HRUN6.out 0
        obtain ⟨a6, c6, hv6, hz1, hz2, hz3, hz4, hz5⟩ := hown6.form
        clear hown6 hlb6 hne6 hw6 ho6 hz1 hz2 hz3 hz4 hz5
        subst hv6
        obtain ⟨G6, g1, g2⟩ := HW6.out.disk
        have hop := open_wh g1 g2 HW6.out.big HW6.out.lt HOP.out.2.2.2.1 (by have := HUS.out.1; have h := HOP.out.2.2.1; have h2 : (Dsk.crash S ks).uses = S.uses := rfl; omega) (HN.out.ext HX6.out) HNLB.out (by rw [HOP.out.2.1])
        rw [HOP.out.2.1] at hop
        clear g1 g2
        go_wp2_with fail
        refine hop.mono ?_
        clear hop
        rintro e w7 ⟨lb7, v7, rfl, hown7, hlb7, hne7, hw7, ho7⟩
        simp only at hown7
        have HRUN7 := Lib.hid (HRUN6.out.only ho7 (fun k => k.2 (.inl (.inr (.inl rfl)))))
        have HU7 : Hid (w7.heap[bu]? = some (.cells #[.int .i64 kind, .int .i64 un, .string ud] 87 (0, 0))) := (ho7.block bu (lt_of_heap HU6.out) (fun k => k.2 (.inl (.inr (.inr (.inr (.inr rfl))))))).trans HU6.out
        have HREC7 : Hid (OwnRecs w7 w1.heap.size vr recs) := HREC6.out.only ho7 (fun g hg k => k.2 (.inl (.inr (.inr (.inl hg)))))
        have HGOT7 : Hid (OwnRecs w7 w5.heap.size (.slice a6 got.length c6) got) := HOWN6.out.only ho7 (fun g hg k => k.2 (.inr (.inr hg)))
        have HX7 : Hid (Ext w w7) := Below.trans HX6.out (Below.mono (Only.below ho7 HW6.out.big (fun b k => k.1)) HX1.out.size)
        obtain ⟨a7, c7, hv7, hz1, hz2, hz3, hz4, hz5⟩ := hown7.form
        have HAG7 := Lib.hid hz3
        clear hown7 hlb7 hne7 hw7 ho7 hz1 hz2 hz3 hz4 hz5 r0
        subst hv7
        have HGL : Hid (got.length ≤ 100) := Lib.hid (by have h1 := fair_len HOP.out.2.2.2.2; have h2 := HUS.out.2; omega)
        obtain ⟨_, _, hv6, _, _, hg6, _, _⟩ := HGOT7.out.form
        have hsame := same7_any a6 c6 got a7 c7 got (by have := HGL.out; omega) w7 (by injection hv6 with e1 _ _; rw [e1]; exact hg6) HAG7.out
        rw [decide_eq_true rfl] at hsame
        clear hv6 hg6
        go_wp2_with fail
        refine hsame.mono ?_
        clear hsame
        rintro e w8 ⟨rfl, hx8⟩
        have HRUN8 := Lib.hid (HRUN7.out.ext hx8)
        have HU8 : Hid (w8.heap[bu]? = some (.cells #[.int .i64 kind, .int .i64 un, .string ud] 87 (0, 0))) := (hx8.block bu (lt_of_heap HU7.out)).trans HU7.out
        have HREC8 := Lib.hid (OwnRecs.ext HREC7.out hx8)
        have HGOT8 := Lib.hid (OwnRecs.ext HGOT7.out hx8)
        have HX8 := Lib.hid (HX7.out.trans hx8)
        clear hx8
        obtain ⟨ar, cr, hvr, hz1, hz2, hz3, hz4, hz5⟩ := HREC8.out.form
        have HRA := Lib.hid hz3
        have HRZ := Lib.hid (And.intro hz4 hz5)
        clear hz2 hz3 hz4 hz5
        subst hvr
        go_wp2_with fail
        go_loopg [20, 21] (recs.length) (fun g s20 s21 wr9 => ∃ i : Nat, s21 = .int .i64 i ∧ s20 = .int .i64 (leastR safe (recs.take i) : Nat) ∧ i ≤ recs.length ∧ g = recs.length - i ∧ Hid (Ext w8 wr9))
        case atStart => exact ⟨0, rfl, rfl, Nat.zero_le _, rfl, Ext.refl _⟩
        case round =>
          obtain ⟨i, rfl, rfl, hi, rfl, HX9⟩ := hrel
          have c2 : wr.cell? ⟨rb, 2, none⟩ = some (.slice ar recs.length cr) := Go.Joins.cell_of_block (HRUN8.out.ext HX9.out) 2
          by_cases hlt : i < recs.length
          · have c5 : wr.cell? ⟨rb, 5, none⟩ = some (.int .i64 (safe : Nat)) := Go.Joins.cell_of_block (HRUN8.out.ext HX9.out) 5
            obtain ⟨bk, o, har, hcx, hdx⟩ := (HRA.out.ext HX9.out) i _ (List.getElem?_eq_getElem hlt)
            subst har
            have HLS : Hid (leastR safe (recs.take (i + 1)) = if recs[i].1 < safe then i + 1 else leastR safe (recs.take i)) := by
              show _ = _
              rw [List.take_succ_eq_append_getElem hlt, leastR_snoc, List.length_take, Nat.min_eq_left (by omega)]
            have hji : IntKind.i64.wrap ((i : Int) + 1) = (i : Int) + 1 := by rw [IntKind.wrap_i64]; have := HUS.out.2; omega
            generalize recs[i] = y at hcx hdx HLS
            by_cases hy : (y.1 : Int) < (safe : Int)
            · have HLS1 : Hid (leastR safe (recs.take (i + 1)) = i + 1) := by
                show _ = _
                rw [HLS.out, if_pos (by omega)]
              clear HLS
              go_wp2_with fail
              go_quiet (fail)
              have HX10 := Lib.hid (HX9.out.trans ((Ext.refl wr).drewN nq))
              go_wp2_with fail
              go_roundg (recs.length - (i + 1))
              case measure => omega
              case rel => exact ⟨i + 1, by go_num, by rw [HLS1.out]; go_num, by omega, rfl, HX10⟩
            · have HLS1 : Hid (leastR safe (recs.take (i + 1)) = leastR safe (recs.take i)) := by
                show _ = _
                rw [HLS.out, if_neg (by omega)]
              clear HLS
              go_wp2_with fail
              go_quiet (fail)
              have HX10 := Lib.hid (HX9.out.trans ((Ext.refl wr).drewN nq))
              go_wp2_with fail
              go_roundg (recs.length - (i + 1))
              case measure => omega
              case rel => exact ⟨i + 1, by go_num, by rw [HLS1.out], by omega, rfl, HX10⟩
          · obtain rfl : i = recs.length := by omega
            rw [List.take_of_length_le (Nat.le_refl _)]
            have u0 : wr.cell? ⟨bu, 0, none⟩ = some (.int .i64 kind) := Go.Joins.cell_of_block ((HX9.out.block bu (lt_of_heap HU8.out)).trans HU8.out) 0
            have HFA : Hid (Wal.Fair kind un safe recs got) := HOP.out.2.2.2.2
            have HRUN9 := Lib.hid (HRUN8.out.ext HX9.out)
            have HU9 : Hid (wr.heap[bu]? = some (.cells #[.int .i64 kind, .int .i64 un, .string ud] 87 (0, 0))) := (HX9.out.block bu (lt_of_heap HU8.out)).trans HU8.out
            have HRA9 := Lib.hid (HRA.out.ext HX9.out)
            have HGOT9 := Lib.hid (OwnRecs.ext HGOT8.out HX9.out)
            obtain ⟨_, _, hv9, _, _, hg9, hgz9, hgy9⟩ := HGOT9.out.form
            have HGA9 : Hid (RecsAt wr a6 got) := Lib.hid (by injection hv9 with e1 _ _; rw [e1]; exact hg9)
            have HGZ9 : Hid (got ≠ [] → ∃ bk, a6 = some ⟨bk, 0, none⟩) := Lib.hid (by injection hv9 with e1 _ _; rw [e1]; exact hgy9)
            clear hv9 hg9 hgz9 hgy9
            have HCR : Hid (recs.length ≤ cr) := hz1
            rename World => w9
            by_cases h3 : kind = 3
            · subst h3
              have hf := HFA.out
              unfold Wal.Fair at hf
              rw [if_pos rfl] at hf
              have HF3 := Lib.hid hf
              clear hf
              have u1 : w9.cell? ⟨bu, 1, none⟩ = some (.int .i64 un) := Go.Joins.cell_of_block HU9.out 1
              rcases own_addr HREC8.out with ⟨har, hrn⟩ | ⟨gr, har⟩
              · subst har
                have HNIL : Hid (recs = []) := hrn
                have hrn0 : recs.length = 0 := by rw [HNIL.out]; rfl
                have hgn : got.length = 0 := by have h1 := HF3.out.2.2.1; omega
                have hls0 : leastR safe recs = 0 := by rw [HNIL.out]; rfl
                have HSM : Hid (∀ u, Ext w9 u → Calls Tryz.prog 38 #[.slice a6 0 c6, .slice none 0 cr] u fun e w' => e = .returned (.bool true) ∧ Ext u w') := fun u k => by
                  have hg : got = [] := List.eq_nil_of_length_eq_zero hgn
                  have h := same7_any a6 c6 [] none cr [] (by simp) u (by intro i x hi; simp at hi) (by intro i x hi; simp at hi)
                  rw [decide_eq_true rfl] at h
                  exact h
                have c2 : w9.cell? ⟨rb, 2, none⟩ = some (.slice none 0 cr) := by have h := c2; rw [hrn0] at h; exact h
                rw [hgn, hrn0, hls0]
                clear hgn hrn0 hls0
                go_wp2_with fail
                go_loopg [23] 0 (fun g s23 w10 => s23 = .int .i64 0 ∧ g = 0 ∧ w9 = w10)
                case atStart => exact ⟨rfl, rfl, rfl⟩
                case round =>
                  obtain ⟨rfl, rfl, rfl⟩ := hrel
                  go_wp2_with fail
                  refine (HSM.out _ (Ext.refl _)).mono ?_
                  rintro e w11 ⟨rfl, hx⟩
                  have HX11 := Lib.hid (HX8.out.trans (HX9.out.trans hx))
                  clear hx
                  go_wp2_with fail
                  go_ret
                  exact ⟨rfl, HX11.out⟩
              · subst har
                by_cases hcr0 : cr = 0
                · subst hcr0
                  have HNIL : Hid (recs = []) := List.eq_nil_of_length_eq_zero (by omega)
                  have hrn0 : recs.length = 0 := by rw [HNIL.out]; rfl
                  have hgn : got.length = 0 := by have h1 := HF3.out.2.2.1; omega
                  have hls0 : leastR safe recs = 0 := by rw [HNIL.out]; rfl
                  have HSM : Hid (∀ u, Ext w9 u → Calls Tryz.prog 38 #[.slice a6 0 c6, .slice (some ⟨gr, 0, none⟩) 0 0] u fun e w' => e = .returned (.bool true) ∧ Ext u w') := fun u k => by
                    have hg : got = [] := List.eq_nil_of_length_eq_zero hgn
                    have h := same7_any a6 c6 [] (some ⟨gr, 0, none⟩) 0 [] (by simp) u (by intro i x hi; simp at hi) (by intro i x hi; simp at hi)
                    rw [decide_eq_true rfl] at h
                    exact h
                  have c2 : w9.cell? ⟨rb, 2, none⟩ = some (.slice (some ⟨gr, 0, none⟩) 0 0) := by have h := c2; rw [hrn0] at h; exact h
                  rw [hgn, hrn0, hls0]
                  clear hgn hrn0 hls0
                  go_wp2_with fail
                  go_loopg [23] 0 (fun g s23 w10 => s23 = .int .i64 0 ∧ g = 0 ∧ w9 = w10)
                  case atStart => exact ⟨rfl, rfl, rfl⟩
                  case round =>
                    obtain ⟨rfl, rfl, rfl⟩ := hrel
                    go_wp2_with fail
                    refine (HSM.out _ (Ext.refl _)).mono ?_
                    rintro e w11 ⟨rfl, hx⟩
                    have HX11 := Lib.hid (HX8.out.trans (HX9.out.trans hx))
                    clear hx
                    go_wp2_with fail
                    go_ret
                    exact ⟨rfl, HX11.out⟩
                · go_upto_if 179 with fail
                  go_cut [22] (fun s22 wx => s22 = .int .i64 (firstR got : Nat) ∧ w9 = wx)
                  case first =>
                    by_cases hg0 : got = []
                    · have h0 : ¬ (0 : Int) < (got.length : Int) := by rw [hg0]; simp
                      have HG0 := Lib.hid hg0
                      clear hg0
                      go_wp2_with fail
                      go_meet
                      exact ⟨by rw [HG0.out]; rfl, rfl⟩
                    · obtain ⟨y, r, HY⟩ : ∃ y r, Hid (got = y :: r) := by
                        cases got with
                        | nil => exact absurd rfl hg0
                        | cons y r => exact ⟨y, r, rfl⟩
                      obtain ⟨bk, ha6⟩ := HGZ9.out hg0
                      obtain ⟨g2, o2, e2, hcx, _⟩ := HGA9.out 0 y (by rw [HY.out]; rfl)
                      rw [ha6] at e2
                      injection e2 with e2
                      injection e2 with e3 e4
                      subst e3
                      subst e4
                      subst ha6
                      have h0 : (0 : Int) < (got.length : Int) := by rw [HY.out, List.length_cons]; omega
                      have hcx : w9.cell? ⟨bk, 0, none⟩ = some (.int .i64 (y.1 : Nat)) := hcx
                      go_wp2_with fail
                      go_meet
                      exact ⟨by rw [HY.out]; rfl, rfl⟩
                  obtain ⟨rfl, rfl⟩ := hcut
                  obtain ⟨fi, HFI⟩ : ∃ fi : Nat, Hid (fi = firstR got) := ⟨_, rfl⟩
                  rw [← HFI.out]
                  go_wp2_with fail
                  go_loopg [23] (recs.length) (fun g s23 w10 => ∃ q : Nat, s23 = .int .i64 q ∧ q ≤ recs.length ∧ g = recs.length - q ∧ Hid (goneR fi recs = q + goneR fi (recs.drop q)) ∧ w9 = w10)
                  case atStart => exact ⟨0, rfl, Nat.zero_le _, rfl, (by show _ = _; simp), rfl⟩
                  case round =>
                    obtain ⟨q, rfl, hq, rfl, HQ, rfl⟩ := hrel
                    have hqi : IntKind.i64.wrap ((q : Int) + 1) = (q : Int) + 1 := by rw [IntKind.wrap_i64]; have := HUS.out.2; omega
                    obtain ⟨bq, HBQ⟩ : ∃ b : Bool, Hid ((b = true → q < recs.length ∧ goneR fi (recs.drop q) = goneR fi (recs.drop (q + 1)) + 1) ∧ (b = false → goneR fi (recs.drop q) = 0) ∧ (q < recs.length → b = decide ((recs.getD q (0, ⟨#[]⟩)).1 < fi)) ∧ (¬ q < recs.length → b = false)) := by
                      by_cases hlt : q < recs.length
                      · have hd : recs.getD q (0, ⟨#[]⟩) = recs[q] := by simp [List.getD, List.getElem?_eq_getElem hlt]
                        have hg : goneR fi (recs.drop q) = if recs[q].1 < fi then goneR fi (recs.drop (q + 1)) + 1 else 0 := by rw [List.drop_eq_getElem_cons hlt, goneR]
                        refine ⟨decide (recs[q].1 < fi), fun h => ⟨hlt, ?_⟩, fun h => ?_, fun _ => by rw [hd], fun h => absurd hlt h⟩
                        · rw [hg, if_pos (of_decide_eq_true h)]
                        · rw [hg, if_neg (of_decide_eq_false h)]
                      · refine ⟨false, fun h => (by cases h), fun _ => ?_, fun h => absurd h hlt, fun _ => rfl⟩
                        rw [List.drop_of_length_le (by omega)]; rfl
                    go_upto_region 38 with fail
                    go_cut [202] (fun s202 wx => s202 = .bool bq ∧ w9 = wx)
                    case first =>
                      by_cases hlt : q < recs.length
                      · obtain ⟨g2, o2, e2, hcx, _⟩ := HRA9.out q _ (List.getElem?_eq_getElem hlt)
                        injection e2 with e2
                        injection e2 with e3 e4
                        subst e3
                        subst e4
                        rw [Nat.zero_add] at hcx
                        have HB3 : Hid (bq = decide (recs[q].1 < fi)) := by
                          have h := HBQ.out.2.2.1 hlt
                          rw [show recs.getD q (0, ⟨#[]⟩) = recs[q] by simp [List.getD, List.getElem?_eq_getElem hlt]] at h
                          exact h
                        generalize recs[q] = y at hcx HB3
                        by_cases hy : (y.1 : Int) < (fi : Int)
                        · go_wp2_with fail
                          go_meet
                          exact ⟨congrArg Value.bool (by rw [HB3.out, decide_eq_true (show y.1 < fi by omega)]), rfl⟩
                        · go_wp2_with fail
                          go_meet
                          exact ⟨congrArg Value.bool (by rw [HB3.out, decide_eq_false (show ¬ y.1 < fi by omega)]), rfl⟩
                      · have HB3 := Lib.hid (HBQ.out.2.2.2 hlt)
                        go_wp2_with fail
                        go_meet
                        exact ⟨congrArg Value.bool HB3.out.symm, rfl⟩
                    obtain ⟨rfl, rfl⟩ := hcut
                    cases bq with
                    | true =>
                      have HQ3 : Hid (goneR fi recs = (q + 1) + goneR fi (recs.drop (q + 1)) ∧ q < recs.length) := by
                        have h := HBQ.out.1 rfl
                        refine ⟨?_, h.1⟩
                        rw [HQ.out, h.2]; omega
                      go_wp2_with fail
                      go_roundg (recs.length - (q + 1))
                      case measure => have := HQ3.out.2; omega
                      case rel => exact ⟨q + 1, by go_num, by have := HQ3.out.2; omega, rfl, HQ3.out.1, rfl⟩
                    | false =>
                      have HGN : Hid (goneR fi recs = q) := by
                        show _ = _
                        rw [HQ.out, HBQ.out.2.1 rfl]; rfl
                      go_upto_region 40 with fail
                      have hf := HF3.out
                      rw [← HFI.out, HGN.out] at hf
                      obtain ⟨hf1, hf2, hf3, hf4⟩ := hf
                      have hE : IntKind.i64.wrap ((q : Int) + (got.length : Int)) = (q : Int) + (got.length : Int) := by rw [IntKind.wrap_i64]; have := HUS.out.2; omega
                      have hi2 : ((leastR safe recs : Nat) : Int) ≤ (q : Int) + (got.length : Int) := by omega
                      have hi3 : (q : Int) + (got.length : Int) ≤ (recs.length : Int) := by omega
                      have hi4 : q + got.length ≤ cr := Nat.le_trans hf3 HCR.out
                      have HSM : Hid (∀ u, Ext w9 u → Calls Tryz.prog 38 #[.slice a6 got.length c6, .slice (some ⟨gr, q * 2, none⟩) got.length (cr - q)] u fun e w' => e = .returned (.bool true) ∧ Ext u w') := fun u k => by
                        have h1 := ((RecsAt.drop HRA9.out q).take got.length).ext k
                        rw [Nat.zero_add] at h1
                        have h := same7_any a6 c6 got (some ⟨gr, q * 2, none⟩) (cr - q) ((recs.drop q).take got.length) (by have := HGL.out; omega) u (HGA9.out.ext k) h1
                        rw [decide_eq_true hf4, List.length_take, List.length_drop, Nat.min_eq_left (by omega)] at h
                        exact h
                      have HF1 := Lib.hid hf1
                      clear hf1 hf2 hf3 hf4
                      by_cases hq0 : q = 0
                      · subst hq0
                        have hE0 : IntKind.i64.wrap (got.length : Int) = (got.length : Int) := by rw [IntKind.wrap_i64]; have := HGL.out; omega
                        have hj2 : ((leastR safe recs : Nat) : Int) ≤ (got.length : Int) := by omega
                        have hj3 : (got.length : Int) ≤ (recs.length : Int) := by omega
                        have hj4 : got.length ≤ cr := by omega
                        clear hE hi2 hi3 hi4 hqi
                        go_wp2_with fail
                        refine (HSM.out _ (Ext.refl _)).mono ?_
                        rintro e w11 ⟨rfl, hx⟩
                        have HX11 := Lib.hid (HX8.out.trans (HX9.out.trans hx))
                        clear hx
                        go_wp2_with fail
                        go_ret
                        exact ⟨rfl, HX11.out⟩
                      · have hq1 : ((q : Int) == 0) = false := by rw [beq_eq_false_iff_ne]; omega
                        have hi5 : (fi : Int) ≤ un := (HF1.out.resolve_left hq0).1
                        have hi6 : (((q : Int) + (got.length : Int)) == (recs.length : Int)) = true := by rw [beq_iff_eq]; have := (HF1.out.resolve_left hq0).2; omega
                        have hgp : 0 < got.length := by
                          rcases Nat.eq_zero_or_pos got.length with h | h
                          · exfalso
                            have h1 : got = [] := List.eq_nil_of_length_eq_zero h
                            have h2 : fi = 0 := by rw [HFI.out, h1]; rfl
                            have h3 : goneR fi recs = 0 := goneR_none _ _ (fun x _ => by omega)
                            have h4 := HGN.out
                            omega
                          · exact h
                        have hcq : ¬ cr - q = 0 := by omega
                        clear hqi hgp
                        go_wp2_with fail
                        refine (HSM.out _ (Ext.refl _)).mono ?_
                        rintro e w11 ⟨rfl, hx⟩
                        have HX11 := Lib.hid (HX8.out.trans (HX9.out.trans hx))
                        clear hx
                        go_wp2_with fail
                        go_ret
                        exact ⟨rfl, HX11.out⟩
            · have h3' : (kind == 3) = false := by rw [beq_eq_false_iff_ne]; exact h3
              have hf := HFA.out
              unfold Wal.Fair at hf
              rw [if_neg h3] at hf
              obtain ⟨hf1, hf2, hf3⟩ := hf
              have HF := Lib.hid hf3
              have hi1 : ((leastR safe recs : Nat) : Int) ≤ (got.length : Int) := by omega
              have hi2 : (got.length : Int) ≤ (recs.length : Int) := by omega
              have hi3 : got.length ≤ cr := Nat.le_trans hf2 hz1
              have HSM : Hid (Calls Tryz.prog 38 #[.slice a6 got.length c6, .slice ar got.length cr] w9 fun e w' => e = .returned (.bool true) ∧ Ext w9 w') := by
                have h1 := HRA9.out.take got.length
                have h := same7_any a6 c6 got ar cr (recs.take got.length) (by have := HGL.out; omega) w9 HGA9.out h1
                rw [decide_eq_true hf3, List.length_take, Nat.min_eq_left hf2] at h
                exact h
              clear hf1 hf3
              cases ar with
              | none =>
                go_wp2_with fail
                refine HSM.out.mono ?_
                rintro e w11 ⟨rfl, hx⟩
                have HX11 := Lib.hid (HX8.out.trans (HX9.out.trans hx))
                clear hx
                go_wp2_with fail
                go_ret
                exact ⟨rfl, HX11.out⟩
              | some ar =>
                go_wp2_with fail
                refine HSM.out.mono ?_
                rintro e w11 ⟨rfl, hx⟩
                have HX11 := Lib.hid (HX8.out.trans (HX9.out.trans hx))
                clear hx
                go_wp2_with fail
                go_ret
                exact ⟨rfl, HX11.out⟩
end Go.Proofs.YtmdkjcigmhgpeaaGreatDoor
