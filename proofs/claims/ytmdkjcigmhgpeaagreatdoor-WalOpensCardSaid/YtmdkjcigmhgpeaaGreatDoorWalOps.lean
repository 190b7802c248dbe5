/- The walks of wal's Commit, Rotate, Forget. -/
import Derived.Test.YtmdkjcigmhgpeaaGreatDoorWalSegs
namespace Go.Proofs.YtmdkjcigmhgpeaaGreatDoor
open Go.RowKit Snp SealMath Dsk Wal

theorem LogAt.place {w : World} {b d : Nat} {name : ByteArray} {M : LG} (h : LogAt w b d name M) (f : ByteArray) (z nx : Nat) (x : Int) (hx : x = (nx : Nat)) :
    LogAt ((((w.setCell ⟨b, 0, none⟩ (.string f)).setCell ⟨b, 1, none⟩ (.int .i64 (z : Nat))).setCell ⟨b, 2, none⟩ (.int .i64 x)).setCell ⟨b, 3, none⟩ (.bool false)) b d name ⟨f, z, nx, false, M.safe, M.err⟩ := by
  subst hx
  have := Go.Joins.block_setCell (i := 3) (Go.Joins.block_setCell (i := 2) (Go.Joins.block_setCell (i := 1) (Go.Joins.block_setCell (i := 0) h (.string f)) (.int .i64 (z : Nat))) (.int .i64 (nx : Nat))) (.bool false)
  simpa [LogAt, lcells] using this
/-- What a use of the log answers and leaves. -/
def WDone (F : Nat → Prop) (b d : Nat) (name : ByteArray) (w : World) (R : Nat × LG × DS) (e : Ending) (w' : World) : Prop :=
  e = .returned (.int .i64 (R.1 : Nat)) ∧ LogAt w' b d name R.2.1 ∧ DiskAt w' d R.2.2 (More F w) ∧ Only (fun x => F x ∨ x = b) w w'
set_option maxRecDepth 20000 in
set_option maxHeartbeats 4000000 in
theorem lcommit_any (b d : Nat) (name : ByteArray) (L : LG) (S : DS) (F : Nat → Prop) (hu : S.uses < 4611686018427387904) (hfs : L.file.size ≤ 140737488355328) (w : World) (h : DiskAt w d S F) (hl : LogAt w b d name L) (hFb : ¬ F b) :
    Calls Tryz.prog 36 #[.pointer (some ⟨b, 0, none⟩)] w (WDone F b d name w (commitW S L)) := by
  have hcall := lerr_any b d name L w hl
  obtain ⟨file, size, next, fresh, safe, err⟩ := L
  have c0 := hl.c0
  have c2 := hl.c2
  have c4 := hl.c4
  have c6 := hl.c6
  have q6 := hl.free 6
  simp only at hcall c0 c2 c6 hfs
  have HL := Lib.hid hl
  have HD := Lib.hid h
  have HFB := Lib.hid hFb
  have HC : Hid (commitW S ⟨file, size, next, fresh, safe, err⟩ = if err ≠ 0 ∨ safe = next then (err, ⟨file, size, next, fresh, safe, err⟩, S) else if (sync S [file]).1 = 0 then (0, ⟨file, size, next, fresh, next, err⟩, (sync S [file]).2) else ((sync S [file]).1, ⟨file, size, next, fresh, safe, (sync S [file]).1⟩, (sync S [file]).2)) := rfl
  generalize commitW S ⟨file, size, next, fresh, safe, err⟩ = R at HC ⊢
  clear hl h hFb
  by_cases he : err = 0
  · subst he
    by_cases hs : safe = next
    · have hs1 : ((safe : Int) == (next : Int)) = true := by rw [beq_iff_eq]; omega
      have hs2 : (safe : Int) = (next : Int) := by omega
      have HR : Hid (R = (0, ⟨file, size, next, fresh, safe, 0⟩, S)) := by rw [HC.out]; exact if_pos (.inr hs)
      go_enter Tryz.func36, Tryz.ntmps36
      go_wp2_with fail
      refine hcall.mono ?_
      clear hcall
      rintro e w1 ⟨rfl, rfl⟩
      go_wp2_with fail
      go_quiet (fail)
      generalize hw5 : w.drewN nq = w5
      have hx5 : Ext w w5 := by rw [← hw5]; exact (Ext.refl w).drewN _
      have HX5 := Lib.hid hx5
      clear hw5
      go_wp2_with fail
      go_ret
      rw [HR.out]
      exact ⟨rfl, HL.out.ext HX5.out, (HD.out.ext HX5.out).mono (fun x _ hx => .inl hx), Only.ext HX5.out⟩
    · have hs1 : ((safe : Int) == (next : Int)) = false := by rw [beq_eq_false_iff_ne]; omega
      have hs2 : ¬ (safe : Int) = (next : Int) := by omega
      have HR : Hid (R = if (sync S [file]).1 = 0 then (0, ⟨file, size, next, fresh, next, 0⟩, (sync S [file]).2) else ((sync S [file]).1, ⟨file, size, next, fresh, safe, (sync S [file]).1⟩, (sync S [file]).2)) := by
        rw [HC.out]
        exact if_neg (by rintro (k | k); exact k rfl; exact hs k)
      go_enter Tryz.func36, Tryz.ntmps36
      go_wp2_with fail
      refine hcall.mono ?_
      clear hcall
      rintro e w1 ⟨rfl, rfl⟩
      go_wp2_with fail
      go_quiet (fail)
      generalize hw5 : w.drewN nq = w5
      have hx5 : Ext w w5 := by rw [← hw5]; exact (Ext.refl w).drewN _
      have HX5 := Lib.hid hx5
      clear hw5
      have c4 := Ext.cell hx5 c4
      have c0 := Ext.cell hx5 c0
      have HD5 : Hid (DiskAt w5 d S (fun x => F x ∧ x < w.heap.size)) := (disk_small HD.out).ext hx5
      have HNF : Hid (∀ bk o, (some ⟨w5.heap.size, 0, none⟩ : Option Addr) = some ⟨bk, o, none⟩ → ¬ (F bk ∧ bk < w.heap.size)) := fun bk o e h => by
        injection e with e; injection e with e1 _
        have := hx5.size
        omega
      have HU : Hid (S.uses < 4611686018427387904) := hu
      have HFS : Hid (∀ x ∈ [file], x.size ≤ 140737488355328) := by intro x hx; simp at hx; rw [hx]; exact hfs
      go_wp2_with fail
      go_region_held3 (fun u => u.cell? ⟨b, 4, none⟩ = some (.pointer (some ⟨d, 0, none⟩)) ∧ u.cell? ⟨b, 0, none⟩ = some (.string file))
        (first | exact ⟨c4, c0⟩ | exact ⟨Ext.cell ((Ext.refl _).alloc _) c4, Ext.cell ((Ext.refl _).alloc _) c0⟩ | exact ⟨Ext.cell (((Ext.refl _).drew).alloc _) c4, Ext.cell (((Ext.refl _).drew).alloc _) c0⟩ | exact ⟨Only.cell ho6 c4 (fun h => HFB.out h.1), Only.cell ho6 c0 (fun h => HFB.out h.1)⟩)
        (first | (go_at_call 20; refine (sync_any d S (fun x => F x ∧ x < w.heap.size) (some ⟨w5.heap.size, 0, none⟩) 1 [file] (by simp) HFS.out HU.out _ (HD5.out.ext (by first | exact (Ext.refl _).alloc _ | exact ((Ext.refl _).alloc _).drew | exact ((Ext.refl _).drew).alloc _)) (by first | exact StrsAt.one _ _ _ | exact (StrsAt.one _ _ _).drew) HNF.out).mono ?_; rintro e v ⟨rfl, hd6, ho60⟩; have ho6 : Only (fun x => F x ∧ x < w.heap.size) w5 v := Only.andThen (Only.ext (by first | exact (Ext.refl _).alloc _ | exact ((Ext.refl _).alloc _).drew | exact ((Ext.refl _).drew).alloc _)) ho60))
      have HON : Hid (Only (fun x => F x ∧ x < w.heap.size) w v) := (Only.ext HX5.out).andThen ho6
      have HD6 := Lib.hid hd6
      have HL6 : Hid (LogAt v b d name ⟨file, size, next, fresh, safe, 0⟩) := HL.out.only HON.out (fun h => HFB.out h.1)
      have c2 := HL6.out.c2
      have c6 := HL6.out.c6
      have q6 := HL6.out.free 6
      simp only at c2 c6
      clear ho6 ho60 hd6 c4 c0
      generalize sync S [file] = qs at HD6 HR
      obtain ⟨es, T⟩ := qs
      by_cases hes : es = 0
      · subst hes
        have HRF : Hid (R = (0, ⟨file, size, next, fresh, next, 0⟩, T)) := by rw [HR.out]; rfl
        go_wp2_with fail
        go_ret
        rw [HRF.out]
        refine ⟨rfl, ?_, ?_, ?_⟩
        · have := Go.Joins.block_setCell (i := 6) HL6.out (.int .i64 (next : Nat))
          simpa [LogAt, lcells] using this
        · exact (HD6.out.only ((Only.refl (fun x => x = b) v).at _ _) (fun x hx e => HFB.out (e ▸ hx.1))).mono (fun x _ hx => .inl hx.1)
        · exact (HON.out.mono (fun x _ h => .inl h.1)).andThen (((Only.refl (fun x => x = b) v).at _ _).mono (fun x _ h => .inr h))
      · have hes2 : ((es : Int) != 0) = true := by rw [bne_iff_ne]; omega
        have HRF : Hid (R = (es, ⟨file, size, next, fresh, safe, es⟩, T)) := by rw [HR.out]; exact if_neg hes
        have hstay := stays_any b d name ⟨file, size, next, fresh, safe, 0⟩ es v HL6.out
        go_wp2_with fail
        refine hstay.mono ?_
        clear hstay
        rintro e w8 ⟨rfl, hl8, ho8⟩
        have HL8 := Lib.hid hl8
        have HO8 := Lib.hid ho8
        clear hl8 ho8
        go_wp2_with fail
        go_ret
        rw [HRF.out]
        exact ⟨rfl, HL8.out, (HD6.out.only HO8.out (fun x hx e => HFB.out (e ▸ hx.1))).mono (fun x _ hx => .inl hx.1), (HON.out.mono (fun x _ h => .inl h.1)).andThen (HO8.out.mono (fun x _ h => .inr h))⟩
  · have he1 : ((err : Int) != 0) = true := by rw [bne_iff_ne]; omega
    have HR : Hid (R = (err, ⟨file, size, next, fresh, safe, err⟩, S)) := by rw [HC.out]; exact if_pos (.inl he)
    go_enter Tryz.func36, Tryz.ntmps36
    go_wp2_with fail
    refine hcall.mono ?_
    clear hcall
    rintro e w1 ⟨rfl, rfl⟩
    go_wp2_with fail
    go_quiet (fail)
    generalize hw5 : w.drewN nq = w5
    have hx5 : Ext w w5 := by rw [← hw5]; exact (Ext.refl w).drewN _
    have HX5 := Lib.hid hx5
    clear hw5
    go_wp2_with fail
    go_ret
    rw [HR.out]
    exact ⟨rfl, HL.out.ext HX5.out, (HD.out.ext HX5.out).mono (fun x _ hx => .inl hx), Only.ext HX5.out⟩
set_option maxRecDepth 20000 in
set_option maxHeartbeats 4000000 in
theorem lrotate_any (b d : Nat) (name : ByteArray) (L : LG) (S : DS) (F : Nat → Prop) (hu : S.uses < 4611686018427387904) (hfs : L.file.size ≤ 140737488355328) (w : World) (h : DiskAt w d S F) (hl : LogAt w b d name L) (hFb : ¬ F b) :
    Calls Tryz.prog 48 #[.pointer (some ⟨b, 0, none⟩)] w (WDone F b d name w (rotateW S L)) := by
  have hcall := lcommit_any b d name L S F hu hfs w h hl hFb
  have HB : Hid (b < w.heap.size) := lt_of_heap hl
  have HFB := Lib.hid hFb
  clear h hl hu hfs hFb
  unfold rotateW
  unfold WDone at hcall
  generalize commitW S L = q at hcall
  obtain ⟨e, M, T⟩ := q
  simp only at hcall ⊢
  by_cases he : e = 0
  · subst he
    go_enter Tryz.func48, Tryz.ntmps48
    go_wp2_with fail
    refine hcall.mono ?_
    clear hcall
    rintro e w1 ⟨rfl, hl, hd, ho⟩
    have c1 := hl.c1
    have c3 := hl.c3
    have q3 := hl.free 3
    have HL := Lib.hid hl
    have HD := Lib.hid hd
    have HO := Lib.hid ho
    clear hl hd ho
    go_wp2_with fail
    go_ret
    have hz : decide ((0 : Int) < (M.size : Int)) = decide (0 < M.size) := by rw [Bool.eq_iff_iff, decide_eq_true_eq, decide_eq_true_eq]; omega
    refine ⟨rfl, ?_, ?_, ?_⟩
    · have := Go.Joins.block_setCell (i := 3) HL.out (.bool (decide ((0 : Int) < (M.size : Int))))
      rw [hz] at this
      simpa [LogAt, lcells] using this
    · exact HD.out.only ((Only.refl (fun x => x = b) w1).at _ _) (fun x hx e => by
        subst e
        rcases hx with hx | hx
        · exact HFB.out hx
        · have := HB.out; omega)
    · exact HO.out.andThen (((Only.refl (fun x => x = b) w1).at _ _).mono (fun x _ h => .inr h))
  · have he2 : ((e : Int) != 0) = true := by rw [bne_iff_ne]; omega
    rw [if_neg he]
    clear he
    go_enter Tryz.func48, Tryz.ntmps48
    go_wp2_with fail
    refine hcall.mono ?_
    clear hcall
    rintro e w1 ⟨rfl, hl, hd, ho⟩
    have HL := Lib.hid hl
    have HD := Lib.hid hd
    have HO := Lib.hid ho
    clear hl hd ho
    go_wp2_with fail
    go_ret
    exact ⟨rfl, HL.out, HD.out, HO.out⟩
theorem commit_err (S : DS) (L : LG) (h : (commitW S L).1 = 0) : (commitW S L).2.1.err = 0 := by
  unfold commitW at h ⊢
  by_cases h1 : L.err ≠ 0 ∨ L.safe = L.next
  · rw [if_pos h1] at h ⊢; exact h
  · rw [if_neg h1] at h ⊢
    have h0 : L.err = 0 := Classical.byContradiction (fun k => h1 (.inl k))
    by_cases h2 : (sync S [L.file]).1 = 0
    · rw [if_pos h2]; exact h0
    · rw [if_neg h2] at h; exact absurd h h2
theorem commit_next (S : DS) (L : LG) : (commitW S L).2.1.next = L.next := by
  unfold commitW
  split
  · rfl
  · split <;> rfl
theorem commit_uses (S : DS) (L : LG) : (commitW S L).2.2.uses ≤ S.uses + 1 := by
  unfold commitW
  split
  · exact Nat.le_succ _
  · split
    · exact sync_uses _ _
    · exact sync_uses _ _
theorem commit_files (S : DS) (L : LG) : (commitW S L).2.2.files.length = S.files.length := by
  have key : ∀ ns, (sync S ns).2.files.length = S.files.length := fun ns => by
    unfold Dsk.sync
    split
    · show (S.files.map (keepOne ns)).length = _; simp
    · rw [there_snd, (use_files S).1]
  unfold commitW
  split
  · rfl
  · split <;> exact key _
set_option maxRecDepth 20000 in
set_option maxHeartbeats 4000000 in
theorem lforget_any (b d : Nat) (name : ByteArray) (hname : name.size ≤ 6) (below : Int) (L : LG) (S : DS) (F : Nat → Prop) (hu : S.uses + 200 < 4611686018427387904) (hfs : L.file.size ≤ 140737488355328) (w : World) (h : DiskAt w d S F) (hl : LogAt w b d name L) (hFb : ¬ F b) :
    Calls Tryz.prog 49 #[.pointer (some ⟨b, 0, none⟩), .int .i64 below] w (WDone F b d name w (forgetW name below S L)) := by
  have hcall := lcommit_any b d name L S F (by omega) hfs w h hl hFb
  have HCE := Lib.hid (commit_err S L)
  have hcu := commit_uses S L
  have HB : Hid (b < w.heap.size) := lt_of_heap hl
  have HFB := Lib.hid hFb
  clear h hl hfs hFb
  unfold forgetW
  unfold WDone at hcall
  generalize commitW S L = q at hcall HCE hcu
  obtain ⟨e, M, T⟩ := q
  simp only at hcall hcu ⊢
  by_cases he : e = 0
  · subst he
    have HME : Hid (M.err = 0) := HCE.out rfl
    go_enter Tryz.func49, Tryz.ntmps49
    go_wp2_with fail
    refine hcall.mono ?_
    clear hcall
    rintro e w1 ⟨rfl, hl, hd, ho⟩
    have hseg := segments_any b d name hname T (More F w) w1 hl.c4 hl.c5 hd
    have hcnt := segs_length T name
    have hmany := hd.good.many
    have HSE := Lib.hid (fun n => @segs_le T name n)
    have HL := Lib.hid hl
    have HD := Lib.hid hd
    have HO := Lib.hid ho
    clear hl hd ho HCE
    go_wp2_with fail
    refine hseg.mono ?_
    clear hseg
    rintro e w2 ⟨v1, v2, rfl, hf, hn, hx⟩
    have HR0 : Hid (forgetL name below (segs T name) T = forgetL name below (segs T name) T) := rfl
    generalize hRR : forgetL name below (segs T name) T = R at HR0 ⊢
    clear HR0
    have HR0 := Lib.hid hRR
    clear hRR
    generalize segs T name = ns at *
    have hltf := World.ownsRow.lt hf
    obtain ⟨af, cf, rfl, _, _, hfs⟩ := hf.form
    obtain ⟨an, cn, rfl, hns, hnlt⟩ := hn.form2
    have HX := Lib.hid hx
    have HFS := Lib.hid hfs
    have HNS : Hid (∀ (j n : Nat), ns[j]? = some n → ∃ g, an = some ⟨g, 0, none⟩ ∧ w2.cell? ⟨g, j, none⟩ = some (.int .i64 (n : Int))) := hns
    have HZ1 : Hid (w.heap.size ≤ w1.heap.size) := HO.out.size
    have HZ2 : Hid (w1.heap.size ≤ w2.heap.size) := hx.size
    obtain ⟨G, HG⟩ : ∃ G : Nat → Prop, Hid (G = fun x => (More F w x ∧ x < w1.heap.size) ∨ w2.heap.size ≤ x) := ⟨_, rfl⟩
    have HFG : Hid (∀ bk o, af = some ⟨bk, o, none⟩ → ¬ G bk) := fun bk o e h => by
      subst e
      have := hltf bk rfl
      rw [HG.out] at h
      rcases h with h | h
      · have := h.2; omega
      · omega
    have HNG : Hid (∀ bk o, an = some ⟨bk, o, none⟩ → ¬ G bk) := fun bk o e h => by
      have := hnlt bk o e
      rw [HG.out] at h
      rcases h with h | h
      · have := h.2; omega
      · omega
    have HGB : Hid (¬ G b) := fun h => by
      rw [HG.out] at h
      have := HB.out
      have := HZ1.out
      have := HZ2.out
      rcases h with ⟨h | h, _⟩ | h
      · exact HFB.out h
      · omega
      · omega
    have HD2 : Hid (DiskAt w2 d T G) := by
      show DiskAt _ _ _ _
      rw [HG.out]
      exact ((disk_small HD.out).ext hx).mono (fun x _ hx => .inl hx)
    have HGF : Hid (∀ x, G x → More F w x) := fun x h => by
      rw [HG.out] at h
      rcases h with h | h
      · exact h.1
      · exact .inr (by have := HZ1.out; have := HZ2.out; omega)
    have HGZ : Hid (∀ x, w2.heap.size ≤ x → G x) := fun x h => by rw [HG.out]; exact .inr h
    have HL2 : Hid (LogAt w2 b d name M) := HL.out.ext hx
    have HO2 : Hid (Only (fun x => F x ∨ x = b) w w2) := HO.out.andThen (Only.ext hx)
    clear hltf hfs hns hnlt hx hf hn
    go_wp2_with fail
    go_loopg [8] (ns.length) (fun g i wr => ∃ (k : Nat) (U : DS), i = .int .i64 k ∧ k ≤ ns.length ∧ g = ns.length - k ∧ U.uses ≤ S.uses + 1 + k ∧ Hid (forgetL name below (ns.drop k) U = R) ∧ Hid (DiskAt wr d U G) ∧ Hid (Only G w2 wr))
    case atStart => exact ⟨0, T, rfl, Nat.zero_le _, rfl, hcu, HR0, HD2, Only.refl _ _⟩
    case round =>
      obtain ⟨k, U, rfl, hk, rfl, hku, HR, HDU, HON⟩ := hrel
      have hwk : IntKind.i64.wrap ((k : Int) + 1) = (k : Int) + 1 := by rw [IntKind.wrap_i64]; omega
      have hkt : ((k : Int) + 1).toNat = k + 1 := by omega
      have hk0 : (0 : Int) ≤ (k : Int) + 1 := by omega
      have HDONE : Hid ((¬ ((k : Int) + 1 < (ns.length : Int)) ∨ ∃ m, ns[k + 1]? = some m ∧ ¬ (m : Int) ≤ below) → R = (0, U)) := fun h => by
        rw [← HR.out]
        rcases h with h | ⟨m, hm, hb⟩
        · cases hd : ns.drop k with
          | nil => rfl
          | cons n r =>
            have hl := congrArg List.length hd
            rw [List.length_drop, List.length_cons] at hl
            have : r = [] := List.eq_nil_of_length_eq_zero (by omega)
            subst this; rfl
        · have hk1 : k + 1 < ns.length := (List.getElem?_eq_some_iff.1 hm).1
          rw [List.drop_eq_getElem_cons (show k < ns.length by omega), List.drop_eq_getElem_cons hk1, (List.getElem?_eq_some_iff.1 hm).2, forgetL, if_neg hb]
      by_cases hk1 : (k : Int) + 1 < (ns.length : Int)
      · have hd1 : decide ((k : Int) + 1 < (ns.length : Int)) = true := decide_eq_true hk1
        have hmk : ns[k + 1]? = some (ns[k + 1]'(by omega)) := List.getElem?_eq_getElem (by omega)
        obtain ⟨gn, rfl, hcm0⟩ := HNS.out (k + 1) _ hmk
        have hcm := HON.out.cell hcm0 (HNG.out gn 0 rfl)
        have HMK := Lib.hid hmk
        clear hcm0 hmk
        generalize (ns[k + 1]'(by omega)) = m at hcm HMK
        by_cases hb : (m : Int) ≤ below
        · have hkl : k < ns.length := by omega
          have hfk : (ns.map (seg name))[k]? = some (seg name ns[k]) := by rw [List.getElem?_map, List.getElem?_eq_getElem hkl]; rfl
          obtain ⟨bk, o, rfl, _, hcell⟩ := (HFS.out.only HON.out HFG.out) k _ hfk
          have hle : ns[k] ≤ 99999999 := HSE.out _ (List.getElem_mem hkl)
          have hsz : (seg name ns[k]).size ≤ 140737488355328 := by rw [seg_size _ _ hle]; omega
          have HST : Hid ((if (delete U (seg name ns[k])).1 = 0 then forgetL name below (ns.drop (k + 1)) (delete U (seg name ns[k])).2 else delete U (seg name ns[k])) = R) := by
            show _ = _
            have hk2 : k + 1 < ns.length := by omega
            have := HR.out
            rw [List.drop_eq_getElem_cons hkl, List.drop_eq_getElem_cons hk2, forgetL, (show ns[k + 1] = m from (List.getElem?_eq_some_iff.1 HMK.out).2), if_pos hb] at this
            rw [← this, List.drop_eq_getElem_cons hk2, (show ns[k + 1] = m from (List.getElem?_eq_some_iff.1 HMK.out).2)]
          clear hfk hle
          generalize seg name ns[k] = fl at hcell hsz HST
          have c4 := (HL2.out.only HON.out HGB.out).c4
          have HUU := Lib.hid (delete_uses U fl)
          have HDC : Hid (∀ u, Ext wr u → Calls Tryz.prog 79 #[.pointer (some ⟨d, 0, none⟩), .string fl] u fun e w' => e = .returned (.int .i64 ((delete U fl).1 : Nat)) ∧ Left G d u (delete U fl).2 w') := fun u hu2 => delete_any d U G fl hsz (by omega) u (HDU.out.ext hu2)
          generalize delete U fl = qd at HST HDC HUU
          obtain ⟨ed, V⟩ := qd
          go_wp2_with fail
          go_region_held3 (fun u => u.cell? ⟨b, 4, none⟩ = some (.pointer (some ⟨d, 0, none⟩)) ∧ u.cell? ⟨bk, o + k, none⟩ = some (.string fl))
            (first | exact ⟨c4, hcell⟩ | exact ⟨Only.cell hl6.2 (Ext.cell (by first | exact Ext.refl _ | exact (Ext.refl _).drew) c4) HGB.out, Only.cell hl6.2 (Ext.cell (by first | exact Ext.refl _ | exact (Ext.refl _).drew) hcell) (HFG.out _ _ rfl)⟩)
            (first | (go_at_call 79; refine (HDC.out _ (by first | exact Ext.refl _ | exact (Ext.refl _).drew)).mono ?_; rintro e v ⟨rfl, hl6⟩))
          have HON6 : Hid (Only G w2 v) := HON.out.andThen ((Only.ext (by first | exact Ext.refl _ | exact (Ext.refl _).drew)).andThen hl6.2)
          have HD6 : Hid (DiskAt v d V G) := hl6.1.mono (fun x _ hx => by
            rcases hx with hx | hx
            · exact hx
            · refine HGZ.out x ?_
              have h1 := HON.out.size
              have h2 : wr.drew.heap.size = wr.heap.size := rfl
              omega)
          have HL6 : Hid (LogAt v b d name M) := HL2.out.only HON6.out HGB.out
          clear hl6 c4 hcell hcm
          by_cases hed : ed = 0
          · subst hed
            have HRN : Hid (forgetL name below (ns.drop (k + 1)) V = R) := by rw [← HST.out]; rfl
            go_wp2_with fail
            go_roundg (ns.length - (k + 1))
            case measure => omega
            case rel => exact ⟨k + 1, V, by go_num, by omega, rfl, by have h1 : V.uses ≤ U.uses + 1 := HUU.out; omega, HRN, HD6, HON6⟩
          · have hed2 : ((ed : Int) != 0) = true := by rw [bne_iff_ne]; omega
            have HRF : Hid (R = (ed, V)) := by rw [← HST.out]; exact if_neg hed
            have hstay := stays_any b d name M ed v HL6.out
            go_wp2_with fail
            refine hstay.mono ?_
            clear hstay
            rintro e w8 ⟨rfl, hl8, ho8⟩
            have HL8 := Lib.hid hl8
            have HO8 := Lib.hid ho8
            clear hl8 ho8
            go_wp2_with fail
            go_ret
            rw [HR0.out, HRF.out]
            refine ⟨rfl, HL8.out, ?_, ?_⟩
            · exact (HD6.out.only HO8.out (fun x hx e => HGB.out (e ▸ hx))).mono (fun x _ hx => HGF.out x hx)
            · exact (HO2.out.trans (HON6.out.mono (fun x _ hx => (HGF.out x hx).imp (fun h => .inl h) id))).andThen (HO8.out.mono (fun x _ h => .inr h))
        · have HRF : Hid (R = (0, U)) := HDONE.out (.inr ⟨m, HMK.out, hb⟩)
          go_wp2_with fail
          go_ret
          rw [HR0.out, HRF.out]
          refine ⟨rfl, ?_, HDU.out.mono (fun x _ hx => HGF.out x hx), HO2.out.trans (HON.out.mono (fun x _ hx => (HGF.out x hx).imp (fun h => .inl h) id))⟩
          have := HL2.out.only HON.out HGB.out
          obtain ⟨f1, f2, f3, f4, f5, f6⟩ := M
          have e0 : f6 = 0 := HME.out
          subst e0
          exact this
      · have hd1 : decide ((k : Int) + 1 < (ns.length : Int)) = false := decide_eq_false hk1
        have HRF : Hid (R = (0, U)) := HDONE.out (.inl hk1)
        go_wp2_with fail
        go_ret
        rw [HR0.out, HRF.out]
        refine ⟨rfl, ?_, HDU.out.mono (fun x _ hx => HGF.out x hx), HO2.out.trans (HON.out.mono (fun x _ hx => (HGF.out x hx).imp (fun h => .inl h) id))⟩
        have := HL2.out.only HON.out HGB.out
        obtain ⟨f1, f2, f3, f4, f5, f6⟩ := M
        have e0 : f6 = 0 := HME.out
        subst e0
        exact this
  · have he2 : ((e : Int) != 0) = true := by rw [bne_iff_ne]; omega
    rw [if_neg he]
    clear he HCE
    go_enter Tryz.func49, Tryz.ntmps49
    go_wp2_with fail
    refine hcall.mono ?_
    clear hcall
    rintro e w1 ⟨rfl, hl, hd, ho⟩
    have HL := Lib.hid hl
    have HD := Lib.hid hd
    have HO := Lib.hid ho
    clear hl hd ho
    go_wp2_with fail
    go_ret
    exact ⟨rfl, HL.out, HD.out, HO.out⟩
end Go.Proofs.YtmdkjcigmhgpeaaGreatDoor
