/- The walk of wal.load: all segments are read (printed by gen_load.py). -/
import Derived.Test.YtmdkjcigmhgpeaaGreatDoorWalOps
namespace Go.Proofs.YtmdkjcigmhgpeaaGreatDoor
open Go.RowKit Snp SealMath Dsk Wal

theorem Only.of_below {B : Nat} {w w' : World} (h : Below B w w') : Only (fun x => B ≤ x) w w' := ⟨h.os, h.tape, h.output, h.size, fun k _ hF => h.block k (by omega)⟩
theorem wpList_append_recs {w : World} {ops : Array Oper} {rest : List Oper} {o : Oper} {a : Go.Act} {Q : Exit → Go.Act → World → Prop} (hgd : o.guard = none) (s x : Operand)
    (ho : o.op = .call { callee := .builtin .append, args := #[s, x], argTypes := #[61, 61] }) (base : Nat) (v : Value) (xs ys : List RC) (hs : a.eval s = v) (hown : OwnRecs w base v xs)
    (B : Nat) (y : Value) (hx : a.eval x = y) (hsrc : OwnRecs w B y ys) (hb : base ≤ w.heap.size) (hL : xs.length + ys.length ≤ 1000000000)
    (h : ∀ v' w', OwnRecs w' base v' (xs ++ ys) → Below base w w' → wpList Tryz.prog ops Q rest (a.put o.dst v') w') :
    wpList Tryz.prog ops Q (o :: rest) a w := by
  obtain ⟨j0, hj1, hz0, hz1, hz2⟩ := info_parts info_rec
  have hsrc' := hsrc
  obtain ⟨_, hn | ⟨g, cap, cur, rfl, hB, hg, h1, h2, h3, h4⟩⟩ := hsrc
  · have hy : ys = [] := List.eq_nil_of_length_eq_zero hn.2
    subst hy
    rw [hn.1] at hx
    unfold OwnRecs at hown
    refine wpList_append_own_none hgd s x 61 ho base 68 j0 2 Tryz.underlying61 hj1 v _ _ hs hown hx (h v w ?_ (Below.refl _ _))
    unfold OwnRecs
    rw [List.append_nil]
    exact hown
  · have hown' := hown
    unfold OwnRecs at hown
    refine wpList_append_own _ hgd s x 61 ho base 68 j0 (.agg #[.int .i64 0, .string ⟨#[]⟩]) 2 24 Tryz.underlying61 hj1 hz0 hz1 hz2 rfl (by decide) v _ _ hs hown ⟨g, 0, none⟩ ys.length cap (rrows ys) hx (rrows_length _) ?_ (rrows_ones _) (by unfold maxLen; omega) (by omega) hb ?_
    · intro j u hj
      exact World.ownsRow.cells hsrc' (g := g) rfl _ _ hj
    · intro v' w' hown2 hg2 _
      refine h v' w' ?_ (Below.grown (Below.refl base w) hg2 hb (fun k e => (hown.lt k e).1))
      unfold OwnRecs
      rw [List.length_append, rrows_append]
      exact hown2
theorem OwnRecs.only {G : Nat → Prop} {w w' : World} {B : Nat} {v : Value} {l : List RC} (h : OwnRecs w B v l) (k : Only G w w') (hG : ∀ g, v.ownBlock = some g → ¬ G g) : OwnRecs w' B v l := by
  obtain ⟨h0, h | ⟨g, cap, cur, rfl, hB, hg, h1, h2, h3, h4⟩⟩ := h
  · exact ⟨h0, .inl h⟩
  · exact ⟨h0, .inr ⟨g, cap, cur, rfl, hB, (k.block g (lt_of_heap hg) (hG g rfl)).trans hg, h1, h2, h3, h4⟩⟩
theorem OwnRecs.lt {w : World} {B : Nat} {v : Value} {l : List RC} (h : OwnRecs w B v l) : ∀ g, v.ownBlock = some g → B ≤ g ∧ g < w.heap.size := World.ownsRow.lt h
/-- What load leaves. -/
def LoadLDone (b d : Nat) (name : ByteArray) (F : Nat → Prop) (R : Nat × List RC × LG × DS) (w : World) (e : Ending) (w' : World) : Prop :=
  ∃ v L, e = .returned (.tuple #[v, .int .i64 (R.1 : Nat)]) ∧ OwnRecs w' w.heap.size v R.2.1 ∧ LogAt w' b d name L ∧ (R.1 = 0 → L = R.2.2.1) ∧
    (∃ G, DiskAt w' d R.2.2.2 G ∧ (∀ x, G x → (F x ∧ x < w.heap.size) ∨ w.heap.size ≤ x) ∧ (∀ g, v.ownBlock = some g → ¬ G g)) ∧ Only (fun x => F x ∨ x = b) w w'
/-- A loop's state, once more: what is still to be done, or what was done. -/
def LoadAt (name : ByteArray) (S : DS) (ns : List Nat) (R : Nat × List RC × LG × DS) (k : Nat) (out : List RC) (M : LG) (T : DS) : Prop :=
  (k < ns.length → T = S ∧ loadL name S (ns.drop k) out M = R) ∧ (¬ k < ns.length → R = (0, out, M, T))
theorem loadL_one (name : ByteArray) (S : DS) (n : Nat) (out : List RC) (L : LG) : loadL name S [n] out L = ((lastS S (seg name n) (placed name S n L).size).1, if (lastS S (seg name n) (placed name S n L).size).1 = 0 then out ++ recsAt name S n else [], placed name S n L, (lastS S (seg name n) (placed name S n L).size).2) := rfl
theorem loadL_more (name : ByteArray) (S : DS) (n m : Nat) (r : List Nat) (out : List RC) (L : LG) : loadL name S (n :: m :: r) out L = if wholeAt name S n = true ∧ m = (placed name S n L).next then loadL name S (m :: r) (out ++ recsAt name S n) (placed name S n L) else (11, [], L, S) := rfl
theorem cut_uses (S : DS) (n : ByteArray) (k : Int) : (cut S n k).2.uses ≤ S.uses + 1 := by
  have h := (use_goes S).uses
  unfold Dsk.cut
  split
  · split
    · exact h
    · split
      · exact h
      · exact h
  · rw [there_snd]; exact h
set_option maxRecDepth 20000 in
set_option maxHeartbeats 8000000 in
theorem lload_any (b d : Nat) (name : ByteArray) (hname : name.size ≤ 6) (L : LG) (S : DS) (F : Nat → Prop) (ho : S.off = false) (hu : S.uses + 10 < 4611686018427387904) (w : World) (h : DiskAt w d S F) (hl : LogAt w b d name L) (hFb : ¬ F b) (hnb : Nibs w) (hFn : ¬ F 0) (hbn : 0 ≠ b) :
    Calls Tryz.prog 97 #[.pointer (some ⟨b, 0, none⟩)] w (LoadLDone b d name F (loadL name S (segs S name) [] L) w) := by
  have hgood := h.good
  have hcall := segments_any b d name hname S F w hl.c4 hl.c5 h
  have HSE := Lib.hid (fun n => @segs_le S name n)
  have HTH := Lib.hid (fun n => @segs_there S hgood.sorted name n)
  have hcnt := segs_length S name
  have hmany := hgood.many
  go_enter Tryz.func97, Tryz.ntmps97
  go_wp2_with fail
  refine hcall.mono ?_
  clear hcall
  rintro e w1 ⟨v1, v2, rfl, hf, hn, hx⟩
  have HRR : Hid (∀ X, loadL name S (segs S name) [] L = X → loadL name S (segs S name) [] L = X) := fun _ h => h
  generalize hR0 : loadL name S (segs S name) [] L = R
  have HR0 := Lib.hid hR0
  clear HRR hR0
  generalize segs S name = ns at *
  have hltf := World.ownsRow.lt hf
  obtain ⟨af, cf, rfl, _, _, hfs⟩ := hf.form
  obtain ⟨an, cn, rfl, hns, hnlt⟩ := hn.form2
  have hbw : b < w.heap.size := lt_of_heap hl
  have hsz1 : w.heap.size ≤ w1.heap.size := hx.size
  have HX := Lib.hid hx
  have HBL := Lib.hid hbw
  have HFS := Lib.hid hfs
  have HNS : Hid (∀ (j n : Nat), ns[j]? = some n → ∃ g, an = some ⟨g, 0, none⟩ ∧ w1.cell? ⟨g, j, none⟩ = some (.int .i64 (n : Int))) := hns
  have HFG : Hid (∀ bk o, af = some ⟨bk, o, none⟩ → ¬ ((F bk ∧ bk < w.heap.size) ∨ bk = b)) := fun bk o e => by
    subst e
    have := hltf bk rfl
    omega
  have HNG : Hid (∀ bk o, an = some ⟨bk, o, none⟩ → ¬ ((F bk ∧ bk < w.heap.size) ∨ bk = b)) := fun bk o e => by
    have := hnlt bk o e
    omega
  have HNB := Lib.hid hnb
  have HNBN : Hid (¬ ((F 0 ∧ 0 < w.heap.size) ∨ 0 = b)) := by
    show ¬ _
    rintro (⟨h1, _⟩ | h1)
    · exact hFn h1
    · exact hbn h1
  have HD1 : Hid (DiskAt w1 d S (fun x => F x ∧ x < w.heap.size)) := (disk_small h).ext hx
  have HL1 : Hid (LogAt w1 b d name L) := hl.ext hx
  have HFB := Lib.hid hFb
  clear hltf hfs hns hnlt hx hf hn h hl hnb hFn hbn hFb hbw
  go_wp2_with fail
  go_loopg [6, 24] (ns.length) (fun g v i wr => ∃ (k : Nat) (out : List RC) (M : LG) (T : DS), i = .int .i64 k ∧ k ≤ ns.length ∧ g = ns.length - k ∧ out.length ≤ 100000 * k ∧ OwnRecs wr w1.heap.size v out ∧ Hid (LogAt wr b d name M) ∧ Hid (LoadAt name S ns R k out M T) ∧
    Hid ((k < ns.length → DiskAt wr d S (fun x => F x ∧ x < w.heap.size)) ∧ ∃ G, DiskAt wr d T G ∧ (∀ x, G x → (F x ∧ x < w.heap.size) ∨ w1.heap.size ≤ x) ∧ (∀ g, v.ownBlock = some g → ¬ G g)) ∧ Hid (Only (fun x => (F x ∧ x < w.heap.size) ∨ x = b) w1 wr))
  case atStart => exact ⟨0, [], L, S, rfl, Nat.zero_le _, rfl, Nat.zero_le _, OwnRecs.nil _ _, HL1, ⟨fun _ => ⟨rfl, HR0.out⟩, fun h0 => by
      have : ns = [] := List.eq_nil_of_length_eq_zero (by omega)
      rw [← HR0.out, this]; rfl⟩, ⟨fun _ => HD1.out, _, HD1.out, fun _ hx => .inl hx, (fun _ e => by cases e)⟩, Only.refl _ _⟩
  case round =>
    obtain ⟨k, out, M, T, rfl, hk, rfl, hol, hown, HLM, HLA, HDD, HON⟩ := hrel
    by_cases hlt : k < ns.length
    · obtain ⟨rfl, hla⟩ := HLA.out.1 hlt
      have HDS := Lib.hid (HDD.out.1 hlt)
      have hnk : ns[k]? = some ns[k] := List.getElem?_eq_getElem hlt
      have hfk : (ns.map (seg name))[k]? = some (seg name ns[k]) := by rw [List.getElem?_map, hnk]; rfl
      have hle : ns[k] ≤ 99999999 := HSE.out _ (List.getElem_mem hlt)
      have hth := HTH.out _ (List.getElem_mem hlt)
      have HDR : Hid (ns.drop k = ns[k] :: ns.drop (k + 1)) := List.drop_eq_getElem_cons hlt
      rw [HDR.out] at hla
      obtain ⟨bk, o, rfl, _, hcell⟩ := (HFS.out.only HON.out HFG.out) k _ hfk
      obtain ⟨gn, rfl, hcn0⟩ := HNS.out k _ hnk
      have hgn := HNG.out gn 0 rfl
      have hcn := HON.out.cell hcn0 hgn
      have HGN := Lib.hid hgn
      have HNK := Lib.hid hnk
      have HNSN := Lib.hid hcn0
      clear hfk hgn hcn0 hnk HDR
      generalize ns[k] = n at *
      obtain ⟨f, hfget⟩ := Option.isSome_iff_exists.1 hth
      have hrd : Dsk.read T (seg name n) = (f.data, 0) := by
        unfold Dsk.read
        rw [if_neg (by simp [ho]), hfget]
      have hcs := (hgood.fine f (get_mem hfget).1).data
      have hread := read_any d T _ (seg name n) (by rw [seg_size _ _ hle]; omega) wr HDS.out
      rw [hrd] at hread
      simp only at hread
      have HRD := Lib.hid hrd
      clear hfget hrd hth
      generalize f.data = c at *
      have c4 := HLM.out.c4
      obtain ⟨av, cv, rfl, _, _, _⟩ := hown.form
      have hread8 := read8_any c hcs n hle wr (HON.out.nibs (HNB.out.ext HX.out) HNBN.out)
      obtain ⟨⟨rl, en, wh⟩, hq⟩ : ∃ q, readW (lst c) n = q := ⟨_, rfl⟩
      have hrl : rl.length ≤ 100000 := by
        have h1 := readF_length n (allL (lst c)).1
        have h2 := frames_all (lst c)
        rw [framesL_length, lst_length] at h2
        have h3 : (readF n (allL (lst c)).1).1 = rl := congrArg (·.1) hq
        rw [h3] at h1
        omega
      have HRLL := Lib.hid hrl
      have hen : en ≤ c.size := by
        have h1 := readW_end (lst c) n
        rw [hq, lst_length] at h1
        exact h1
      unfold ReadDone at hread8
      rw [hq] at hread8
      simp only at hread8
      have HQ := Lib.hid hq
      have HLAA := Lib.hid hla
      have HOW := Lib.hid hown
      have HOL := Lib.hid hol
      clear hq hla hown hol
      go_wp2_with fail
      refine hread.mono ?_
      clear hread
      rintro e w2 ⟨rfl, rfl⟩
      go_wp2_with fail
      refine hread8.mono ?_
      clear hread8
      rintro e w3 ⟨rv, rfl, hrv, hx3⟩
      obtain ⟨ra, rc, rfl, _, _, _, _, _⟩ := hrv.form
      have hnl : (num n rl).length = rl.length := num_length _ _
      have hrv' : OwnRecs w3 wr.heap.size (.slice ra rl.length rc) (num n rl) := by
        rw [← hnl]; exact hrv
      rw [hnl]
      have HRV := Lib.hid hrv'
      clear hrv hrv'
      have hw1 : IntKind.i64.wrap ((n : Int) + (rl.length : Int)) = (n : Int) + (rl.length : Int) := by rw [IntKind.wrap_i64]; omega
      have hcn := Ext.cell hx3 hcn
      by_cases hlast : k + 1 = ns.length
      · have hl1 : ((k : Int) == (ns.length : Int) - 1) = true := by rw [beq_iff_eq]; omega
        go_wp2_with fail
        go_quiet (fail)
        generalize hw5 : w3.drewN nq = w5
        have hx35 : Ext w3 w5 := by rw [← hw5]; exact (Ext.refl w3).drewN _
        clear hw5
        have hx5 : Ext wr w5 := hx3.trans hx35
        have HOW5 := HOW.out.ext hx5
        have HRV5 := HRV.out.ext hx35
        have hcn5 := Ext.cell hx35 hcn
        go_wp2_with (at_builtin; refine wpList_append_recs rfl _ _ rfl w1.heap.size _ out (num n rl) rfl HOW5 wr.heap.size _ rfl HRV5 ?c1 ?c2 ?_)
        case c1 => have := hx5.size; have := HON.out.size; omega
        case c2 => have := HOL.out; rw [hnl]; omega
        intro v4 w4 hown4 hb4
        have HO4 := Lib.hid hown4
        have HON5 := HON.out.andThen (Only.ext (F := fun x => (F x ∧ x < w.heap.size) ∨ x = b) hx5)
        have HON4 : Hid (Only (fun x => (F x ∧ x < w.heap.size) ∨ x = b) w1 w4) := HON5.trans ((Only.of_below hb4).mono (fun x _ h => .inr h))
        have hl4 : LogAt w4 b d name M := (HLM.out.ext hx5).only (Only.of_below hb4) (by have := HBL.out; omega)
        have HD4 : Hid (DiskAt w4 d T (fun x => F x ∧ x < w.heap.size)) := (HDS.out.ext hx5).only (Only.of_below hb4) (fun x hx h => by have := hx.2; omega)
        obtain ⟨a4, cc4, rfl, _, _, _, hap, _⟩ := hown4.form
        have p0 := hl4.c0
        have p1 := hl4.c1
        have p2 := hl4.c2
        have p3 := hl4.c3
        have p4 := hl4.c4
        have q0 := hl4.free 0
        have q1 := hl4.free 1
        have q2 := hl4.free 2
        have q3 := hl4.free 3
        have HL4 := Lib.hid hl4
        have hcn4 := Only.cell HON4.out HNSN.out HGN.out
        have hnl2 : (out ++ num n rl).length = out.length + rl.length := by rw [List.length_append, hnl]
        rw [hnl2]
        clear hown4 hb4 hl4 HOW5 HRV5 hcn5 HON5
        obtain ⟨w6, hw6⟩ : ∃ u, u = ((((w4.setCell ⟨b, 0, none⟩ (.string (seg name n))).setCell ⟨b, 1, none⟩ (.int .i64 (en : Nat))).setCell ⟨b, 2, none⟩ (.int .i64 ((n : Int) + (rl.length : Int)))).setCell ⟨b, 3, none⟩ (.bool false)) := ⟨_, rfl⟩
        obtain ⟨M', HM'⟩ : ∃ M', Hid (M' = (⟨seg name n, en, n + rl.length, false, M.safe, M.err⟩ : LG)) := ⟨_, rfl⟩
        have HL6 : Hid (LogAt w6 b d name M') := by
          show LogAt _ _ _ _ _
          rw [hw6, HM'.out]
          exact HL4.out.place _ _ _ _ (by rw [Int.natCast_add])
        have HB6 : Hid (Only (fun x => x = b) w4 w6) := by
          rw [hw6]; exact ((((Only.refl _ w4).at _ _).at _ _).at _ _).at _ _
        have HO6 : Hid (OwnRecs w6 w1.heap.size (.slice a4 (out.length + rl.length) cc4) (out ++ num n rl)) := by
          refine OwnRecs.only (by rw [← hnl2]; exact HO4.out) HB6.out (fun g hg e => ?_)
          have := (OwnRecs.lt HO4.out g (by rw [hnl2]; exact hg)).1
          have := HBL.out
          omega
        have HD6 : Hid (DiskAt w6 d T (fun x => F x ∧ x < w.heap.size)) := HD4.out.only HB6.out (fun x hx e => HFB.out (e ▸ hx.1))
        have HON6 : Hid (Only (fun x => (F x ∧ x < w.heap.size) ∨ x = b) w1 w6) := HON4.out.andThen (HB6.out.mono (fun x _ h => .inr h))
        have HP : Hid (placed name T n M = M' ∧ recsAt name T n = num n rl) := by
          unfold placed recsAt
          rw [HRD.out, HM'.out]
          simp only [HQ.out]
          exact ⟨trivial, trivial⟩
        have hw6s : w6.heap.size = w4.heap.size := by rw [hw6]; simp [World.setCell]
        have HRL : Hid (R = ((lastS T (seg name n) en).1, if (lastS T (seg name n) en).1 = 0 then out ++ num n rl else [], M', (lastS T (seg name n) en).2)) := by
          show _ = _
          have h1 := HLAA.out
          rw [List.drop_of_length_le (show ns.length ≤ k + 1 by omega), loadL_one, HP.out.1, HP.out.2] at h1
          have h2 : M'.size = en := by rw [HM'.out]
          rw [h2] at h1
          exact h1.symm
        have hsegsz : (seg name n).size ≤ 140737488355328 := by rw [seg_size _ _ hle]; omega
        have HZ1 : Hid (w.heap.size ≤ w1.heap.size) := hsz1
        have HZ4 : Hid (w1.heap.size ≤ w4.heap.size) := HON4.out.size
        by_cases hcut : (en : Int) < (c.size : Int)
        · have HLS0 : Hid (lastS T (seg name n) en = if (cut T (seg name n) en).1 = 0 then sync (cut T (seg name n) en).2 [seg name n] else cut T (seg name n) en) := by
            show _ = _
            unfold lastS
            rw [HRD.out, if_pos (by show en < c.size; omega)]
          go_wp2_with fail
          rw [← hw6]
          refine (cut_any d T _ (seg name n) en hsegsz (by omega) w6 HD6.out).mono ?_
          have HUU := Lib.hid (cut_uses T (seg name n) (en : Int))
          generalize cut T (seg name n) (en : Int) = qc at HLS0 HUU
          obtain ⟨ec, U⟩ := qc
          rintro e w7 ⟨rfl, hl7⟩
          have HZ7 : Hid (w4.heap.size ≤ w7.heap.size) := by have := hl7.2.size; show _ ≤ _; omega
          have HD7 : Hid (DiskAt w7 d U (fun x => (F x ∧ x < w.heap.size) ∨ w4.heap.size ≤ x)) := hl7.1.mono (fun x _ hx => hx.imp id (fun h => by omega))
          have HL7 : Hid (LogAt w7 b d name M') := HL6.out.only hl7.2 (fun hx => HFB.out hx.1)
          have HO7 : Hid (OwnRecs w7 w1.heap.size (.slice a4 (out.length + rl.length) cc4) (out ++ num n rl)) := HO6.out.only hl7.2 (fun g hg hx => by
            have := (OwnRecs.lt HO6.out g hg).1
            have := HZ1.out
            have := hx.2; omega)
          have HON7 : Hid (Only (fun x => (F x ∧ x < w.heap.size) ∨ x = b) w1 w7) := HON6.out.andThen (hl7.2.mono (fun x _ h => .inl h))
          clear hl7
          by_cases hec : ec = 0
          · subst hec
            have HLS : Hid (lastS T (seg name n) en = sync U [seg name n]) := HLS0.out
            have c47 := HL7.out.c4
            go_wp2_with fail
            refine (sync_new d U _ (seg name n) hsegsz (by have := HUU.out; omega) w7 HD7.out _).mono ?_
            generalize sync U [seg name n] = qs at HLS
            obtain ⟨es, V⟩ := qs
            rintro e w8 ⟨rfl, hl8⟩
            have HD8 : Hid (DiskAt w8 d V (fun x => (F x ∧ x < w.heap.size) ∨ w4.heap.size ≤ x)) := hl8.1.mono (fun x _ hx => by
              rcases hx with hx | hx
              · exact hx
              · exact .inr (by have := HZ7.out; omega))
            have HL8 : Hid (LogAt w8 b d name M') := HL7.out.only hl8.2 (by
              rintro (hx | hx)
              · exact HFB.out hx.1
              · have := HBL.out; have := HZ4.out; omega)
            have HG8 : Hid (∀ g, (Value.slice a4 (out.length + rl.length) cc4).ownBlock = some g → ¬ ((F g ∧ g < w.heap.size) ∨ w4.heap.size ≤ g)) := fun g hg hx => by
              have h1 := OwnRecs.lt HO4.out g (by rw [hnl2]; exact hg)
              have := HZ1.out
              rcases hx with hx | hx
              · have := hx.2; omega
              · omega
            have HO8 : Hid (OwnRecs w8 w1.heap.size (.slice a4 (out.length + rl.length) cc4) (out ++ num n rl)) := HO7.out.only hl8.2 HG8.out
            have HON8 : Hid (Only (fun x => (F x ∧ x < w.heap.size) ∨ x = b) w1 w8) := HON7.out.trans (hl8.2.mono (fun x _ h => by
              rcases h with h | h
              · exact .inl (.inl h)
              · exact .inr (by have := HZ4.out; omega)))
            clear hl8
            by_cases hes : es = 0
            · subst hes
              have HRF : Hid (R = (0, out ++ num n rl, M', V)) := by
                show _ = _
                rw [HRL.out, HLS.out]; rfl
              go_wp2_with fail
              go_roundg (ns.length - (k + 1))
              case measure => omega
              case rel => exact ⟨k + 1, out ++ num n rl, M', V, by go_num, by omega, rfl, by rw [hnl2]; have := HOL.out; have := HRLL.out; omega, HO8.out, HL8, ⟨fun h => absurd h (by omega), fun _ => HRF.out⟩, ⟨fun h => absurd h (by omega), _, HD8.out, fun x hx => hx.imp id (fun h => by have := HZ4.out; omega), HG8.out⟩, HON8⟩
            · have hes2 : ((es : Int) != 0) = true := by rw [bne_iff_ne]; omega
              have HRF : Hid (R = (es, [], M', V)) := by
                show _ = _
                rw [HRL.out, HLS.out]
                simp only [if_neg hes]
              go_wp2_with fail
              go_ret2
              rw [HR0.out, HRF.out]
              exact ⟨.slice none 0 0, M', rfl, OwnRecs.nil _ _, HL8.out, fun _ => rfl, ⟨_, HD8.out, fun x hx => hx.imp id (fun h => by have := HZ4.out; have := HZ1.out; omega), (fun _ e => by cases e)⟩, (Only.ext HX.out).andThen (HON8.out.mono (fun x _ h => h.imp (fun h => h.1) id))⟩
          · have hec2 : ((ec : Int) != 0) = true := by rw [bne_iff_ne]; omega
            have HRF : Hid (R = (ec, [], M', U)) := by
              show _ = _
              have e : lastS T (seg name n) en = (ec, U) := by rw [HLS0.out]; exact if_neg hec
              rw [HRL.out, e]
              simp only [if_neg hec]
            go_wp2_with fail
            go_ret2
            rw [HR0.out, HRF.out]
            exact ⟨.slice none 0 0, M', rfl, OwnRecs.nil _ _, HL7.out, fun _ => rfl, ⟨_, HD7.out, fun x hx => hx.imp id (fun h => by have := HZ4.out; have := HZ1.out; omega), (fun _ e => by cases e)⟩, (Only.ext HX.out).andThen (HON7.out.mono (fun x _ h => h.imp (fun h => h.1) id))⟩
        · have een : en = c.size := by omega
          clear hcut hen
          subst een
          obtain ⟨U, HU⟩ : ∃ U, Hid (U = T) := ⟨T, rfl⟩
          have HLS : Hid (lastS T (seg name n) c.size = sync U [seg name n]) := by
            show _ = _
            unfold lastS
            rw [HRD.out, if_neg (Nat.lt_irrefl _), HU.out]
          have HUU : Hid (U.uses ≤ T.uses + 1) := by rw [HU.out]; exact Nat.le_succ _
          obtain ⟨w7, hw7⟩ : ∃ u, u = w6 := ⟨_, rfl⟩
          have HZ7 : Hid (w4.heap.size ≤ w7.heap.size) := by show _ ≤ _; rw [hw7]; omega
          have HD7 : Hid (DiskAt w7 d U (fun x => (F x ∧ x < w.heap.size) ∨ w4.heap.size ≤ x)) := by
            rw [hw7, HU.out]
            exact HD6.out.mono (fun x _ hx => .inl hx)
          have HL7 : Hid (LogAt w7 b d name M') := by rw [hw7]; exact HL6
          have HO7 : Hid (OwnRecs w7 w1.heap.size (.slice a4 (out.length + rl.length) cc4) (out ++ num n rl)) := by rw [hw7]; exact HO6
          have HON7 : Hid (Only (fun x => (F x ∧ x < w.heap.size) ∨ x = b) w1 w7) := by rw [hw7]; exact HON6
          have HZ6 := Lib.hid hw6s
          rw [hw6] at hw7
          have HW7 := Lib.hid hw7
          clear hw7 hw6 hw6s
          clear hcs hrl
          have HZ47 : Hid (w4.heap.size = w7.heap.size) := by show _ = _; rw [HW7.out]; simp [World.setCell]
          go_wp2_with fail
          rw [← HW7.out, HZ47.out]
          have c47 := HL7.out.c4
          refine (sync_new d U _ (seg name n) hsegsz (by have := HUU.out; omega) w7 HD7.out _).mono ?_
          generalize sync U [seg name n] = qs at HLS
          obtain ⟨es, V⟩ := qs
          rintro e w8 ⟨rfl, hl8⟩
          have HD8 : Hid (DiskAt w8 d V (fun x => (F x ∧ x < w.heap.size) ∨ w4.heap.size ≤ x)) := hl8.1.mono (fun x _ hx => by
            rcases hx with hx | hx
            · exact hx
            · exact .inr (by have := HZ7.out; omega))
          have HL8 : Hid (LogAt w8 b d name M') := HL7.out.only hl8.2 (by
            rintro (hx | hx)
            · exact HFB.out hx.1
            · have := HBL.out; have := HZ4.out; omega)
          have HG8 : Hid (∀ g, (Value.slice a4 (out.length + rl.length) cc4).ownBlock = some g → ¬ ((F g ∧ g < w.heap.size) ∨ w4.heap.size ≤ g)) := fun g hg hx => by
            have h1 := OwnRecs.lt HO4.out g (by rw [hnl2]; exact hg)
            have := HZ1.out
            rcases hx with hx | hx
            · have := hx.2; omega
            · omega
          have HO8 : Hid (OwnRecs w8 w1.heap.size (.slice a4 (out.length + rl.length) cc4) (out ++ num n rl)) := HO7.out.only hl8.2 HG8.out
          have HON8 : Hid (Only (fun x => (F x ∧ x < w.heap.size) ∨ x = b) w1 w8) := HON7.out.trans (hl8.2.mono (fun x _ h => by
            rcases h with h | h
            · exact .inl (.inl h)
            · exact .inr (by have := HZ4.out; omega)))
          clear hl8
          by_cases hes : es = 0
          · subst hes
            have HRF : Hid (R = (0, out ++ num n rl, M', V)) := by
              show _ = _
              rw [HRL.out, HLS.out]; rfl
            go_wp2_with fail
            go_roundg (ns.length - (k + 1))
            case measure => omega
            case rel => exact ⟨k + 1, out ++ num n rl, M', V, by go_num, by omega, rfl, by rw [hnl2]; have := HOL.out; have := HRLL.out; omega, HO8.out, HL8, ⟨fun h => absurd h (by omega), fun _ => HRF.out⟩, ⟨fun h => absurd h (by omega), _, HD8.out, fun x hx => hx.imp id (fun h => by have := HZ4.out; omega), HG8.out⟩, HON8⟩
          · have hes2 : ((es : Int) != 0) = true := by rw [bne_iff_ne]; omega
            have HRF : Hid (R = (es, [], M', V)) := by
              show _ = _
              rw [HRL.out, HLS.out]
              simp only [if_neg hes]
            go_wp2_with fail
            go_ret2
            rw [HR0.out, HRF.out]
            exact ⟨.slice none 0 0, M', rfl, OwnRecs.nil _ _, HL8.out, fun _ => rfl, ⟨_, HD8.out, fun x hx => hx.imp id (fun h => by have := HZ4.out; have := HZ1.out; omega), (fun _ e => by cases e)⟩, (Only.ext HX.out).andThen (HON8.out.mono (fun x _ h => h.imp (fun h => h.1) id))⟩
      · have hl1 : ((k : Int) == (ns.length : Int) - 1) = false := by rw [beq_eq_false_iff_ne]; omega
        have hk1 : k + 1 < ns.length := by omega
        have hmk : ns[k + 1]? = some ns[k + 1] := List.getElem?_eq_getElem hk1
        have HDR2 : Hid (ns.drop (k + 1) = ns[k + 1] :: ns.drop (k + 1 + 1)) := List.drop_eq_getElem_cons hk1
        obtain ⟨gm, eg, hcm0⟩ := HNS.out (k + 1) _ hmk
        obtain rfl : gn = gm := by injection eg with eg; injection eg
        have hcm := Ext.cell hx3 (HON.out.cell hcm0 HGN.out)
        have hle2 : ns[k + 1] ≤ 99999999 := HSE.out _ (List.getElem_mem hk1)
        clear hmk hcm0 eg
        generalize ns[k + 1] = m at *
        have HPL : Hid (placed name T n M = ⟨seg name n, en, n + rl.length, false, M.safe, M.err⟩ ∧ recsAt name T n = num n rl ∧ wholeAt name T n = wh) := by
          unfold placed recsAt wholeAt
          rw [HRD.out]
          simp only [HQ.out]
          exact ⟨trivial, trivial, trivial⟩
        have HRL : Hid ((if wh = true ∧ m = n + rl.length then loadL name T (ns.drop (k + 1)) (out ++ num n rl) ⟨seg name n, en, n + rl.length, false, M.safe, M.err⟩ else (11, [], M, T)) = R) := by
          show _ = _
          have h1 := HLAA.out
          rw [HDR2.out, loadL_more, HPL.out.2.2, HPL.out.2.1, HPL.out.1, ← HDR2.out] at h1
          exact h1
        have hwk : IntKind.i64.wrap ((k : Int) + 1) = (k : Int) + 1 := by rw [IntKind.wrap_i64]; omega
        have hkt : ((k : Int) + 1).toNat = k + 1 := by omega
        have hk0 : (0 : Int) ≤ (k : Int) + 1 := by omega
        have hk2 : (k : Int) + 1 < (ns.length : Int) := by omega
        cases wh with
        | false =>
          have HRF : Hid (R = (11, [], M, T)) := by rw [← HRL.out]; exact if_neg (fun h => by cases h.1)
          go_wp2_with fail
          go_quiet (fail)
          generalize hw5 : w3.drewN nq = w5
          have hx35 : Ext w3 w5 := by rw [← hw5]; exact (Ext.refl w3).drewN _
          have HX5 := Lib.hid (hx3.trans hx35)
          clear hw5
          go_wp2_with fail
          go_ret2
          rw [HR0.out, HRF.out]
          exact ⟨.slice none 0 0, M, rfl, OwnRecs.nil _ _, HLM.out.ext HX5.out, (fun h => by cases h), ⟨_, HDS.out.ext HX5.out, fun x hx => .inl hx, (fun _ e => by cases e)⟩, (Only.ext HX.out).andThen ((HON.out.andThen (Only.ext HX5.out)).mono (fun x _ h => h.imp (fun h => h.1) id))⟩
        | true =>
          by_cases hm : m = n + rl.length
          · have hm1 : ((m : Int) != (n : Int) + (rl.length : Int)) = false := by rw [bne_eq_false_iff_eq]; omega
            have hm2 : (m : Int) = (n : Int) + (rl.length : Int) := by omega
            have HRF : Hid (loadL name T (ns.drop (k + 1)) (out ++ num n rl) ⟨seg name n, en, n + rl.length, false, M.safe, M.err⟩ = R) := by rw [← HRL.out]; exact (if_pos ⟨rfl, hm⟩).symm
            go_wp2_with fail
            go_quiet (fail)
            generalize hw5 : w3.drewN nq = w5
            have hx35 : Ext w3 w5 := by rw [← hw5]; exact (Ext.refl w3).drewN _
            clear hw5
            have hx5 : Ext wr w5 := hx3.trans hx35
            have HOW5 := HOW.out.ext hx5
            have HRV5 := HRV.out.ext hx35
            have hcn5 := Ext.cell hx35 hcn
            go_wp2_with (at_builtin; refine wpList_append_recs rfl _ _ rfl w1.heap.size _ out (num n rl) rfl HOW5 wr.heap.size _ rfl HRV5 ?c1 ?c2 ?_)
            case c1 => have := hx5.size; have := HON.out.size; omega
            case c2 => have := HOL.out; rw [hnl]; omega
            intro v4 w4 hown4 hb4
            have HO4 := Lib.hid hown4
            have HON5 := HON.out.andThen (Only.ext (F := fun x => (F x ∧ x < w.heap.size) ∨ x = b) hx5)
            have HON4 : Hid (Only (fun x => (F x ∧ x < w.heap.size) ∨ x = b) w1 w4) := HON5.trans ((Only.of_below hb4).mono (fun x _ h => .inr h))
            have hl4 : LogAt w4 b d name M := (HLM.out.ext hx5).only (Only.of_below hb4) (by have := HBL.out; omega)
            have HD4 : Hid (DiskAt w4 d T (fun x => F x ∧ x < w.heap.size)) := (HDS.out.ext hx5).only (Only.of_below hb4) (fun x hx h => by have := hx.2; omega)
            obtain ⟨a4, cc4, rfl, _, _, _, hap, _⟩ := hown4.form
            have p0 := hl4.c0
            have p1 := hl4.c1
            have p2 := hl4.c2
            have p3 := hl4.c3
            have p4 := hl4.c4
            have q0 := hl4.free 0
            have q1 := hl4.free 1
            have q2 := hl4.free 2
            have q3 := hl4.free 3
            have HL4 := Lib.hid hl4
            have hcn4 := Only.cell HON4.out HNSN.out HGN.out
            have hnl2 : (out ++ num n rl).length = out.length + rl.length := by rw [List.length_append, hnl]
            rw [hnl2]
            clear hown4 hb4 hl4 HOW5 HRV5 hcn5 HON5
            obtain ⟨w6, hw6⟩ : ∃ u, u = ((((w4.setCell ⟨b, 0, none⟩ (.string (seg name n))).setCell ⟨b, 1, none⟩ (.int .i64 (en : Nat))).setCell ⟨b, 2, none⟩ (.int .i64 ((n : Int) + (rl.length : Int)))).setCell ⟨b, 3, none⟩ (.bool false)) := ⟨_, rfl⟩
            obtain ⟨M', HM'⟩ : ∃ M', Hid (M' = (⟨seg name n, en, n + rl.length, false, M.safe, M.err⟩ : LG)) := ⟨_, rfl⟩
            have HL6 : Hid (LogAt w6 b d name M') := by
              show LogAt _ _ _ _ _
              rw [hw6, HM'.out]
              exact HL4.out.place _ _ _ _ (by rw [Int.natCast_add])
            have HB6 : Hid (Only (fun x => x = b) w4 w6) := by
              rw [hw6]; exact ((((Only.refl _ w4).at _ _).at _ _).at _ _).at _ _
            have HO6 : Hid (OwnRecs w6 w1.heap.size (.slice a4 (out.length + rl.length) cc4) (out ++ num n rl)) := by
              refine OwnRecs.only (by rw [← hnl2]; exact HO4.out) HB6.out (fun g hg e => ?_)
              have := (OwnRecs.lt HO4.out g (by rw [hnl2]; exact hg)).1
              have := HBL.out
              omega
            have HD6 : Hid (DiskAt w6 d T (fun x => F x ∧ x < w.heap.size)) := HD4.out.only HB6.out (fun x hx e => HFB.out (e ▸ hx.1))
            have HON6 : Hid (Only (fun x => (F x ∧ x < w.heap.size) ∨ x = b) w1 w6) := HON4.out.andThen (HB6.out.mono (fun x _ h => .inr h))
            have HP : Hid (placed name T n M = M' ∧ recsAt name T n = num n rl) := by
              unfold placed recsAt
              rw [HRD.out, HM'.out]
              simp only [HQ.out]
              exact ⟨trivial, trivial⟩
            have hw6s : w6.heap.size = w4.heap.size := by rw [hw6]; simp [World.setCell]
            go_wp2_with fail
            rw [← hw6]
            go_roundg (ns.length - (k + 1))
            case measure => omega
            case rel => exact ⟨k + 1, out ++ num n rl, M', T, by go_num, by omega, rfl, by rw [hnl2]; have := HOL.out; omega, HO6.out, HL6, ⟨fun _ => ⟨rfl, by rw [HM'.out]; exact HRF.out⟩, fun h => absurd hk1 h⟩, ⟨fun _ => HD6.out, _, HD6.out, fun x hx => .inl hx, fun g hg hx => by
              have := (OwnRecs.lt HO6.out g hg).1
              have := hx.2; omega⟩, HON6⟩
          · have hm1 : ((m : Int) != (n : Int) + (rl.length : Int)) = true := by rw [bne_iff_ne]; omega
            have hm2 : ¬ (m : Int) = (n : Int) + (rl.length : Int) := by omega
            have HRF : Hid (R = (11, [], M, T)) := by rw [← HRL.out]; exact if_neg (fun h => hm h.2)
            go_wp2_with fail
            go_quiet (fail)
            generalize hw5 : w3.drewN nq = w5
            have hx35 : Ext w3 w5 := by rw [← hw5]; exact (Ext.refl w3).drewN _
            have HX5 := Lib.hid (hx3.trans hx35)
            clear hw5
            go_wp2_with fail
            go_ret2
            rw [HR0.out, HRF.out]
            exact ⟨.slice none 0 0, M, rfl, OwnRecs.nil _ _, HLM.out.ext HX5.out, (fun h => by cases h), ⟨_, HDS.out.ext HX5.out, fun x hx => .inl hx, (fun _ e => by cases e)⟩, (Only.ext HX.out).andThen ((HON.out.andThen (Only.ext HX5.out)).mono (fun x _ h => h.imp (fun h => h.1) id))⟩
    · have ek : k = ns.length := by omega
      have hR := HLA.out.2 hlt
      obtain ⟨hd1, G, hG1, hG2, hG3⟩ := HDD.out
      obtain ⟨av, cv, rfl, _, _, _⟩ := hown.form
      have HRF := Lib.hid hR
      have HG := Lib.hid hG1
      have HGa := Lib.hid hG2
      have HGb := Lib.hid hG3
      have HOW := Lib.hid hown
      clear hR hd1 hG1 hG2 hG3 hown hlt
      subst ek
      go_wp2_with fail
      go_ret2
      rw [HR0.out, HRF.out]
      exact ⟨_, M, rfl, HOW.out.base hsz1, HLM.out, fun _ => rfl, ⟨G, HG.out, fun x hx => (HGa.out x hx).imp id (fun h => by omega), HGb.out⟩, (Only.ext HX.out).andThen (HON.out.mono (fun x _ h => h.imp (fun h => h.1) id))⟩
end Go.Proofs.YtmdkjcigmhgpeaaGreatDoor
