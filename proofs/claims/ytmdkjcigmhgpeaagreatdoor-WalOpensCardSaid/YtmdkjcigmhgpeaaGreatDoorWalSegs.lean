/- Wal's segments: their files and numbers. -/
import Derived.Test.YtmdkjcigmhgpeaaGreatDoorWalFirst
import Derived.Test.YtmdkjcigmhgpeaaGreatDoorWalRecs
import Derived.Test.YtmdkjcigmhgpeaaGreatDoorDiskLaw
import Derived.Test.YtmdkjcigmhgpeaaGreatDoorRefPrint
import Derived.Test.YtmdkjcigmhgpeaaGreatDoorSnapWalk
namespace Go.Proofs.YtmdkjcigmhgpeaaGreatDoor
open Go.RowKit Snp SealMath Dsk Wal

theorem OwnI.form2 {w : World} {base : Nat} {v : Value} {l : List Nat} (h : OwnI w base v l) : ∃ a c, v = .slice a l.length c ∧ (∀ (j n : Nat), l[j]? = some n → ∃ g, a = some ⟨g, 0, none⟩ ∧ w.cell? ⟨g, j, none⟩ = some (.int .i64 (n : Int))) ∧ (∀ bk o, a = some ⟨bk, o, none⟩ → base ≤ bk ∧ bk < w.heap.size) := by
  have hb := World.ownsRow.lt h
  rcases h.form with ⟨rfl, rfl⟩ | ⟨g, c, rfl, _, hc⟩
  · exact ⟨none, 0, rfl, fun j n hj => by simp at hj, fun _ _ e => by cases e⟩
  · refine ⟨_, c, rfl, fun j n hj => ⟨g, rfl, hc j n hj⟩, fun bk o e => ?_⟩
    injection e with e; injection e with e1 e2
    subst e1
    exact hb g rfl
def SegsDone (name : ByteArray) (S : DS) (w : World) (e : Ending) (w' : World) : Prop :=
  ∃ v1 v2, e = .returned (.tuple #[v1, v2]) ∧ OwnStrs w' w.heap.size v1 ((segs S name).map (seg name)) ∧ OwnI w' w.heap.size v2 (segs S name) ∧ Ext w w'
set_option maxRecDepth 20000 in
set_option maxHeartbeats 4000000 in
theorem segments_any (b d : Nat) (name : ByteArray) (hname : name.size ≤ 6) (S : DS) (F : Nat → Prop) (w : World) (hc4 : w.cell? ⟨b, 4, none⟩ = some (.pointer (some ⟨d, 0, none⟩))) (hc5 : w.cell? ⟨b, 5, none⟩ = some (.string name)) (h : DiskAt w d S F) :
    Calls Tryz.prog 102 #[.pointer (some ⟨b, 0, none⟩)] w (SegsDone name S w) := by
  obtain ⟨i0, hi, hz0, hz1, hz2⟩ := info_parts info_string
  obtain ⟨j0, hj, hy0, hy1, hy2⟩ := info_parts info_int
  obtain ⟨fr, HFR⟩ : ∃ fr, Hid (name ++ (⟨#[46]⟩ : ByteArray) = fr) := ⟨_, rfl⟩
  have hs1 : ∀ u, (Op.stringOp .add name ⟨#[46]⟩).run Tryz.prog u = .ok (.string fr) u := fun u => by
    rw [← HFR.out]; exact run_string_add_sum _ _ _ (by show _ + 1 ≤ _; omega)
  have HFN : Hid (fr = front name) := lst_inj (by rw [← HFR.out, lst_append]; rfl)
  go_enter Tryz.func102, Tryz.ntmps102
  go_wp2_with fail
  have HD := Lib.hid h; clear h
  go_region_held3 (fun u => u.cell? ⟨b, 4, none⟩ = some (.pointer (some ⟨d, 0, none⟩)) ∧ u.cell? ⟨b, 5, none⟩ = some (.string name))
    (first | exact ⟨hc4, hc5⟩ | exact ⟨Ext.cell ((Ext.refl _).alloc _) hc4, Ext.cell ((Ext.refl _).alloc _) hc5⟩ | exact ⟨Ext.cell (((Ext.refl _).drew).alloc _) hc4, Ext.cell (((Ext.refl _).drew).alloc _) hc5⟩ | exact ⟨Ext.cell hx hc4, Ext.cell hx hc5⟩)
    (first | (go_at_call 15; refine (names_any d S F _ 1 [fr] (by simp) _ (HD.out.ext (by first | exact (Ext.refl _).alloc _ | exact ((Ext.refl _).alloc _).drew | exact ((Ext.refl _).drew).alloc _)) (by first | exact StrsAt.one _ _ _ | exact (StrsAt.one _ _ _).drew)).mono ?_; rintro e v ⟨vv, rfl, hown, hx0⟩; have hx : Ext w v := Ext.trans (by first | exact (Ext.refl _).alloc _ | exact ((Ext.refl _).alloc _).drew | exact ((Ext.refl _).drew).alloc _) hx0; obtain ⟨a, c, rfl, _, _, hst⟩ := hown.form))
  have HX := Lib.hid hx
  have HST := Lib.hid hst
  have c5 := Ext.cell hx hc5
  have HXS : Hid ((namesOf S [fr]).filterMap (numOf name) = segs S name) := by
    show _ = _
    unfold segs
    rw [HFN.out]
  have HM : Hid (∀ x ∈ namesOf S [fr], x.size ≤ 20) := fun x hx => by
    obtain ⟨f, hf, rfl⟩ := names_mem hx
    exact (may_size (HD.out.good.fine f hf).name).2
  have hmany : (namesOf S [fr]).length ≤ 100 := by
    have h1 := names_count S [fr]
    have h2 := HD.out.good.many
    omega
  generalize namesOf S [fr] = xs at *
  clear hx hx0 hown hst hs1 hc4 hc5 HD
  go_wp2_with fail
  go_loopg [4, 5, 22] (xs.length) (fun g vf vn i wr => ∃ (k : Nat) (ns : List Nat), i = .int .i64 k ∧ k ≤ xs.length ∧ g = xs.length - k ∧ ns.length ≤ k ∧ OwnStrs wr v.heap.size vf (ns.map (seg name)) ∧ OwnI wr v.heap.size vn ns ∧ (∀ b1 b2, vf.ownBlock = some b1 → vn.ownBlock = some b2 → b1 ≠ b2) ∧ Hid (Ext v wr) ∧ Hid (ns ++ (xs.drop k).filterMap (numOf name) = segs S name))
  case atStart => exact ⟨0, [], rfl, Nat.zero_le _, rfl, Nat.le_refl _, OwnStrs.nil _ _, OwnI.nil _ _, (fun _ _ e => by cases e), Ext.refl _, HXS⟩
  case round =>
    obtain ⟨k, ns, rfl, hk, rfl, hnk, hf, hn, hne, HXW, HR⟩ := hrel
    by_cases hlt : k < xs.length
    · obtain ⟨bk, o, rfl, _, hcell⟩ := (HST.out.ext HXW.out) k _ (List.getElem?_eq_getElem hlt)
      have hx20 := HM.out _ (List.getElem_mem hlt)
      have HD2 : Hid (xs.drop k = xs[k] :: xs.drop (k + 1)) := List.drop_eq_getElem_cons hlt
      generalize xs[k] = x at hcell HD2 hx20
      have c5' := Ext.cell HXW.out c5
      have hcall := first_any b name hname x hx20 wr c5'
      go_wp2_with fail
      refine hcall.mono ?_
      clear hcall
      rintro e w3 ⟨n, y, rfl, hy1', hy2', hx3⟩
      have HX3 := Lib.hid (Ext.trans HXW.out hx3)
      cases y with
      | false =>
        have HN : Hid (numOf name x = none) := by
          show _ = _
          cases hq : numOf name x with
          | none => rfl
          | some q => have := (hy1' q hq).2; cases this
        have hf3 := hf.ext hx3
        have hn3 := hn.ext hx3
        clear hy1' hy2' hx3 hf hn
        go_wp2_with fail
        go_roundg (xs.length - (k + 1))
        case measure => omega
        case rel => exact ⟨k + 1, ns, by go_num, by omega, rfl, by omega, hf3, hn3, hne, HX3, (show Hid _ from by
          show _ = _
          rw [← HR.out, HD2.out, List.filterMap_cons, HN.out])⟩
      | true =>
        obtain ⟨q, hq⟩ := Option.isSome_iff_exists.1 (hy2' rfl)
        obtain rfl := (hy1' q hq).1
        have hq8 : q ≤ 99999999 := (numOf_some.1 hq).1
        have HQ := Lib.hid hq
        have HXQ : Hid (x = seg name q) := (numOf_some.1 hq).2
        have hf3 := hf.ext hx3
        have hn3 := hn.ext hx3
        have hsz3 : v.heap.size ≤ w3.heap.size := HX3.out.size
        clear hy1' hy2' hx3 hf hn hq
        obtain ⟨af, cf, rfl, _, _, _⟩ := hf3.form
        obtain ⟨an, cn, rfl, _, _⟩ := hn3.form2
        have hltf := World.ownsRow.lt hf3
        have hltn := World.ownsRow.lt hn3
        have hml : (ns.map (seg name)).length = ns.length := List.length_map _
        have hfo : w3.ownsRow v.heap.size 9 1 (.slice af ns.length cf) ns.length ((ns.map (seg name)).map Value.string) := by
          have := hf3
          unfold OwnStrs at this
          rwa [hml] at this
        rw [hml] at hltf hne
        rw [hml]
        clear hml hf3
        go_wp2_with (at_builtin; refine wpList_append_lies _ rfl _ _ 28 rfl v.heap.size 9 i0 (.string ⟨#[]⟩) 1 16 Tryz.underlying28 hi hz0 hz1 hz2 rfl (by decide) _ _ _ rfl (World.ownsRow.alloc hfo _) ⟨w3.heap.size, 0, none⟩ 1 1 [.string x] rfl rfl ?c1 ?c2 (by decide) ?c3 ?c4 ?c5 _ rfl ?_)
        case c1 => exact cell_one_new _ _ _
        case c2 => intro u hu; simp at hu; subst hu; rfl
        case c3 => unfold maxLen; omega
        case c4 => omega
        case c5 => simp; omega
        intro g4 cap4 w4 hown4 hg4 hat4 hlt4
        have hng : ∀ kk, (Value.slice an ns.length cn).ownBlock = some kk → (Value.slice af ns.length cf).ownBlock ≠ some kk := fun kk e1 e2 => hne kk kk e2 e1 rfl
        have hn4 : OwnI w4 v.heap.size (.slice an ns.length cn) ns := World.ownsRow.kept (World.ownsRow.alloc hn3 _) hg4 (by
          cases e : (Value.slice an ns.length cn).ownBlock with
          | none => exact .inl rfl
          | some kk => exact .inr (fun e2 => hng kk e e2.symm))
        have hne4 : ∀ kk, (Value.slice an ns.length cn).ownBlock = some kk → kk ≠ g4 := fun kk e1 => by
          rcases hat4 with hat4 | hat4
          · intro e; subst e; exact hng _ e1 hat4
          · have := (hltn kk e1).2
            omega
        have hk4 : Ext v w4 := Below.grown (HX3.out.alloc _) hg4 (by simp; omega) (fun kk e => (hltf kk e).1)
        have hltn4 := World.ownsRow.lt hn4
        have HO4 := Lib.hid hown4
        clear hown4
        go_wp2_with (at_builtin; refine wpList_append_lies _ rfl _ _ 41 rfl v.heap.size 3 j0 (.int .i64 0) 1 8 Tryz.underlying41 hj hy0 hy1 hy2 rfl (by decide) _ _ _ rfl (World.ownsRow.alloc hn4 _) ⟨w4.heap.size, 0, none⟩ 1 1 [.int .i64 (q : Nat)] rfl rfl ?c1 ?c2 (by decide) ?c3 ?c4 ?c5 _ rfl ?_)
        case c1 => exact cell_one_new _ _ _
        case c2 => intro u hu; simp at hu; subst hu; rfl
        case c3 => unfold maxLen; omega
        case c4 => omega
        case c5 => have := hk4.size; simp; omega
        intro g5 cap5 w5 hown5 hg5 hat5 hlt5
        have hk5 : Ext v w5 := Below.grown (hk4.alloc _) hg5 (by have := hk4.size; simp; omega) (fun kk e => (hltn4 kk e).1)
        have HF5 : Hid (OwnStrs w5 v.heap.size (.slice (some ⟨g4, 0, none⟩) (ns.length + 1) cap4) ((ns ++ [q]).map (seg name))) := by
          show OwnStrs _ _ _ _
          unfold OwnStrs
          have e : ([q].map (seg name)).map Value.string = [.string x] := by rw [HXQ.out]; rfl
          rw [List.length_map, List.length_append, List.length_singleton, List.map_append, List.map_append, e, List.map_map]
          refine World.ownsRow.kept (World.ownsRow.alloc HO4.out _) hg5 ?_
          cases e : (Value.slice an ns.length cn).ownBlock with
          | none => exact .inr (fun h => by cases h)
          | some kk => exact .inr (fun h => by
              have : some g4 = some kk := h
              exact hne4 kk e (Option.some.inj this).symm)
        have HN5 : Hid (OwnI w5 v.heap.size (.slice (some ⟨g5, 0, none⟩) (ns.length + 1) cap5) (ns ++ [q])) := by
          show OwnI _ _ _ _
          unfold OwnI
          rw [List.length_append, List.map_append]
          exact hown5
        have HNE5 : Hid (g4 ≠ g5) := by
          show _ ≠ _
          rcases hat5 with hat5 | hat5
          · exact fun e => hne4 g5 hat5 e.symm
          · omega
        have HK5 := Lib.hid hk5
        clear hown5 hg5 hat5 hlt5 hg4 hat4 hlt4 hn4 hne4 hk4 hltn4 hn3 hltn hltf hng hne hk5 hfo HO4
        go_wp2_with fail
        go_roundg (xs.length - (k + 1))
        case measure => omega
        case rel => exact ⟨k + 1, ns ++ [q], by go_num, by omega, rfl, by simp; omega, HF5.out, HN5.out, (fun b1 b2 e1 e2 => by
          have e1 : some g4 = some b1 := e1
          have e2 : some g5 = some b2 := e2
          cases e1; cases e2
          exact HNE5.out), HK5, (show Hid _ from by
          show _ = _
          rw [← HR.out, HD2.out, List.filterMap_cons, HQ.out]; simp)⟩
    · have ek : k = xs.length := by omega
      subst ek
      obtain ⟨af, cf, rfl, _, _, _⟩ := hf.form
      obtain ⟨an, cn, rfl, _, _⟩ := hn.form2
      have HF := Lib.hid hf
      have HN := Lib.hid hn
      clear hf hn
      go_wp2_with fail
      go_ret2
      have er : ns = segs S name := by
        rw [← HR.out, List.drop_length]; simp
      subst er
      refine ⟨_, _, rfl, ?_, ?_, HX.out.trans HXW.out⟩
      · obtain ⟨h0, h | ⟨g, cap, cur, e1, hB, hg, h1, h2, h3, h4⟩⟩ := HF.out
        · exact ⟨h0, .inl h⟩
        · exact ⟨h0, .inr ⟨g, cap, cur, e1, Nat.le_trans HX.out.size hB, hg, h1, h2, h3, h4⟩⟩
      · obtain ⟨h0, h | ⟨g, cap, cur, e1, hB, hg, h1, h2, h3, h4⟩⟩ := HN.out
        · exact ⟨h0, .inl h⟩
        · exact ⟨h0, .inr ⟨g, cap, cur, e1, Nat.le_trans HX.out.size hB, hg, h1, h2, h3, h4⟩⟩
end Go.Proofs.YtmdkjcigmhgpeaaGreatDoor
