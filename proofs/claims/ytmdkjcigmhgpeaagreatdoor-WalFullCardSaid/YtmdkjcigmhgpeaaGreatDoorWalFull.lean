/- The walk of WalFull: what there is no room for is refused, and changes nothing. -/
import Derived.Test.YtmdkjcigmhgpeaaGreatDoorWalLaw
import Derived.Deep.AppendLies
namespace Go.Proofs.YtmdkjcigmhgpeaaGreatDoor
open Go.RowKit Snp SealMath Dsk Wal

/-- X with the block of a row of the law's own. -/
abbrev XV (lb rb : Nat) (v : Value) : Nat → Prop := fun x => x = lb ∨ x = rb ∨ v.ownBlock = some x
theorem only_grown {w w' : World} {row : Option Nat} (h : w.grownBy w' row) : Only (fun x => row = some x) w w' :=
  ⟨h.os, h.tape, h.output, h.size, fun k hk hn => h.block k hk (fun e => hn e.symm)⟩
theorem WH.grew {B lb rb : Nat} {v : Value} {w w' : World} {d : Nat} {S : DS} {L : LG} (h : WH B (XV lb rb v) w d lb S L) (hv : v.ownBlock ≠ some lb) (hg : w.grownBy w' v.ownBlock) (g n c : Nat)
    (hat : v.ownBlock = some g ∨ w.heap.size ≤ g) (hlt : g < w'.heap.size) : WH B (XV lb rb (.slice (some ⟨g, 0, none⟩) n c)) w' d lb S L := by
  obtain ⟨G, h1, h2⟩ := h.disk
  have ho := only_grown hg
  refine ⟨h.log.only ho hv, h.low, .inl rfl, fun x hx => ?_, Nat.le_trans h.big hg.size, fun x => G x ∧ x < w.heap.size, (disk_small h1).only ho (fun x hx hy => (h2 x hx.1).2 (.inr (.inr hy))), fun x hx => ⟨(h2 x hx.1).1, fun hn => ?_⟩⟩
  · rcases hx with rfl | rfl | hx
    · exact Nat.lt_of_lt_of_le (h.lt _ (.inl rfl)) hg.size
    · exact Nat.lt_of_lt_of_le (h.lt _ (.inr (.inl rfl))) hg.size
    · cases hx; exact hlt
  · rcases hn with hn | hn | hn
    · exact (h2 x hx.1).2 (.inl hn)
    · exact (h2 x hx.1).2 (.inr (.inl hn))
    · cases hn
      rcases hat with hat | hat
      · exact (h2 _ hx.1).2 (.inr (.inr hat))
      · have := hx.2; simp only at this; omega
set_option maxRecDepth 20000 in
set_option maxHeartbeats 8000000 in
theorem walfull_any (l : List ByteArray) (a : Option Addr) (c room : Nat) (hrm : room < 65536) (hl9 : l.length ≤ 140737488355328) (w : World) (hs : StrsAt w a l) (hnb : Nibs w) :
    Calls Tryz.prog 7 #[.slice a l.length c, .int .u16 (room : Nat)] w fun e w' => e = .returned (.bool true) ∧ Ext w w' := by
  have HN := Lib.hid hnb
  have HNL := Lib.hid (cell_lt (hnb 0 (by omega)))
  have HS := Lib.hid hs
  clear hnb hs
  obtain ⟨i0, hi0, hz0, hz1, hz2⟩ := info_parts info_rec
  have HAW : Hid (∀ u, Ext w u → Calls Tryz.prog 32 #[] u fun e w' => e = .returned (.bool true) ∧ Ext u w') := fun u k => awake7_any u (HN.out.ext k)
  go_enter Tryz.func7, Tryz.ntmps7
  by_cases h20 : 20 < l.length
  · have hg : decide ((20 : Int) < (l.length : Int)) = true := decide_eq_true (by omega)
    go_wp2_with (go_at_call 32; refine (HAW.out _ (Ext.refl _)).mono ?_; rintro e w1 ⟨rfl, hx⟩; have HX1 := Lib.hid hx; clear hx)
    all_goals
      go_wp2_with fail
      go_ret
      exact ⟨rfl, HX1.out⟩
  · have hg : decide ((20 : Int) < (l.length : Int)) = false := decide_eq_false (by omega)
    go_wp2_with (go_at_call 32; refine (HAW.out _ (Ext.refl _)).mono ?_; rintro e w1 ⟨rfl, hx⟩; have HX1 := Lib.hid hx; clear hx)
    all_goals
      go_wp2_with fail
      refine (begin7_any room (by omega) w1 (HN.out.ext HX1.out)).mono ?_
      rintro e w2 ⟨rb, d, lb, G, rfl, hr, hl, hd, hG, hG1, hG2, hlb, hrb, hne, hx⟩
      have HX2 := Lib.hid (HX1.out.trans hx)
      have HW2 : Hid (WH w1.heap.size (XV lb rb (.slice none 0 0)) w2 d lb (new room) (emptyL 0)) :=
        ⟨hl, hlb, .inl rfl, fun x hx => (by rcases hx with rfl | rfl | hx; exact lt_of_heap hl; exact lt_of_heap hr; cases hx), hx.size, G, hd, fun x hx => ⟨hG x hx, (by rintro (rfl | rfl | k); exact hG1 hx; exact hG2 hx; cases k)⟩⟩
      have r0 : w2.cell? ⟨rb, 0, none⟩ = some (.pointer (some ⟨d, 0, none⟩)) := Go.Joins.cell_of_block hr 0
      have r1 : w2.cell? ⟨rb, 1, none⟩ = some (.pointer (some ⟨lb, 0, none⟩)) := Go.Joins.cell_of_block hr 1
      have HNE : Hid (rb ≠ lb) := fun k => hne k.symm
      clear hr hl hd hG hG1 hG2 hlb hrb hne hx
      go_wp2_with fail
      go_loopg [6, 7] (l.length) (fun g v i wr => ∃ (j : Nat) (vv : Value) (acc : List (List UInt8)) (S : DS) (L : LG), i = .int .i64 j ∧ vv = v ∧ j ≤ l.length ∧ g = l.length - j ∧ Hid (WH w1.heap.size (XV lb rb vv) wr d lb S L) ∧ Hid (Grown room S L acc) ∧ Hid (acc.length ≤ j ∧ weight acc ≤ j * 1020) ∧ Hid (OwnRecs wr w1.heap.size vv (num 0 acc)) ∧ Hid (vv.ownBlock ≠ some lb ∧ vv.ownBlock ≠ some rb) ∧ Hid (Ext w wr) ∧ Hid (wr.cell? ⟨rb, 0, none⟩ = some (.pointer (some ⟨d, 0, none⟩)) ∧ wr.cell? ⟨rb, 1, none⟩ = some (.pointer (some ⟨lb, 0, none⟩))))
      case atStart => exact ⟨0, _, [], new room, emptyL 0, rfl, rfl, Nat.zero_le _, rfl, HW2, Grown.first _, ⟨Nat.le_refl _, Nat.zero_le _⟩, OwnRecs.nil _ _, ⟨nofun, nofun⟩, HX2, ⟨r0, r1⟩⟩
      case round =>
        obtain ⟨j, v, acc, S, L, rfl, rfl, hj, rfl, HW, HGR, HLEN, HOWN, HVB, HX, HRC⟩ := hrel
        have r0 := HRC.out.1
        have r1 := HRC.out.2
        by_cases hlt : j < l.length
        · obtain ⟨bk, o, rfl, _, hcell0⟩ := HS.out j _ (List.getElem?_eq_getElem hlt)
          have HBK : Hid (bk < w1.heap.size) := Nat.lt_of_lt_of_le (cell_lt hcell0) HX1.out.size
          have hcell := Ext.cell HX.out hcell0
          clear hcell0
          generalize l[j] = x at hcell
          by_cases hx1 : 1000 < x.size
          · have hg : decide ((1000 : Int) < (x.size : Int)) = true := decide_eq_true (by omega)
            go_wp2_with fail
            go_ret
            exact ⟨rfl, HX.out⟩
          · have hg : decide ((1000 : Int) < (x.size : Int)) = false := decide_eq_false (by omega)
            obtain ⟨G, hdk, hG⟩ := HW.out.disk
            have HFR : Hid (∀ u, Ext wr u → Calls Tryz.prog 34 #[.pointer (some ⟨d, 0, none⟩)] u fun e w' => e = .returned (.int .i64 (free S)) ∧ Ext u w') := fun u k => free_any d S G u (hdk.ext k)
            clear hdk hG
            have HXZ := Lib.hid hx1
            have hw20 : IntKind.i64.wrap (20 + (x.size : Int)) = 20 + (x.size : Int) := by rw [IntKind.wrap_i64]; omega
            have hwk : weight acc ≤ 20400 := by have := HLEN.out.2; omega
            have hln : acc.length < 20 := by have := HLEN.out.1; omega
            have hsz : L.size ≤ 100000 := by have := HGR.out.size; omega
            have hus : S.uses ≤ 100 := by have := HGR.out.uses; omega
            have hfl := HGR.out.file
            have HAP : Hid (∀ u, Ext wr u → Calls Tryz.prog 35 #[.pointer (some ⟨lb, 0, none⟩), .string x] u fun e w' => e = .returned (.tuple #[.int .i64 ((appendW nameW S L (lst x)).1.1 : Nat), .int .i64 ((appendW nameW S L (lst x)).1.2 : Nat)]) ∧ WH w1.heap.size (XV lb rb v) w' d lb (appendW nameW S L (lst x)).2.2 (appendW nameW S L (lst x)).2.1 ∧ Turns w1.heap.size (XV lb rb v) lb u w') := fun u k =>
              append_wh x (by have := HXZ.out; omega) (by omega) (by omega) (by omega) (HW.out.ext k) (HN.out.ext (HX.out.trans k))
            have HLN := Lib.hid (And.intro hwk hln)
            clear hwk hln hsz hus hfl hx1
            go_wp2_with fail
            refine (HFR.out _ (Ext.refl _)).mono ?_
            rintro e w3 ⟨rfl, hx3⟩
            have HX3 := Lib.hid hx3
            have r0 := Ext.cell hx3 r0
            have r1 := Ext.cell hx3 r1
            have hcell := Ext.cell hx3 hcell
            clear hx3
            by_cases hfull : (x.size : Int) + 20 ≤ free S
            · have hg : decide (free S < 20 + (x.size : Int)) = false := decide_eq_false (by omega)
              obtain ⟨T, M, a1, a2⟩ := HGR.out.append (lst x) (by rw [lst_length]; have := HXZ.out; omega) (by rw [lst_length]; exact hfull) (by have := HLN.out.2; omega) (by rw [lst_length]; have := HLN.out.1; have := HXZ.out; omega)
              have HAF : Hid (∀ u, Ext w3 u → Calls Tryz.prog 35 #[.pointer (some ⟨lb, 0, none⟩), .string x] u fun e w' => e = .returned (.tuple #[.int .i64 (acc.length : Nat), .int .i64 0]) ∧ WH w1.heap.size (XV lb rb v) w' d lb T M ∧ Turns w1.heap.size (XV lb rb v) lb u w') := fun u k => by
                have hap := HAP.out u (HX3.out.trans k)
                rw [a1] at hap
                exact hap
              have HA2 := Lib.hid a2
              clear a1 a2
              go_wp2_with fail
              go_cut [9, 10] (fun s9 s10 wx => s9 = .int .i64 (acc.length : Nat) ∧ s10 = .int .i64 0 ∧ Hid (WH w1.heap.size (XV lb rb v) wx d lb T M) ∧ Hid (∃ u, Ext w3 u ∧ Turns w1.heap.size (XV lb rb v) lb u wx))
              case first =>
                go_region_held3 (fun u => u.cell? ⟨rb, 1, none⟩ = some (.pointer (some ⟨lb, 0, none⟩)) ∧ u.cell? ⟨bk, o + j, none⟩ = some (.string x)) (first | exact ⟨r1, hcell⟩ | exact ⟨q1, q2⟩)
                  (first | (go_at_call 35; refine (HAF.out _ (by first | exact Ext.refl _ | exact (Ext.refl _).drew)).mono ?_; rintro e u ⟨rfl, hw6, ho6⟩; have HW6 := Lib.hid hw6; have HO6 : Hid (∃ v', Ext w3 v' ∧ Turns w1.heap.size (XV lb rb v) lb v' u) := ⟨_, (by first | exact Ext.refl _ | exact (Ext.refl _).drew), ho6⟩; have q1 := Only.cell ho6 (Ext.cell (by first | exact Ext.refl _ | exact (Ext.refl _).drew) r1) (by rintro (k | k); exact HNE.out k; exact k.2 (.inr (.inl rfl))); have q2 := Only.cell ho6 (Ext.cell (by first | exact Ext.refl _ | exact (Ext.refl _).drew) hcell) (by have := HBK.out; have := HW.out.low; rintro (k | k) <;> omega); clear hw6 ho6))
                all_goals
                  go_wp2_with fail
                  go_meet
                  exact ⟨rfl, rfl, HW6, HO6⟩
              obtain ⟨rfl, rfl, HW6, HO6⟩ := hcut
              obtain ⟨u3, k3, ho⟩ := HO6.out
              have r0 := Only.cell ho (Ext.cell k3 r0) (by rintro (k | k); exact HNE.out k; exact k.2 (.inr (.inl rfl)))
              have r1 := Only.cell ho (Ext.cell k3 r1) (by rintro (k | k); exact HNE.out k; exact k.2 (.inr (.inl rfl)))
              have hcell := Only.cell ho (Ext.cell k3 hcell) (by have := HBK.out; have := HW.out.low; rintro (k | k) <;> omega)
              have HX6 : Hid (Ext w wc) := Below.trans (HX.out.trans (HX3.out.trans k3)) (Below.mono (ho.below (Nat.le_trans HW.out.big (HX3.out.trans k3).size) HW.out.low) HX1.out.size)
              have HOW6 : Hid (OwnRecs wc w1.heap.size v (num 0 acc)) := OwnRecs.only (OwnRecs.ext HOWN.out (HX3.out.trans k3)) ho (fun g hg k => by
                rcases k with k | k
                · exact HVB.out.1 (by rw [hg, k])
                · exact k.2 (.inr (.inr hg)))
              clear ho k3
              obtain ⟨a2, c2, rfl, hc1, hc2, _, _, _⟩ := HOW6.out.form
              have hown6 := HOW6.out
              rw [num_length] at hc1 hown6 ⊢
              go_wp2_with (at_builtin; refine wpList_append_lies _ rfl _ _ 61 rfl w1.heap.size 68 i0 (.agg #[.int .i64 0, .string ⟨#[]⟩]) 2 24 Tryz.underlying61 hi0 hz0 hz1 hz2 rfl (by decide) _ _ _ rfl (World.ownsRow.alloc hown6 _) ⟨wc.heap.size, 0, none⟩ 1 1 [.int .i64 (acc.length : Nat), .string x] rfl rfl ?c1 ?c2 (by decide) ?c3 ?c4 ?c5 _ rfl ?_)
              case c1 => exact cell_rec_new _ (acc.length, x) 68
              case c2 => exact rvals_one (acc.length, x)
              case c3 => rw [num_length]; unfold maxLen; have := HLN.out.2; omega
              case c4 => rw [num_length]; have := HLN.out.2; omega
              case c5 => have := HW6.out.big; simp; omega
              intro g cap w8 hown8 hg8 hat8 hlt8
              have hob : (Value.slice a2 acc.length c2).ownBlock = (Value.slice a2 (num 0 acc).length c2).ownBlock := by rw [num_length]
              rw [hob] at hg8 hat8
              have HW8 : Hid (WH w1.heap.size (XV lb rb (.slice (some ⟨g, 0, none⟩) ((num 0 acc).length + 1) cap)) w8 d lb T M) := (HW6.out.ext ((Ext.refl wc).alloc _)).grew HVB.out.1 hg8 g _ _ (hat8.imp id (fun k => by simp; omega)) hlt8
              have HO8 : Hid (OwnRecs w8 w1.heap.size (.slice (some ⟨g, 0, none⟩) ((num 0 acc).length + 1) cap) (num 0 (acc ++ [lst x]))) := by
                show OwnRecs _ _ _ _
                have e : rrows (num (0 + acc.length) [lst x]) = [.int .i64 (acc.length : Nat), .string x] := by
                  have : bts (lst x) = x := lst_inj (lst_bts _)
                  show [Value.int .i64 ((0 + acc.length : Nat) : Int), Value.string (bts (lst x))] = _
                  rw [this, Nat.zero_add]
                rw [num_append]
                unfold OwnRecs
                rw [List.length_append, rrows_append, e]
                exact hown8
              have r0 := Only.cell (only_grown hg8) (Ext.cell ((Ext.refl wc).alloc (.cells #[.int .i64 (acc.length : Nat), .string x] 68)) r0) (fun k => HVB.out.2 k)
              have r1 := Only.cell (only_grown hg8) (Ext.cell ((Ext.refl wc).alloc (.cells #[.int .i64 (acc.length : Nat), .string x] 68)) r1) (fun k => HVB.out.2 k)
              have HX8 : Hid (Ext w w8) := Below.grown (HX6.out.alloc _) hg8 (by have := HX6.out.size; simp; omega) (fun kk e => Nat.le_trans HX1.out.size (OwnRecs.lt HOW6.out kk e).1)
              have HVB8 : Hid ((Value.slice (some ⟨g, 0, none⟩) ((num 0 acc).length + 1) cap).ownBlock ≠ some lb ∧ (Value.slice (some ⟨g, 0, none⟩) ((num 0 acc).length + 1) cap).ownBlock ≠ some rb) := by
                have h1 := HW6.out.lt lb (.inl rfl)
                have h2 := HW6.out.lt rb (.inr (.inl rfl))
                refine ⟨fun e => ?_, fun e => ?_⟩
                · have e2 : g = lb := Option.some.inj e
                  rcases hat8 with k | k
                  · exact HVB.out.1 (e2 ▸ k)
                  · omega
                · have e2 : g = rb := Option.some.inj e
                  rcases hat8 with k | k
                  · exact HVB.out.2 (e2 ▸ k)
                  · omega
              clear hown8 hg8 hat8 hlt8 hown6
              go_wp2_with fail
              go_roundg (l.length - (j + 1))
              case measure => omega
              case rel => exact ⟨j + 1, _, acc ++ [lst x], T, M, by go_num, rfl, by omega, rfl, HW8, HA2, ⟨by rw [List.length_append]; have := HLEN.out.1; simp; omega, by rw [weight_snoc, lst_length]; have := HLEN.out.2; have := HXZ.out; omega⟩, HO8, HVB8, HX8, ⟨r0, r1⟩⟩
            · have hg : decide (free S < 20 + (x.size : Int)) = true := decide_eq_true (by omega)
              have hap := HAP.out w3 HX3.out
              rw [HGR.out.full (lst x) (by rw [lst_length]; have := HXZ.out; omega) (by have := HLN.out.2; omega) (by rw [lst_length]; exact hfull)] at hap
              simp only at hap
              have HAF : Hid (∀ u, Ext w3 u → Calls Tryz.prog 35 #[.pointer (some ⟨lb, 0, none⟩), .string x] u fun e w' => e = .returned (.tuple #[.int .i64 0, .int .i64 6]) ∧ WH w1.heap.size (XV lb rb v) w' d lb S L ∧ Turns w1.heap.size (XV lb rb v) lb u w') := fun u k => by
                have hap := HAP.out u (HX3.out.trans k)
                rw [HGR.out.full (lst x) (by rw [lst_length]; have := HXZ.out; omega) (by have := HLN.out.2; omega) (by rw [lst_length]; exact hfull)] at hap
                simp only at hap
                exact hap
              clear hap
              go_wp2_with fail
              go_cut [9, 10] (fun s9 s10 wx => s9 = .int .i64 0 ∧ s10 = .int .i64 6 ∧ Hid (WH w1.heap.size (XV lb rb v) wx d lb S L) ∧ Hid (∃ u, Ext w3 u ∧ Turns w1.heap.size (XV lb rb v) lb u wx))
              case first =>
                go_region_held3 (fun u => u.cell? ⟨rb, 1, none⟩ = some (.pointer (some ⟨lb, 0, none⟩)) ∧ u.cell? ⟨bk, o + j, none⟩ = some (.string x)) (first | exact ⟨r1, hcell⟩ | exact ⟨q1, q2⟩)
                  (first | (go_at_call 35; refine (HAF.out _ (by first | exact Ext.refl _ | exact (Ext.refl _).drew)).mono ?_; rintro e u ⟨rfl, hw6, ho6⟩; have HW6 := Lib.hid hw6; have HO6 : Hid (∃ v', Ext w3 v' ∧ Turns w1.heap.size (XV lb rb v) lb v' u) := ⟨_, (by first | exact Ext.refl _ | exact (Ext.refl _).drew), ho6⟩; have q1 := Only.cell ho6 (Ext.cell (by first | exact Ext.refl _ | exact (Ext.refl _).drew) r1) (by rintro (k | k); exact HNE.out k; exact k.2 (.inr (.inl rfl))); have q2 := Only.cell ho6 (Ext.cell (by first | exact Ext.refl _ | exact (Ext.refl _).drew) hcell) (by have := HBK.out; have := HW.out.low; rintro (k | k) <;> omega); clear hw6 ho6))
                all_goals
                  go_wp2_with fail
                  go_meet
                  exact ⟨rfl, rfl, HW6, HO6⟩
              obtain ⟨rfl, rfl, HW6, HO6⟩ := hcut
              obtain ⟨u3, k3, ho⟩ := HO6.out
              have r0 := Only.cell ho (Ext.cell k3 r0) (by rintro (k | k); exact HNE.out k; exact k.2 (.inr (.inl rfl)))
              have r1 := Only.cell ho (Ext.cell k3 r1) (by rintro (k | k); exact HNE.out k; exact k.2 (.inr (.inl rfl)))
              have hcell := Only.cell ho (Ext.cell k3 hcell) (by have := HBK.out; have := HW.out.low; rintro (k | k) <;> omega)
              have HX6 : Hid (Ext w wc) := Below.trans (HX.out.trans (HX3.out.trans k3)) (Below.mono (ho.below (Nat.le_trans HW.out.big (HX3.out.trans k3).size) HW.out.low) HX1.out.size)
              have HOW6 : Hid (OwnRecs wc w1.heap.size v (num 0 acc)) := OwnRecs.only (OwnRecs.ext HOWN.out (HX3.out.trans k3)) ho (fun g hg k => by
                rcases k with k | k
                · exact HVB.out.1 (by rw [hg, k])
                · exact k.2 (.inr (.inr hg)))
              clear ho k3
              have HFR6 : Hid (∀ u, Ext wc u → Calls Tryz.prog 34 #[.pointer (some ⟨d, 0, none⟩)] u fun e w' => e = .returned (.int .i64 (free S)) ∧ Ext u w') := by
                obtain ⟨G6, hd6, _⟩ := HW6.out.disk
                exact fun u k => free_any d S G6 u (hd6.ext k)
              go_wp2_with fail
              refine (HFR6.out _ (Ext.refl _)).mono ?_
              rintro e w7 ⟨rfl, hx7⟩
              have HX7 := Lib.hid hx7
              have r0 := Ext.cell hx7 r0
              have r1 := Ext.cell hx7 r1
              clear hx7
              go_wp2_with fail
              go_roundg (l.length - (j + 1))
              case measure => omega
              case rel => exact ⟨j + 1, v, acc, S, L, by go_num, rfl, by omega, rfl, HW6.out.ext HX7.out, HGR, ⟨by have := HLEN.out.1; omega, by have := HLEN.out.2; omega⟩, OwnRecs.ext HOW6.out HX7.out, HVB, HX6.out.trans HX7.out, ⟨r0, r1⟩⟩
        · obtain rfl : j = l.length := by omega
          have hl20 : acc.length ≤ 20 := by have := HLEN.out.1; omega
          obtain ⟨T, M, b1, b2, b3, U, N, b4⟩ := HGR.out.back
          have hcom := commit_wh (by have := HGR.out.uses; omega) (by have := HGR.out.file; omega) HW.out
          rw [b1] at hcom
          simp only at hcom
          have HB := Lib.hid (And.intro b2 (And.intro b3 b4))
          have HL20 := Lib.hid hl20
          clear b1 b2 b3 b4 hl20
          go_wp2_with fail
          refine hcom.mono ?_
          clear hcom
          rintro e w7 ⟨rfl, hw, ho⟩
          have HX7 : Hid (Ext w w7) := Below.trans HX.out (Below.mono (ho.below HW.out.big HW.out.low) HX1.out.size)
          have HW7 := Lib.hid hw
          have HOW7 : Hid (OwnRecs w7 w1.heap.size v (num 0 acc)) := OwnRecs.only HOWN.out ho (fun g hg k => by
            rcases k with k | k
            · exact HVB.out.1 (by rw [hg, k])
            · exact k.2 (.inr (.inr hg)))
          have r0 := Only.cell ho r0 (by rintro (k | k); exact HNE.out k; exact k.2 (.inr (.inl rfl)))
          clear hw ho r1
          obtain ⟨G7, hg1, hg2⟩ := HW7.out.disk
          have hop := open_wh hg1 hg2 HW7.out.big HW7.out.lt HB.out.2.1 (by have := HB.out.1; have := HL20.out; omega) (HN.out.ext HX7.out) (Nat.lt_of_lt_of_le HNL.out HX1.out.size) (by rw [HB.out.2.2])
          rw [HB.out.2.2] at hop
          clear hg1 hg2
          go_wp2_with fail
          refine hop.mono ?_
          clear hop
          rintro e w8 ⟨lb8, v8, rfl, hown, _, _, _, ho⟩
          have HX8 : Hid (Ext w w8) := Below.trans HX7.out (Only.below ho HX7.out.size (fun b k => Nat.le_trans HX1.out.size k.1))
          have HOW8 : Hid (OwnRecs w8 w1.heap.size v (num 0 acc)) := OwnRecs.only HOW7.out ho (fun g hg k => k.2 (.inr (.inr hg)))
          simp only at hown
          obtain ⟨a8, c8, rfl, _, _, hrec8, _, _⟩ := hown.form
          obtain ⟨a9, c9, rfl, _, _, hrec9, _, _⟩ := HOW8.out.form
          have hsame := same7_any a8 c8 (num 0 acc) a9 c9 (num 0 acc) (by rw [num_length]; have := HL20.out; omega) w8 hrec8 hrec9
          rw [decide_eq_true rfl] at hsame
          clear hown ho hrec8 hrec9 r0
          generalize (num 0 acc).length = ln at hsame ⊢
          go_wp2_with fail
          refine hsame.mono ?_
          clear hsame
          rintro e w9 ⟨rfl, hx9⟩
          have HX9 := Lib.hid (HX8.out.trans hx9)
          clear hx9
          go_wp2_with fail
          go_ret
          exact ⟨rfl, HX9.out⟩
end Go.Proofs.YtmdkjcigmhgpeaaGreatDoor
