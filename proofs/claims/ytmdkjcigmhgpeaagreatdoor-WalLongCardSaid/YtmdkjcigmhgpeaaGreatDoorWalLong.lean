/- The walk of WalLong: records fill segment behind segment, and come back in order. -/
import Derived.Test.YtmdkjcigmhgpeaaGreatDoorWalLaw
namespace Go.Proofs.YtmdkjcigmhgpeaaGreatDoor
open Go.RowKit Snp SealMath Dsk Wal

theorem weight_rep (j m : Nat) : weight (List.replicate j (zeros m)) = j * (m + 20) := by
  unfold weight
  rw [List.map_replicate, List.sum_replicate_nat, zeros_length]
set_option maxRecDepth 20000 in
set_option maxHeartbeats 8000000 in
theorem wallong_any (n size : Nat) (hn : n < 256) (hs : size < 65536) (w : World) (hnb : Nibs w) :
    Calls Tryz.prog 8 #[.int .u8 (n : Nat), .int .u16 (size : Nat)] w fun e w' => e = .returned (.bool true) ∧ Ext w w' := by
  have HN := Lib.hid hnb
  have HNL := Lib.hid (cell_lt (hnb 0 (by omega)))
  clear hnb
  go_enter Tryz.func8, Tryz.ntmps8
  go_wp2_with fail
  refine (begin7_any 1048576 (by decide) w HN.out).mono ?_
  rintro e w1 ⟨rb, d, lb, G, rfl, hr, hl, hd, hG, hG1, hG2, hlb, hrb, hne, hx⟩
  have HX1 := Lib.hid hx
  have HW1 : Hid (WH w.heap.size (fun x => x = lb ∨ x = rb) w1 d lb (new 1048576) (emptyL 0)) :=
    ⟨hl, hlb, .inl rfl, fun x hx => by rcases hx with rfl | rfl; exact lt_of_heap hl; exact lt_of_heap hr, hx.size, G, hd, fun x hx => ⟨hG x hx, by rintro (rfl | rfl); exact hG1 hx; exact hG2 hx⟩⟩
  have r0 : w1.cell? ⟨rb, 0, none⟩ = some (.pointer (some ⟨d, 0, none⟩)) := Go.Joins.cell_of_block hr 0
  have r1 : w1.cell? ⟨rb, 1, none⟩ = some (.pointer (some ⟨lb, 0, none⟩)) := Go.Joins.cell_of_block hr 1
  have HNE : Hid (rb ≠ lb) := fun k => hne k.symm
  clear hr hl hd hG hG1 hG2 hlb hrb hne hx
  go_wp2_with fail
  refine (awake7_any w1 (HN.out.ext HX1.out)).mono ?_
  rintro e w2 ⟨rfl, hx⟩
  have HX2 := Lib.hid (HX1.out.trans hx)
  have HW2 := Lib.hid (HW1.out.ext hx)
  have r0 := Ext.cell hx r0
  have r1 := Ext.cell hx r1
  clear hx HX1 HW1
  obtain ⟨m, hm, hm9⟩ : ∃ m : Nat, (size : Int) % 9000 = (m : Int) ∧ m < 9000 := ⟨size % 9000, by omega, Nat.mod_lt _ (by decide)⟩
  obtain ⟨kk, hkk, hk12⟩ : ∃ k : Nat, (n : Int) % 12 = (k : Int) ∧ k < 12 := ⟨n % 12, by omega, Nat.mod_lt _ (by decide)⟩
  have hmk : ∀ u : World, (Instr.makeSlice 25 (.int .i64 (m : Int)) (.int .i64 (m : Int))).run Tryz.prog u = .ok (.slice (some ⟨u.heap.size, 0, none⟩) m m) (u.alloc (.cells (zrow m) 5)) := fun u => by
    exact made_bytes u m (by omega)
  have hst := row_str (w := w2.alloc (.cells (zrow m) 5)) w2.heap.size m (heap_alloc_new w2 _)
  have HZ : Hid (lst (zstr m) = zeros m) := rfl
  have HZS : Hid ((zstr m).size = m) := zstr_size m
  generalize zstr m = z at hst HZ HZS
  have hxa : Ext w2 (w2.alloc (.cells (zrow m) 5)) := (Ext.refl w2).alloc _
  have HX3 := Lib.hid (HX2.out.trans hxa)
  have HW3 := Lib.hid (HW2.out.ext hxa)
  have r0 := Ext.cell hxa r0
  have r1 := Ext.cell hxa r1
  clear hxa HX2 HW2
  go_upto_region 7 with fail
  clear hst hmk hs
  generalize (w2.alloc (.cells (zrow m) 5)) = w3 at HX3 HW3 r0 r1 ⊢
  have HM9 := Lib.hid hm9
  clear hm hm9
  have HNW : Hid (∀ u, Ext w u → Nibs u) := fun u k => HN.out.ext k
  go_wp2_with fail
  rw [hkk]
  clear hkk hn
  go_loopg [8] kk (fun g i wr => ∃ (j : Nat) (S : DS) (L : LG), i = .int .i64 j ∧ j ≤ kk ∧ g = kk - j ∧ Hid (WH w.heap.size (fun x => x = lb ∨ x = rb) wr d lb S L) ∧ Hid (Grown 1048576 S L (List.replicate j (zeros m))) ∧ Hid (Ext w wr) ∧ Hid (wr.cell? ⟨rb, 0, none⟩ = some (.pointer (some ⟨d, 0, none⟩)) ∧ wr.cell? ⟨rb, 1, none⟩ = some (.pointer (some ⟨lb, 0, none⟩))))
  case atStart => exact ⟨0, new 1048576, emptyL 0, rfl, Nat.zero_le _, rfl, HW3, Grown.first _, HX3, ⟨r0, r1⟩⟩
  case round =>
    obtain ⟨j, S, L, rfl, hj, rfl, HW, HGR, HX, HRC⟩ := hrel
    have r0 := HRC.out.1
    have r1 := HRC.out.2
    have hwt : weight (List.replicate j (zeros m)) = j * (m + 20) := weight_rep j m
    have hjm : j * (m + 20) ≤ 11 * 9019 := by
      have h1 : j ≤ 11 := by omega
      have h2 : m + 20 ≤ 9019 := by have := HM9.out; omega
      exact Nat.mul_le_mul h1 h2
    have hsz : L.size ≤ 100000 := by have := HGR.out.size; omega
    have hus : S.uses ≤ 100 := by have := HGR.out.uses; rw [List.length_replicate] at this; omega
    have hfl := HGR.out.file
    have hfree : free S ≥ 900000 := by
      unfold free
      rw [HGR.out.room, HGR.out.used, hwt]
      omega
    by_cases hlt : j < kk
    · obtain ⟨T, M, a1, a2⟩ := HGR.out.append (zeros m) (by rw [zeros_length]; have := HM9.out; omega) (by rw [zeros_length]; have := HM9.out; omega) (by rw [List.length_replicate]; omega) (by rw [hwt, zeros_length]; have := HM9.out; omega)
      rw [List.length_replicate] at a1
      rw [← List.replicate_succ'] at a2
      have hap := append_wh z (by rw [HZS.out]; have := HM9.out; omega) (by omega) (by omega) (by omega) HW.out (HNW.out _ HX.out)
      rw [HZ.out, a1] at hap
      simp only at hap
      have HA2 := Lib.hid a2
      clear a1 a2 hwt hjm hsz hus hfl hfree
      go_wp2_with fail
      refine hap.mono ?_
      clear hap
      rintro e w5 ⟨rfl, hw, ho⟩
      have HX5 : Hid (Ext w w5) := Below.trans HX.out (ho.below HW.out.big HW.out.low)
      have HW5 := Lib.hid hw
      have HC5 : Hid (w5.cell? ⟨rb, 0, none⟩ = some (.pointer (some ⟨d, 0, none⟩)) ∧ w5.cell? ⟨rb, 1, none⟩ = some (.pointer (some ⟨lb, 0, none⟩))) := ⟨Only.cell ho r0 (by rintro (k | k); exact HNE.out k; exact k.2 (.inr rfl)), Only.cell ho r1 (by rintro (k | k); exact HNE.out k; exact k.2 (.inr rfl))⟩
      clear hw ho r0 r1
      go_wp2_with fail
      go_roundg (kk - (j + 1))
      case measure => omega
      case rel => exact ⟨j + 1, T, M, by go_num, by omega, rfl, HW5, HA2, HX5, HC5⟩
    · obtain rfl : j = kk := by omega
      have hmk2 : ∀ u : World, (Instr.makeSlice 25 (.int .i64 65001) (.int .i64 65001)).run Tryz.prog u = .ok (.slice (some ⟨u.heap.size, 0, none⟩) 65001 65001) (u.alloc (.cells (zrow 65001) 5)) := fun u => made_bytes u 65001 (by omega)
      have hcv1 := row_str (w := wr.alloc (.cells (zrow 65001) 5)) wr.heap.size 65001 (heap_alloc_new wr _)
      have hcv2 := row_str (w := (wr.alloc (.cells (zrow 65001) 5)).drew) wr.heap.size 65001 (heap_alloc_new wr _)
      have hcv3 := row_str (w := (wr.drew).alloc (.cells (zrow 65001) 5)) wr.heap.size 65001 (heap_alloc_new wr.drew _)
      have HZ2 : Hid ((zstr 65001).size = 65001) := zstr_size 65001
      obtain ⟨zr, hzr⟩ : ∃ zr, zr = zrow 65001 := ⟨_, rfl⟩
      obtain ⟨zs, hzs⟩ : ∃ zs, zs = zstr 65001 := ⟨_, rfl⟩
      rw [← hzr] at hcv1 hcv2 hcv3 hmk2
      rw [← hzs] at hcv1 hcv2 hcv3 HZ2
      clear hzr hzs
      have HAP : Hid (∀ u, Ext wr u → Calls Tryz.prog 35 #[.pointer (some ⟨lb, 0, none⟩), .string zs] u fun e w' => e = .returned (.tuple #[.int .i64 0, .int .i64 5]) ∧ WH w.heap.size (fun x => x = lb ∨ x = rb) w' d lb S L ∧ Turns w.heap.size (fun x => x = lb ∨ x = rb) lb u w') := fun u k => by
        have h1 := append_wh zs (by rw [HZ2.out]; omega) (by omega) (by omega) (by omega) (HW.out.ext k) (HNW.out _ (HX.out.trans k))
        rw [HGR.out.long (lst zs) (by rw [lst_length, HZ2.out]; omega)] at h1
        exact h1
      have HHJ := Lib.hid (And.intro hus hfl)
      clear hwt hjm hfree hsz hus hfl
      go_upto_region 12 with fail
      go_cut [11, 12] (fun s11 s12 wx => s11 = .int .i64 0 ∧ s12 = .int .i64 5 ∧ Hid (WH w.heap.size (fun x => x = lb ∨ x = rb) wx d lb S L) ∧ Hid (Ext w wx) ∧ Hid (wx.cell? ⟨rb, 0, none⟩ = some (.pointer (some ⟨d, 0, none⟩)) ∧ wx.cell? ⟨rb, 1, none⟩ = some (.pointer (some ⟨lb, 0, none⟩))))
      case first =>
        have r1a := Ext.cell ((Ext.refl wr).alloc (.cells zr 5)) r1
        go_region_with (first | (go_at_call 35; refine (HAP.out _ (by first | exact (Ext.refl _).alloc _ | exact ((Ext.refl _).alloc _).drew | exact ((Ext.refl _).drew).alloc _)).mono ?_; rintro e v ⟨rfl, hw6, ho6⟩; have hx6 : Hid (Ext w v) := Below.trans (HX.out.trans (by first | exact (Ext.refl _).alloc _ | exact ((Ext.refl _).alloc _).drew | exact ((Ext.refl _).drew).alloc _)) (Turns.below ho6 (Nat.le_trans HW.out.big (Below.size (show Ext wr _ from (by first | exact (Ext.refl _).alloc _ | exact ((Ext.refl _).alloc _).drew | exact ((Ext.refl _).drew).alloc _)))) HW.out.low); have hc6 : Hid (v.cell? ⟨rb, 0, none⟩ = some (.pointer (some ⟨d, 0, none⟩)) ∧ v.cell? ⟨rb, 1, none⟩ = some (.pointer (some ⟨lb, 0, none⟩))) := ⟨Only.cell ho6 (Ext.cell (by first | exact (Ext.refl _).alloc _ | exact ((Ext.refl _).alloc _).drew | exact ((Ext.refl _).drew).alloc _) r0) (by rintro (k | k); exact HNE.out k; exact k.2 (.inr rfl)), Only.cell ho6 (Ext.cell (by first | exact (Ext.refl _).alloc _ | exact ((Ext.refl _).alloc _).drew | exact ((Ext.refl _).drew).alloc _) r1) (by rintro (k | k); exact HNE.out k; exact k.2 (.inr rfl))⟩; have hw7 := Lib.hid hw6; clear hw6 ho6))
        all_goals
          go_wp2_with fail
          go_meet
          exact ⟨rfl, rfl, hw7, hx6, hc6⟩
      obtain ⟨rfl, rfl, HW6, HX6, HR6⟩ := hcut
      clear hcv1 hcv2 hcv3 hmk2 r0 r1
      obtain ⟨T, M, b1, b2, b3, U, N, b4⟩ := HGR.out.back
      rw [List.length_replicate] at b2
      have hcom := commit_wh (by have := HHJ.out.1; omega) (by have := HHJ.out.2; omega) HW6.out
      rw [b1] at hcom
      simp only at hcom
      have HB := Lib.hid (And.intro b2 (And.intro b3 b4))
      clear b1 b2 b3 b4
      have r0 := HR6.out.1
      have r1 := HR6.out.2
      go_wp2_with fail
      refine hcom.mono ?_
      clear hcom
      rintro e w7 ⟨rfl, hw, ho⟩
      have HX7 : Hid (Ext w w7) := Below.trans HX6.out (ho.below HW6.out.big HW6.out.low)
      have HW7 := Lib.hid hw
      have r0 := Only.cell ho r0 (by rintro (k | k); exact HNE.out k; exact k.2 (.inr rfl))
      clear hw ho r1
      obtain ⟨G7, hg1, hg2⟩ := HW7.out.disk
      have hop := open_wh hg1 hg2 HW7.out.big HW7.out.lt HB.out.2.1 (by have := HB.out.1; omega) (HNW.out _ HX7.out) HNL.out (by rw [HB.out.2.2])
      rw [HB.out.2.2] at hop
      clear hg1 hg2
      go_wp2_with fail
      refine hop.mono ?_
      clear hop
      rintro e w8 ⟨lb8, v8, rfl, hown, _, _, _, ho⟩
      have HX8 : Hid (Ext w w8) := Below.trans HX7.out (Only.below ho HX7.out.size (fun b k => k.1))
      simp only at hown
      obtain ⟨a8, c8, rfl, _, _, hrec, hz8, _⟩ := hown.form
      have HZ8 := Lib.hid hz8
      clear hz8
      have HRE := Lib.hid hrec
      have hnl : (num 0 (List.replicate j (zeros m))).length = j := by rw [num_length, List.length_replicate]
      rw [hnl]
      clear hown ho hrec r0
      have HG8 : Hid (∀ q, q < j → ∃ g, a8 = some ⟨g, 0, none⟩ ∧ w8.cell? ⟨g, q * 2, none⟩ = some (.int .i64 (q : Nat)) ∧ w8.cell? ⟨g, q * 2 + 1, none⟩ = some (.string z)) := fun q hq => by
        have e : (num 0 (List.replicate j (zeros m)))[q]? = some (q, z) := by
          rw [num_get, List.getElem?_replicate, if_pos hq]
          have : bts (zeros m) = z := lst_inj HZ.out.symm
          simp [this]
        obtain ⟨g, o, e1, e2, e3⟩ := HRE.out q _ e
        obtain rfl : o = 0 := (HZ8.out g o e1).1
        rw [Nat.zero_add] at e2 e3
        exact ⟨g, e1, e2, e3⟩
      clear HRE hnl
      go_wp2_with fail
      go_loopg [16] j (fun g i wr => ∃ q : Nat, i = .int .i64 q ∧ q ≤ j ∧ g = j - q ∧ wr = w8)
      case atStart => exact ⟨0, rfl, Nat.zero_le _, rfl, rfl⟩
      case round =>
        obtain ⟨q, rfl, hq, rfl, rfl⟩ := hrel
        by_cases hlq : q < j
        · obtain ⟨g, rfl, hc0, hc1⟩ := HG8.out q hlq
          go_wp2_with fail
          go_roundg (j - (q + 1))
          case measure => omega
          case rel => exact ⟨q + 1, by go_num, by omega, rfl, rfl⟩
        · obtain rfl : q = j := by omega
          go_wp2_with fail
          go_ret
          exact ⟨rfl, HX8.out⟩
end Go.Proofs.YtmdkjcigmhgpeaaGreatDoor
