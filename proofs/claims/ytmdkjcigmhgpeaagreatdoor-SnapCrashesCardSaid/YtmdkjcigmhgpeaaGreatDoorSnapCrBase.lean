/- What the three walks of SnapCrashes share. -/
import Derived.Test.YtmdkjcigmhgpeaaGreatDoorSnapLoads
import Derived.Test.YtmdkjcigmhgpeaaGreatDoorSnapGreat
import Derived.Test.YtmdkjcigmhgpeaaGreatDoorSnapCrashed
import Derived.StillTailTactics
namespace Go.Proofs.YtmdkjcigmhgpeaaGreatDoor
open Go.RowKit Snp SealMath Dsk

/-- Save, by any number, of texts that lie anywhere. -/
theorem save_int (B d : Nat) (S : DS) (n : Int) (a : Option Addr) (c : Nat) (xs : List ByteArray) (hN : xs.length ≤ 1000) (hcap : xs.length ≤ c) (hl : ((xs.map lst).flatten).length ≤ 140737488355328) (hu : S.uses + 1000 < 4611686018427387904)
    (w : World) (h : Held B w d S) (hB : B ≤ w.heap.size) (hcs : StrsAt w a xs) (hnb : Nibs w) (hg : 0 < B) :
    Calls Tryz.prog 14 #[.pointer (some ⟨d, 0, none⟩), .int .i64 n, .slice a xs.length c] w fun e w' => e = .returned (.int .i64 ((saveS S n ((xs.map lst).flatten)).1 : Nat)) ∧ Held B w' d (saveS S n ((xs.map lst).flatten)).2 ∧ Below B w w' := by
  cases hm : mayN n with
  | false =>
    have e : saveS S n ((xs.map lst).flatten) = (1, S) := by unfold saveS; rw [if_pos hm]
    rw [e]
    refine (save_arg _ (.inr ⟨d, rfl⟩) n (.inr hm) a c xs hN hcap hl w hcs).mono ?_
    rintro e w' ⟨rfl, hx⟩
    exact ⟨rfl, h.ext hx, Below.mono hx hB⟩
  | true =>
    obtain ⟨k, rfl, hk⟩ : ∃ k : Nat, n = k ∧ k ≤ 99999999 := by
      unfold mayN at hm
      simp at hm
      exact ⟨n.toNat, by omega, by omega⟩
    refine (save_any d S (Mine B w) k hk a c xs hN hcap hl hu w h hcs hnb (fun hk => by have := hk.1; omega)).mono ?_
    rintro e w' ⟨rfl, hl⟩
    exact ⟨rfl, Held.left hl hB⟩
theorem acts_one (w : World) (x : AS) (ad : Option Addr) (cd : Nat) (t : TypeId) (h : ActSV w x ad cd) : ActsSAt (w.alloc (.cells #[.int .i64 x.n, .slice ad x.data.length cd] t)) (some ⟨w.heap.size, 0, none⟩) [x] := by
  intro j y hj
  cases j with
  | zero =>
    obtain rfl : x = y := by simpa using hj
    refine ⟨w.heap.size, 0, ad, cd, rfl, fun i u hu => ?_, h.ext ((Ext.refl w).alloc _)⟩
    rw [cell_of_row _ _ _ _ _ _ (heap_alloc_new w _)]
    match i, hu with
    | 0, hu => exact hu
    | 1, hu => exact hu
  | succ j => simp at hj
/-- A disk of the walk's own, with what is told. -/
structure CH (w : World) (d : Nat) (t : Option (Nat × List UInt8)) (k : Nat) (S : DS) (w' : World) : Prop where
  cs : CS S t k
  held : Held w.heap.size w' d S
  ext : Ext w w'
theorem CH.go {w w1 w2 : World} {d k : Nat} {t : Option (Nat × List UInt8)} {S : DS} (h : CH w d t k S w1) (e : Ext w1 w2) : CH w d t k S w2 := ⟨h.cs, h.held.ext e, Ext.trans h.ext e⟩
theorem CH.low {w w1 : World} {d k : Nat} {t : Option (Nat × List UInt8)} {S : DS} (h : CH w d t k S w1) (hk : k ≤ 20) : S.uses + 1000 < 4611686018427387904 := by
  have := h.cs.cr.uses; omega
set_option hygiene false in
macro "crash_again " k:term ", " v:term ", " u:term : tactic => `(tactic| (
  obtain ⟨V, hv, hcv⟩ := H12.out.cs.save_new H12.out.held.good (by have := HI.out; omega) (n := $k) (by omega) (d := [97, 103, 97, 105, 110]) (by decide) (by intro m' e' h'; first | (cases h'; omega) | cases h')
  have HV2 := Lib.hid hv
  have HCV := Lib.hid hcv
  clear hv hcv
  refine (save_int w4.heap.size d $u (($k : Nat) : Int) (some ⟨World.heap $v |>.size, 0, none⟩) 1 [⟨#[97, 103, 97, 105, 110]⟩] (by decide) (by decide) (by decide) (H12.out.low (by have := HI.out; omega)) _ (H12.out.held.ext ((Ext.refl $v).alloc _)) (H12.out.go ((Ext.refl $v).alloc _)).ext.size (StrsAt.one $v _ _) (HN4.out.ext (Ext.trans H12.out.ext ((Ext.refl $v).alloc _))) HG4.out).mono ?_
  rintro e w13 ⟨rfl, hd, hb⟩
  have e1 : saveS $u (($k : Nat) : Int) ((([⟨#[97, 103, 97, 105, 110]⟩] : List ByteArray).map lst).flatten) = (0, V) := HV2.out
  rw [e1] at hd ⊢
  have H13 := Lib.hid (CH.mk HCV.out hd (Below.trans (Ext.trans H12.out.ext ((Ext.refl $v).alloc _)) hb))
  clear e1 hd hb HV2 HCV H12
  go_wp2_with fail
  refine (load_held w4.heap.size d V w13 H13.out.held (HN4.out.ext H13.out.ext)).mono ?_
  rintro e w14 ⟨r2, rfl, hr, hx⟩
  rw [H13.out.cs.load] at hr ⊢
  obtain rfl : r2 = ⟨#[97, 103, 97, 105, 110]⟩ := lst_inj hr
  have H14 := Lib.hid (Ext.trans H13.out.ext hx)
  clear hr hx H13
  dsimp only [answer]
  go_wp2_with fail
  go_ret
  exact ⟨rfl, Ext.trans HE.out H14.out⟩))
set_option hygiene false in
macro "crash_some " q:term : tactic => `(tactic| (
  obtain ⟨j, U, hsw, hcu⟩ := H10.out.cs.sweep H10.out.held.good
  have HSW := Lib.hid hsw
  have HCU := Lib.hid hcu
  clear hsw hcu
  go_wp2_with fail
  refine (sweep_held w4.heap.size d C (H10.out.low (by have := HI.out; omega)) w10 H10.out.held H10.out.ext.size (HN4.out.ext H10.out.ext)).mono ?_
  rw [HSW.out]
  rintro e w12 ⟨rfl, hd, hb⟩
  have H12 := Lib.hid (CH.mk HCU.out hd (Below.trans H10.out.ext hb))
  clear hd hb HSW HCU H10
  go_upto_if 168 with fail
  go_cut [22] (fun s22 wx => ∃ kk : Nat, s22 = .int .i64 kk ∧ kk ≤ 1 ∧ kk ≠ $q ∧ w12 = wx)
  case first =>
    by_cases hz : ($q : Nat) = 0
    · have hz2 : ((($q : Nat) : Int) == 0) = true := by rw [beq_iff_eq]; omega
      have hz3 : (($q : Nat) : Int) = 0 := by omega
      go_wp2_with fail
      go_meet
      exact ⟨1, rfl, Nat.le_refl _, by omega, rfl⟩
    · have hz2 : ((($q : Nat) : Int) == 0) = false := by rw [beq_eq_false_iff_ne]; omega
      have hz3 : ¬ (($q : Nat) : Int) = 0 := by omega
      go_wp2_with fail
      go_meet
      exact ⟨0, rfl, Nat.zero_le _, by omega, rfl⟩
  obtain ⟨kk, rfl, hkk, hkq, rfl⟩ := hcut
  go_wp2_with fail
  crash_again kk, w12, U))
set_option hygiene false in
macro "crash_new" : tactic => `(tactic| (
  clear HS0
  generalize (answer t).1 = n0
  generalize (answer t).2.2 = c0
  dsimp only [answer]
  go_upto_region 13 with fail
  go_cut [18] (fun s18 wx => ∃ b, s18 = .bool b ∧ w10 = wx)
  case first =>
    cases q1 : ((nn : Int) == (n0 : Int))
    · go_wp2_with fail
      go_meet
      exact ⟨_, rfl, rfl⟩
    · cases q2 : (s1.toList == s0.toList)
      · go_wp2_with fail
        go_meet
        exact ⟨_, rfl, rfl⟩
      · go_wp2_with fail
        go_meet
        exact ⟨_, rfl, rfl⟩
  obtain ⟨b, rfl, rfl⟩ := hcut
  go_wp2_with fail
  refine hjoin.mono ?_
  clear hjoin
  rintro e w11 ⟨s2, rfl, hs2, rfl⟩
  obtain rfl : s2 = s1 := lst_inj (by rw [hs2, HS1.out]; rfl)
  go_upto_region 15 with fail
  go_cut [153] (fun sx wx => sx = .bool false ∧ w10 = wx)
  case first =>
    rcases hrr with rfl | rfl
    all_goals
      cases b
      all_goals
        go_wp2_with fail
        go_meet
        exact ⟨rfl, rfl⟩
  obtain ⟨rfl, rfl⟩ := hcut
  clear hrr
  crash_some nn))
set_option hygiene false in
macro "crash_was " q:term : tactic => `(tactic| (
  dsimp only [answer]
  go_upto_region 14 with fail
  go_cut [19] (fun sx wx => ∃ b, sx = .bool b ∧ w10 = wx)
  case first =>
    cases q1 : ((($q : Nat) : Int) == (nn : Int))
    · first
      | (simp at q1; done)
      | (go_wp2_with fail
         go_meet
         exact ⟨_, rfl, rfl⟩)
    · go_wp2_with fail
      refine hjoin.mono ?_
      clear hjoin
      rintro e w11 ⟨s2, rfl, hs2, rfl⟩
      cases q2 : (s1.toList == s2.toList)
      · go_wp2_with fail
        go_meet
        exact ⟨_, rfl, rfl⟩
      · go_wp2_with fail
        go_meet
        exact ⟨_, rfl, rfl⟩
  obtain ⟨b, rfl, rfl⟩ := hcut
  clear hjoin
  go_upto_region 15 with fail
  go_cut [153] (fun sx wx => sx = .bool false ∧ w10 = wx)
  case first =>
    rcases hrr with rfl | ⟨rfl, hqn⟩
    · cases b
      all_goals
        go_wp2_with fail
        go_meet
        exact ⟨rfl, rfl⟩
    · first
      | (subst hqn)
      | skip
      cases b
      all_goals
        go_wp2_with fail
        go_meet
        exact ⟨rfl, rfl⟩
  obtain ⟨rfl, rfl⟩ := hcut
  clear hrr))
/-- The disk behind all Saves. -/
def flatA (x : AS) : List UInt8 := (x.data.map lst).flatten
def runA (xs : List AS) : DS := xs.foldl (fun S y => (saveS S y.n (flatA y)).2) (Dsk.new 1048576)
theorem runA_step {xs : List AS} {i : Nat} (h : i < xs.length) : runA (xs.take (i + 1)) = (saveS (runA (xs.take i)) xs[i].n (flatA xs[i])).2 := by
  unfold runA
  rw [List.take_succ_eq_append_getElem h, List.foldl_append]; rfl
def armA (xs : List AS) (x : AS) (m : Nat) : Nat × DS := saveS (arm (runA xs) (((m : Nat) : Int) % 14)) x.n (flatA x)
/-- What was saved is told. -/
def WayA (xs : List AS) (x : AS) (m : Nat) (ks : List Int) : Prop :=
  ((armA xs x m).1 = 0 ∨ (armA xs x m).1 = 7) ∧ loadS (crash (armA xs x m).2 ks) = (x.n.toNat, flatA x, 0)
/-- Nothing was told ahead of it. -/
def WayB (xs : List AS) : Prop := (loadS (runA xs)).2.2 ≠ 0
theorem answer_some {t : Option (Nat × List UInt8)} {n : Nat} {d : List UInt8} (h : answer t = (n, d, 0)) : t = some (n, d) := by
  cases t with
  | none => unfold answer at h; injection h with _ h; injection h with _ h; cases h
  | some p =>
    obtain ⟨a, b⟩ := p
    unfold answer at h
    injection h with h1 h
    injection h with h2 _
    rw [h1, h2]
end Go.Proofs.YtmdkjcigmhgpeaaGreatDoor
