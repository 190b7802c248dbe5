/- The row of SnapCrashes, out of its walk; and its tied card. No condition. -/
import Derived.Test.YtmdkjcigmhgpeaaGreatDoorSealRow
import Derived.Test.YtmdkjcigmhgpeaaGreatDoorSnapCrashes
import Derived.Test.YtmdkjcigmhgpeaaGreatDoorSnapActs
import Derived.Test.YtmdkjcigmhgpeaaGreatDoorTie
import Derived.Test.YtmdkjcigmhgpeaaGreatDoorCards
import Derived.SevenTiedAt
namespace Go.Proofs.YtmdkjcigmhgpeaaGreatDoor
open Go Go.ChangeShapes Go.WideShapes Go.ChangeAt Go.RowKit
open Go.ChangeMaps (open_string shut_string)

set_option maxRecDepth 100000 in
theorem snapCrashes_lifted (os : Os) (started : os.Started) (H : Type) (enc : TypeId × Value → H) :
    ReturnsInHanded {} Tryz.checked os 6 .any (fun w args => (Rows.snapCrashesSpec.pre enc Tryz.prog Tryz.f6 [] false w args ∧ laidMetH Tryz.prog laidNib w) ∧ sizedMet enc Tryz.prog Tryz.f6 (OpenSpec.ofChange Rows.snapCrashesSpec) false w args)
      (Rows.snapCrashesSpec.post enc Tryz.prog Tryz.f6 false true false false) := by
  refine returnsInHanded_of_change_and (C := Tryz.checked) (X := fun w _ => laidMetH Tryz.prog laidNib w) (fun _ _ _ hh h => h.of_heap hh) own started (by kernel_rfl) Tryz.func6
    (ChangeSpec.witness_shaped (enc := enc) (C := Tryz.checked) (os := os) (X := fun w _ => laidMetH Tryz.prog laidNib w) false (World.doorLaid Tryz.prog 400 os) #[.slice none 0 0, .agg #[.int .i64 0, .slice none 0 0], .int .u8 0, .slice none 0 0] 8 rfl (World.shaped_of_RefB (by kernel_rfl) (by kernel_rfl)) (by kernel_rfl) (by kernel_rfl) (by kernel_rfl) (door_met os _)) ?_
  intro W base args ds gs before hval0 hW _ hsz0 hL _
  have hval : ∀ (j : Nat) t v, Tryz.f6.params[j]? = some t → args[j]? = some v → Value.okWide Tryz.prog W .any base t v := hval0
  have hsz : (DataW.weightsEach Tryz.prog (Tryz.f6.params.toList ++ Rows.snapCrashesSpec.plain.varTypes Tryz.prog) (ds ++ gs)).all (· ≤ reachBytes) = true := hsz0
  have hW' := hW
  obtain ⟨p, q, hA0, hV, hbe, hfz, hnd⟩ := hW
  have hA : DataW.TrodAll enc Tryz.prog W 0 (fun _ => true) true Tryz.f6.params.toList args.toList ds p := hA0
  rw [Tryz.params6] at hA hval hsz
  obtain ⟨v0, vs0, d0, ds0, p0, q0, hargs, rfl, rfl, h0, r0⟩ := trodAll_cons hA
  obtain ⟨v1, vs1, d1, ds1, p1, q1, rfl, rfl, rfl, h1, r1⟩ := trodAll_cons r0
  obtain ⟨v2, vs2, d2, ds2, p2, q2, rfl, rfl, rfl, h2, r2⟩ := trodAll_cons r1
  obtain ⟨v3, vs3, d3, ds3, p3, q3, rfl, rfl, rfl, h3, r3⟩ := trodAll_cons r2
  obtain ⟨rfl, rfl, rfl⟩ := trodAll_nil r3
  obtain rfl : args = #[v0, v1, v2, v3] := by cases args; simp_all
  obtain ⟨rfl, rfl⟩ := trodVars_none hV
  obtain ⟨a0, n0, c0, rfl⟩ := okWide_slice Tryz.underlying51 (hval 0 51 v0 rfl rfl)
  obtain ⟨xs0, rfl, hc0, hm0, hx0, hs0⟩ := acts_s_arg h0 hsz (j := 0) rfl rfl
  obtain ⟨x1, ad1, cd1, rfl, hv1, hok1⟩ := act_s_arg (hval 1 53 v1 rfl rfl) h1 hsz (j := 1) rfl rfl
  obtain ⟨a2, rfl, rfl, rfl, w2⟩ := open_int Tryz.underlying5 (hval 2 5 v2 rfl rfl) h2
  obtain ⟨m2, rfl, hb2⟩ := u8_nat w2
  obtain ⟨a3, n3, c3, rfl⟩ := okWide_slice Tryz.underlying41 (hval 3 41 v3 rfl rfl)
  obtain ⟨xs3, rfl, hc3, hm3, hx3, hs3⟩ := ints_arg h3 hsz (j := 3) rfl rfl
  have hN := nibs_of_laid hL
  refine (snapcrashes_any a0 c0 xs0 hm0 hx0 x1 ad1 cd1 hok1 m2 hb2 a3 c3 xs3 (by omega) hx3 W hN hs0 hv1 hs3).mono fun e W' ⟨he, hg⟩ => ?_
  subst he
  exact ⟨_, rfl, law_post (ts := [51, 53, 5, 41]) (by rw [Tryz.params6]) (by simp only [List.mem_cons, List.not_mem_nil, or_false]; rintro t (rfl | rfl | rfl | rfl) <;> exact ⟨by kernel_rfl, of_decide_eq_true (by kernel_rfl)⟩) (by kernel_rfl) rfl hW' rfl rfl rfl rfl hg⟩

theorem snapCrashes_row : Rows.SnapCrashesSaid :=
  OpenClaim.holds_of_wide 6 Tryz.f6 rfl rfl rfl rfl rfl rfl rfl ⟨rfl, rfl, rfl, rfl, rfl⟩ rfl rfl rfl rfl rfl (by kernel_rfl) Tryz.func6 (by kernel_rfl)
    (of_decide_eq_true (by kernel_rfl)) (by unfold Func.isWrapper; first | (rw [if_pos (by decide +kernel)]; kernel_rfl) | (rw [if_neg (by decide +kernel)]; exact ⟨rfl, rfl⟩))
    (fun os started H enc _ => snapCrashes_lifted os started H enc)

theorem snapCrashes_card : Rows.SnapCrashesCardSaid :=
  Claim7.holds_tied_plain_at .later [] [.data] true Rows.snapCrashesCard.stood.harness Rows.snapCrashesCard.stood.looks
    snapCrashes_row (fun _ h => by cases h) (by kernel_rfl) (fun _ h => by cases h) snapCrashes_row_tie rfl ⟨rfl, rfl⟩ (by kernel_rfl) rfl
    (fun f fn hf hfn => by
      obtain rfl : f = 6 := Option.some.inj ((show Tryz.prog.funcNamed "afflux/affluxlaw26.SnapCrashes" = some 6 by kernel_rfl).symm.trans hf) |>.symm
      obtain rfl : fn = Tryz.f6 := (Option.some.inj (Tryz.func6.symm.trans hfn)).symm
      exact ⟨by kernel_rfl, fun j t ht => by
        rw [Tryz.params6] at ht
        have hm : t ∈ [51, 53, 5, 41] := by simpa using Array.mem_of_getElem? ht
        have hall : ([51, 53, 5, 41].all fun u => !Tryz.prog.wantsStandIn u) = true := by kernel_rfl
        exact (show Tryz.prog.wantsStandIn t = false by simpa using List.all_eq_true.1 hall t hm)⟩)
    (by kernel_rfl)
#print axioms snapCrashes_card
end Go.Proofs.YtmdkjcigmhgpeaaGreatDoor
