/- The row of WalPlays, out of its walk; and its tied card. No condition. -/
import Derived.Test.YtmdkjcigmhgpeaaGreatDoorSealRow
import Derived.LaidSub
import Derived.Lay
import Derived.Test.YtmdkjcigmhgpeaaGreatDoorWalPlays
import Derived.Test.YtmdkjcigmhgpeaaGreatDoorTie
import Derived.Test.YtmdkjcigmhgpeaaGreatDoorCards
import Derived.SevenTiedAt
namespace Go.Proofs.YtmdkjcigmhgpeaaGreatDoor
open Go.ChangeShapes Go.WideShapes Go.ChangeAt Go.RowKit SealMath

abbrev laidWal : List (String × DataW Unit) := [("unicode/utf8.acceptRanges", Rows.laid_unicode_utf8_acceptRanges), ("afflux/seal.nibbles", Rows.laid_afflux_seal_nibbles), ("unicode/utf8.first", Rows.laid_unicode_utf8_first)]
theorem nibs_of_laidw {W : World} (h : laidMetH Tryz.prog laidWal W) : Nibs W := by
  rw [MakeChecks.laidMetH_plain _ _ _ (by kernel_rfl)] at h
  have h2 : laidMet Tryz.prog (laidWal.filter (fun x => x.1 == "afflux/seal.nibbles")) W := laidMet.filter _ h
  have e : laidWal.filter (fun x => x.1 == "afflux/seal.nibbles") = laidNib := by kernel_rfl
  rw [e] at h2
  refine nibs_of_laid ?_
  rw [MakeChecks.laidMetH_plain _ _ _ (by kernel_rfl)]
  exact h2
end Go.Proofs.YtmdkjcigmhgpeaaGreatDoor
namespace Go.Proofs.YtmdkjcigmhgpeaaGreatDoor
open Go Go.ChangeShapes Go.WideShapes Go.ChangeAt Go.RowKit
open Go.ChangeMaps (open_string shut_string)

set_option maxRecDepth 100000 in
theorem walPlays_lifted (os : Os) (started : os.Started) (H : Type) (enc : TypeId × Value → H) :
    ReturnsInHanded {} Tryz.checked os 10 .any (fun w args => (Rows.walPlaysSpec.pre enc Tryz.prog Tryz.f10 [] false w args ∧ laidMetH Tryz.prog laidWal w) ∧ sizedMet enc Tryz.prog Tryz.f10 (OpenSpec.ofChange Rows.walPlaysSpec) false w args)
      (Rows.walPlaysSpec.post enc Tryz.prog Tryz.f10 false true false false) := by
  refine returnsInHanded_of_change_and (C := Tryz.checked) (X := fun w _ => laidMetH Tryz.prog laidWal w) (fun _ _ _ hh h => h.of_heap hh) own started (by kernel_rfl) Tryz.func10
    (ChangeSpec.witness_shaped (enc := enc) (C := Tryz.checked) (os := os) (X := fun w _ => laidMetH Tryz.prog laidWal w) false (World.laidAll Tryz.prog os laidWal) #[.slice none 0 0] 8 (World.laidAll_os _ _ _) (World.shaped_of_ZipB (by kernel_rfl) (by kernel_rfl)) (by kernel_rfl) (by kernel_rfl) (by kernel_rfl) (by rw [MakeChecks.laidMetH_plain _ _ _ (by kernel_rfl)]; exact laidMet_laidAll _ (by kernel_rfl) (by kernel_rfl))) ?_
  intro W base args ds gs before hval0 hW _ hsz0 hL _
  have hval : ∀ (j : Nat) t v, Tryz.f10.params[j]? = some t → args[j]? = some v → Value.okWide Tryz.prog W .any base t v := hval0
  have hsz : (DataW.weightsEach Tryz.prog (Tryz.f10.params.toList ++ Rows.walPlaysSpec.plain.varTypes Tryz.prog) (ds ++ gs)).all (· ≤ reachBytes) = true := hsz0
  have hW' := hW
  obtain ⟨p, q, hA0, hV, hbe, hfz, hnd⟩ := hW
  have hA : DataW.TrodAll enc Tryz.prog W 0 (fun _ => true) true Tryz.f10.params.toList args.toList ds p := hA0
  rw [Tryz.params10] at hA hval hsz
  obtain ⟨v0, vs0, d0, ds0, p0, q0, hargs, rfl, rfl, h0, r0⟩ := trodAll_cons hA
  obtain ⟨rfl, rfl, rfl⟩ := trodAll_nil r0
  obtain rfl : args = #[v0] := by cases args; simp_all
  obtain ⟨rfl, rfl⟩ := trodVars_none hV
  obtain ⟨a0, n0, c0, rfl⟩ := okWide_slice Tryz.underlying82 (hval 0 82 v0 rfl rfl)
  obtain ⟨xs0, rfl, hc0, hm0, hx0, hs0⟩ := acts_w_arg h0 hsz (j := 0) rfl rfl
  have hN := nibs_of_laidw hL
  refine (walplays_any xs0 a0 c0 hm0 W hs0 hN).mono fun e W' ⟨he, hg⟩ => ?_
  subst he
  exact ⟨_, rfl, law_post (ts := [82]) (by rw [Tryz.params10]) (by simp only [List.mem_cons, List.not_mem_nil, or_false]; rintro t rfl <;> exact ⟨by kernel_rfl, of_decide_eq_true (by kernel_rfl)⟩) (by kernel_rfl) rfl hW' rfl rfl rfl rfl hg⟩

theorem walPlays_row : Rows.WalPlaysSaid :=
  OpenClaim.holds_of_wide 10 Tryz.f10 rfl rfl rfl rfl rfl rfl rfl ⟨rfl, rfl, rfl, rfl, rfl⟩ rfl rfl rfl rfl rfl (by kernel_rfl) Tryz.func10 (by kernel_rfl)
    (of_decide_eq_true (by kernel_rfl)) (by unfold Func.isWrapper; first | (rw [if_pos (by decide +kernel)]; kernel_rfl) | (rw [if_neg (by decide +kernel)]; exact ⟨rfl, rfl⟩))
    (fun os started H enc _ => walPlays_lifted os started H enc)

theorem walPlays_card : Rows.WalPlaysCardSaid :=
  Claim7.holds_tied_plain_at .later [] [.data, .data, .pinned] true Rows.walPlaysCard.stood.harness Rows.walPlaysCard.stood.looks
    walPlays_row (fun _ h => by cases h) (by kernel_rfl) (fun _ h => by cases h) walPlays_row_tie rfl ⟨rfl, rfl⟩ (by kernel_rfl) rfl
    (fun f fn hf hfn => by
      obtain rfl : f = 10 := Option.some.inj ((show Tryz.prog.funcNamed "afflux/affluxlaw07.WalPlays" = some 10 by kernel_rfl).symm.trans hf) |>.symm
      obtain rfl : fn = Tryz.f10 := (Option.some.inj (Tryz.func10.symm.trans hfn)).symm
      exact ⟨by kernel_rfl, fun j t ht => by
        rw [Tryz.params10] at ht
        have hm : t ∈ [82] := by simpa using Array.mem_of_getElem? ht
        have hall : ([82].all fun u => !Tryz.prog.wantsStandIn u) = true := by kernel_rfl
        exact (show Tryz.prog.wantsStandIn t = false by simpa using List.all_eq_true.1 hall t hm)⟩)
    (by kernel_rfl)
#print axioms walPlays_card
end Go.Proofs.YtmdkjcigmhgpeaaGreatDoor
