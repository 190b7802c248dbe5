/- DiskNone: of no disk, and no power, nothing comes. -/
import Derived.Test.YtmdkjcigmhgpeaaDoNil
namespace Go.Proofs.Ytmdkjcigmhgpeaa
open Go.RowKit Go.Maps Dsk

theorem ActsAt.one (w : World) (x : AD) (ad : Option Addr) (cd : Nat) (ak : Option Addr) (ck : Nat) (t : TypeId) (hv : ActV w x ad cd ak) {b : Nat} (hb : b = w.heap.size) :
    ActsAt (w.alloc (.cells #[.int .i64 x.kind, .string x.name, .string x.dest, .slice ad x.data.length cd, .int .i64 x.n, .slice ak x.keep.length ck] t)) (some ⟨b, 0, none⟩) [x] := by
  subst hb
  intro j y hj
  match j, hj with
  | 0, hj =>
    simp only [List.getElem?_cons_zero, Option.some.injEq] at hj
    subst hj
    refine ⟨w.heap.size, 0, ad, cd, ak, ck, rfl, fun i u hu => ?_, hv.ext ((Ext.refl w).alloc _)⟩
    rw [cell_new]
    have : (0 + (0 * 6 + i)) = i := by omega
    rw [this, ← hu, ← Array.getElem?_toList]
    rfl

set_option maxRecDepth 20000 in
set_option maxHeartbeats 2000000 in
theorem disknone_any (x : AD) (ad : Option Addr) (cd : Nat) (ak : Option Addr) (ck : Nat) (hok : ADok x) (w : World) (hv : ActV w x ad cd ak) :
    Calls Try.prog 7 #[.agg #[.int .i64 x.kind, .string x.name, .string x.dest, .slice ad x.data.length cd, .int .i64 x.n, .slice ak x.keep.length ck]] w fun e w' => e = .returned (.bool true) ∧ Ext w w' := by
  obtain ⟨w1, hw1⟩ : ∃ w1, w1 = w.alloc (.cells #[.int .i64 x.kind, .string x.name, .string x.dest, .slice ad x.data.length cd, .int .i64 x.n, .slice ak x.keep.length ck] 47) := ⟨_, rfl⟩
  have b0 : w1.cell? ⟨w.heap.size, 0, none⟩ = some (.int .i64 x.kind) := by rw [hw1, cell_new]; rfl
  have b1 : w1.cell? ⟨w.heap.size, 1, none⟩ = some (.string x.name) := by rw [hw1, cell_new]; rfl
  have b2 : w1.cell? ⟨w.heap.size, 2, none⟩ = some (.string x.dest) := by rw [hw1, cell_new]; rfl
  have b3 : w1.cell? ⟨w.heap.size, 3, none⟩ = some (.slice ad x.data.length cd) := by rw [hw1, cell_new]; rfl
  have b4 : w1.cell? ⟨w.heap.size, 4, none⟩ = some (.int .i64 x.n) := by rw [hw1, cell_new]; rfl
  have b5 : w1.cell? ⟨w.heap.size, 5, none⟩ = some (.slice ak x.keep.length ck) := by rw [hw1, cell_new]; rfl
  have HB := Lib.hid (And.intro b0 (And.intro b1 (And.intro b2 (And.intro b3 (And.intro b4 b5)))))
  have HX1 := Lib.hid (show Ext w w1 by rw [hw1]; exact (Ext.refl w).alloc _)
  have HV := Lib.hid hv; clear hv
  have HO := Lib.hid hok
  have hk := hok.kind
  clear hok b0 b1 b2 b3 b4 b5
  go_enter Try.func7, Try.ntmps7
  go_wp2_with fail
  rw [← hw1]
  have HW1 := Lib.hid hw1; clear hw1
  refine (great_any _ 1 [x] (by simp) (fun y hy => by simp at hy; subst hy; exact HO.out) _ (ActsAt.one w1 x ad cd ak ck _ (HV.out.ext HX1.out) ?hb)).mono ?_
  case hb => rw [HW1.out]; simp
  rintro e w2 ⟨rfl, rfl⟩
  have HX2 := Lib.hid (show Ext w1 (w1.alloc (.cells #[.int .i64 x.kind, .string x.name, .string x.dest, .slice ad x.data.length cd, .int .i64 x.n, .slice ak x.keep.length ck] 47)) from (Ext.refl w1).alloc _)
  generalize (w1.alloc (.cells #[.int .i64 x.kind, .string x.name, .string x.dest, .slice ad x.data.length cd, .int .i64 x.n, .slice ak x.keep.length ck] 47)) = w2 at HX2 ⊢
  cases hg : greatB [x] with
  | true =>
    clear hg
    go_wp2_with fail
    refine (awake06_any w2).mono ?_
    rintro e w3 ⟨rfl, hx⟩
    have HX3 := Lib.hid hx; clear hx
    go_wp2_with fail
    go_ret
    exact ⟨rfl, (HX1.out.trans HX2.out).trans HX3.out⟩
  | false =>
    have hgr := greatA_false.1 ((greatB_false hg).2 x (by simp))
    have HG := Lib.hid hgr; clear hgr hg
    have b0 := HX2.out.cell HB.out.1
    have b1 := HX2.out.cell HB.out.2.1
    have b2 := HX2.out.cell HB.out.2.2.1
    have b3 := HX2.out.cell HB.out.2.2.2.1
    have b4 := HX2.out.cell HB.out.2.2.2.2.1
    have b5 := HX2.out.cell HB.out.2.2.2.2.2
    go_wp2_with fail
    refine (do_nil x ad cd ak ck HO.out HG.out.1 HG.out.2.2.2 w2 (HV.out.ext (HX1.out.trans HX2.out))).mono ?_
    rintro e w3 ⟨rfl, hx⟩
    clear b0 b1 b2 b3 b4 b5
    have HX3 := Lib.hid (HX2.out.trans hx); clear hx HX2
    have b0 := HX3.out.cell HB.out.1
    have b1 := HX3.out.cell HB.out.2.1
    have b4 := HX3.out.cell HB.out.2.2.2.2.1
    generalize hc : nilCode x.kind = code
    have HC := Lib.hid hc; clear hc
    go_wp2_with fail
    refine (power_none_arm _ _).mono ?_
    rintro e w4 ⟨rfl, rfl⟩
    have hkinds : (x.kind = 6 ∧ code = 0) ∨ (x.kind = 7 ∧ code = 0) ∨ ((x.kind != 6) = true ∧ (x.kind != 7) = true ∧ code = 1) := by
      rw [← HC.out]; unfold nilCode
      by_cases h6 : x.kind = 6
      · exact .inl ⟨h6, by rw [if_pos (.inl h6)]⟩
      by_cases h7 : x.kind = 7
      · exact .inr (.inl ⟨h7, by rw [if_pos (.inr h7)]⟩)
      · exact .inr (.inr ⟨by simpa using h6, by simpa using h7, by rw [if_neg (by omega)]⟩)
    generalize x.kind = kind at hkinds b0 hk ⊢
    rcases hkinds with ⟨rfl, rfl⟩ | ⟨rfl, rfl⟩ | ⟨h6, h7, rfl⟩
    all_goals
      go_wp2_with fail
      refine (on_none _).mono ?_
      rintro e w4 ⟨rfl, rfl⟩
      go_wp2_with fail
      refine (uses_none _).mono ?_
      rintro e w4 ⟨rfl, rfl⟩
      go_wp2_with fail
      refine (used_none _).mono ?_
      rintro e w4 ⟨rfl, rfl⟩
      go_wp2_with fail
      refine (free_none _).mono ?_
      rintro e w4 ⟨rfl, rfl⟩
      go_wp2_with fail
      refine (kept_none _ _).mono ?_
      rintro e w4 ⟨rfl, rfl⟩
      go_wp2_with fail
      refine (names_none _ _ _ _).mono ?_
      rintro e w4 ⟨rfl, hx⟩
      have HX4 := Lib.hid (HX3.out.trans hx); clear hx
      go_wp2_with fail
      refine (power_none_on _).mono ?_
      rintro e w5 ⟨rfl, rfl⟩
      go_wp2_with fail
      refine (power_none_uses _).mono ?_
      rintro e w5 ⟨rfl, rfl⟩
      go_wp2_with fail
      refine (awake06_any _).mono ?_
      rintro e w5 ⟨rfl, hx⟩
      have HX5 := Lib.hid (HX4.out.trans hx); clear hx
      go_wp2_with fail
      go_ret
      exact ⟨rfl, HX1.out.trans HX5.out⟩
end Go.Proofs.Ytmdkjcigmhgpeaa
