/- law 06's do, where there is no disk. -/
import Derived.Test.YtmdkjcigmhgpeaaDiskNil
import Derived.Test.YtmdkjcigmhgpeaaModel3
import Derived.Test.YtmdkjcigmhgpeaaGreat
import Derived.Test.YtmdkjcigmhgpeaaStrsApp
import Derived.Test.YtmdkjcigmhgpeaaDiskAwake
namespace Go.Proofs.Ytmdkjcigmhgpeaa
open Go.RowKit Go.Maps Dsk

def nilCode (k : Int) : Int := if k = 6 ∨ k = 7 then 0 else 1
set_option maxRecDepth 20000 in
set_option maxHeartbeats 1000000 in
theorem do_nil (x : AD) (ad : Option Addr) (cd : Nat) (ak : Option Addr) (ck : Nat) (hok : ADok x) (hL : x.data.length ≤ 10) (hM : ∀ s ∈ x.data, s.size ≤ 300) (w : World) (hv : ActV w x ad cd ak) :
    Calls Try.prog 19 #[.pointer none, .agg #[.int .i64 x.kind, .string x.name, .string x.dest, .slice ad x.data.length cd, .int .i64 x.n, .slice ak x.keep.length ck]] w
      fun e w' => e = .returned (.tuple #[.string ⟨#[]⟩, .int .i64 (nilCode x.kind)]) ∧ Ext w w' := by
  have hok2 := hok.kind
  obtain ⟨kind, name, dest, data, n, keep⟩ := x
  simp only at hL hM hok2 ⊢
  have hsz : (cats data).size ≤ 140737488355328 := by
    have : ∀ l : List ByteArray, (∀ s ∈ l, s.size ≤ 300) → (cats l).size ≤ 300 * l.length := fun l h => by
      induction l with
      | nil => exact Nat.zero_le _
      | cons a r ih =>
        have := ih (fun s hs => h s (by simp [hs]))
        have h2 := h a (by simp)
        rw [cats_size] at this ⊢
        simp only [List.map_cons, List.sum_cons, List.length_cons]
        omega
    have := this data hM
    omega
  have HV := Lib.hid hv; clear hv
  have HO := Lib.hid hok; clear hok hM
  generalize hc : nilCode kind = code
  have HC := Lib.hid hc; clear hc
  go_enter Try.func19, Try.ntmps19
  by_cases k0 : kind = 0
  · subst k0
    go_wp2_with fail
    refine (append_nil _ _ _).mono ?_
    rintro e w' ⟨rfl, hx⟩
    go_wp2_with fail
    go_ret2
    rw [← HC.out]
    exact ⟨rfl, ((Ext.refl w).alloc _).trans hx⟩
  by_cases k1 : kind = 1
  · subst k1
    go_wp2_with (at_builtin; refine wpList_append_strs rfl _ _ rfl w.heap.size _ [name] data rfl (own_one _ name ?c1 ?c2) ad cd rfl ?c3 HV.out.2.2.2 ?c4 ?c5 ?_)
    case c1 => simp
    case c2 => omega
    case c3 => exact HV.out.2.1.ext (((Ext.refl w).alloc _).alloc _)
    case c4 => simp; omega
    case c5 => simp; omega
    intro v' w3 hown hb
    have HX3 := Lib.hid (Below.trans (((Ext.refl w).alloc _).alloc _) hb : Ext w w3); clear hb hown
    go_wp2_with fail
    refine (sync_nil _ _).mono ?_
    rintro e w' ⟨rfl, hx⟩
    have HX4 := Lib.hid (Ext.trans HX3.out hx); clear hx
    go_wp2_with fail
    go_ret2
    rw [← HC.out]
    exact ⟨rfl, HX4.out⟩
  by_cases k2 : kind = 2
  · subst k2
    go_wp2_with fail
    refine (rename_nil _ _ _).mono ?_
    rintro e w' ⟨rfl, hx⟩
    go_wp2_with fail
    go_ret2
    rw [← HC.out]
    exact ⟨rfl, ((Ext.refl w).alloc _).trans hx⟩
  by_cases k3 : kind = 3
  · subst k3
    go_wp2_with fail
    refine (delete_nil _ _).mono ?_
    rintro e w' ⟨rfl, hx⟩
    go_wp2_with fail
    go_ret2
    rw [← HC.out]
    exact ⟨rfl, ((Ext.refl w).alloc _).trans hx⟩
  by_cases k4 : kind = 4
  · subst k4
    go_wp2_with fail
    refine (cut_nil _ _ _).mono ?_
    rintro e w' ⟨rfl, hx⟩
    go_wp2_with fail
    go_ret2
    rw [← HC.out]
    exact ⟨rfl, ((Ext.refl w).alloc _).trans hx⟩
  by_cases k5 : kind = 5
  · subst k5
    go_wp2_with fail
    refine (read_none _ _).mono ?_
    rintro e w' ⟨rfl, rfl⟩
    go_wp2_with fail
    go_ret2
    rw [← HC.out]
    exact ⟨rfl, (Ext.refl w).alloc _⟩
  by_cases k6 : kind = 6
  · subst k6
    go_wp2_with fail
    refine (arm_none _ _).mono ?_
    rintro e w' ⟨rfl, rfl⟩
    go_wp2_with fail
    go_ret2
    rw [← HC.out]
    exact ⟨rfl, (Ext.refl w).alloc _⟩
  by_cases k7 : kind = 7
  · subst k7
    go_wp2_with fail
    refine (crash_nil _ _).mono ?_
    rintro e w' ⟨rfl, hx⟩
    go_wp2_with fail
    go_ret2
    rw [← HC.out]
    exact ⟨rfl, ((Ext.refl w).alloc _).trans hx⟩
  have HE := Lib.hid (show nilCode kind = 1 by unfold nilCode; rw [if_neg (by omega)])
  have HS := Lib.hid HV.out.2.1
  obtain ⟨w1, hw1⟩ : ∃ w1, w1 = w.alloc (.cells #[.int .i64 kind, .string name, .string dest, .slice ad data.length cd, .int .i64 n, .slice ak keep.length ck] 47) := ⟨_, rfl⟩
  have b1 : w1.cell? ⟨w.heap.size, 1, none⟩ = some (.string name) := by rw [hw1, cell_new]; rfl
  have b3 : w1.cell? ⟨w.heap.size, 3, none⟩ = some (.slice ad data.length cd) := by rw [hw1, cell_new]; rfl
  have HX1 := Lib.hid (show Ext w w1 by rw [hw1]; exact (Ext.refl w).alloc _)
  go_wp2_with fail
  rw [← hw1]
  clear hw1
  go_region_held3 (fun u => u.cell? ⟨w.heap.size, 1, none⟩ = some (.string name) ∧ u.cell? ⟨w.heap.size, 3, none⟩ = some (.slice ad data.length cd)) (first | exact ⟨b1, b3⟩ | exact ⟨Ext.cell hx b1, Ext.cell hx b3⟩ | exact ⟨Ext.cell hx2 (Ext.cell hx b1), Ext.cell hx2 (Ext.cell hx b3)⟩) (first
    | (go_at_call 25; refine (mjoin_any ad cd data (by omega) hsz _ ((HS.out.ext HX1.out).ext (by first | exact Ext.refl _ | exact (Ext.refl _).drew))).mono ?_; rintro e v ⟨rfl, hx⟩)
    | (go_at_call 49; refine (put_nil _ _ _).mono ?_; rintro e v2 ⟨rfl, hx2⟩))
  have HZ := Lib.hid (show Ext w v2 by first | exact (HX1.out.trans (((Ext.refl _).drew).trans hx)).trans hx2 | exact (HX1.out.trans hx).trans hx2)
  clear hx hx2 b1 b3
  go_wp2_with fail
  go_ret2
  rw [← HC.out, HE.out]
  exact ⟨rfl, HZ.out⟩
end Go.Proofs.Ytmdkjcigmhgpeaa
