/- The model of law 06, on: drop, lays, may, join. -/
import Derived.Test.YtmdkjcigmhgpeaaModel
namespace Go.Proofs.Ytmdkjcigmhgpeaa
open Go.RowKit Go.Maps Dsk

theorem name_ne_true {a b : ByteArray} (h : ¬ lst a = lst b) : (!(a.toList == b.toList)) = true := by rw [name_eq_false h]; rfl
set_option maxRecDepth 20000 in
set_option maxHeartbeats 1000000 in
/-- drop. -/
theorem mdrop_any (m : Nat) (S : DS) (G : Nat → Prop) (n : ByteArray) (hL : S.files.length ≤ 1000) (w : World) (h : ModelAt w m S G) :
    Calls Try.prog 50 #[.pointer (some ⟨m, 0, none⟩), .string n] w fun e w' => e = .returned (.tuple #[]) ∧ ModelAt w' m (files S (Dsk.drop n S.files)) (More G w) ∧ Only G w w' := by
  obtain ⟨sl, h, hG, hGs⟩ := h
  have c1 : w.cell? ⟨m, 1, none⟩ = some sl := Go.Joins.cell_of_block h.row 1
  obtain ⟨a, c, rfl, _, _, hr⟩ := own_row h.own
  have HR := Lib.hid hr; clear hr
  have HM := Lib.hid h; clear h
  have HG := Lib.hid (And.intro hG hGs); clear hG hGs
  generalize hl : S.files = l at *
  have hown0 : OwnFiles w w.heap.size (.slice none 0 0) [] := World.ownsRow_nil _ _ _ _
  go_enter Try.func50, Try.ntmps50
  go_wp2_with fail
  go_loopg [4, 5] (l.length) (fun k s4 s5 wr => ∃ (i : Nat) (acc : List FD), s5 = .int .i64 i ∧ i ≤ l.length ∧ k = l.length - i ∧ acc.length ≤ i ∧ Hid (acc = Dsk.drop n (l.take i)) ∧ Hid (OwnFiles wr w.heap.size s4 acc) ∧ Hid (Ext w wr))
  case atStart => exact ⟨0, [], rfl, Nat.zero_le _, rfl, Nat.le_refl _, (show _ = _ by simp [Dsk.drop]), hown0, Ext.refl _⟩
  case round =>
    obtain ⟨i, acc, rfl, hi, rfl, hai, HA, HO, HX⟩ := hrel
    have c1r := HX.out.cell c1
    by_cases hlt : i < l.length
    · obtain ⟨g, o, rfl, hc0, hc1, hc2⟩ := (HR.out.ext HX.out) i _ (List.getElem?_eq_getElem hlt)
      have HS := Lib.hid (drop_take (n := n) hlt)
      generalize hge : l[i] = ge at hc0 hc1 hc2 HS
      by_cases hk : lst ge.name = lst n
      · have e1 := name_eq_true hk
        have HK := Lib.hid hk; clear hk
        go_wp2_with fail
        go_roundg (l.length - (i + 1))
        case measure => omega
        case rel => exact ⟨i + 1, acc, by go_num, by omega, rfl, by omega, (show _ = _ by
          rw [HS.out, if_pos (show ge.key = lst n from HK.out), List.append_nil]; exact HA.out), HO.out, HX.out⟩
      · have e1 := name_eq_false hk
        have HK := Lib.hid hk; clear hk
        go_wp2_with (at_builtin; refine wpList_append_file rfl _ _ rfl w.heap.size _ acc rfl _ HO.out ?c1 ?c2 ge rfl ?_)
        case c1 => exact HX.out.size
        case c2 => omega
        intro v' w3 hown' hb'
        have HO3 := Lib.hid hown'; clear hown'
        have HX3 := Lib.hid (Below.trans HX.out hb' : Ext w w3); clear hb'
        go_wp2_with fail
        go_roundg (l.length - (i + 1))
        case measure => omega
        case rel => exact ⟨i + 1, acc ++ [ge], by go_num, by omega, rfl, by simp; omega, (show _ = _ by
          rw [HS.out, if_neg (show ¬ ge.key = lst n from HK.out), HA.out]), HO3.out, HX3.out⟩
    · have hlt' : ¬ (i : Int) < ((l.length : Nat) : Int) := by omega
      have hrow : wr.heap[m]? = some (.cells (mcells S (.slice a l.length c)) 44 (0, 0)) := (HX.out.block m (lt_of_heap HM.out.row)).trans HM.out.row
      have f1 := frozen_row hrow 1
      have HW := Lib.hid hrow; clear hrow
      have HE := Lib.hid (show acc = Dsk.drop n l by rw [HA.out, List.take_of_length_le (by omega)])
      obtain ⟨a4, c4, rfl, _, _, _⟩ := own_row HO.out
      go_wp2_with fail
      go_end0
      rw [← HE.out]
      exact mput_end HW.out HO.out HX.out HG.out.1 (Nat.le_refl _)

/-- The place of a file, or none. -/
def hasAt (l : List FD) (i : Int) : Nat := if 0 ≤ i then ((l[i.toNat]?).map (fun f => f.data.size)).getD 0 else 0
def laysN (S : DS) (i : Int) (size : Nat) : Nat :=
  if decide (1048576 < size) || (decide (i < 0) && decide (100 ≤ S.files.length)) then 5
  else if (size : Int) - hasAt S.files i > (S.room : Int) - used S.files then 6 else 0
theorem lays_fits (S : DS) (n : ByteArray) (size : Nat) : laysN S (fidx S.files n) size = fits S n size (((get S.files n).map (fun f => f.data.size)).getD 0) := by
  unfold laysN fits
  cases hg : get S.files n with
  | none => rw [fidx_none hg]; simp [hasAt]
  | some f =>
    obtain ⟨i, hi, he, hf⟩ := fidx_some hg
    rw [he]
    have h0 : ¬ ((i : Int) < 0) := by omega
    simp [hasAt, hf, hi, h0]

set_option maxHeartbeats 1000000 in
/-- lays. -/
theorem lays_any (m : Nat) (S : DS) (G : Nat → Prop) (i : Int) (size : Nat) (hi : i < S.files.length) (hi0 : -1 ≤ i) (hs : size ≤ 1099511627776) (hL : S.files.length ≤ 1000) (hU : used S.files ≤ 1099511627776) (hR : S.room ≤ 1099511627776) (hD : ∀ f ∈ S.files, f.data.size ≤ 1099511627776) (w : World) (h : ModelAt w m S G) :
    Calls Try.prog 24 #[.pointer (some ⟨m, 0, none⟩), .int .i64 i, .int .i64 (size : Nat)] w fun e w' => e = .returned (.int .i64 (laysN S i size : Nat)) ∧ Ext w w' := by
  have hcall : ∀ w', Ext w w' → Calls Try.prog 51 #[.pointer (some ⟨m, 0, none⟩)] w' fun e v => e = .returned (.int .i64 (used S.files : Nat)) ∧ Ext w' v := fun w' k => mused_any m S G hL hU w' (h.ext k)
  have hh : hasAt S.files i ≤ 1099511627776 := by
    unfold hasAt
    split
    · cases hg : S.files[i.toNat]? with
      | none => simp
      | some f => simpa using hD f (List.mem_of_getElem? hg)
    · simp
  obtain ⟨sl, h, _, _⟩ := h
  have c0 : w.cell? ⟨m, 0, none⟩ = some (.int .i64 (S.room : Nat)) := Go.Joins.cell_of_block h.row 0
  have c1 : w.cell? ⟨m, 1, none⟩ = some sl := Go.Joins.cell_of_block h.row 1
  obtain ⟨a, c, rfl, _, _, hr⟩ := own_row h.own
  have HC := Lib.hid hcall; clear hcall h
  have HX := Lib.hid (Ext.refl w)
  unfold laysN
  have HH := Lib.hid (show ∀ k : Nat, i = k → ∃ f, S.files[k]? = some f ∧ hasAt S.files i = f.data.size from fun k e => by
    subst e
    obtain ⟨f, hf⟩ : ∃ f, S.files[k]? = some f := ⟨_, List.getElem?_eq_getElem (by omega)⟩
    exact ⟨f, hf, by simp [hasAt, hf]⟩)
  have HH0 := Lib.hid (show i < 0 → hasAt S.files i = 0 from fun k => by unfold hasAt; rw [if_neg (by omega)])
  generalize hasAt S.files i = q at hh HH HH0
  generalize used S.files = u at hU HC
  generalize S.room = r at hR c0
  generalize S.files = l at *
  clear hD
  have e1 : IntKind.i64.wrap ((r : Int) - (u : Int)) = (r : Int) - (u : Int) := IntWalk.i64_in _ (by omega)
  have e2 : IntKind.i64.wrap ((size : Int) - (q : Int)) = (size : Int) - (q : Int) := IntWalk.i64_in _ (by omega)
  have e3 : ((l.length : Nat) : Int) = (l.length : Int) := rfl
  clear e3
  go_enter Try.func24, Try.ntmps24
  by_cases hb : 1048576 < size
  · have hb' : (1048576 : Int) < (size : Int) := by omega
    rw [if_pos (by simp [hb])]
    by_cases hi1 : 0 ≤ i
    · obtain ⟨k, rfl⟩ := Int.eq_ofNat_of_zero_le hi1
      obtain ⟨f, hf, hq⟩ := HH.out k rfl
      obtain ⟨g, o, rfl, _, hc1, _⟩ := hr k f hf
      go_wp2_with fail
      go_ret
      exact ⟨rfl, HX.out⟩
    · go_wp2_with fail
      go_ret
      exact ⟨rfl, HX.out⟩
  · have hb' : ¬ (1048576 : Int) < (size : Int) := by omega
    by_cases hi1 : 0 ≤ i
    · obtain ⟨k, rfl⟩ := Int.eq_ofNat_of_zero_le hi1
      obtain ⟨f, hf, rfl⟩ := HH.out k rfl
      obtain ⟨g, o, rfl, _, hc1, _⟩ := hr k f hf
      have hk0 : ¬ ((k : Int) < 0) := by omega
      rw [if_neg (by simp [hb, hk0])]
      by_cases hful : (r : Int) - (u : Int) < (size : Int) - (f.data.size : Int)
      · rw [if_pos hful]
        go_wp2
        go_region_with ((go_at_call 51; refine (HC.out _ (by first | exact HX.out | exact HX.out.drew)).mono ?_; rintro e v ⟨rfl, hx⟩; have c0' : v.cell? ⟨m, 0, none⟩ = some (.int .i64 (r : Nat)) := Ext.cell hx c0))
        all_goals
          have hx' : Ext w v := by first | exact hx | exact ((Ext.refl w).drew).trans hx
          clear hx
          have HX' := Lib.hid hx'; clear hx'
          go_wp2
          go_ret
          exact ⟨rfl, HX'.out⟩
      · rw [if_neg hful]
        go_wp2
        go_region_with ((go_at_call 51; refine (HC.out _ (by first | exact HX.out | exact HX.out.drew)).mono ?_; rintro e v ⟨rfl, hx⟩; have c0' : v.cell? ⟨m, 0, none⟩ = some (.int .i64 (r : Nat)) := Ext.cell hx c0))
        all_goals
          have hx' : Ext w v := by first | exact hx | exact ((Ext.refl w).drew).trans hx
          clear hx
          have HX' := Lib.hid hx'; clear hx'
          go_wp2
          go_ret
          exact ⟨rfl, HX'.out⟩
    · have hi2 : i = -1 := by omega
      subst hi2
      have hq := HH0.out (by omega)
      subst hq
      clear e2
      have e2 : IntKind.i64.wrap (size : Int) = (size : Int) := IntWalk.i64_in _ (by omega)
      by_cases h100 : 100 ≤ l.length
      · have h100' : (100 : Int) ≤ (l.length : Int) := by omega
        rw [if_pos (by simp [h100])]
        go_wp2_with fail
        go_ret
        exact ⟨rfl, HX.out⟩
      · have h100' : ¬ (100 : Int) ≤ (l.length : Int) := by omega
        rw [if_neg (by simp [hb]; omega)]
        by_cases hful : (r : Int) - (u : Int) < (size : Int) - ((0 : Nat) : Int)
        · rw [if_pos hful]
          have hful' : (r : Int) - (u : Int) < (size : Int) := by omega
          clear hful
          go_wp2
          go_region_with ((go_at_call 51; refine (HC.out _ (by first | exact HX.out | exact HX.out.drew)).mono ?_; rintro e v ⟨rfl, hx⟩; have c0' : v.cell? ⟨m, 0, none⟩ = some (.int .i64 (r : Nat)) := Ext.cell hx c0))
          all_goals
            have hx' : Ext w v := by first | exact hx | exact ((Ext.refl w).drew).trans hx
            clear hx
            have HX' := Lib.hid hx'; clear hx'
            go_wp2
            go_ret
            exact ⟨rfl, HX'.out⟩
        · rw [if_neg hful]
          have hful' : ¬ (r : Int) - (u : Int) < (size : Int) := by omega
          clear hful
          go_wp2
          go_region_with ((go_at_call 51; refine (HC.out _ (by first | exact HX.out | exact HX.out.drew)).mono ?_; rintro e v ⟨rfl, hx⟩; have c0' : v.cell? ⟨m, 0, none⟩ = some (.int .i64 (r : Nat)) := Ext.cell hx c0))
          all_goals
            have hx' : Ext w v := by first | exact hx | exact ((Ext.refl w).drew).trans hx
            clear hx
            have HX' := Lib.hid hx'; clear hx'
            go_wp2
            go_ret
            exact ⟨rfl, HX'.out⟩
end Go.Proofs.Ytmdkjcigmhgpeaa
