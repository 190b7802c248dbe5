/- slices.DeleteFunc on a slice of texts of the call's own. -/
import Derived.Test.YtmdkjcigmhgpeaaGreatDoorDiskBegin
import Derived.Lib.SliceRun
namespace Go.Proofs.YtmdkjcigmhgpeaaGreatDoor
open Go.RowKit Dsk

theorem row_setCells {g : Nat} {t : TypeId} : ∀ (vs : List Value) (o : Nat) (w : World) (cur : Array Value), w.heap[g]? = some (.cells cur t (0, 0)) → ∃ cur', (w.setCells g o vs).heap[g]? = some (.cells cur' t (0, 0)) ∧ cur'.size = cur.size ∧ cur'.toList.take o = cur.toList.take o
  | [], _, _, cur, h => ⟨cur, h, rfl, rfl⟩
  | v :: r, o, w, cur, h => by
    obtain ⟨cur', h1, h2, h3⟩ := row_setCells r (o + 1) (w.setCell ⟨g, o, none⟩ v) (cur.setIfInBounds o v) (Go.Joins.block_setCell h v)
    refine ⟨cur', h1, by rw [h2]; simp, ?_⟩
    have h4 := congrArg (List.take o) h3
    rw [List.take_take, List.take_take, Nat.min_eq_left (by omega)] at h4
    rw [h4]
    simp [List.take_set_of_le]
theorem only_setCells {F : Nat → Prop} {a : World} {g : Nat} (hg : F g) : ∀ (vs : List Value) (o : Nat) (w : World), Only F a w → Only F a (w.setCells g o vs)
  | [], _, _, h => h
  | v :: r, o, _, h => only_setCells hg r (o + 1) _ (h.setCell (.inl hg) o v)

/-- What a function answers of a text, in worlds in which blocks of G have turned. -/
def TellsO (G : Nat → Prop) (g : Nat) (cp : Array Value) (p : ByteArray → Bool) (xs : List ByteArray) (w : World) : Prop := ∀ w', Only G w w' → ∀ x ∈ xs, Calls Tryz.prog g (#[.string x] ++ cp) w' fun e w'' => e = .returned (.bool (p x)) ∧ Ext w' w''
theorem TellsO.tells {G : Nat → Prop} {g : Nat} {cp : Array Value} {p : ByteArray → Bool} {xs : List ByteArray} {w : World} (h : TellsO G g cp p xs w) : Tells g cp p xs w := fun w' k => h w' (Only.ext k)

theorem filter_take_hit {xs : List ByteArray} {p : ByteArray → Bool} {j : Nat} (hj : j < xs.length) (h : p xs[j] = true) : (xs.take (j + 1)).filter (fun x => !p x) = (xs.take j).filter (fun x => !p x) := by
  rw [List.take_succ_eq_append_getElem hj, List.filter_append]; simp [h]
theorem filter_take_miss {xs : List ByteArray} {p : ByteArray → Bool} {j : Nat} (hj : j < xs.length) (h : p xs[j] = false) : (xs.take (j + 1)).filter (fun x => !p x) = (xs.take j).filter (fun x => !p x) ++ [xs[j]] := by
  rw [List.take_succ_eq_append_getElem hj, List.filter_append]; simp [h]
theorem idxOf_cases (p : ByteArray → Bool) (xs : List ByteArray) : (idxOf p xs = -1 ∧ xs.filter (fun x => !p x) = xs) ∨ ∃ i, ∃ h : i < xs.length, idxOf p xs = (i : Int) ∧ p xs[i] = true ∧ (xs.take i).filter (fun x => !p x) = xs.take i := by
  unfold idxOf
  cases hf : xs.findIdx? p with
  | none =>
    have := List.findIdx?_eq_none_iff.1 hf
    exact .inl ⟨rfl, List.filter_eq_self.2 (fun x hx => by simp [this x hx])⟩
  | some i =>
    obtain ⟨hi, hp, hb⟩ := List.findIdx?_eq_some_iff_getElem.1 hf
    refine .inr ⟨i, hi, rfl, hp, List.filter_eq_self.2 (fun x hx => ?_)⟩
    obtain ⟨j, hj, rfl⟩ := List.getElem_of_mem hx
    have hj' : j < i := by simp at hj; omega
    have := hb j hj'
    simpa using this

set_option maxHeartbeats 1000000 in
/-- slices.DeleteFunc. -/
theorem deletefunc_any (g : Nat) (cp : Array Value) (p : ByteArray → Bool) (base : Nat) (v : Value) (xs : List ByteArray) (hN : xs.length ≤ 140737488355328) (w : World) (hown : OwnStrs w base v xs)
    (eg : Ent g) (hc : TellsO (fun b => v.ownBlock = some b) g cp p xs w) :
    Calls Tryz.prog 74 #[v, .func (.func g) #[] cp] w fun e w' => ∃ v', e = .returned v' ∧ OwnStrs w' base v' (xs.filter (fun x => !p x)) ∧ Only (fun b => v.ownBlock = some b) w w' := by
  obtain ⟨a0, c0, hv, _, _, hs0⟩ := hown.form
  have hidx := indexfunc_any g cp p a0 c0 xs hN w hs0 eg hc.tells
  rw [← hv] at hidx
  have HO := Lib.hid hown
  have HC := Lib.hid hc; clear hc
  have HV := Lib.hid hv; clear hv hs0
  rcases idxOf_cases p xs with ⟨h1, h2⟩ | ⟨i0, hi0, h1, h2, h3⟩
  · rw [h1] at hidx
    rw [h2]
    clear h1 h2
    go_enter Tryz.func74, Tryz.ntmps74
    go_wp2_with fail
    refine hidx.mono ?_
    rintro e w' ⟨rfl, hx⟩
    clear hidx
    go_wp2
    go_ret
    exact ⟨_, rfl, HO.out.ext hx, Only.ext hx⟩
  · rw [h1] at hidx
    have hpos : xs ≠ [] := fun e => by subst e; simp at hi0
    obtain ⟨_, hnil | ⟨gg, cap, cur, hvv, hbase, hg, hn, hcap, hcs, htake⟩⟩ := hown
    · exact absurd (List.eq_nil_of_length_eq_zero hnil.2) hpos
    · subst hvv
      rw [Nat.mul_one] at hcs htake
      have hcell : ∀ k (hk : k < xs.length), cur[k]? = some (.string xs[k]) := fun k hk => by
        have h := congrArg (·[k]?) htake
        simp only [List.getElem?_take, if_pos hk, List.getElem?_map, List.getElem?_eq_getElem hk, Option.map_some, Array.getElem?_toList] at h
        exact h
      clear h1
      have hcap' : cap ≤ 9223372036854775807 := by unfold maxLen at hcap; omega
      have H2 := Lib.hid h2; clear h2
      have H3 := Lib.hid h3; clear h3
      have HT := Lib.hid htake; clear htake
      have HCELL := Lib.hid hcell; clear hcell
      have HG := Lib.hid hg; clear hg
      have HB := Lib.hid hbase; clear hbase hcap
      go_enter Tryz.func74, Tryz.ntmps74
      go_wp2_with fail
      refine hidx.mono ?_
      rintro e w' ⟨rfl, hx⟩
      have HX := Lib.hid hx; clear hx hidx
      have hne : ((i0 : Int) == -1) = false := by simp
      go_wp2
      go_loopg [5, 6, 7] (xs.length - (i0 + 1)) (fun k s5 s6 s7 wr => ∃ (i j : Nat) (cu : Array Value), s5 = .int .i64 i ∧ s6 = .int .i64 j ∧ i < j ∧ j ≤ xs.length ∧ k = xs.length - j ∧ Hid (wr.heap[gg]? = some (.cells cu 9 (0, 0))) ∧ cu.size = cap ∧
        Hid (i = ((xs.take j).filter (fun x => !p x)).length) ∧ Hid (cu.toList.take i = ((xs.take j).filter (fun x => !p x)).map Value.string) ∧ Hid (∀ k (hk : k < xs.length), j ≤ k → cu[k]? = some (.string xs[k])) ∧ Hid (Only (fun b => b = gg) w wr))
      case atStart =>
        have e0 : (xs.take (i0 + 1)).filter (fun x => !p x) = xs.take i0 := by rw [filter_take_hit hi0 H2.out, H3.out]
        refine ⟨i0, i0 + 1, cur, rfl, by go_num, by omega, by omega, rfl, (HX.out.block gg (lt_of_heap HG.out)).trans HG.out, hcs, ?_, ?_, fun k hk _ => HCELL.out k hk, Only.ext HX.out⟩
        · show i0 = _
          rw [e0, List.length_take]; omega
        · show cur.toList.take i0 = _
          rw [e0, List.map_take, ← HT.out, List.take_take, Nat.min_eq_left (by omega)]
      case round =>
        obtain ⟨i, j, cu, rfl, rfl, hij, hj, rfl, HR, hcu, HI, HTK, HRS, HON⟩ := hrel
        by_cases hlt : j < xs.length
        · have hcj : wr.cell? ⟨gg, j, none⟩ = some (.string xs[j]) := by rw [cell_of_row _ _ _ _ _ _ HR.out]; exact HRS.out j hlt (Nat.le_refl _)
          have hcall := HC.out wr (HON.out.mono (fun b _ e => by rw [e]; rfl)) _ (List.getElem_mem hlt)
          have HFH := Lib.hid (fun h : p xs[j] = true => filter_take_hit (p := p) hlt h)
          have HFM := Lib.hid (fun h : p xs[j] = false => filter_take_miss (p := p) hlt h)
          generalize hxx : xs[j] = x at hcj hcall HFH HFM
          have HXX := Lib.hid hxx; clear hxx
          cases hq : p x with
          | true =>
            rw [hq] at hcall
            have HQ := Lib.hid hq; clear hq
            go_wp2_with (go_at_fn g; refine hcall.mono ?_; rintro e u ⟨rfl, hu⟩; have HU := Lib.hid hu; clear hu)
            go_roundg (xs.length - (j + 1))
            case measure => omega
            case rel => exact ⟨i, j + 1, cu, rfl, by go_num, by omega, by omega, rfl, (HU.out.block gg (lt_of_heap HR.out)).trans HR.out, hcu, (show _ = _ by rw [HFH.out HQ.out]; exact HI.out), (show _ = _ by rw [HFH.out HQ.out]; exact HTK.out), (fun k hk hjk => HRS.out k hk (by omega)), HON.out.andThen (Only.ext HU.out)⟩
          | false =>
            rw [hq] at hcall
            have HQ := Lib.hid hq; clear hq
            obtain ⟨y, hy⟩ : ∃ y, cu[i]? = some y := ⟨_, Array.getElem?_eq_getElem (by omega)⟩
            have HY := Lib.hid hy; clear hy
            go_wp2_with (go_at_fn g; refine hcall.mono ?_; rintro e u ⟨rfl, hu⟩; have hru := (hu.block gg (lt_of_heap HR.out)).trans HR.out; have hci : u.cell? ⟨gg, i, none⟩ = some y := (cell_of_row _ _ _ _ _ _ hru).trans HY.out; have hfi := frozen_row hru i; have HRU := Lib.hid hru; have HU := Lib.hid hu; clear hu hru)
            go_roundg (xs.length - (j + 1))
            case measure => omega
            case rel =>
              refine ⟨i + 1, j + 1, cu.setIfInBounds i (.string x), by go_num, by go_num, by omega, by omega, rfl, Go.Joins.block_setCell HRU.out _, by simpa using hcu, (show _ = _ by rw [HFM.out HQ.out, List.length_append, ← HI.out]; rfl), ?_, (fun k hk hjk => ?_), (HON.out.andThen (Only.ext HU.out)).setCell (.inl rfl) _ _⟩
              · show _ = _
                rw [HFM.out HQ.out, List.map_append, ← HTK.out]
                have hil : i < cu.toList.length := by simp; omega
                rw [Array.toList_setIfInBounds, List.take_succ_eq_append_getElem (by simpa using hil), List.take_set_of_le (Nat.le_refl _)]
                simp
              · rw [Array.getElem?_setIfInBounds_ne (by omega)]
                exact HRS.out k hk (by omega)
        · obtain rfl : j = xs.length := by omega
          have hi : i < xs.length := hij
          have hcl := fun ty => Lib.run_clear_slice (P := Tryz.prog) wr 28 9 ty (.string ⟨#[]⟩) Tryz.underlying28 (fun w => by kernel_rfl) rfl rfl gg i (xs.length - i) (cap - i) (by omega) (fun k hk => by
            rw [cell_of_row _ _ _ _ _ _ HR.out, Array.getElem?_eq_getElem (by omega)]; rfl) (fun k hk => frozen_row HR.out _)
          obtain ⟨cu', hr1, hr2, hr3⟩ := row_setCells (List.replicate (xs.length - i) (.string ⟨#[]⟩)) i wr cu HR.out
          have ho1 := only_setCells (F := fun b => b = gg) (g := gg) rfl (List.replicate (xs.length - i) (.string ⟨#[]⟩)) i wr (Only.refl _ wr)
          generalize wr.setCells gg i (List.replicate (xs.length - i) (.string ⟨#[]⟩)) = w3 at hcl hr1 ho1
          have HR1 := Lib.hid hr1; clear hr1
          have HO1 := Lib.hid ho1; clear ho1
          have HR3 := Lib.hid hr3; clear hr3
          go_wp2
          go_ret
          have hI := HI.out
          have hK := HTK.out
          rw [List.take_length] at hI hK
          refine ⟨_, rfl, ⟨?_, .inr ⟨gg, cap, cu', ?_, HB.out, HR1.out, ?_, ?_, ?_, ?_⟩⟩, (HON.out.andThen HO1.out).mono (fun b _ e => by rw [e]; rfl)⟩
          · simp
          · rw [← hI]; rfl
          · rw [← hI]; omega
          · unfold maxLen; omega
          · rw [hr2, hcu]; omega
          · rw [Nat.mul_one, ← hI, HR3.out, hK]
end Go.Proofs.YtmdkjcigmhgpeaaGreatDoor
