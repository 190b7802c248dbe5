/- strings.Join, nothing between. -/
import Derived.Test.YtmdkjcigmhgpeaaGreatDoorShelf
import Derived.Test.YtmdkjcigmhgpeaaGreatDoorBase
namespace Go.Proofs.YtmdkjcigmhgpeaaGreatDoor
open Go.RowKit

theorem join_flat (xs : List ByteArray) : Lib.join (xs.map (·.data.toList)) (ByteArray.mk #[]).data.toList = (xs.map lst).flatten := by
  unfold Lib.join
  show List.intercalate [] (xs.map lst) = _
  generalize xs.map lst = l
  induction l with
  | nil => rfl
  | cons x l ih =>
    cases l with
    | nil => simp [List.intercalate]
    | cons y l =>
      simp only [List.intercalate, List.intersperse_cons_cons, List.flatten_cons] at ih ⊢
      rw [ih]; simp
theorem joined_any (a : Option Addr) (c : Nat) (xs : List ByteArray) (w : World) (hs : StrsAt w a xs) (hN : xs.length ≤ 140737488355328) (hcap : xs.length ≤ c) (hlen : ((xs.map lst).flatten).length ≤ 140737488355328) :
    Calls Tryz.prog 50 #[.slice a xs.length c, .string ⟨#[]⟩] w fun e w' => ∃ r, e = .returned (.string r) ∧ lst r = (xs.map lst).flatten ∧ Ext w w' := by
  by_cases h0 : xs = []
  · subst h0
    refine (Tryz.strings_Join_none a c ⟨#[]⟩ w).mono ?_
    rintro e w' ⟨rfl, rfl⟩
    exact ⟨_, rfl, rfl, Ext.refl _⟩
  · have hp : 0 < xs.length := List.length_pos_iff.2 h0
    obtain ⟨bk, o, rfl, hl, _⟩ := hs 0 xs[0] (List.getElem?_eq_getElem hp)
    have h := Tryz.strings_Join bk o c xs ⟨#[]⟩ w (fun j x hj => by
      obtain ⟨bk', o', he, _, hc⟩ := hs j x hj
      injection he with he
      injection he with h1 h2
      subst h1 h2
      exact hc) hl hN hcap (by rw [join_flat]; exact hlen)
    rw [join_flat] at h
    refine h.mono ?_
    rintro e w' ⟨rfl, hx⟩
    exact ⟨_, rfl, by simp [lst], hx⟩
end Go.Proofs.YtmdkjcigmhgpeaaGreatDoor
