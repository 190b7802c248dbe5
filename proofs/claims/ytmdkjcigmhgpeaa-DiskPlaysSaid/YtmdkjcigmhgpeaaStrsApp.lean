/- append(names, more...) where names is the call's own and more is whatever slice of texts. -/
import Derived.Test.YtmdkjcigmhgpeaaBase
import Derived.Laws.AppendOwnNone
namespace Go.Proofs.Ytmdkjcigmhgpeaa
open Go.RowKit

theorem add_plain (bk ob j : Nat) : (⟨bk, ob, none⟩ : Addr).add j = ⟨bk, ob + j, none⟩ := by
  unfold Addr.add
  split
  · rename_i h; subst h; rfl
  · rfl
set_option maxRecDepth 20000 in
theorem wpList_append_strs {w : World} {ops : Array Oper} {rest : List Oper} {o : Oper} {a : Go.Act} {Q : Exit → Go.Act → World → Prop} (hgd : o.guard = none) (s x : Operand)
    (ho : o.op = .call { callee := .builtin .append, args := #[s, x], argTypes := #[22, 22] }) (base : Nat) (v : Value) (xs ys : List ByteArray) (hs : a.eval s = v) (hown : OwnStrs w base v xs)
    (ad : Option Addr) (cd : Nat) (hx : a.eval x = .slice ad ys.length cd) (hsrc : StrsAt w ad ys) (hnone : ad = none → cd = 0) (hb : base ≤ w.heap.size) (hL : xs.length + ys.length ≤ 8796093022208)
    (h : ∀ v' w', OwnStrs w' base v' (xs ++ ys) → Below base w w' → wpList Try.prog ops Q rest (a.put o.dst v') w') :
    wpList Try.prog ops Q (o :: rest) a w := by
  obtain ⟨j0, hj1, hz0, hz1, hz2⟩ := info_parts info_string
  unfold OwnStrs at hown
  cases ad with
  | none =>
    have hy : ys = [] := by
      cases ys with
      | nil => rfl
      | cons y r => obtain ⟨_, _, e, _⟩ := hsrc 0 y rfl; cases e
    subst hy
    rw [hnone rfl] at hx
    refine wpList_append_own_none hgd s x 22 ho base 9 j0 1 Try.underlying22 hj1 v _ _ hs hown hx (h v w ?_ (Below.refl _ _))
    unfold OwnStrs
    rw [List.append_nil]
    exact hown
  | some ad =>
    refine wpList_append_own _ hgd s x 22 ho base 9 j0 (.string ⟨#[]⟩) 1 16 Try.underlying22 hj1 hz0 hz1 hz2 rfl (by decide) v _ _ hs hown ad ys.length cd (ys.map Value.string) hx (by simp) ?_ ?_ (by unfold maxLen; omega) (by omega) hb ?_
    · intro j u hj
      rw [List.getElem?_map] at hj
      cases hy : ys[j]? with
      | none => rw [hy] at hj; cases hj
      | some y =>
        rw [hy] at hj
        simp only [Option.map_some, Option.some.injEq] at hj
        subst hj
        obtain ⟨bk, ob, e, _, hc⟩ := hsrc j y hy
        injection e with e
        subst e
        rw [add_plain]
        exact hc
    · intro u hu
      obtain ⟨y, _, rfl⟩ := List.mem_map.1 hu
      rfl
    · intro v' w' hown' hg _
      refine h v' w' ?_ (Below.grown (Below.refl base w) hg hb (fun k e => (hown.lt k e).1))
      unfold OwnStrs
      rw [List.length_append, List.map_append]
      exact hown'
theorem own_one (w : World) (x : ByteArray) {b B : Nat} (hb : b = w.heap.size) (hB : B ≤ b) : OwnStrs (w.alloc (.cells #[.string x] 9)) B (.slice (some ⟨b, 0, none⟩) 1 1) [x] := by
  subst hb
  exact ⟨rfl, .inr ⟨w.heap.size, 1, #[.string x], rfl, hB, heap_alloc_new w _, by simp, by decide, rfl, rfl⟩⟩
end Go.Proofs.Ytmdkjcigmhgpeaa
