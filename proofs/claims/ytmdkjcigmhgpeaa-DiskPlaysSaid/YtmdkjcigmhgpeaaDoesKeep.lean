/- Syncing one name behind the other, as a row of files. -/
import Derived.Test.YtmdkjcigmhgpeaaDoesSpec
namespace Go.Proofs.Ytmdkjcigmhgpeaa
open Go.RowKit Go.Maps Dsk

theorem keep_step {l : List FD} (hs : Sorted l) {ns : List ByteArray} {t : Nat} (ht : t < ns.length) {j : Nat} (hj : j < (l.map (keepOne (ns.take t))).length) (hk : (l.map (keepOne (ns.take t)))[j].key = lst ns[t]) {g : FD}
    (hg : g = { (l.map (keepOne (ns.take t)))[j] with kept := (l.map (keepOne (ns.take t)))[j].data.size }) :
    l.map (keepOne (ns.take (t + 1))) = (l.map (keepOne (ns.take t))).set j g := by
  have hj' : j < l.length := by simpa using hj
  rw [List.getElem_map] at hk hg
  have hkk := (keepOne_key (ns.take t) l[j]).1
  refine List.ext_getElem (by simp) (fun i h1 h2 => ?_)
  have hi : i < l.length := by simpa using h1
  rw [List.getElem_map, List.getElem_set, keepOne_take ht]
  by_cases e : j = i
  · subst e
    rw [if_pos (by rw [← hkk]; exact hk), if_pos rfl, hg]
    obtain ⟨h1, h2, h3⟩ := keepOne_key (ns.take t) l[j]
    rw [h2]
    cases hkf : keepOne (ns.take t) l[j] with
    | mk a b c =>
      rw [hkf] at h2 h3
      simp only at h2 h3
      rw [h2, h3]
  · have hne : l[i].key ≠ lst ns[t] := by
      rw [← hk, hkk]
      intro e2
      have hp := List.pairwise_iff_getElem.1 hs
      rcases Nat.lt_or_gt_of_ne e with k | k
      · have := hp j i hj' hi k; rw [e2] at this; exact lt_irrefl _ this
      · have := hp i j hi hj' k; rw [e2] at this; exact lt_irrefl _ this
    rw [if_neg hne, if_neg e, List.getElem_map]
theorem keepOne_nil (l : List FD) : l.map (keepOne []) = l := by
  have : (keepOne []) = id := by funext f; simp [keepOne]
  rw [this, List.map_id]
end Go.Proofs.Ytmdkjcigmhgpeaa
