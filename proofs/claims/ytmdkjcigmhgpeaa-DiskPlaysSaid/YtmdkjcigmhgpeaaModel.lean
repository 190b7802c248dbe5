/- The model of law 06 in memory: a disk's state as numbers, and its files as a row of structs of the call's own. -/
import Derived.Test.YtmdkjcigmhgpeaaDiskLaw
import Derived.Laws.OwnMore
import Derived.OneCell
namespace Go.Proofs.Ytmdkjcigmhgpeaa
open Go.RowKit Go.Maps Dsk

/-! ### plain -/
namespace Dsk
/-- A file's place; -1: there is none. -/
def fidx (l : List FD) (n : ByteArray) : Int := match l.findIdx? (fun f => f.key == lst n) with | some i => (i : Int) | none => -1
theorem fidx_none {l : List FD} {n : ByteArray} (h : get l n = none) : fidx l n = -1 := by
  have : l.findIdx? (fun f => f.key == lst n) = none := by
    rw [List.findIdx?_eq_none_iff]
    intro f hf
    simpa using get_none h f hf
  simp [fidx, this]
theorem fidx_some {l : List FD} {n : ByteArray} {f : FD} (h : get l n = some f) : ∃ i, ∃ hi : i < l.length, fidx l n = (i : Nat) ∧ l[i] = f := by
  unfold Dsk.get at h
  rw [List.find?_eq_some_iff_getElem] at h
  obtain ⟨hp, i, hi, he, hb⟩ := h
  refine ⟨i, hi, ?_, he⟩
  have : l.findIdx? (fun f => f.key == lst n) = some i := by
    rw [List.findIdx?_eq_some_iff_getElem]
    refine ⟨hi, by rw [he]; exact hp, fun j hj => ?_⟩
    have := hb j hj
    simpa using this
  simp [fidx, this]
theorem fidx_hit {l : List FD} {n : ByteArray} {i : Nat} (hi : i < l.length) (h : l[i].key = lst n) (hb : ∀ j (hj : j < l.length), j < i → l[j].key ≠ lst n) : fidx l n = (i : Nat) := by
  have : l.findIdx? (fun f => f.key == lst n) = some i := by
    rw [List.findIdx?_eq_some_iff_getElem]
    refine ⟨hi, by simpa using h, fun j hj => ?_⟩
    simpa using hb j (by omega) hj
  simp [fidx, this]
theorem fidx_miss {l : List FD} {n : ByteArray} (hb : ∀ j (hj : j < l.length), l[j].key ≠ lst n) : fidx l n = -1 := by
  refine fidx_none (get_none_iff.2 (fun f hf => ?_))
  obtain ⟨j, hj, rfl⟩ := List.getElem_of_mem hf
  exact hb j hj
theorem take_sum_le (l : List Nat) (i : Nat) : (l.take i).sum ≤ l.sum := by
  induction l generalizing i with
  | nil => simp
  | cons a r ih => cases i with
    | zero => simp
    | succ i => have := ih i; simp; omega
theorem used_take {l : List FD} {i : Nat} (hi : i < l.length) : used (l.take (i + 1)) = used (l.take i) + l[i].data.size := by
  unfold used
  rw [List.take_succ_eq_append_getElem hi, List.map_append, List.sum_append]
  simp
theorem used_take_le (l : List FD) (i : Nat) : used (l.take i) ≤ used l := by
  unfold used
  rw [List.map_take]
  exact take_sum_le _ _
/-- The model's put, file by file. -/
def putStep (f : FD) (a : List FD × Bool) (g : FD) : List FD × Bool :=
  if g.key = f.key then a else if a.2 = false ∧ f.key < g.key then (a.1 ++ [f, g], true) else (a.1 ++ [g], a.2)
def putEnd (f : FD) (a : List FD × Bool) : List FD := if a.2 then a.1 else a.1 ++ [f]
theorem putStep_same {f g : FD} (a : List FD × Bool) (h : lst g.name = lst f.name) : putStep f a g = a := if_pos h
theorem putStep_done {f g : FD} (a : List FD) (h : ¬ lst g.name = lst f.name) : putStep f (a, true) g = (a ++ [g], true) := by
  unfold putStep; rw [if_neg (show ¬ g.key = f.key from h), if_neg (by simp)]
theorem putStep_ahead {f g : FD} (a : List FD) (h : ¬ lst g.name = lst f.name) (hl : lst f.name < lst g.name) : putStep f (a, false) g = (a ++ [f, g], true) := by
  unfold putStep; rw [if_neg (show ¬ g.key = f.key from h), if_pos ⟨rfl, hl⟩]
theorem putStep_behind {f g : FD} (a : List FD) (h : ¬ lst g.name = lst f.name) (hl : ¬ lst f.name < lst g.name) : putStep f (a, false) g = (a ++ [g], false) := by
  unfold putStep; rw [if_neg (show ¬ g.key = f.key from h), if_neg (fun hh => hl hh.2)]
theorem putStep_true (f : FD) (l a : List FD) : l.foldl (putStep f) (a, true) = (a ++ drop f.name l, true) := by
  induction l generalizing a with
  | nil => simp [drop]
  | cons g r ih =>
    rw [List.foldl_cons]
    by_cases h : g.key = f.key
    · rw [show putStep f (a, true) g = (a, true) by unfold putStep; rw [if_pos h], ih]
      have : drop f.name (g :: r) = drop f.name r := by simp [drop, FD.key] at h ⊢; simp [h]
      rw [this]
    · rw [show putStep f (a, true) g = (a ++ [g], true) by unfold putStep; rw [if_neg h, if_neg (by simp)], ih]
      have : drop f.name (g :: r) = g :: drop f.name r := by
        have h' : ¬ g.key = lst f.name := h
        simp [drop, h']
      rw [this]; simp
theorem putStep_false (f : FD) (l a : List FD) : putEnd f (l.foldl (putStep f) (a, false)) = a ++ put f l := by
  induction l generalizing a with
  | nil => simp [putEnd, put, drop, ins]
  | cons g r ih =>
    rw [List.foldl_cons]
    by_cases h : g.key = f.key
    · have e : drop f.name (g :: r) = drop f.name r := by simp [drop, FD.key] at h ⊢; simp [h]
      have e1 : putStep f (a, false) g = (a, false) := by unfold putStep; rw [if_pos h]
      have e2 : put f (g :: r) = put f r := by unfold put; rw [e]
      rw [e1, ih, e2]
    · have e : drop f.name (g :: r) = g :: drop f.name r := by
        have h' : ¬ g.key = lst f.name := h
        simp [drop, h']
      by_cases hlt : f.key < g.key
      · have e1 : putStep f (a, false) g = (a ++ [f, g], true) := by unfold putStep; rw [if_neg h, if_pos ⟨rfl, hlt⟩]
        rw [e1, putStep_true]
        unfold putEnd put
        rw [e]
        simp [ins, hlt]
      · have e1 : putStep f (a, false) g = (a ++ [g], false) := by unfold putStep; rw [if_neg h, if_neg (by simp [hlt])]
        rw [e1, ih]
        unfold put
        rw [e]
        simp [ins, hlt]
theorem putStep_all (f : FD) (l : List FD) : putEnd f (l.foldl (putStep f) ([], false)) = put f l := by rw [putStep_false]; rfl
theorem foldl_take_succ {α β : Type} (φ : α → β → α) (a : α) {l : List β} {i : Nat} (hi : i < l.length) : (l.take (i + 1)).foldl φ a = φ ((l.take i).foldl φ a) l[i] := by
  rw [List.take_succ_eq_append_getElem hi, List.foldl_append]; rfl
theorem drop_take {n : ByteArray} {l : List FD} {i : Nat} (hi : i < l.length) : drop n (l.take (i + 1)) = drop n (l.take i) ++ (if l[i].key = lst n then [] else [l[i]]) := by
  unfold drop
  rw [List.take_succ_eq_append_getElem hi, List.filter_append]
  congr 1
  by_cases h : l[i].key = lst n <;> simp [h]
theorem putStep_length (f : FD) (l : List FD) (a : List FD × Bool) : (l.foldl (putStep f) a).1.length ≤ a.1.length + 2 * l.length := by
  induction l generalizing a with
  | nil => simp
  | cons g r ih =>
    rw [List.foldl_cons]
    refine Nat.le_trans (ih _) ?_
    unfold putStep
    split
    · simp; omega
    split <;> simp <;> omega
end Dsk

/-! ### in memory -/
def fvals (f : FD) : List Value := [.string f.name, .string f.data, .int .i64 (f.kept : Nat)]
def rows (l : List FD) : List Value := l.flatMap fvals
theorem rows_length (l : List FD) : (rows l).length = l.length * 3 := by
  induction l with
  | nil => rfl
  | cons f r ih => simp only [rows, List.flatMap_cons, List.length_append, List.length_cons] at ih ⊢; rw [ih]; simp [fvals]; omega
theorem rows_append (l k : List FD) : rows (l ++ k) = rows l ++ rows k := by simp [rows]
theorem rows_get (l : List FD) (i : Nat) (hi : i < l.length) (j : Nat) (hj : j < 3) : (rows l)[i * 3 + j]? = (fvals l[i])[j]? := by
  induction l generalizing i with
  | nil => simp at hi
  | cons f r ih =>
    match i with
    | 0 => simp only [rows, List.flatMap_cons, Nat.zero_mul, Nat.zero_add]; rw [List.getElem?_append_left (by simp [fvals]; omega)]; rfl
    | i + 1 =>
      have := ih i (by simpa using hi)
      simp only [rows, List.flatMap_cons] at this ⊢
      rw [List.getElem?_append_right (by simp [fvals]; omega)]
      rw [show (i + 1) * 3 + j - (fvals f).length = i * 3 + j by simp [fvals]; omega, this]
      rfl
theorem rows_set (l : List FD) (i : Nat) (hi : i < l.length) (f : FD) : (((rows l).set (i * 3) (.string f.name)).set (i * 3 + 1) (.string f.data)).set (i * 3 + 2) (.int .i64 (f.kept : Nat)) = rows (l.set i f) := by
  induction l generalizing i with
  | nil => simp at hi
  | cons g r ih =>
    match i with
    | 0 => simp [rows, fvals]
    | i + 1 =>
      have := ih i (by simpa using hi)
      have e : rows (g :: r) = .string g.name :: .string g.data :: .int .i64 (g.kept : Nat) :: rows r := rfl
      have e2 : rows ((g :: r).set (i + 1) f) = .string g.name :: .string g.data :: .int .i64 (g.kept : Nat) :: rows (r.set i f) := rfl
      rw [e, e2, ← this, show (i + 1) * 3 = i * 3 + 1 + 1 + 1 by omega, show i * 3 + 1 + 1 + 1 + 1 = i * 3 + 1 + 1 + 1 + 1 from rfl]
      simp only [List.set_cons_succ, show i * 3 + 1 + 1 + 1 + 1 = (i * 3 + 1) + 1 + 1 + 1 from rfl, show i * 3 + 1 + 1 + 1 + 2 = (i * 3 + 2) + 1 + 1 + 1 from rfl]
theorem rows_keep (l : List FD) (i : Nat) (hi : i < l.length) (k : Nat) : (rows l).set (i * 3 + 2) (.int .i64 (k : Nat)) = rows (l.set i { l[i] with kept := k }) := by
  rw [← rows_set l i hi]
  have h0 := rows_get l i hi 0 (by omega)
  have h1 := rows_get l i hi 1 (by omega)
  simp only [fvals, List.getElem?_cons_zero, List.getElem?_cons_succ, Nat.add_zero] at h0 h1
  have e0 : (rows l).set (i * 3) (.string l[i].name) = rows l := by
    obtain ⟨hl, he⟩ := List.getElem?_eq_some_iff.1 h0
    rw [← he]; exact List.set_getElem_self hl
  have e1 : (rows l).set (i * 3 + 1) (.string l[i].data) = rows l := by
    obtain ⟨hl, he⟩ := List.getElem?_eq_some_iff.1 h1
    rw [← he]; exact List.set_getElem_self hl
  rw [e0, e1]

def mcells (S : DS) (sl : Value) : Array Value := #[.int .i64 (S.room : Nat), sl, .bool S.off, .bool S.armed, .int .i64 (S.left : Nat), .int .i64 (S.uses : Nat)]
structure ModelIn (w : World) (m : Nat) (sl : Value) (S : DS) : Prop where
  row : w.heap[m]? = some (.cells (mcells S sl) 44 (0, 0))
  own : w.ownsRow 0 52 3 sl S.files.length (rows S.files)
/-- The model at m, within the blocks of G. -/
def ModelAt (w : World) (m : Nat) (S : DS) (G : Nat → Prop) : Prop := ∃ sl, ModelIn w m sl S ∧ G m ∧ ∀ b, sl.ownBlock = some b → G b
/-- The files in a row. -/
def RowAt (w : World) (a : Option Addr) (l : List FD) : Prop :=
  ∀ (i : Nat) f, l[i]? = some f → ∃ g o, a = some ⟨g, o, none⟩ ∧ w.cell? ⟨g, o + i * 3, none⟩ = some (.string f.name) ∧ w.cell? ⟨g, o + i * 3 + 1, none⟩ = some (.string f.data) ∧ w.cell? ⟨g, o + i * 3 + 2, none⟩ = some (.int .i64 (f.kept : Nat))
theorem own_row {w : World} {B : Nat} {e : TypeId} {sl : Value} {l : List FD} (h : w.ownsRow B e 3 sl l.length (rows l)) : ∃ a c, sl = .slice a l.length c ∧ l.length ≤ c ∧ c ≤ maxLen ∧ RowAt w a l := by
  have h' := h
  obtain ⟨_, h | ⟨g, cap, cur, rfl, hb, hg, hn, hc, _⟩⟩ := h
  · have : l = [] := List.eq_nil_of_length_eq_zero h.2
    subst this
    exact ⟨none, 0, h.1, Nat.le_refl _, Nat.zero_le _, fun i f hi => by simp at hi⟩
  · refine ⟨_, _, rfl, hn, hc, ?_⟩
    intro i f hi
    obtain ⟨hi', rfl⟩ := List.getElem?_eq_some_iff.1 hi
    have key : ∀ j, j < 3 → w.cell? ⟨g, 0 + (i * 3 + j), none⟩ = (fvals l[i])[j]? := fun j hj => by
      have hr := rows_get l i hi' j hj
      have hs : ∃ u, (fvals l[i])[j]? = some u := ⟨_, List.getElem?_eq_getElem (by simp [fvals]; omega)⟩
      obtain ⟨u, hu⟩ := hs
      rw [hu] at hr ⊢
      have := World.ownsRow.cells h' (g := g) rfl _ _ hr
      rw [← this]
      congr 1
      unfold Addr.add
      split <;> simp_all
    refine ⟨g, 0, rfl, key 0 (by omega), ?_, ?_⟩
    · rw [Nat.add_assoc]; exact key 1 (by omega)
    · rw [Nat.add_assoc]; exact key 2 (by omega)
theorem RowAt.only {F : Nat → Prop} {w w' : World} {a : Option Addr} {l : List FD} (h : RowAt w a l) (k : Only F w w') (hF : ∀ bk o, a = some ⟨bk, o, none⟩ → ¬ F bk) : RowAt w' a l := by
  intro i f hi
  obtain ⟨g, o, rfl, h0, h1, h2⟩ := h i f hi
  have := hF _ _ rfl
  exact ⟨g, o, rfl, k.cell h0 this, k.cell h1 this, k.cell h2 this⟩
theorem RowAt.ext {w w' : World} {a : Option Addr} {l : List FD} (h : RowAt w a l) (k : Ext w w') : RowAt w' a l := h.only (F := fun _ => False) (Only.ext k) (fun _ _ _ hf => hf)

theorem name_eq_true {a b : ByteArray} (h : lst a = lst b) : (a.toList == b.toList) = true := by
  rw [Lib.toList_data, Lib.toList_data, beq_iff_eq]; exact h
theorem name_eq_false {a b : ByteArray} (h : ¬ lst a = lst b) : (a.toList == b.toList) = false := by
  rw [Lib.toList_data, Lib.toList_data, beq_eq_false_iff_ne]; exact h
theorem ModelIn.only {F : Nat → Prop} {w w' : World} {m : Nat} {sl : Value} {S : DS} (h : ModelIn w m sl S) (k : Only F w w') (hm : ¬ F m) (hs : ∀ b, sl.ownBlock = some b → ¬ F b) : ModelIn w' m sl S := by
  refine ⟨(k.block m (lt_of_heap h.row) hm).trans h.row, ?_⟩
  obtain ⟨h1, h2⟩ := h.own
  refine ⟨h1, ?_⟩
  rcases h2 with h2 | ⟨g, cap, cur, rfl, r2, r3, r4⟩
  · exact .inl h2
  · exact .inr ⟨g, cap, cur, rfl, r2, (k.block g (lt_of_heap r3) (hs g rfl)).trans r3, r4⟩
theorem ModelAt.only {F G : Nat → Prop} {w w' : World} {m : Nat} {S : DS} (h : ModelAt w m S G) (k : Only F w w') (hF : ∀ b, G b → ¬ F b) : ModelAt w' m S G := by
  obtain ⟨sl, h, h1, h2⟩ := h
  exact ⟨sl, h.only k (hF m h1) (fun b hb => hF b (h2 b hb)), h1, h2⟩
theorem ModelAt.ext {G : Nat → Prop} {w w' : World} {m : Nat} {S : DS} (h : ModelAt w m S G) (k : Ext w w') : ModelAt w' m S G := h.only (F := fun _ => False) (Only.ext k) (fun _ _ hf => hf)
theorem ModelAt.lt {G : Nat → Prop} {w : World} {m : Nat} {S : DS} (h : ModelAt w m S G) : ModelAt w m S (fun b => G b ∧ b < w.heap.size) := by
  obtain ⟨sl, h, h1, h2⟩ := h
  exact ⟨sl, h, ⟨h1, lt_of_heap h.row⟩, fun b hb => ⟨h2 b hb, (h.own.lt b hb).2⟩⟩
theorem ModelAt.mono {F G : Nat → Prop} {w : World} {m : Nat} {S : DS} (h : ModelAt w m S G) (hF : ∀ b, b < w.heap.size → G b → F b) : ModelAt w m S F := by
  obtain ⟨sl, h, h1, h2⟩ := h.lt
  exact ⟨sl, h, hF m h1.2 h1.1, fun b hb => hF b (h2 b hb).2 (h2 b hb).1⟩

set_option maxHeartbeats 400000 in
/-- find. -/
theorem find_any (m : Nat) (S : DS) (G : Nat → Prop) (n : ByteArray) (hL : S.files.length ≤ 1000) (w : World) (h : ModelAt w m S G) :
    Calls Try.prog 20 #[.pointer (some ⟨m, 0, none⟩), .string n] w fun e w' => e = .returned (.int .i64 (fidx S.files n)) ∧ Ext w w' := by
  obtain ⟨sl, h, _, _⟩ := h
  have c1 : w.cell? ⟨m, 1, none⟩ = some sl := Go.Joins.cell_of_block h.row 1
  obtain ⟨a, c, rfl, _, _, hr⟩ := own_row h.own
  have HR := Lib.hid hr; clear hr h
  generalize S.files = l at *
  go_enter Try.func20, Try.ntmps20
  go_wp2_with fail
  go_loopg [5] (l.length) (fun k s5 wr => ∃ i : Nat, s5 = .int .i64 i ∧ i ≤ l.length ∧ k = l.length - i ∧ Hid (∀ j (hj : j < l.length), j < i → l[j].key ≠ lst n) ∧ wr = w)
  case atStart => exact ⟨0, rfl, Nat.zero_le _, rfl, (fun j _ hj => by omega), rfl⟩
  case round =>
    obtain ⟨i, rfl, hi, rfl, HB, rfl⟩ := hrel
    by_cases hlt : i < l.length
    · obtain ⟨g, o, rfl, hc0, _, _⟩ := HR.out i _ (List.getElem?_eq_getElem hlt)
      have HE := Lib.hid (show l[i].key = lst l[i].name from rfl)
      generalize hf : l[i] = f at hc0 HE
      have HF := Lib.hid hf; clear hf
      by_cases hk : lst f.name = lst n
      · have e1 := name_eq_true hk
        have HK := Lib.hid hk; clear hk
        go_wp2_with fail
        go_ret
        refine ⟨?_, Ext.refl _⟩
        rw [fidx_hit hlt (by rw [HF.out]; exact HK.out) HB.out]
        rfl
      · have e1 := name_eq_false hk
        have HK := Lib.hid hk; clear hk
        go_wp2_with fail
        go_roundg (l.length - (i + 1))
        case measure => omega
        case rel => exact ⟨i + 1, by go_num, by omega, rfl, (fun j hj hji => by
          by_cases e : j = i
          · subst e; rw [HF.out]; exact HK.out
          · exact HB.out j hj (by omega)), rfl⟩
    · have hlt' : ¬ (i : Int) < ((l.length : Nat) : Int) := by omega
      go_wp2_with fail
      go_ret
      refine ⟨?_, Ext.refl _⟩
      rw [fidx_miss (fun j hj => HB.out j hj (by omega))]
      rfl
set_option maxHeartbeats 400000 in
/-- used. -/
theorem mused_any (m : Nat) (S : DS) (G : Nat → Prop) (hL : S.files.length ≤ 1000) (hU : used S.files ≤ 1099511627776) (w : World) (h : ModelAt w m S G) :
    Calls Try.prog 51 #[.pointer (some ⟨m, 0, none⟩)] w fun e w' => e = .returned (.int .i64 (used S.files : Nat)) ∧ Ext w w' := by
  obtain ⟨sl, h, _, _⟩ := h
  have c1 : w.cell? ⟨m, 1, none⟩ = some sl := Go.Joins.cell_of_block h.row 1
  obtain ⟨a, c, rfl, _, _, hr⟩ := own_row h.own
  have HR := Lib.hid hr; clear hr h
  generalize S.files = l at *
  go_enter Try.func51, Try.ntmps51
  go_wp2_with fail
  go_loopg [3, 4] (l.length) (fun k s3 s4 wr => ∃ (i n : Nat), s3 = .int .i64 n ∧ s4 = .int .i64 i ∧ i ≤ l.length ∧ k = l.length - i ∧ Hid (n = used (l.take i)) ∧ Hid (Ext w wr))
  case atStart => exact ⟨0, 0, rfl, rfl, Nat.zero_le _, rfl, (show _ = _ by simp [used]), Ext.refl _⟩
  case round =>
    obtain ⟨i, n, rfl, rfl, hi, rfl, HN, HX⟩ := hrel
    have c1 := HX.out.cell c1
    by_cases hlt : i < l.length
    · obtain ⟨g, o, rfl, _, hc1, _⟩ := (HR.out.ext HX.out) i _ (List.getElem?_eq_getElem hlt)
      have hu := used_take hlt
      have hle : used (l.take (i + 1)) ≤ used l := used_take_le l _
      rw [← HN.out] at hu
      have HU := Lib.hid hu
      have hz : n + l[i].data.size ≤ 1099511627776 := by omega
      clear hu hle
      generalize l[i] = f at hc1 HU hz
      go_wp2_with fail
      go_roundg (l.length - (i + 1))
      case measure => omega
      case rel => exact ⟨i + 1, n + f.data.size, by go_num, by go_num, by omega, rfl, HU.out.symm, HX.out⟩
    · have hlt' : ¬ (i : Int) < ((l.length : Nat) : Int) := by omega
      go_wp2_with fail
      go_ret
      refine ⟨?_, HX.out⟩
      have h := HN.out
      rw [List.take_of_length_le (by omega)] at h
      rw [h]
      rfl

theorem info_file : (Try.prog.info? 52).map (fun i => (i.zero, i.size, i.bytes)) = some (some (.agg #[.string ⟨#[]⟩, .string ⟨#[]⟩, .int .i64 0]), 3, 40) := by kernel_rfl
def OwnFiles (w : World) (B : Nat) (v : Value) (l : List FD) : Prop := w.ownsRow B 52 3 v l.length (rows l)
theorem OwnFiles.ext {w w' : World} {B : Nat} {v : Value} {l : List FD} (h : OwnFiles w B v l) (k : Ext w w') : OwnFiles w' B v l := ownsRow_ext h k
theorem cell_three_new (w : World) (a b c : Value) (t : TypeId) : ∀ j u, [a, b, c][j]? = some u → (w.alloc (.cells #[a, b, c] t)).cell? ((⟨w.heap.size, 0, none⟩ : Addr).add j) = some u := by
  intro j u hj
  have e : (⟨w.heap.size, 0, none⟩ : Addr).add j = ⟨w.heap.size, j, none⟩ := by unfold Addr.add; split <;> simp_all
  rw [e, cell_new]
  simpa using hj
theorem fvals_one (f : FD) : ∀ u ∈ [Value.string f.name, .string f.data, .int .i64 (f.kept : Nat)], u.oneCell' = true := by
  intro u hu
  simp only [List.mem_cons, List.not_mem_nil, or_false] at hu
  rcases hu with rfl | rfl | rfl <;> rfl
theorem less_true {a b : ByteArray} (h : ¬ lst a = lst b) (hlt : ¬ lst b < lst a) : Op.bytesLess a.toList b.toList = true := by
  rw [bytesLess_eq, Lib.toList_data, Lib.toList_data]
  refine decide_eq_true ?_
  rcases lt_or_gt h with k | k
  · exact k
  · exact absurd k hlt
theorem less_false {a b : ByteArray} (hlt : lst b < lst a) : Op.bytesLess a.toList b.toList = false := by
  rw [bytesLess_eq, Lib.toList_data, Lib.toList_data]
  exact decide_eq_false (fun k => lt_irrefl _ (lt_trans hlt k))
theorem Below.drewN0 {B : Nat} {w v w' : World} (h : Below B v w') {n : Nat} (e : v = w.drewN n) : Below B w w' := by
  subst e; exact ⟨h.os, h.tape, h.output, h.size, h.block⟩
/-- A file is appended to a row of the call's own. -/
theorem wpList_append_file {ops : Array Oper} {rest : List Oper} {o : Oper} {a : Go.Act} {Q : Exit → Go.Act → World → Prop} (hgd : o.guard = none) (s x : Operand)
    (ho : o.op = .call { callee := .builtin .append, args := #[s, x], argTypes := #[42, 42] }) (base : Nat) (v : Value) (l : List FD) (hs : a.eval s = v) (w0 : World) (hown : OwnFiles w0 base v l)
    (hb : base ≤ w0.heap.size) (hL : l.length ≤ 10000) (f : FD) (hx : a.eval x = .slice (some ⟨w0.heap.size, 0, none⟩) 1 1)
    (h : ∀ v' w', OwnFiles w' base v' (l ++ [f]) → Below base w0 w' → wpList Try.prog ops Q rest (a.put o.dst v') w') :
    wpList Try.prog ops Q (o :: rest) a (w0.alloc (.cells #[.string f.name, .string f.data, .int .i64 (f.kept : Nat)] 52)) := by
  obtain ⟨j0, hj1, hz0, hz1, hz2⟩ := info_parts info_file
  unfold OwnFiles at hown
  refine wpList_append_own _ hgd s x 42 ho base 52 j0 _ 3 40 Try.underlying42 hj1 hz0 hz1 hz2 rfl (by decide) v _ _ hs (hown.alloc _) ⟨w0.heap.size, 0, none⟩ 1 1 [.string f.name, .string f.data, .int .i64 (f.kept : Nat)] hx rfl (cell_three_new _ _ _ _ _) (fvals_one f) (by unfold maxLen; omega) (by omega) (by simp; omega) ?_
  intro v' w' hown' hg _
  refine h v' w' ?_ (Below.grown ((Below.refl base w0).alloc hb _) hg (by simp; omega) (fun k e => (hown.lt k e).1))
  unfold OwnFiles
  rw [List.length_append, rows_append]
  exact hown'

/-- The model gets other files, which lie in new memory. -/
theorem mput_end {w w' : World} {m B : Nat} {S : DS} {sl v : Value} {k : List FD} {G : Nat → Prop} (hr : w'.heap[m]? = some (.cells (mcells S sl) 44 (0, 0))) (ho : OwnFiles w' B v k) (hx : Ext w w') (hG : G m) (hB : w.heap.size ≤ B) :
    Ending.returned (.tuple #[]) = .returned (.tuple #[]) ∧ ModelAt (w'.setCell ⟨m, 1, none⟩ v) m (files S k) (More G w) ∧ Only G w (w'.setCell ⟨m, 1, none⟩ v) := by
  have hne : v.ownBlock ≠ some m := fun e => by
    obtain ⟨_, h | ⟨g, cap, cur, rfl, hb, hg, _⟩⟩ := ho
    · rw [h.1] at e; cases e
    · simp only [Value.ownBlock, Option.some.injEq] at e
      subst e
      rw [hr] at hg
      simp [mcells] at hg
  refine ⟨rfl, ⟨v, ⟨?_, ?_⟩, .inl hG, fun b hb => .inr (Nat.le_trans hB (ho.lt b hb).1)⟩, (Only.ext hx).setCell (.inl hG) 1 v⟩
  · have := Go.Joins.block_setCell (i := 1) hr v
    simpa [mcells, files] using this
  · have h := ownsRow_setCell_other ho (a := ⟨m, 1, none⟩) hne v
    obtain ⟨h1, h2⟩ := h
    refine ⟨h1, ?_⟩
    rcases h2 with h2 | ⟨g, cap, cur, r1, r2, r3⟩
    · exact .inl h2
    · exact .inr ⟨g, cap, cur, r1, Nat.zero_le _, r3⟩

set_option maxRecDepth 20000 in
set_option maxHeartbeats 1000000 in
/-- put. -/
theorem mput_any (m : Nat) (S : DS) (G : Nat → Prop) (f : FD) (hL : S.files.length ≤ 1000) (w : World) (h : ModelAt w m S G) :
    Calls Try.prog 26 #[.pointer (some ⟨m, 0, none⟩), .agg #[.string f.name, .string f.data, .int .i64 (f.kept : Nat)]] w fun e w' => e = .returned (.tuple #[]) ∧ ModelAt w' m (files S (put f S.files)) (More G w) ∧ Only G w w' := by
  obtain ⟨sl, h, hG, hGs⟩ := h
  have c1 : w.cell? ⟨m, 1, none⟩ = some sl := Go.Joins.cell_of_block h.row 1
  obtain ⟨a, c, rfl, _, _, hr⟩ := own_row h.own
  have HR := Lib.hid hr; clear hr
  have HM := Lib.hid h; clear h
  have HG := Lib.hid (And.intro hG hGs); clear hG hGs
  generalize hl : S.files = l at *
  obtain ⟨j0, hj1, hz0, hz1, hz2⟩ := info_parts info_file
  obtain ⟨w1, hw1⟩ : ∃ w1, w1 = w.alloc (.cells #[.string f.name, .string f.data, .int .i64 (f.kept : Nat)] 52) := ⟨_, rfl⟩
  have HX1 := Lib.hid (show Ext w w1 by rw [hw1]; exact (Ext.refl w).alloc _)
  have b0 : w1.cell? ⟨w.heap.size, 0, none⟩ = some (.string f.name) := by rw [hw1, cell_new]; rfl
  have b1 : w1.cell? ⟨w.heap.size, 1, none⟩ = some (.string f.data) := by rw [hw1, cell_new]; rfl
  have b2 : w1.cell? ⟨w.heap.size, 2, none⟩ = some (.int .i64 (f.kept : Nat)) := by rw [hw1, cell_new]; rfl
  have HB := Lib.hid (And.intro b0 (And.intro b1 b2)); clear b0 b1 b2
  have hown0 : OwnFiles w1 w1.heap.size (.slice none 0 0) [] := World.ownsRow_nil _ _ _ _
  go_enter Try.func26, Try.ntmps26
  go_wp2_with fail
  rw [← hw1]
  have HW1 := Lib.hid hw1; clear hw1
  go_loopg [4, 5, 6] (l.length) (fun k s4 s5 s6 wr => ∃ (i : Nat) (acc : List FD) (d : Bool), s5 = .bool d ∧ s6 = .int .i64 i ∧ i ≤ l.length ∧ k = l.length - i ∧ Hid ((l.take i).foldl (putStep f) ([], false) = (acc, d)) ∧ Hid (OwnFiles wr w1.heap.size s4 acc) ∧ Hid (Ext w1 wr))
  case atStart => exact ⟨0, [], false, rfl, rfl, Nat.zero_le _, rfl, (show _ = _ by simp), hown0, Ext.refl _⟩
  case round =>
    obtain ⟨i, acc, d, rfl, rfl, hi, rfl, HA, HO, HX⟩ := hrel
    have c1r := (HX1.out.trans HX.out).cell c1
    have b0 := HX.out.cell HB.out.1
    have b1 := HX.out.cell HB.out.2.1
    have b2 := HX.out.cell HB.out.2.2
    by_cases hlt : i < l.length
    · obtain ⟨g, o, rfl, hc0, hc1, hc2⟩ := (HR.out.ext (HX1.out.trans HX.out)) i _ (List.getElem?_eq_getElem hlt)
      have HS := Lib.hid (foldl_take_succ (putStep f) ([], false) hlt)
      generalize hge : l[i] = ge at hc0 hc1 hc2 HS
      have HGE := Lib.hid hge; clear hge
      by_cases hk : lst ge.name = lst f.name
      · have e1 := name_eq_true hk
        have HK := Lib.hid hk; clear hk
        go_wp2_with fail
        go_quiet (fail)
        go_wp2_with fail
        go_roundg (l.length - (i + 1))
        case measure => omega
        case rel => exact ⟨i + 1, acc, d, rfl, by go_num, by omega, rfl, (show _ = _ by
          rw [HS.out, HA.out, putStep_same _ HK.out]), HO.out.ext ((Ext.refl _).drewN nq), HX.out.drewN nq⟩
      · have e1 := name_eq_false hk
        have HK0 := Lib.hid hk
        have HK := Lib.hid hk; clear hk
        cases d with
        | true =>
          go_wp2_with fail
          go_quiet (fail)
          go_wp2_with fail
          go_quiet (fail)
          go_wp2_with (at_builtin; refine wpList_append_file rfl _ _ rfl w1.heap.size _ acc rfl _ (HO.out.ext ((Ext.refl _).drewN _)) ?c1 ?c2 ge rfl ?_)
          case c1 => exact HX.out.size
          case c2 => have := putStep_length f (l.take i) ([], false); rw [HA.out] at this; simp at this; omega
          intro v' w3 hown' hb'
          have HO3 := Lib.hid hown'; clear hown'
          have HX3 := Lib.hid (Below.trans HX.out (Below.drewN0 hb' (by rfl)) : Ext w1 w3); clear hb'
          go_wp2_with fail
          go_roundg (l.length - (i + 1))
          case measure => omega
          case rel => exact ⟨i + 1, acc ++ [ge], true, rfl, by go_num, by omega, rfl, (show _ = _ by
            rw [HS.out, HA.out, putStep_done _ HK.out]), HO3.out, HX3.out⟩
        | false =>
          by_cases hlt2 : lst f.name < lst ge.name
          · have e2 := less_false hlt2
            have HL2 := Lib.hid hlt2; clear hlt2
            go_wp2_with fail
            go_quiet (fail)
            go_wp2_with fail
            go_quiet (fail)
            go_wp2_with (at_builtin; refine wpList_append_file rfl _ _ rfl w1.heap.size _ acc rfl _ (HO.out.ext ((Ext.refl _).drewN _)) ?c1 ?c2 f rfl ?_)
            case c1 => exact HX.out.size
            case c2 => have := putStep_length f (l.take i) ([], false); rw [HA.out] at this; simp at this; omega
            intro v' w3 hown' hb'
            have HO3 := Lib.hid hown'; clear hown'
            have HX3 := Lib.hid (Below.trans HX.out (Below.drewN0 hb' (by rfl)) : Ext w1 w3); clear hb'
            clear hc0 hc1 hc2 c1r
            have c1r := (HX1.out.trans HX3.out).cell c1
            obtain ⟨g3, o3, e3, hc0, hc1, hc2⟩ := (HR.out.ext (HX1.out.trans HX3.out)) i ge (by rw [List.getElem?_eq_getElem hlt, HGE.out])
            cases e3
            go_wp2_with (at_builtin; refine wpList_append_file rfl _ _ rfl w1.heap.size _ (acc ++ [f]) rfl _ HO3.out ?d1 ?d2 ge rfl ?_)
            case d1 => exact HX3.out.size
            case d2 => have := putStep_length f (l.take i) ([], false); rw [HA.out] at this; simp at this ⊢; omega
            intro v4 w4 hown' hb'
            have HO4 := Lib.hid hown'; clear hown'
            have HX4 := Lib.hid (Below.trans HX3.out hb' : Ext w1 w4); clear hb'
            go_wp2_with fail
            go_roundg (l.length - (i + 1))
            case measure => omega
            case rel => exact ⟨i + 1, acc ++ [f, ge], true, rfl, by go_num, by omega, rfl, (show _ = _ by
              rw [HS.out, HA.out, putStep_ahead _ HK.out HL2.out]), HO4.out, HX4.out⟩
          · have e2 := less_true HK0.out hlt2
            have HL2 := Lib.hid hlt2; clear hlt2
            go_wp2_with fail
            go_quiet (fail)
            go_wp2_with fail
            go_quiet (fail)
            go_wp2_with (at_builtin; refine wpList_append_file rfl _ _ rfl w1.heap.size _ acc rfl _ (HO.out.ext ((Ext.refl _).drewN _)) ?c1 ?c2 ge rfl ?_)
            case c1 => exact HX.out.size
            case c2 => have := putStep_length f (l.take i) ([], false); rw [HA.out] at this; simp at this; omega
            intro v' w3 hown' hb'
            have HO3 := Lib.hid hown'; clear hown'
            have HX3 := Lib.hid (Below.trans HX.out (Below.drewN0 hb' (by rfl)) : Ext w1 w3); clear hb'
            go_wp2_with fail
            go_roundg (l.length - (i + 1))
            case measure => omega
            case rel => exact ⟨i + 1, acc ++ [ge], false, rfl, by go_num, by omega, rfl, (show _ = _ by
              rw [HS.out, HA.out, putStep_behind _ HK.out HL2.out]), HO3.out, HX3.out⟩
    · have hlt' : ¬ (i : Int) < ((l.length : Nat) : Int) := by omega
      have hrow : wr.heap[m]? = some (.cells (mcells S (.slice a l.length c)) 44 (0, 0)) := ((HX1.out.trans HX.out).block m (lt_of_heap HM.out.row)).trans HM.out.row
      have f1 := frozen_row hrow 1
      have HW := Lib.hid hrow; clear hrow
      have HE := Lib.hid (show putEnd f (acc, d) = put f l by rw [← HA.out, List.take_of_length_le (by omega), putStep_all])
      cases d with
      | true =>
        obtain ⟨a4, c4, rfl, _, _, _⟩ := own_row HO.out
        go_wp2_with fail
        go_end0
        rw [← HE.out]
        exact mput_end HW.out HO.out (HX1.out.trans HX.out) HG.out.1 (by rw [HW1.out]; simp)
      | false =>
        go_wp2_with (at_builtin; refine wpList_append_file rfl _ _ rfl w1.heap.size _ acc rfl _ HO.out ?c1 ?c2 f rfl ?_)
        case c1 => exact HX.out.size
        case c2 => have := putStep_length f (l.take i) ([], false); rw [HA.out] at this; simp at this; omega
        intro v' w3 hown' hb'
        have HO3 := Lib.hid hown'; clear hown'
        have HX3 := Lib.hid (Below.trans HX.out hb' : Ext w1 w3); clear hb'
        have hrow : w3.heap[m]? = some (.cells (mcells S (.slice a l.length c)) 44 (0, 0)) := ((HX1.out.trans HX3.out).block m (lt_of_heap HM.out.row)).trans HM.out.row
        clear f1 c1r
        have c1r := (HX1.out.trans HX3.out).cell c1
        have f1 := frozen_row hrow 1
        have HW3 := Lib.hid hrow; clear hrow
        obtain ⟨a4, c4, rfl, _, _, _⟩ := own_row HO3.out
        go_wp2_with fail
        go_end0
        rw [← HE.out]
        have ho3 := HO3.out
        rw [show (acc ++ [f]).length = acc.length + 1 by simp] at ho3
        exact mput_end (B := w1.heap.size) HW3.out ho3 (HX1.out.trans HX3.out) HG.out.1 (by rw [HW1.out]; simp)
end Go.Proofs.Ytmdkjcigmhgpeaa
