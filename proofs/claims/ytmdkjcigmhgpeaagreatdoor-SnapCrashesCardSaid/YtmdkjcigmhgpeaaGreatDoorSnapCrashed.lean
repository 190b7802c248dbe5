/- Saves, a crash, a Sweep, and a Save again: what is told. No program in sight. -/
import Derived.Test.YtmdkjcigmhgpeaaGreatDoorSnapSwept
namespace Go.Proofs.YtmdkjcigmhgpeaaGreatDoor
namespace Snp
open SealMath Dsk

/-- A disk that holds no more than k Saves can have left. -/
structure CR (S : DS) (k : Nat) : Prop where
  room : S.room = 1048576
  used : Dsk.used S.files ≤ 12300 * k
  len : S.files.length ≤ 2 * k
  uses : S.uses ≤ 200 * k
structure CS (S : DS) (t : Option (Nat × List UInt8)) (k : Nat) : Prop where
  off : S.off = false
  armed : S.armed = false
  told : Told S t
  cr : CR S k
theorem CR.more {S : DS} {k : Nat} (h : CR S k) : CR S (k + 1) := ⟨h.room, by have := h.used; omega, by have := h.len; omega, by have := h.uses; omega⟩
theorem CR.run {S T : DS} {k u : Nat} (h : CR S k) (r : Run S T u 2 107) (hu : u ≤ 12300) : CR T (k + 1) :=
  ⟨r.room.trans h.room, by have := h.used; have := r.used; omega, by have := h.len; have := r.len; omega, by have := h.uses; have := r.uses; omega⟩
theorem CR.free {S : DS} {k : Nat} (h : CR S k) (hk : k ≤ 20) : (20000 : Int) ≤ Dsk.free S := by
  have := h.used; have := h.room
  unfold Dsk.free; omega
theorem CS.new : CS (Dsk.new 1048576) none 0 := ⟨rfl, rfl, rfl, ⟨rfl, Nat.le_refl _, Nat.le_refl _, Nat.le_refl _⟩⟩
theorem CS.load {S : DS} {t : Option (Nat × List UInt8)} {k : Nat} (h : CS S t k) : loadS S = answer t := h.told.load h.off
theorem save_small {n : Nat} {d : List UInt8} (hd : d.length ≤ 12000) : (fileL n d).length + (markL n).length ≤ 12300 ∧ d.length + 12 * (d.length / 60000 + 1) + 51 ≤ 12300 ∧ needS d ≤ 12300 := by
  have h1 := headL_le n d
  have h2 := markL_length n
  have h3 := needS_le d
  omega
theorem twice {S : DS} {n : Nat} (hn : n ≤ 99999999) {e d : List UInt8} (ho : S.off = false) (ht : Told S (some (n, e))) : saveS S n d = (9, S) := by
  have hl := ht.load ho
  have hm : mayN ((n : Nat) : Int) = true := by unfold mayN; simp; omega
  unfold saveS
  rw [if_neg (by rw [hm]; simp), if_neg (by rw [ho]; simp), if_pos (by rw [hl]; simp [answer])]
theorem CS.save_new {S : DS} {t : Option (Nat × List UInt8)} {k : Nat} (h : CS S t k) (hg : Dsk.Good S) (hk : k ≤ 20) {n : Nat} (hn : n ≤ 99999999) {d : List UInt8} (hd : d.length ≤ 12000) (hne : ∀ m e, t = some (m, e) → m ≠ n) :
    ∃ T, saveS S n d = (0, T) ∧ CS T (some (n, d)) (k + 1) := by
  have hs := save_small (n := n) hd
  have hf := h.cr.free hk
  have hl := h.cr.len
  obtain ⟨T, h1, h2, h3, h4⟩ := save_done (n := n) (d := d) hg.sorted (fun f hf => (hg.fine f hf).name) h.off h.armed h.told hn (by omega) hne (by omega) (by omega)
  exact ⟨T, h1, h3, h4.armed.trans h.armed, h2, h.cr.run h4 hs.1⟩
theorem CS.save {S : DS} {t : Option (Nat × List UInt8)} {k : Nat} (h : CS S t k) (hg : Dsk.Good S) (hk : k ≤ 20) (n : Int) {d : List UInt8} (hd : d.length ≤ 12000) :
    ∃ t', CS (saveS S n d).2 t' (k + 1) := by
  cases hm : mayN n with
  | false =>
    have e : saveS S n d = (1, S) := by unfold saveS; rw [if_pos hm]
    rw [e]
    exact ⟨t, h.off, h.armed, h.told, h.cr.more⟩
  | true =>
    obtain ⟨m, rfl, hm'⟩ : ∃ m : Nat, n = m ∧ m ≤ 99999999 := by
      unfold mayN at hm
      simp at hm
      exact ⟨n.toNat, by omega, by omega⟩
    by_cases ht : ∃ e, t = some (m, e)
    · obtain ⟨e, rfl⟩ := ht
      rw [twice hm' h.off h.told]
      exact ⟨_, h.off, h.armed, h.told, h.cr.more⟩
    · obtain ⟨T, h1, h2⟩ := h.save_new hg hk hm' hd (fun a e hta hh => ht ⟨e, by rw [hta, hh]⟩)
      rw [h1]
      exact ⟨_, h2⟩
/-- What a Save comes to whose power may end. -/
def ArmOut (t : Option (Nat × List UInt8)) (n : Nat) (d : List UInt8) (r : Nat) (t1 : Option (Nat × List UInt8)) : Prop :=
  (r = 0 ∧ t1 = some (n, d)) ∨ (r = 7 ∧ t1 = t) ∨ (r = 7 ∧ t1 = some (n, d)) ∨ (r = 9 ∧ t1 = t ∧ ∃ e, t = some (n, e))
theorem CS.armed_save {S : DS} {t : Option (Nat × List UInt8)} {k : Nat} (h : CS S t k) (hg : Dsk.Good S) (hk : k ≤ 20) (m : Int) {n : Nat} (hn : n ≤ 99999999) {d : List UInt8} (hd : d.length ≤ 12000) :
    ∃ r T t1, saveS (arm S m) n d = (r, T) ∧ CR T (k + 1) ∧ Told T t1 ∧ ArmOut t n d r t1 := by
  have hs := save_small (n := n) hd
  have hf := h.cr.free hk
  have hl := h.cr.len
  have hcr : CR (arm S m) k := ⟨h.cr.room, h.cr.used, h.cr.len, h.cr.uses⟩
  have ht : Told (arm S m) t := h.told.same (fun _ _ => rfl)
  by_cases hte : ∃ e, t = some (n, e)
  · obtain ⟨e, rfl⟩ := hte
    exact ⟨9, _, _, twice hn h.off ht, hcr.more, ht, .inr (.inr (.inr ⟨rfl, rfl, e, rfl⟩))⟩
  · rcases save_way (S := arm S m) (n := n) (d := d) hg.sorted (fun f hf => (hg.fine f hf).name) h.off ht hn (by omega) (fun a e hta hh => hte ⟨e, by rw [hta, hh]⟩) (by show _ ≤ free S; omega) (by show _ ≤ free S; omega) (by show S.files.length < 98; omega) with ⟨T, h1, h2, h3, h4⟩ | ⟨T, h1, h2, h3, h4⟩
    · exact ⟨0, T, _, h1, hcr.run h4 hs.1, h2, .inl ⟨rfl, rfl⟩⟩
    · rcases h2 with h2 | h2
      · exact ⟨7, T, _, h1, hcr.run h4 hs.1, h2, .inr (.inl ⟨rfl, rfl⟩)⟩
      · exact ⟨7, T, _, h1, hcr.run h4 hs.1, h2, .inr (.inr (.inl ⟨rfl, rfl⟩))⟩

/-! ### a crash -/
theorem get_mapIdx (m : ByteArray) : ∀ (l : List FD) (g : Nat → FD → FD) (_ : ∀ i f, (g i f).name = f.name), (get l m = none → get (l.mapIdx g) m = none) ∧ (∀ f, get l m = some f → ∃ i, get (l.mapIdx g) m = some (g i f))
  | [], g, _ => ⟨fun _ => rfl, fun f h => by cases h⟩
  | a :: r, g, hg => by
    obtain ⟨i1, i2⟩ := get_mapIdx m r (fun i => g (i + 1)) (fun i f => hg (i + 1) f)
    have hk : (g 0 a).key = a.key := congrArg lst (hg 0 a)
    rw [List.mapIdx_cons, get_cons, get_cons, hk]
    by_cases e : a.key = lst m
    · rw [if_pos e, if_pos e]
      exact ⟨(fun h => by cases h), fun f h => ⟨0, by injection h with h; rw [h]⟩⟩
    · rw [if_neg e, if_neg e]
      refine ⟨i1, fun f h => ?_⟩
      obtain ⟨i, hi⟩ := i2 f h
      exact ⟨i + 1, hi⟩
theorem crashF_whole (more : Int) (n : ByteArray) (l : List UInt8) : crashF more ⟨n, bts l, l.length⟩ = ⟨n, bts l, l.length⟩ := by
  unfold crashF
  simp only [bts_size, Nat.sub_self, Nat.min_zero, Nat.add_zero, lst_bts, List.take_length]
  rfl
theorem crash_told {T : DS} {t : Option (Nat × List UInt8)} (h : Told T t) (ks : List Int) : Told (crash T ks) t := by
  have hg := fun m => get_mapIdx m T.files (fun i f => crashF (ks.getD i 0) f) (fun i f => rfl)
  cases t with
  | none => exact (hg nMark).1 h
  | some p =>
    obtain ⟨n, d⟩ := p
    obtain ⟨h1, h2, h3, h4⟩ := h
    refine ⟨h1, h2, ?_, ?_⟩
    · obtain ⟨i, hi⟩ := (hg nMark).2 _ h3
      rw [crashF_whole] at hi; exact hi
    · obtain ⟨i, hi⟩ := (hg (nSnap n)).2 _ h4
      rw [crashF_whole] at hi; exact hi
theorem mapIdx_used : ∀ (l : List FD) (g : Nat → FD → FD) (_ : ∀ i f, (g i f).data.size ≤ f.data.size), used (l.mapIdx g) ≤ used l
  | [], _, _ => Nat.le_refl _
  | a :: r, g, hg => by
    have ih := mapIdx_used r (fun i => g (i + 1)) (fun i f => hg (i + 1) f)
    have := hg 0 a
    rw [List.mapIdx_cons]
    unfold used at ih ⊢
    simp only [List.map_cons, List.sum_cons]
    omega
theorem crash_cs {T : DS} {t : Option (Nat × List UInt8)} {k : Nat} (h : CR T k) (ht : Told T t) (ks : List Int) : CS (crash T ks) t k :=
  ⟨rfl, rfl, crash_told ht ks, ⟨h.room, Nat.le_trans (mapIdx_used _ _ (fun i f => by
    show ((lst f.data).take _).length ≤ _
    rw [List.length_take, lst_length]; omega)) h.used, by show (List.mapIdx _ _).length ≤ _; rw [List.length_mapIdx]; exact h.len, h.uses⟩⟩

/-! ### a Sweep -/
theorem CS.sweep {S : DS} {n : Nat} {d : List UInt8} {k : Nat} (h : CS S (some (n, d)) k) (hg : Dsk.Good S) : ∃ j U, sweepS S = (j, 0, U) ∧ CS U (some (n, d)) (k + 1) := by
  have hl := h.load
  obtain ⟨hn, hd, hm, hs⟩ := h.told
  have hmany := hg.many
  have hnc := names_count S [nFront]
  have hc := h.cr
  have ho0 : othersS S (nSnap n) = othersL (nSnap n) (namesOf S [nFront]) 0 S := rfl
  rcases others_way (nSnap n) (namesOf S [nFront]) 0 S hg.sorted (names_pair hg.sorted _) (fun x hx => ⟨by
    obtain ⟨f, hf, rfl⟩ := names_mem hx
    exact (hg.fine f hf).name, names_there hg.sorted hx⟩) h.off with ⟨j, T, h1, h2, h3, h4, h5⟩ | ⟨T, h1, h2, _, h4⟩
  · rw [← ho0] at h1
    have gT : ∀ m, (m = nSnap n ∨ m ∉ namesOf S [nFront]) → get T.files m = get S.files m := fun m hm => by rw [h2, get_filter, if_pos (keepIn_iff.2 hm)]
    have tT : Told T (some (n, d)) := ⟨hn, hd, (gT nMark (.inr front_mark)).trans hm, (gT (nSnap n) (.inl rfl)).trans hs⟩
    have e0 : (loadS S).2.2 = 0 := by rw [hl]; rfl
    have e1 : (loadS S).1 = n := by rw [hl]; rfl
    rcases delete_way T may_fresh with ⟨U, e, hf, hi, hoU, _, g⟩ | ⟨U, e, hf, hi, hoU, _, g⟩ | ⟨U, e, hf, hoU, g⟩
    · have tU : Told U (some (n, d)) := tT.same (fun m hm => by
        rw [hf, get_drop h5.sorted, if_neg]
        exact ne_lst (named_fresh hm))
      refine ⟨0 + j + 1, U, ?_, hoU, g.armed.trans (h5.armed.trans h.armed), tU, ⟨g.room.trans (h5.room.trans hc.room), ?_, ?_, ?_⟩⟩
      · unfold sweepS
        rw [if_neg (by rw [e0]; simp), e1, h1, if_neg (by simp)]
        simp only
        rw [e]; simp
      · rw [hf]; have := drop_used nFresh (l := T.files); have := h5.used; have := hc.used; omega
      · rw [hf]; have := drop_length nFresh (l := T.files); have := h5.len; have := hc.len; omega
      · have := g.uses; have := h5.uses; have := hc.uses; omega
    · have tU : Told U (some (n, d)) := tT.same (fun m hm => by rw [hf])
      refine ⟨0 + j, U, ?_, hoU, g.armed.trans (h5.armed.trans h.armed), tU, ⟨g.room.trans (h5.room.trans hc.room), ?_, ?_, ?_⟩⟩
      · unfold sweepS
        rw [if_neg (by rw [e0]; simp), e1, h1, if_neg (by simp)]
        simp only
        rw [e]; simp
      · rw [hf]; have := h5.used; have := hc.used; omega
      · rw [hf]; have := h5.len; have := hc.len; omega
      · have := g.uses; have := h5.uses; have := hc.uses; omega
    · have := g.calm h4 (h5.armed.trans h.armed)
      rw [hoU] at this; cases this
  · have := h4.calm h.off h.armed
    rw [h2] at this; cases this
end Snp
end Go.Proofs.YtmdkjcigmhgpeaaGreatDoor
