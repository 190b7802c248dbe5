/- The walks of begin, there: ahead of each use. -/
import Derived.Test.YtmdkjcigmhgpeaaGreatDoorDiskUse
import Derived.Shelf.Abstract
namespace Go.Proofs.YtmdkjcigmhgpeaaGreatDoor
open Go.RowKit Go.Maps Dsk

/-- A function's number that is entered. -/
abbrev Ent (g : Nat) : Prop := ∀ args w, (callFunc g args).run Tryz.prog w = .ok (.enter g args) w
/-- What a function answers of a text; it lays new memory at most. -/
def Tells (g : Nat) (cp : Array Value) (p : ByteArray → Bool) (xs : List ByteArray) (w : World) : Prop := ∀ w', Ext w w' → ∀ x ∈ xs, Calls Tryz.prog g (#[.string x] ++ cp) w' fun e w'' => e = .returned (.bool (p x)) ∧ Ext w' w''
theorem Tells.ext {g : Nat} {cp : Array Value} {p : ByteArray → Bool} {xs : List ByteArray} {w w' : World} (h : Tells g cp p xs w) (k : Ext w w') : Tells g cp p xs w' := fun v hv x hx => h v (k.trans hv) x hx

def idxOf (p : ByteArray → Bool) (xs : List ByteArray) : Int := match xs.findIdx? p with | some i => (i : Int) | none => -1
theorem idxOf_hit (p : ByteArray → Bool) (xs : List ByteArray) (n : Nat) (hn : n < xs.length) (h : p xs[n] = true) (hb : ∀ j (hj : j < xs.length), j < n → p xs[j] = false) : idxOf p xs = n := by
  have : xs.findIdx? p = some n := List.findIdx?_eq_some_iff_getElem.2 ⟨hn, h, fun j hj => by simp [hb j (by omega) hj]⟩
  simp [idxOf, this]
theorem idxOf_miss (p : ByteArray → Bool) (xs : List ByteArray) (hb : ∀ j (hj : j < xs.length), p xs[j] = false) : idxOf p xs = -1 := by
  have : xs.findIdx? p = none := List.findIdx?_eq_none_iff.2 (fun x hx => by
    obtain ⟨j, hj, rfl⟩ := List.getElem_of_mem hx
    exact hb j hj)
  simp [idxOf, this]
theorem idxOf_any (p : ByteArray → Bool) (xs : List ByteArray) : decide (0 ≤ idxOf p xs) = xs.any p := by
  unfold idxOf
  cases h : xs.findIdx? p with
  | none =>
    have := List.findIdx?_eq_none_iff.1 h
    have h2 : xs.any p = false := List.any_eq_false.2 (fun x hx => by simp [this x hx])
    rw [h2]; rfl
  | some i =>
    obtain ⟨hi, hp, _⟩ := List.findIdx?_eq_some_iff_getElem.1 h
    have h2 : xs.any p = true := List.any_eq_true.2 ⟨_, List.getElem_mem hi, hp⟩
    rw [h2]; simp

/-- slices.IndexFunc at texts. -/
theorem indexfunc_any (g : Nat) (cp : Array Value) (p : ByteArray → Bool) (a : Option Addr) (c : Nat) (xs : List ByteArray) (hN : xs.length ≤ 140737488355328) (w : World) (hs : StrsAt w a xs)
    (eg : Ent g) (hc : Tells g cp p xs w) :
    Calls Tryz.prog 112 #[.slice a xs.length c, .func (.func g) #[] cp] w fun e w' => e = .returned (.int .i64 (idxOf p xs)) ∧ Ext w w' := by
  have HS := Lib.hid hs; clear hs
  have HC := Lib.hid hc; clear hc
  go_enter Tryz.func112, Tryz.ntmps112
  go_wp2
  go_loopg [5, 8] (xs.length) (fun k r i wr => ∃ (n : Nat), i = .int .i64 n ∧ n ≤ xs.length ∧ k = xs.length - n ∧ Hid (∀ j (hj : j < xs.length), j < n → p xs[j] = false) ∧ Hid (Ext w wr))
  case atStart => exact ⟨0, rfl, Nat.zero_le _, rfl, fun j _ hj => by omega, Ext.refl w⟩
  case round =>
    obtain ⟨n, rfl, hn, rfl, HP, HX⟩ := hrel
    by_cases hlt : n < xs.length
    · obtain ⟨bk, o, rfl, _, hcell⟩ := (HS.out.ext HX.out) n _ (List.getElem?_eq_getElem hlt)
      have hcall := HC.out wr HX.out _ (List.getElem_mem hlt)
      generalize hxx : xs[n] = x at hcell hcall
      have HXX := Lib.hid hxx; clear hxx
      cases hq : p x with
      | true =>
        rw [hq] at hcall
        have HQ := Lib.hid hq; clear hq
        go_wp2_with (go_at_fn g; refine hcall.mono ?_; rintro e w' ⟨rfl, hb'⟩)
        go_ret
        refine ⟨?_, HX.out.trans hb'⟩
        rw [idxOf_hit p xs n hlt (by rw [HXX.out]; exact HQ.out) HP.out]
        rfl
      | false =>
        rw [hq] at hcall
        have HQ := Lib.hid hq; clear hq
        go_wp2_with (go_at_fn g; refine hcall.mono ?_; rintro e w' ⟨rfl, hb'⟩)
        go_roundg (xs.length - (n + 1))
        case measure => omega
        case rel => exact ⟨n + 1, by go_num, by omega, rfl, (show Hid _ from fun j hj hj' => by
          by_cases e : j = n
          · subst e; rw [HXX.out]; exact HQ.out
          · exact HP.out j hj (by omega)), HX.out.trans hb'⟩
    · go_wp2
      go_ret
      refine ⟨?_, HX.out⟩
      rw [idxOf_miss p xs (fun j hj => HP.out j hj (by omega))]
      rfl
/-- slices.ContainsFunc at texts. -/
theorem containsfunc_any (g : Nat) (cp : Array Value) (p : ByteArray → Bool) (a : Option Addr) (c : Nat) (xs : List ByteArray) (hN : xs.length ≤ 140737488355328) (w : World) (hs : StrsAt w a xs)
    (eg : Ent g) (hc : Tells g cp p xs w) :
    Calls Tryz.prog 71 #[.slice a xs.length c, .func (.func g) #[] cp] w fun e w' => e = .returned (.bool (xs.any p)) ∧ Ext w w' := by
  have hcall := indexfunc_any g cp p a c xs hN w hs eg hc
  rw [← idxOf_any p xs]
  clear hs eg hc
  generalize idxOf p xs = i at hcall
  go_enter Tryz.func71, Tryz.ntmps71
  go_wp2_with fail
  refine hcall.mono ?_
  rintro e w' ⟨rfl, hx⟩
  have HX := Lib.hid hx; clear hx hcall
  go_wp2
  go_ret
  exact ⟨rfl, HX.out⟩

/-- begin's own function: may a name not be? -/
theorem begin1_any (s : ByteArray) (hs : s.size ≤ 9223372036854775807) (w : World) :
    Calls Tryz.prog 140 #[.string s] w fun e w' => e = .returned (.bool (!may s)) ∧ w = w' := by
  go_enter Tryz.func140, Tryz.ntmps140
  go_wp2_with fail
  refine (may_any s hs w).mono ?_
  rintro e w' ⟨rfl, rfl⟩
  go_wp2
  go_ret
  exact ⟨rfl, rfl⟩
theorem ent_begin1 : Ent 140 := enters_of Tryz.func140 (by kernel_rfl) rfl

/-- begin: what is wrong with a use at once. -/
theorem begin_any (d : Nat) (S : DS) (F : Nat → Prop) (a : Option Addr) (c : Nat) (xs : List ByteArray) (hN : xs.length ≤ 140737488355328) (hM : ∀ x ∈ xs, x.size ≤ 9223372036854775807) (hu : S.uses < 4611686018427387904)
    (w : World) (h : DiskAt w d S F) (hs : StrsAt w a xs) (hF : ∀ bk o, a = some ⟨bk, o, none⟩ → ¬ F bk) :
    Calls Tryz.prog 108 #[.pointer (some ⟨d, 0, none⟩), .slice a xs.length c] w fun e w' => e = .returned (.int .i64 ((Dsk.begin S xs).1 : Nat)) ∧ DiskAt w' d (Dsk.begin S xs).2 F ∧ Only F w w' := by
  obtain ⟨mb, hown⟩ := h.own
  have hcall := use_any d mb S hu h.good.left w hown
  have HH := Lib.hid h; clear h
  have HS := Lib.hid hs; clear hs
  have HM := Lib.hid hM; clear hM
  have HF := Lib.hid hF; clear hF
  rw [begin_snd]
  have hb1 : (Dsk.begin S xs).1 = if (use S).1 then (if xs.any (fun n => !may n) then 1 else 0) else 7 := by
    unfold Dsk.begin; rcases use S with ⟨b, T⟩; cases b
    · rfl
    · simp only; split <;> rfl
  generalize (Dsk.begin S xs).1 = rc at hb1
  have HR := Lib.hid hb1; clear hb1
  go_enter Tryz.func108, Tryz.ntmps108
  go_wp2_with fail
  refine hcall.mono ?_
  rintro e w' ⟨rfl, hr, ho⟩
  have hd := HH.out.power (T := (use S).2) (HH.out.good.use) (use_files S).1 (fun mb' hm' => by
    have : mb' = mb := by
      have h1 := hm'.c5; rw [hown.c5] at h1; simpa using h1.symm
    rw [this]; exact hr) ho
  have HD := Lib.hid hd; clear hd
  have HS' := Lib.hid (StrsAt.only HS.out HD.out.2 HF.out)
  clear hr ho hown hcall
  cases hq : (use S).1 with
  | false =>
    obtain rfl : rc = 7 := by rw [HR.out, hq]; rfl
    clear hq HR
    go_wp2
    go_ret
    exact ⟨rfl, HD.out⟩
  | true =>
    have hcall := containsfunc_any 140 #[] (fun n => !may n) a c xs hN w' HS'.out ent_begin1 (fun v _ x hx => (begin1_any x (HM.out x hx) v).mono (by rintro e v' ⟨rfl, rfl⟩; exact ⟨rfl, Ext.refl _⟩))
    have hb := HR.out
    rw [hq] at hb
    clear hq HR
    generalize xs.any (fun n => !may n) = b at hcall hb
    cases b with
    | true =>
      obtain rfl : rc = 1 := hb
      go_wp2_with fail
      refine hcall.mono ?_
      rintro e v ⟨rfl, hx⟩
      have HX := Lib.hid hx; clear hx hcall
      go_wp2
      go_ret
      exact ⟨rfl, HD.out.1.ext HX.out, HD.out.2.andThen (Only.ext HX.out)⟩
    | false =>
      obtain rfl : rc = 0 := hb
      go_wp2_with fail
      refine hcall.mono ?_
      rintro e v ⟨rfl, hx⟩
      have HX := Lib.hid hx; clear hx hcall
      go_wp2
      go_ret
      exact ⟨rfl, HD.out.1.ext HX.out, HD.out.2.andThen (Only.ext HX.out)⟩
theorem begin_none (v : Value) (w : World) : Calls Tryz.prog 108 #[.pointer none, v] w fun e w' => e = .returned (.int .i64 1) ∧ w = w' := by
  go_enter Tryz.func108, Tryz.ntmps108
  go_wp2
  go_ret
  exact ⟨rfl, rfl⟩

theorem used_size {w : World} {d : Nat} {S : DS} {F : Nat → Prop} (h : DiskAt w d S F) : S.files.length ≤ 100 := h.good.many
/-- A name that is there; one that isn't. -/
theorem any_none_hit {l : List FD} {xs : List ByteArray} {n : Nat} (hn : n < xs.length) (h : get l xs[n] = none) : xs.any (fun x => (get l x).isNone) = true :=
  List.any_eq_true.2 ⟨_, List.getElem_mem hn, by rw [h]; rfl⟩
theorem any_none_miss {l : List FD} {xs : List ByteArray} (h : ∀ j (hj : j < xs.length), (get l xs[j]).isSome = true) : xs.any (fun x => (get l x).isNone) = false := by
  rw [List.any_eq_false]
  intro x hx
  obtain ⟨j, hj, rfl⟩ := List.getElem_of_mem hx
  have := h j hj
  cases hg : get l xs[j] with
  | none => rw [hg] at this; cases this
  | some f => simp
/-- there: what is wrong with a use of files that must be there. -/
theorem there_any (d : Nat) (S : DS) (F : Nat → Prop) (a : Option Addr) (c : Nat) (xs : List ByteArray) (hN : xs.length ≤ 140737488355328) (hM : ∀ x ∈ xs, x.size ≤ 140737488355328) (hu : S.uses < 4611686018427387904)
    (w : World) (h : DiskAt w d S F) (hs : StrsAt w a xs) (hF : ∀ bk o, a = some ⟨bk, o, none⟩ → ¬ F bk) :
    Calls Tryz.prog 81 #[.pointer (some ⟨d, 0, none⟩), .slice a xs.length c] w fun e w' => e = .returned (.int .i64 ((there S xs).1 : Nat)) ∧ DiskAt w' d (there S xs).2 F ∧ Only F w w' := by
  have hcall := begin_any d S F a c xs hN (fun x hx => Nat.le_trans (hM x hx) (by decide)) hu w h hs hF
  have ht1 : (there S xs).1 = if (Dsk.begin S xs).1 = 0 then (if xs.any (fun n => (get S.files n).isNone) then 8 else 0) else (Dsk.begin S xs).1 := by
    unfold Dsk.there; split
    · split <;> rfl
    · rfl
  have ht2 := there_snd S xs
  rw [begin_snd] at hcall
  rw [ht2]
  clear ht2
  have HM := Lib.hid hM; clear hM
  have HS := Lib.hid hs; clear hs
  have HF := Lib.hid hF; clear hF
  generalize (there S xs).1 = rc at ht1
  generalize (Dsk.begin S xs).1 = bc at ht1 hcall
  have HT := Lib.hid ht1; clear ht1
  have hfiles := (use_files S).1
  generalize (use S).2 = T at hcall hfiles
  have HFI := Lib.hid hfiles; clear hfiles h hu
  go_enter Tryz.func81, Tryz.ntmps81
  go_wp2_with fail
  refine hcall.mono ?_
  rintro e w' ⟨rfl, hd, ho⟩
  have HO := Lib.hid ho; clear ho hcall
  by_cases hb : bc = 0
  · subst hb
    have ht := HT.out
    simp only [if_true] at ht
    obtain ⟨mb, β, hd, hfoot⟩ := hd
    have c5 := Own.c5 hd.row
    have HD := Lib.hid hd; clear hd
    have HFT := Lib.hid hfoot; clear hfoot
    have HS' := Lib.hid (StrsAt.only HS.out HO.out HF.out)
    have HT2 := Lib.hid ht; clear ht HT
    go_wp2
    go_loopg [7, 16] (xs.length) (fun k r i wr => ∃ (n : Nat), i = .int .i64 n ∧ n ≤ xs.length ∧ k = xs.length - n ∧ Hid (∀ j (hj : j < xs.length), j < n → (get S.files xs[j]).isSome = true) ∧ wr = w')
    case atStart => exact ⟨0, rfl, Nat.zero_le _, rfl, fun j _ hj => by omega, rfl⟩
    case round =>
      obtain ⟨n, rfl, hn, rfl, HP, rfl⟩ := hrel
      by_cases hlt : n < xs.length
      · obtain ⟨bk, o, rfl, _, hcell⟩ := HS'.out n _ (List.getElem?_eq_getElem hlt)
        have hsz := HM.out _ (List.getElem_mem hlt)
        generalize hxx : xs[n] = x at hcell hsz
        have HXX := Lib.hid hxx; clear hxx
        have hmap := HD.out.map
        cases hg : get S.files x with
        | none =>
          have hg' : get T.files x = none := by rw [HFI.out]; exact hg
          have HG := Lib.hid hg; clear hg
          obtain rfl : rc = 8 := by rw [HT2.out, any_none_hit hlt (by rw [HXX.out]; exact HG.out)]; rfl
          go_wp2_with (first | (at_lookup; refine wpList_nofile rfl _ _ rfl mb _ _ β x rfl hmap rfl (by unfold maxLen; omega) hg' ?_) | go_in)
          go_ret
          exact ⟨rfl, ⟨mb, β, HD.out, HFT.out⟩, HO.out⟩
        | some f =>
          have hg' : get T.files x = some f := by rw [HFI.out]; exact hg
          have HG := Lib.hid hg; clear hg
          go_wp2_with (first | (at_lookup; refine wpList_file rfl _ _ rfl mb _ _ β x f rfl hmap rfl (by unfold maxLen; omega) hg' ?_) | go_in)
          go_roundg (xs.length - (n + 1))
          case measure => omega
          case rel => exact ⟨n + 1, by go_num, by omega, rfl, (show Hid _ from fun j hj hj' => by
            by_cases e : j = n
            · subst e; rw [HXX.out, HG.out]; rfl
            · exact HP.out j hj (by omega)), rfl⟩
      · obtain rfl : rc = 0 := by rw [HT2.out, any_none_miss (fun j hj => HP.out j hj (by omega))]; rfl
        go_wp2
        go_ret
        exact ⟨rfl, ⟨mb, β, HD.out, HFT.out⟩, HO.out⟩
  · have e0 : ((bc : Int) == 0) = false := by simpa using hb
    have e1 : ((bc : Int) = 0) = False := eq_false (by omega)
    have e2 : (bc = 0) = False := eq_false hb
    obtain rfl : rc = bc := by have := HT.out; rw [if_neg hb] at this; exact this
    have HD := Lib.hid hd; clear hd
    go_wp2
    go_ret
    exact ⟨rfl, HD.out, HO.out⟩
theorem there_none (v : Value) (w : World) : Calls Tryz.prog 81 #[.pointer none, v] w fun e w' => e = .returned (.int .i64 1) ∧ w = w' := by
  go_enter Tryz.func81, Tryz.ntmps81
  go_wp2_with fail
  refine (begin_none v w).mono ?_
  rintro e w' ⟨rfl, rfl⟩
  go_wp2
  go_ret
  exact ⟨rfl, rfl⟩
end Go.Proofs.YtmdkjcigmhgpeaaGreatDoor
