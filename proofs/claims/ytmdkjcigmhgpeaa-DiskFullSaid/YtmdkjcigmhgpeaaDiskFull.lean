/- DiskFull: a hundred files, and one more not: the plain law, and the walk. -/
import Derived.Test.YtmdkjcigmhgpeaaDiskAwake
namespace Go.Proofs.Ytmdkjcigmhgpeaa
open Go.RowKit Go.Maps Dsk

def nX : ByteArray := ⟨#[120]⟩
def nm (i : Nat) : ByteArray := ⟨#[102, UInt8.ofNat (97 + i / 26), UInt8.ofNat (97 + i % 26)]⟩
def fileN (i : Nat) : FD := ⟨nm i, nX, 0⟩
def filesN (n : Nat) : List FD := (List.range n).map fileN
def fS (u n : Nat) : DS := ⟨false, false, 0, u, 1000, filesN n⟩
theorem nm_step : ∀ i, i < 104 → lst (nm i) < lst (nm (i + 1)) := by decide +kernel
theorem nm_lt : ∀ {i j : Nat}, i < j → j < 105 → lst (nm i) < lst (nm j) := by
  intro i j h hj
  induction j with
  | zero => omega
  | succ j ih =>
    by_cases e : i = j
    · subst e; exact nm_step i (by omega)
    · exact lt_trans (ih (by omega) (by omega)) (nm_step j (by omega))
theorem filesN_get {n i : Nat} (h : n ≤ i) (hi : i < 105) : get (filesN n) (nm i) = none := by
  rw [get_none_iff]
  intro f hf e
  obtain ⟨j, hj, rfl⟩ := List.mem_map.1 hf
  have hjn : j < n := List.mem_range.1 hj
  have := nm_lt (i := j) (j := i) (by omega) hi
  have e' : lst (nm j) = lst (nm i) := e
  rw [e'] at this
  exact lt_irrefl _ this
theorem ins_last {f : FD} : ∀ {l : List FD}, (∀ g ∈ l, g.key < f.key) → ins f l = l ++ [f]
  | [], _ => rfl
  | a :: r, h => by
    unfold ins
    have ha := h a (by simp)
    rw [if_neg (fun k => lt_irrefl _ (lt_trans k ha)), ins_last (fun g hg => h g (by simp [hg]))]
    rfl
theorem filesN_put {n : Nat} (h : n < 105) : put (fileN n) (filesN n) = filesN (n + 1) := by
  unfold put
  rw [show drop (fileN n).name (filesN n) = filesN n from drop_none (filesN_get (Nat.le_refl n) h), ins_last]
  · unfold filesN; rw [List.range_succ, List.map_append]; rfl
  · intro g hg
    obtain ⟨j, hj, rfl⟩ := List.mem_map.1 hg
    exact nm_lt (List.mem_range.1 hj) h
theorem filesN_length (n : Nat) : (filesN n).length = n := by simp [filesN]
theorem filesN_used (n : Nat) : used (filesN n) = n := by
  unfold used filesN
  rw [List.map_map]
  have e : (fun f : FD => f.data.size) ∘ fileN = fun _ => 1 := by funext i; rfl
  rw [e]
  induction n with
  | zero => rfl
  | succ n ih => rw [List.range_succ, List.map_append, List.sum_append, ih]; rfl
theorem filesN_sorted {n : Nat} (h : n < 106) : Sorted (filesN n) := by
  unfold Sorted filesN
  rw [List.pairwise_map]
  refine List.Pairwise.imp_of_mem ?_ List.pairwise_lt_range
  intro a b _ hb hab
  exact nm_lt hab (by have := List.mem_range.1 hb; omega)
theorem nm_may (i : Nat) : may (nm i) = true := rfl
theorem begin_open {S : DS} (h1 : S.off = false) (h2 : S.armed = false) {ns : List ByteArray} (hm : ns.any (fun n => !may n) = false) : Dsk.begin S ns = (0, { S with uses := S.uses + 1 }) := by
  obtain ⟨off, armed, left, uses, room, fl⟩ := S
  simp only at h1 h2
  subst h1 h2
  simp only [Dsk.begin, use, Bool.false_eq_true, if_false, Bool.false_and, hm]
theorem use_open {S : DS} (h1 : S.off = false) (h2 : S.armed = false) : (use S).2 = { S with uses := S.uses + 1 } := by
  obtain ⟨off, armed, left, uses, room, fl⟩ := S
  simp only at h1 h2
  subst h1 h2
  simp [use]
theorem full1 (u : Nat) {n : Nat} (h : n < 100) : append (fS u n) (nm n) [nX] = (0, fS (u + 1) (n + 1)) := by
  unfold append
  rw [begin_open rfl rfl (by simp [nm_may]), use_open rfl rfl]
  have hg : get (fS u n).files (nm n) = none := filesN_get (Nat.le_refl n) (by omega)
  have e1 : (cats [nX]).size = 1 := by decide
  have e0 : (⟨#[]⟩ : ByteArray).size = 0 := rfl
  simp only [hg, Option.getD_none, if_true, e1, e0]
  have h4 : fits { fS u n with uses := (fS u n).uses + 1 } (nm n) (0 + 1) 0 = 0 := by
    unfold fits
    rw [if_neg (by
      have := filesN_length n
      simp [fS, this]; omega), if_neg (by
      have := filesN_used n
      simp [fS, this]; omega)]
  rw [if_neg (by decide), h4, if_pos rfl]
  have e2 : (⟨nm n, (⟨#[]⟩ : ByteArray) ++ cats [nX], 0⟩ : FD) = fileN n := by
    unfold fileN
    have : (⟨#[]⟩ : ByteArray) ++ cats [nX] = nX := by decide +kernel
    rw [this]
  rw [e2]
  show (0, files _ (put (fileN n) (filesN n))) = _
  rw [filesN_put (by omega)]
  rfl
theorem full2 (u : Nat) {i : Nat} (h : 100 ≤ i) (hi : i < 105) : append (fS u 100) (nm i) [nX] = (5, fS (u + 1) 100) := by
  unfold append
  rw [begin_open rfl rfl (by simp [nm_may]), use_open rfl rfl]
  have hg : get (fS u 100).files (nm i) = none := filesN_get h hi
  have e1 : (cats [nX]).size = 1 := by decide
  have e0 : (⟨#[]⟩ : ByteArray).size = 0 := rfl
  simp only [hg, Option.getD_none, if_true, e1, e0]
  have h4 : fits { fS u 100 with uses := (fS u 100).uses + 1 } (nm i) (0 + 1) 0 = 5 := by
    unfold fits
    rw [if_pos (by
      have h5 : get ({ fS u 100 with uses := (fS u 100).uses + 1 } : DS).files (nm i) = none := hg
      have h6 : ({ fS u 100 with uses := (fS u 100).uses + 1 } : DS).files.length = 100 := filesN_length 100
      rw [h5, h6]; rfl)]
  rw [if_neg (by decide), h4, if_neg (by decide)]
  rfl
def nNew : ByteArray := ⟨#[110, 101, 119]⟩
/-- Behind the renaming. -/
def gS (u : Nat) : DS := ⟨false, false, 0, u, 1000, put (fileN 1) (drop (nm 0) (filesN 100))⟩
theorem gS_facts : Sorted (put (fileN 1) (drop (nm 0) (filesN 100))) ∧ (put (fileN 1) (drop (nm 0) (filesN 100))).length = 99 ∧ used (put (fileN 1) (drop (nm 0) (filesN 100))) = 99 ∧ get (put (fileN 1) (drop (nm 0) (filesN 100))) nNew = none := by
  have hs := filesN_sorted (n := 100) (by omega)
  have h0 : get (filesN 100) (nm 0) = some (fileN 0) := hs.get (List.mem_map.2 ⟨0, by simp, rfl⟩) rfl
  have h1 : get (filesN 100) (nm 1) = some (fileN 1) := hs.get (List.mem_map.2 ⟨1, by simp, rfl⟩) rfl
  have hsd := sorted_drop hs (nm 0)
  obtain ⟨c1, c2⟩ := drop_count hs h0
  have h2 : get (drop (nm 0) (filesN 100)) (fileN 1).name = some (fileN 1) := by
    show get _ (nm 1) = _
    rw [get_drop hs, if_neg (by decide), h1]
  have hl := put_length hsd (fileN 1)
  have hu := put_used hsd (fileN 1)
  rw [h2] at hl hu
  rw [filesN_length] at c1
  rw [filesN_used] at c2
  have e1 : (fileN 0).data.size = 1 := rfl
  have e2 : (fileN 1).data.size = 1 := rfl
  simp only [Option.isSome_some, if_true, Option.map_some, Option.getD_some, e2] at hl hu
  rw [e1] at c2
  refine ⟨sorted_put hsd _, by omega, by omega, ?_⟩
  rw [get_put hsd, if_neg (by decide), get_drop hs, if_neg (by decide), get_none_iff]
  intro f hf e
  obtain ⟨j, _, rfl⟩ := List.mem_map.1 hf
  have e' : lst (nm j) = lst nNew := e
  have := congrArg List.head? e'
  simp [lst, nm, nNew] at this
theorem full3 (u : Nat) : rename (fS u 100) (nm 0) (nm 1) = (0, gS (u + 1)) := by
  have hs := filesN_sorted (n := 100) (by omega)
  have h0 : get (filesN 100) (nm 0) = some (fileN 0) := hs.get (List.mem_map.2 ⟨0, by simp, rfl⟩) rfl
  unfold rename
  rw [begin_open rfl rfl (by simp [nm_may]), use_open rfl rfl]
  have h0' : get (fS u 100).files (nm 0) = some (fileN 0) := h0
  simp only [h0', if_true]
  rfl
theorem full4 (u : Nat) : ∃ T, append (gS u) nNew [nX] = (0, T) ∧ used T.files = 100 := by
  obtain ⟨g1, g2, g3, g4⟩ := gS_facts
  unfold append
  rw [begin_open rfl rfl (by decide), use_open rfl rfl]
  have hg : get (gS u).files nNew = none := g4
  have e1 : (cats [nX]).size = 1 := by decide
  have e0 : (⟨#[]⟩ : ByteArray).size = 0 := rfl
  simp only [hg, Option.getD_none, if_true, e1, e0]
  have h4 : fits { gS u with uses := (gS u).uses + 1 } nNew (0 + 1) 0 = 0 := by
    unfold fits
    rw [if_neg (by
      have h6 : ({ gS u with uses := (gS u).uses + 1 } : DS).files.length = 99 := g2
      rw [h6]; simp), if_neg (by
      have h6 : used ({ gS u with uses := (gS u).uses + 1 } : DS).files = 99 := g3
      rw [h6]; simp [gS])]
  rw [if_neg (by decide), h4, if_pos rfl]
  refine ⟨_, rfl, ?_⟩
  have hu := put_used g1 ⟨nNew, (⟨#[]⟩ : ByteArray) ++ cats [nX], 0⟩
  have hg' : get (put (fileN 1) (drop (nm 0) (filesN 100))) nNew = none := g4
  simp only [hg', Option.map_none, Option.getD_none, g3] at hu
  have e2 : ((⟨#[]⟩ : ByteArray) ++ cats [nX]).size = 1 := by decide +kernel
  rw [e2] at hu
  exact hu

theorem nums_nm (i : Nat) : strOfNums [102, 97 + (i : Int) / 26, 97 + (i : Int) % 26] = nm i := by
  refine lst_inj ?_
  have e1 : (97 + (i : Int) / 26).toNat = 97 + i / 26 := by omega
  have e2 : (97 + (i : Int) % 26).toNat = 97 + i % 26 := by omega
  simp [strOfNums, lst, nm, e1, e2]
theorem fS_uses (u n : Nat) : (fS u n).uses = u := rfl
set_option maxHeartbeats 1000000 in
set_option maxRecDepth 20000 in
theorem diskfull_any (o : Nat) (ho : o < 256) (w : World) :
    Calls Try.prog 5 #[.int .u8 (o : Nat)] w fun e w' => e = .returned (.bool true) ∧ Ext w w' := by
  go_enter Try.func5, Try.ntmps5
  go_wp2_with fail
  refine (new_held 1000 (by decide) w).mono ?_
  rintro e w1 ⟨d, rfl, hd, hx⟩
  have H1 := Lib.hid (And.intro hd hx); clear hd hx
  obtain ⟨m, hm, hm5⟩ : ∃ m : Nat, (o : Int) % 5 = (m : Int) ∧ m < 5 := ⟨o % 5, by omega, by omega⟩
  go_wp2_with fail
  go_loopg [4, 5] (100 + m) (fun k s4 s5 wr => ∃ i : Nat, s4 = .int .i64 i ∧ i ≤ 100 + m ∧ k = 100 + m - i ∧ Hid (Held w.heap.size wr d (fS i (min i 100))) ∧ Hid (Ext w wr))
  case atStart => exact ⟨0, rfl, Nat.zero_le _, rfl, H1.out⟩
  case round =>
    obtain ⟨i, rfl, hi, rfl, HD, HX⟩ := hrel
    by_cases hlt : i < 100 + m
    · have hlt' : (i : Int) < 100 + (m : Int) := by omega
      have hconv : (convert 36 9 (.slice (some ⟨wr.heap.size, 0, none⟩) 3 3)).run Try.prog (wr.alloc (.cells #[.int .u8 102, .int .u8 (97 + (i : Int) / 26), .int .u8 (97 + (i : Int) % 26)] 5)) = .ok (.string (nm i)) (wr.alloc (.cells #[.int .u8 102, .int .u8 (97 + (i : Int) / 26), .int .u8 (97 + (i : Int) % 26)] 5)) := by
        have h := slice_bytes_row (w := wr.alloc (.cells #[.int .u8 102, .int .u8 (97 + (i : Int) / 26), .int .u8 (97 + (i : Int) % 26)] 5)) wr.heap.size _ _ _ (heap_alloc_new wr _) [102, 97 + (i : Int) / 26, 97 + (i : Int) % 26] 3 3 rfl rfl
        rw [h, nums_nm]
      have hx1 : Ext wr (wr.alloc (.cells #[.int .u8 102, .int .u8 (97 + (i : Int) / 26), .int .u8 (97 + (i : Int) % 26)] 5)) := (Ext.refl wr).alloc _
      obtain ⟨wa, hwa⟩ : ∃ wa, wa = wr.alloc (.cells #[.int .u8 102, .int .u8 (97 + (i : Int) / 26), .int .u8 (97 + (i : Int) % 26)] 5) := ⟨_, rfl⟩
      rw [← hwa] at hx1
      have HA := Lib.hid (Held.ext HD.out hx1)
      have HXA := Lib.hid (HX.out.trans hx1); clear hx1
      have HWA := Lib.hid hwa; clear hwa
      go_wp2_with fail
      rw [← HWA.out]
      have hsz : wr.heap.size + 1 = wa.heap.size := by rw [HWA.out]; simp
      rw [hsz]
      have HSZ := Lib.hid hsz; clear hsz hconv
      refine (append_held w.heap.size d _ (nm i) _ _ [nX] (by show 3 ≤ _; decide) (by simp) (by simp; decide) (by rw [fS_uses]; omega) wa HA.out HXA.out.size (StrsAt.one wa _ _)).mono ?_
      rintro e w3 ⟨rfl, hd, hb⟩
      by_cases h100 : i < 100
      · have hmin : min i 100 = i := by omega
        have hmin2 : min (i + 1) 100 = i + 1 := by omega
        rw [hmin, full1 i h100] at hd
        rw [hmin, full1 i h100]
        have H3 := Lib.hid (And.intro hd (Below.trans HXA.out hb)); clear hd hb
        have HM2 := Lib.hid hmin2; clear hmin hmin2
        have hi1 : (i : Int) < 100 := by omega
        have hi2 : ¬ (100 : Int) ≤ (i : Int) := by omega
        go_wp2_with fail
        go_roundg (100 + m - (i + 1))
        case measure => omega
        case rel => exact ⟨i + 1, by go_num, by omega, rfl, (by rw [HM2.out]; exact H3.out.1), H3.out.2⟩
      · have hmin : min i 100 = 100 := by omega
        have hmin2 : min (i + 1) 100 = 100 := by omega
        rw [hmin, full2 i (by omega) (by omega)] at hd
        rw [hmin, full2 i (by omega) (by omega)]
        have H3 := Lib.hid (And.intro hd (Below.trans HXA.out hb)); clear hd hb
        have HM2 := Lib.hid hmin2; clear hmin hmin2
        have hi1 : ¬ (i : Int) < 100 := by omega
        have hi2 : (100 : Int) ≤ (i : Int) := by omega
        go_wp2_with fail
        go_roundg (100 + m - (i + 1))
        case measure => omega
        case rel => exact ⟨i + 1, by go_num, by omega, rfl, (by rw [HM2.out]; exact H3.out.1), H3.out.2⟩
    · have hmin : min i 100 = 100 := by omega
      have hlt' : ¬ (i : Int) < 100 + (m : Int) := by omega
      have hd := HD.out
      rw [hmin] at hd
      have HD2 := Lib.hid hd; clear hd hmin HD
      go_wp2_with fail
      refine (names_any d _ _ none 0 [] (by simp) wr HD2.out (StrsAt.nil _ _)).mono ?_
      rintro e w2 ⟨v, rfl, ho, hx⟩
      have hlen : (namesOf (fS i 100) []).length = 100 := by
        have e0 : namesOf (fS i 100) [] = (filesN 100).map (·.name) := by unfold namesOf; simp [names, fS]
        rw [e0, List.length_map, filesN_length]
      obtain ⟨av, cv, rfl, _, _, _⟩ := OwnStrs.form ho
      rw [hlen] at *
      have H4 := Lib.hid (And.intro (Held.ext HD2.out hx) (Ext.trans HX.out hx)); clear hx ho
      go_wp2_with fail
      refine (rename_held w.heap.size d _ (nm 0) (nm 1) (by decide) (by decide) (by rw [fS_uses]; omega) w2 H4.out.1 H4.out.2.size).mono ?_
      rintro e w3 ⟨rfl, hd, hb⟩
      rw [full3] at hd
      rw [full3]
      have H5 := Lib.hid (And.intro hd (Below.trans H4.out.2 hb)); clear hd hb
      obtain ⟨T, hT, hTu⟩ := full4 (i + 1)
      go_wp2_with fail
      refine (append_held w.heap.size d _ nNew _ _ [nX] (by decide) (by simp) (by simp; decide) (by show i + 1 < _; omega) w3 H5.out.1 H5.out.2.size (StrsAt.one w3 _ _)).mono ?_
      rintro e w4 ⟨rfl, hd, hb⟩
      rw [hT] at hd
      rw [hT]
      have H6 := Lib.hid (And.intro hd (Below.trans H5.out.2 hb)); clear hd hb
      have HTU := Lib.hid hTu; clear hTu hT
      go_wp2_with fail
      refine (used_any d _ _ w4 H6.out.1).mono ?_
      rintro e w5 ⟨rfl, hx5⟩
      rw [HTU.out]
      have H7 := Lib.hid (Ext.trans H6.out.2 hx5); clear hx5
      go_wp2_with fail
      refine (awake06_any w5).mono ?_
      rintro e w6 ⟨rfl, hx6⟩
      have H8 := Lib.hid (Ext.trans H7.out hx6); clear hx6
      go_wp2_with fail
      go_ret
      exact ⟨rfl, H8.out⟩
end Go.Proofs.Ytmdkjcigmhgpeaa
