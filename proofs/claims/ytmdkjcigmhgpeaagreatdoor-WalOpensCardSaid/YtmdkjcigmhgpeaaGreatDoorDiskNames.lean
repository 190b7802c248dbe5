/- The walk of Names. -/
import Derived.Test.YtmdkjcigmhgpeaaGreatDoorKeys
import Derived.Test.YtmdkjcigmhgpeaaGreatDoorDelFunc
import Derived.Test.YtmdkjcigmhgpeaaGreatDoorDiskCut
namespace Go.Proofs.YtmdkjcigmhgpeaaGreatDoor
open Go.RowKit Go.Maps Dsk

theorem starts_eq (p s : ByteArray) : ((s.extract 0 p.size).toList == p.toList) = starts p s := by
  rw [Lib.toList_data, Lib.toList_data, extract_take]
  unfold starts
  show ((lst s).take p.size == lst p) = _
  rw [Bool.eq_iff_iff, beq_iff_eq, List.isPrefixOf_iff_prefix, List.prefix_iff_eq_take, lst_length]
  exact eq_comm
theorem starts_long (p s : ByteArray) (h : s.size < p.size) : starts p s = false := by
  unfold starts
  rw [Bool.eq_false_iff]
  intro e
  have := (List.isPrefixOf_iff_prefix.1 e).length_le
  rw [lst_length, lst_length] at this
  omega
/-- stringslite.HasPrefix, strings.HasPrefix. -/
theorem hasprefix0_any (s p : ByteArray) (w : World) :
    Calls Tryz.prog 113 #[.string s, .string p] w fun e w' => e = .returned (.bool (starts p s)) ∧ w = w' := by
  go_enter Tryz.func113, Tryz.ntmps113
  by_cases h : p.size ≤ s.size
  · have h' : (p.size : Int) ≤ (s.size : Int) := by omega
    have he := starts_eq p s
    generalize starts p s = b at he
    cases b with
    | true =>
      go_wp2
      go_ret
      exact ⟨rfl, rfl⟩
    | false =>
      go_wp2
      go_ret
      exact ⟨rfl, rfl⟩
  · rw [starts_long p s (by omega)]
    have h' : ¬ (p.size : Int) ≤ (s.size : Int) := by omega
    go_wp2
    go_ret
    exact ⟨rfl, rfl⟩
theorem hasprefix_any (s p : ByteArray) (w : World) :
    Calls Tryz.prog 73 #[.string s, .string p] w fun e w' => e = .returned (.bool (starts p s)) ∧ w = w' := by
  go_enter Tryz.func73, Tryz.ntmps73
  go_wp2_with fail
  refine (hasprefix0_any s p w).mono ?_
  rintro e w' ⟨rfl, rfl⟩
  go_wp2
  go_ret
  exact ⟨rfl, rfl⟩
/-- Names' inner function: does a name begin with a text? -/
theorem names11_any (p s : ByteArray) (b : Nat) (w : World) (hc : w.cell? ⟨b, 0, none⟩ = some (.string s)) :
    Calls Tryz.prog 72 #[.string p, .pointer (some ⟨b, 0, none⟩)] w fun e w' => e = .returned (.bool (starts p s)) ∧ w = w' := by
  go_enter Tryz.func72, Tryz.ntmps72
  go_wp2_with fail
  refine (hasprefix_any s p w).mono ?_
  rintro e w' ⟨rfl, rfl⟩
  go_wp2
  go_ret
  exact ⟨rfl, rfl⟩
theorem ent_names11 : Ent 72 := enters_of Tryz.func72 (by kernel_rfl) rfl
theorem ent_names1 : Ent 70 := enters_of Tryz.func70 (by kernel_rfl) rfl
def otherN (fronts : List ByteArray) (n : ByteArray) : Bool := !fronts.isEmpty && !fronts.any (fun p => starts p n)
/-- Names' function: is a name another one? -/
theorem names1_any (n : ByteArray) (b : Nat) (a : Option Addr) (c : Nat) (fronts : List ByteArray) (hN : fronts.length ≤ 140737488355328)
    (w : World) (hc : w.cell? ⟨b, 0, none⟩ = some (.slice a fronts.length c)) (hs : StrsAt w a fronts) :
    Calls Tryz.prog 70 #[.string n, .pointer (some ⟨b, 0, none⟩)] w fun e w' => e = .returned (.bool (otherN fronts n)) ∧ Ext w w' := by
  have HS := Lib.hid hs; clear hs
  have hb := cell_lt hc
  have hne : (b = w.heap.size) = False := eq_false (by omega)
  unfold otherN
  go_enter Tryz.func70, Tryz.ntmps70
  have hcb : (w.alloc (.cells #[.string n] 9)).cell? ⟨b, 0, none⟩ = some (.slice a fronts.length c) := ((Ext.refl w).alloc _).cell hc
  by_cases h0 : fronts.length = 0
  · have e : fronts.isEmpty = true := by simpa using List.eq_nil_of_length_eq_zero h0
    rw [h0] at hc hcb
    rw [e]
    clear hne hb
    go_wp2
    go_ret
    exact ⟨rfl, (Ext.refl w).alloc _⟩
  · have e : fronts.isEmpty = false := by cases fronts with | nil => simp at h0 | cons => rfl
    have h1 : (0 : Int) < ((fronts.length : Nat) : Int) := by omega
    rw [e]
    have hx : Ext w (w.alloc (.cells #[.string n] 9)) := (Ext.refl w).alloc _
    have hcall := containsfunc_any 72 #[.pointer (some ⟨w.heap.size, 0, none⟩)] (fun p => starts p n) a c fronts hN (w.alloc (.cells #[.string n] 9)) (HS.out.ext hx) ent_names11 (fun v hv x _ => (names11_any x n w.heap.size v (hv.cell (cell_new w _ _ 0))).mono (by rintro e v' ⟨rfl, rfl⟩; exact ⟨rfl, Ext.refl _⟩))
    generalize fronts.any (fun p => starts p n) = bb at hcall
    clear hne hb e h0
    go_wp2_with fail
    refine hcall.mono ?_
    rintro e w' ⟨rfl, hx2⟩
    have HX := Lib.hid (hx.trans hx2); clear hx hx2 hcall
    go_wp2
    go_ret
    exact ⟨rfl, HX.out⟩
theorem filter_other (S : DS) (fronts : List ByteArray) : (S.files.map (·.name)).filter (fun n => !otherN fronts n) = namesOf S fronts := by
  unfold namesOf names otherN
  refine List.filter_congr (fun n _ => ?_)
  cases fronts.isEmpty <;> simp
/-- Names. -/
theorem names_any (d : Nat) (S : DS) (F : Nat → Prop) (a : Option Addr) (c : Nat) (fronts : List ByteArray) (hN : fronts.length ≤ 140737488355328) (w : World) (h : DiskAt w d S F) (hs : StrsAt w a fronts) :
    Calls Tryz.prog 15 #[.pointer (some ⟨d, 0, none⟩), .slice a fronts.length c] w fun e w' => ∃ v, e = .returned v ∧ OwnStrs w' w.heap.size v (namesOf S fronts) ∧ Ext w w' := by
  obtain ⟨mb, β, h, _⟩ := h
  have hx1 : Ext w (w.alloc (.cells #[.slice a fronts.length c] 28)) := (Ext.refl w).alloc _
  have hd1 := h.ext hx1
  have c5 := Own.c5 hd1.row
  have hc1 := filenames_any mb S.files h.good.sorted h.good.many β _ hd1.map
  have hck := mapkeys_any (some mb) (w.alloc (.cells #[.slice a fronts.length c] 28))
  have HS := Lib.hid hs; clear hs
  have HMANY := Lib.hid h.good.many
  have hfx : (w.alloc (.cells #[.slice a fronts.length c] 28)).cell? ⟨w.heap.size, 0, none⟩ = some (.slice a fronts.length c) := cell_new w _ _ 0
  have HFX := Lib.hid hfx; clear hfx
  have HX1 := Lib.hid hx1; clear hx1
  have hsz : (w.alloc (.cells #[.slice a fronts.length c] 28)).heap.size = w.heap.size + 1 := by simp
  have HSZ1 := Lib.hid hsz; clear hsz hd1 h
  go_enter Tryz.func15, Tryz.ntmps15
  go_wp2_with fail
  refine hck.mono ?_
  rintro e w1 ⟨rfl, rfl⟩
  go_wp2_with fail
  rw [HSZ1.out] at hc1
  refine hc1.mono ?_
  rintro e w2 ⟨v, rfl, ho, hx2⟩
  have hx3 := HX1.out.trans hx2
  have hbs : ∀ b, v.ownBlock = some b → w.heap.size + 1 ≤ b := fun b hb => ((World.ownsRow.lt ho) b hb).1
  have hcall := deletefunc_any 70 #[.pointer (some ⟨w.heap.size, 0, none⟩)] (otherN fronts) (w.heap.size + 1) v (S.files.map (·.name)) (by have := HMANY.out; simp; omega) w2 ho ent_names1 (fun u hu x hx => by
    obtain ⟨f, hf, rfl⟩ := List.mem_map.1 hx
    have hux : Below (w.heap.size + 1) (w.alloc (.cells #[.slice a fronts.length c] 28)) u := by
      have h1 := Below.mono hx2 (Nat.le_of_eq HSZ1.out.symm)
      refine Below.trans h1 ⟨hu.os, hu.tape, hu.output, hu.size, fun k hk => hu.block k (by have := h1.size; have := HSZ1.out; omega) (fun e => ?_)⟩
      have := hbs k e
      omega
    have hxw : Ext w u := Below.trans HX1.out (Below.mono hux (by omega))
    exact names1_any f.name w.heap.size a c fronts hN u ((Below.cell hux (p := ⟨w.heap.size, 0, none⟩) (by show w.heap.size < w.heap.size + 1; omega)).trans HFX.out) (HS.out.ext hxw))
  have HX3 := Lib.hid hx3; clear hx3 hx2 hc1 hck c5 ho
  have HBS := Lib.hid hbs; clear hbs
  go_wp2_with fail
  refine hcall.mono ?_
  rintro e w3 ⟨v', rfl, ho', hon⟩
  rw [filter_other] at ho'
  have HO' := Lib.hid ho'; clear ho'
  have HON := Lib.hid hon; clear hon hcall
  go_wp2
  go_ret
  obtain ⟨h1, h2⟩ := HO'.out
  refine ⟨_, rfl, ⟨h1, ?_⟩, Below.trans HX3.out ⟨HON.out.os, HON.out.tape, HON.out.output, HON.out.size, fun k hk => HON.out.block k (Nat.lt_of_lt_of_le hk HX3.out.size) (fun e => by have := HBS.out k e; omega)⟩⟩
  rcases h2 with h2 | ⟨g, cap, cur, r1, r2, r3⟩
  · exact .inl h2
  · exact .inr ⟨g, cap, cur, r1, by omega, r3⟩
theorem names_none (a : Option Addr) (n c : Nat) (w : World) : Calls Tryz.prog 15 #[.pointer none, .slice a n c] w fun e w' => e = .returned (.slice none 0 0) ∧ Ext w w' := by
  go_enter Tryz.func15, Tryz.ntmps15
  go_wp2
  go_ret
  exact ⟨rfl, (Ext.refl w).alloc _⟩
end Go.Proofs.YtmdkjcigmhgpeaaGreatDoor
