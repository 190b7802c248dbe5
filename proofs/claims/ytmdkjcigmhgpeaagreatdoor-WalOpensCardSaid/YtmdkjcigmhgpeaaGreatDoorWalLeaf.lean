/- Wal's leaves: which names may be. -/
import Derived.Test.YtmdkjcigmhgpeaaGreatDoorSnapPlain
import Derived.Test.YtmdkjcigmhgpeaaGreatDoorShelf
import Derived.Shelf.Strings.SlTrimAscii
namespace Go.Proofs.YtmdkjcigmhgpeaaGreatDoor
open Go.RowKit Snp SealMath

def letter (c : UInt8) : Bool := (c.toNat ≥ 97 : Bool) && (c.toNat ≤ 122 : Bool)
def rightB (s : List UInt8) : Bool := (1 ≤ s.length : Bool) && (s.length ≤ 6 : Bool) && s.all letter
def letters : ByteArray := ⟨#[97, 98, 99, 100, 101, 102, 103, 104, 105, 106, 107, 108, 109, 110, 111, 112, 113, 114, 115, 116, 117, 118, 119, 120, 121, 122]⟩
theorem letters_has (c : UInt8) : (letters.data.toList).contains c = letter c := by
  have key : ∀ n : Fin 256, (letters.data.toList).contains (UInt8.ofNat n) = letter (UInt8.ofNat n) := by decide +kernel
  have := key ⟨c.toNat, c.toNat_lt⟩
  simpa using this
theorem dropWhile_nil {p : UInt8 → Bool} : ∀ l : List UInt8, l.dropWhile p = [] ↔ l.all p = true
  | [] => by simp
  | a :: r => by
    rw [List.dropWhile_cons]
    by_cases h : p a = true
    · rw [if_pos h, dropWhile_nil r]; simp [h]
    · rw [if_neg h]; simp [h]
theorem trimS_nil (l : List UInt8) : Lib.trimS l letters.data.toList = [] ↔ l.all letter = true := by
  have hp : ((letters.data.toList).contains ·) = letter := funext letters_has
  unfold Lib.trimS Lib.trimLeftS Lib.trimRightS
  rw [hp, dropWhile_nil]
  constructor
  · intro h
    rw [List.all_eq_true] at h
    by_cases hl : l.all letter = true
    · exact hl
    exfalso
    have h2 : (l.reverse.dropWhile letter) ≠ [] := fun e => hl (by
      have := (dropWhile_nil (p := letter) l.reverse).1 e
      rw [List.all_reverse] at this; exact this)
    cases hd : l.reverse.dropWhile letter with
    | nil => exact h2 hd
    | cons a r =>
      have ha : letter a = true := h a (by rw [hd]; simp)
      have := List.head?_dropWhile_not letter l.reverse
      rw [hd] at this
      simp [ha] at this
  · intro h
    have e : l.reverse.dropWhile letter = [] := (dropWhile_nil (p := letter) l.reverse).2 (by rw [List.all_reverse]; exact h)
    rw [e]; rfl

set_option maxRecDepth 20000 in
theorem right_any (s : ByteArray) (hs : s.size ≤ 9223372036854775807) (w : World) :
    Calls Tryz.prog 96 #[.string s] w fun e w' => e = .returned (.bool (rightB (lst s))) ∧ Ext w w' := by
  have hcall : Calls Tryz.prog 131 #[.string s, .string ⟨#[97, 98, 99, 100, 101, 102, 103, 104, 105, 106, 107, 108, 109, 110, 111, 112, 113, 114, 115, 116, 117, 118, 119, 120, 121, 122]⟩] w fun e w' => e = .returned (.string ⟨(Lib.trimS s.data.toList letters.data.toList).toArray⟩) ∧ Ext w w' :=
    Any.strings_Trim_laid Tryz.lays160 (by kernel_rfl) s letters w hs (by decide) (ascii_of_all (by decide))
  have HT : Hid (Lib.trimS s.data.toList letters.data.toList = [] ↔ (lst s).all letter = true) := trimS_nil (lst s)
  generalize hq : (⟨(Lib.trimS s.data.toList letters.data.toList).toArray⟩ : ByteArray) = q at hcall
  have HQ : Hid (lst q = Lib.trimS s.data.toList letters.data.toList) := by
    show _ = _
    rw [← hq]
  clear hq
  have HR : Hid (rightB (lst s) = ((1 ≤ s.size : Bool) && (s.size ≤ 6 : Bool) && (lst s).all letter)) := by
    show _ = _
    unfold rightB; rw [lst_length]
  generalize rightB (lst s) = b at HR ⊢
  by_cases h0 : s.size = 0
  · have hb : b = false := by rw [HR.out]; simp [h0]
    subst hb
    obtain rfl : s = ⟨#[]⟩ := lst_inj (List.eq_nil_of_length_eq_zero (by rw [lst_length]; exact h0))
    clear hcall
    go_enter Tryz.func96, Tryz.ntmps96
    go_wp2_with fail
    go_ret
    exact ⟨rfl, Ext.refl w⟩
  have hne : ¬ s = ⟨#[]⟩ := fun e => h0 (by rw [e]; rfl)
  have hb1 : (s.toList == (⟨#[]⟩ : ByteArray).toList) = false := by
    rw [beq_eq_false_iff_ne, ByteArray.toList_eq, ByteArray.toList_eq]
    exact fun h => hne (lst_inj h)
  have hb2 : (s.toList = []) = False := eq_false (by
    rw [ByteArray.toList_eq]
    exact fun h => hne (lst_inj h))
  have hb3 : s.toList.isEmpty = false := by
    cases hz : s.toList with
    | nil => exact absurd (lst_inj (show lst s = lst ⟨#[]⟩ by have := ByteArray.toList_eq s; rw [hz] at this; exact this.symm)) hne
    | cons a r => rfl
  clear hne
  by_cases h6 : s.size ≤ 6
  · have h62 : (s.size : Int) ≤ 6 := by omega
    cases hall : (lst s).all letter with
    | true =>
      have hb : b = true := by rw [HR.out, hall]; simp [h6]; omega
      subst hb
      have hqn : q = ⟨#[]⟩ := lst_inj (by rw [HQ.out, HT.out.2 hall])
      subst hqn
      clear hall
      go_enter Tryz.func96, Tryz.ntmps96
      go_wp2_with fail
      refine hcall.mono ?_
      clear hcall
      rintro e w1 ⟨rfl, hx⟩
      have HX := Lib.hid hx; clear hx
      go_wp2_with fail
      go_ret
      exact ⟨rfl, HX.out⟩
    | false =>
      have hb : b = false := by rw [HR.out, hall]; simp
      subst hb
      have hqn : ¬ lst q = [] := fun h => by
        have := HT.out.1 (by rw [← HQ.out]; exact h)
        rw [hall] at this; cases this
      have hq1 : (q.toList = []) = False := eq_false (by
        rw [ByteArray.toList_eq]; exact hqn)
      have hq2 : (q.toList == []) = false := by
        rw [beq_eq_false_iff_ne, ByteArray.toList_eq]; exact hqn
      clear hall hqn
      go_enter Tryz.func96, Tryz.ntmps96
      go_wp2_with fail
      refine hcall.mono ?_
      clear hcall
      rintro e w1 ⟨rfl, hx⟩
      have HX := Lib.hid hx; clear hx
      go_wp2_with fail
      go_ret
      exact ⟨rfl, HX.out⟩
  · have h62 : ¬ (s.size : Int) ≤ 6 := by omega
    have hb : b = false := by rw [HR.out]; simp [h6]
    subst hb
    clear hcall
    go_enter Tryz.func96, Tryz.ntmps96
    go_wp2_with fail
    go_ret
    exact ⟨rfl, Ext.refl w⟩
end Go.Proofs.YtmdkjcigmhgpeaaGreatDoor
