/- law 06's do, on a disk: kind by kind. -/
import Derived.Test.YtmdkjcigmhgpeaaModel3
import Derived.Test.YtmdkjcigmhgpeaaStrsApp
import Derived.Test.YtmdkjcigmhgpeaaDiskAwake
import Derived.Deep.RegionHeld3
namespace Go.Proofs.Ytmdkjcigmhgpeaa
open Go.RowKit Go.Maps Dsk

theorem left_ext {F : Nat → Prop} {d : Nat} {w w1 w' : World} {S : DS} (hx : Ext w w1) (h : Left F d w1 S w') : Left F d w S w' :=
  ⟨h.1.mono (fun _ _ hb => hb.imp id (fun k => Nat.le_trans hx.size k)), (Only.ext hx).andThen h.2⟩
theorem left_same {F : Nat → Prop} {d : Nat} {w w1 w' : World} {S : DS} (hx : Ext w w1) (h : DiskAt w' d S F) (ho : Only F w1 w') : Left F d w S w' :=
  left_ext hx ⟨h.mono (fun _ _ hb => .inl hb), ho⟩
structure Small (x : AD) : Prop where
  n : I64 x.n
  name : x.name.size ≤ 100
  dest : x.dest.size ≤ 100
  data : x.data.length ≤ 10
  datum : ∀ s ∈ x.data, s.size ≤ 300
  keep : x.keep.length ≤ 17592186044416
  keeps : ∀ k ∈ x.keep, I64 k
theorem Small.cats {x : AD} (h : Small x) : (cats x.data).size ≤ 3000 := by
  have : ∀ l : List ByteArray, (∀ s ∈ l, s.size ≤ 300) → (Dsk.cats l).size ≤ 300 * l.length := fun l h => by
    induction l with
    | nil => exact Nat.zero_le _
    | cons a r ih =>
      have := ih (fun s hs => h s (by simp [hs]))
      have h2 := h a (by simp)
      rw [cats_size] at this ⊢
      simp only [List.map_cons, List.sum_cons, List.length_cons]
      omega
  have := this x.data h.datum
  have := h.data
  omega

set_option maxRecDepth 20000 in
set_option maxHeartbeats 2000000 in
theorem do0_any (d : Nat) (S : DS) (F : Nat → Prop) (x : AD) (ad : Option Addr) (cd : Nat) (ak : Option Addr) (ck : Nat) (hk : x.kind = 0) (hsm : Small x) (hu : S.uses < 4611686018427387904)
    (w : World) (h : DiskAt w d S F) (hv : ActV w x ad cd ak) (hAF : x.data ≠ [] → ∀ bk o, ad = some ⟨bk, o, none⟩ → ¬ F bk) (hKF : x.keep ≠ [] → ∀ bk o, ak = some ⟨bk, o, none⟩ → ¬ F bk) (hFw : ∀ b, F b → b < w.heap.size) :
    Calls Try.prog 19 #[.pointer (some ⟨d, 0, none⟩), .agg #[.int .i64 x.kind, .string x.name, .string x.dest, .slice ad x.data.length cd, .int .i64 x.n, .slice ak x.keep.length ck]] w
      fun e w' => e = .returned (.tuple #[.string ⟨#[]⟩, .int .i64 ((append S x.name x.data).1 : Nat)]) ∧ Left F d w (append S x.name x.data).2 w' := by
  have hlint : True := by have := hsm; have := hu; have := hAF; have := hKF; have := hFw; have := hv; trivial
  clear hlint
  rw [hk]
  clear hk
  have HX := Lib.hid (show Ext w (w.alloc (.cells #[.int .i64 0, .string x.name, .string x.dest, .slice ad x.data.length cd, .int .i64 x.n, .slice ak x.keep.length ck] 47)) from (Ext.refl w).alloc _)
  have HD := Lib.hid h
  have HV := Lib.hid hv
  have HM := Lib.hid hsm
  have HAF := Lib.hid hAF
  have HKF := Lib.hid hKF
  have HFW := Lib.hid hFw
  have s1 := hsm.name
  have s2 := hsm.dest
  have s3 := hsm.data
  have s4 := hsm.keep
  have s5 := hsm.n
  clear h hv hsm hAF hKF hFw
  generalize hp : append S x.name x.data = p
  have HP := Lib.hid hp; clear hp
  go_enter Try.func19, Try.ntmps19
  go_wp2_with fail
  refine (append_gen d S F x.name ad cd x.data (by omega) (by omega) HV.out.1 (fun s hs => by have := HM.out.datum s hs; omega) hu _ (HD.out.ext HX.out) (HV.out.2.1.ext HX.out) HAF.out).mono ?_
  rintro e w' ⟨rfl, hl⟩
  rw [HP.out] at hl ⊢
  have HL := Lib.hid (left_ext HX.out hl); clear hl
  go_wp2_with fail
  go_ret2
  exact ⟨rfl, HL.out⟩

set_option maxRecDepth 20000 in
set_option maxHeartbeats 2000000 in
theorem do1_any (d : Nat) (S : DS) (F : Nat → Prop) (x : AD) (ad : Option Addr) (cd : Nat) (ak : Option Addr) (ck : Nat) (hk : x.kind = 1) (hsm : Small x) (hu : S.uses < 4611686018427387904)
    (w : World) (h : DiskAt w d S F) (hv : ActV w x ad cd ak) (hAF : x.data ≠ [] → ∀ bk o, ad = some ⟨bk, o, none⟩ → ¬ F bk) (hKF : x.keep ≠ [] → ∀ bk o, ak = some ⟨bk, o, none⟩ → ¬ F bk) (hFw : ∀ b, F b → b < w.heap.size) :
    Calls Try.prog 19 #[.pointer (some ⟨d, 0, none⟩), .agg #[.int .i64 x.kind, .string x.name, .string x.dest, .slice ad x.data.length cd, .int .i64 x.n, .slice ak x.keep.length ck]] w
      fun e w' => e = .returned (.tuple #[.string ⟨#[]⟩, .int .i64 ((sync S (x.name :: x.data)).1 : Nat)]) ∧ Left F d w (sync S (x.name :: x.data)).2 w' := by
  have hlint : True := by have := hsm; have := hu; have := hAF; have := hKF; have := hFw; have := hv; trivial
  clear hlint
  rw [hk]
  clear hk
  have HX := Lib.hid (show Ext w (w.alloc (.cells #[.int .i64 1, .string x.name, .string x.dest, .slice ad x.data.length cd, .int .i64 x.n, .slice ak x.keep.length ck] 47)) from (Ext.refl w).alloc _)
  have HD := Lib.hid h
  have HV := Lib.hid hv
  have HM := Lib.hid hsm
  have HAF := Lib.hid hAF
  have HKF := Lib.hid hKF
  have HFW := Lib.hid hFw
  have s1 := hsm.name
  have s2 := hsm.dest
  have s3 := hsm.data
  have s4 := hsm.keep
  have s5 := hsm.n
  clear h hv hsm hAF hKF hFw
  generalize hp : sync S (x.name :: x.data) = p
  have HP := Lib.hid hp; clear hp
  go_enter Try.func19, Try.ntmps19
  go_wp2_with (at_builtin; refine wpList_append_strs rfl _ _ rfl w.heap.size _ [x.name] x.data rfl (own_one _ x.name ?c1 ?c2) ad cd rfl ?c3 HV.out.2.2.2 ?c4 ?c5 ?_)
  case c1 => simp
  case c2 => omega
  case c3 => exact HV.out.2.1.ext (((Ext.refl w).alloc _).alloc _)
  case c4 => simp; omega
  case c5 => simp; omega
  intro v' w3 hown hb
  have HX3 := Lib.hid (Below.trans (((Ext.refl w).alloc _).alloc _) hb : Ext w w3); clear hb
  try simp only [List.cons_append, List.nil_append] at hown
  obtain ⟨an, cn, rfl, _, _, hsn⟩ := OwnStrs.form hown
  have HAN := Lib.hid (show ∀ bk o, an = some ⟨bk, o, none⟩ → ¬ F bk from fun bk o e hb => by
    subst e
    have h1 := (World.ownsRow.lt hown bk rfl).1
    have h2 := HFW.out bk hb
    omega)
  have HSN := Lib.hid hsn; clear hsn hown
  obtain ⟨ns, hns⟩ : ∃ ns, ns = x.name :: x.data := ⟨_, rfl⟩
  have hnl : ns.length ≤ 11 := by rw [hns, List.length_cons]; omega
  rw [← hns] at HSN HP ⊢
  have HNZ := Lib.hid (show ∀ n ∈ ns, n.size ≤ 140737488355328 by
    rw [hns]
    intro n hn'
    rw [List.mem_cons] at hn'
    rcases hn' with rfl | hn'
    · omega
    · have := HM.out.datum n hn'; omega)
  clear hns
  go_wp2_with fail
  refine (sync_any d S F an cn ns (by omega) HNZ.out hu w3 (HD.out.ext HX3.out) HSN.out HAN.out).mono ?_
  rintro e w' ⟨rfl, h1, h2⟩
  rw [HP.out] at h1 ⊢
  have HL := Lib.hid (left_same HX3.out h1 h2); clear h1 h2
  go_wp2_with fail
  go_ret2
  exact ⟨rfl, HL.out⟩

set_option maxRecDepth 20000 in
set_option maxHeartbeats 2000000 in
theorem do2_any (d : Nat) (S : DS) (F : Nat → Prop) (x : AD) (ad : Option Addr) (cd : Nat) (ak : Option Addr) (ck : Nat) (hk : x.kind = 2) (hsm : Small x) (hu : S.uses < 4611686018427387904)
    (w : World) (h : DiskAt w d S F) (hv : ActV w x ad cd ak) (hAF : x.data ≠ [] → ∀ bk o, ad = some ⟨bk, o, none⟩ → ¬ F bk) (hKF : x.keep ≠ [] → ∀ bk o, ak = some ⟨bk, o, none⟩ → ¬ F bk) (hFw : ∀ b, F b → b < w.heap.size) :
    Calls Try.prog 19 #[.pointer (some ⟨d, 0, none⟩), .agg #[.int .i64 x.kind, .string x.name, .string x.dest, .slice ad x.data.length cd, .int .i64 x.n, .slice ak x.keep.length ck]] w
      fun e w' => e = .returned (.tuple #[.string ⟨#[]⟩, .int .i64 ((rename S x.name x.dest).1 : Nat)]) ∧ Left F d w (rename S x.name x.dest).2 w' := by
  have hlint : True := by have := hsm; have := hu; have := hAF; have := hKF; have := hFw; have := hv; trivial
  clear hlint
  rw [hk]
  clear hk
  have HX := Lib.hid (show Ext w (w.alloc (.cells #[.int .i64 2, .string x.name, .string x.dest, .slice ad x.data.length cd, .int .i64 x.n, .slice ak x.keep.length ck] 47)) from (Ext.refl w).alloc _)
  have HD := Lib.hid h
  have HV := Lib.hid hv
  have HM := Lib.hid hsm
  have HAF := Lib.hid hAF
  have HKF := Lib.hid hKF
  have HFW := Lib.hid hFw
  have s1 := hsm.name
  have s2 := hsm.dest
  have s3 := hsm.data
  have s4 := hsm.keep
  have s5 := hsm.n
  clear h hv hsm hAF hKF hFw
  generalize hp : rename S x.name x.dest = p
  have HP := Lib.hid hp; clear hp
  go_enter Try.func19, Try.ntmps19
  go_wp2_with fail
  refine (rename_any d S F x.name x.dest (by omega) (by omega) hu _ (HD.out.ext HX.out)).mono ?_
  rintro e w' ⟨rfl, hl⟩
  rw [HP.out] at hl ⊢
  have HL := Lib.hid (left_ext HX.out hl); clear hl
  go_wp2_with fail
  go_ret2
  exact ⟨rfl, HL.out⟩

set_option maxRecDepth 20000 in
set_option maxHeartbeats 2000000 in
theorem do3_any (d : Nat) (S : DS) (F : Nat → Prop) (x : AD) (ad : Option Addr) (cd : Nat) (ak : Option Addr) (ck : Nat) (hk : x.kind = 3) (hsm : Small x) (hu : S.uses < 4611686018427387904)
    (w : World) (h : DiskAt w d S F) (hv : ActV w x ad cd ak) (hAF : x.data ≠ [] → ∀ bk o, ad = some ⟨bk, o, none⟩ → ¬ F bk) (hKF : x.keep ≠ [] → ∀ bk o, ak = some ⟨bk, o, none⟩ → ¬ F bk) (hFw : ∀ b, F b → b < w.heap.size) :
    Calls Try.prog 19 #[.pointer (some ⟨d, 0, none⟩), .agg #[.int .i64 x.kind, .string x.name, .string x.dest, .slice ad x.data.length cd, .int .i64 x.n, .slice ak x.keep.length ck]] w
      fun e w' => e = .returned (.tuple #[.string ⟨#[]⟩, .int .i64 ((delete S x.name).1 : Nat)]) ∧ Left F d w (delete S x.name).2 w' := by
  have hlint : True := by have := hsm; have := hu; have := hAF; have := hKF; have := hFw; have := hv; trivial
  clear hlint
  rw [hk]
  clear hk
  have HX := Lib.hid (show Ext w (w.alloc (.cells #[.int .i64 3, .string x.name, .string x.dest, .slice ad x.data.length cd, .int .i64 x.n, .slice ak x.keep.length ck] 47)) from (Ext.refl w).alloc _)
  have HD := Lib.hid h
  have HV := Lib.hid hv
  have HM := Lib.hid hsm
  have HAF := Lib.hid hAF
  have HKF := Lib.hid hKF
  have HFW := Lib.hid hFw
  have s1 := hsm.name
  have s2 := hsm.dest
  have s3 := hsm.data
  have s4 := hsm.keep
  have s5 := hsm.n
  clear h hv hsm hAF hKF hFw
  generalize hp : delete S x.name = p
  have HP := Lib.hid hp; clear hp
  go_enter Try.func19, Try.ntmps19
  go_wp2_with fail
  refine (delete_any d S F x.name (by omega) hu _ (HD.out.ext HX.out)).mono ?_
  rintro e w' ⟨rfl, hl⟩
  rw [HP.out] at hl ⊢
  have HL := Lib.hid (left_ext HX.out hl); clear hl
  go_wp2_with fail
  go_ret2
  exact ⟨rfl, HL.out⟩

set_option maxRecDepth 20000 in
set_option maxHeartbeats 2000000 in
theorem do4_any (d : Nat) (S : DS) (F : Nat → Prop) (x : AD) (ad : Option Addr) (cd : Nat) (ak : Option Addr) (ck : Nat) (hk : x.kind = 4) (hsm : Small x) (hu : S.uses < 4611686018427387904)
    (w : World) (h : DiskAt w d S F) (hv : ActV w x ad cd ak) (hAF : x.data ≠ [] → ∀ bk o, ad = some ⟨bk, o, none⟩ → ¬ F bk) (hKF : x.keep ≠ [] → ∀ bk o, ak = some ⟨bk, o, none⟩ → ¬ F bk) (hFw : ∀ b, F b → b < w.heap.size) :
    Calls Try.prog 19 #[.pointer (some ⟨d, 0, none⟩), .agg #[.int .i64 x.kind, .string x.name, .string x.dest, .slice ad x.data.length cd, .int .i64 x.n, .slice ak x.keep.length ck]] w
      fun e w' => e = .returned (.tuple #[.string ⟨#[]⟩, .int .i64 ((cut S x.name x.n).1 : Nat)]) ∧ Left F d w (cut S x.name x.n).2 w' := by
  have hlint : True := by have := hsm; have := hu; have := hAF; have := hKF; have := hFw; have := hv; trivial
  clear hlint
  rw [hk]
  clear hk
  have HX := Lib.hid (show Ext w (w.alloc (.cells #[.int .i64 4, .string x.name, .string x.dest, .slice ad x.data.length cd, .int .i64 x.n, .slice ak x.keep.length ck] 47)) from (Ext.refl w).alloc _)
  have HD := Lib.hid h
  have HV := Lib.hid hv
  have HM := Lib.hid hsm
  have HAF := Lib.hid hAF
  have HKF := Lib.hid hKF
  have HFW := Lib.hid hFw
  have s1 := hsm.name
  have s2 := hsm.dest
  have s3 := hsm.data
  have s4 := hsm.keep
  have s5 := hsm.n
  clear h hv hsm hAF hKF hFw
  generalize hp : cut S x.name x.n = p
  have HP := Lib.hid hp; clear hp
  go_enter Try.func19, Try.ntmps19
  go_wp2_with fail
  refine (cut_any d S F x.name x.n (by omega) hu _ (HD.out.ext HX.out)).mono ?_
  rintro e w' ⟨rfl, hl⟩
  rw [HP.out] at hl ⊢
  have HL := Lib.hid (left_ext HX.out hl); clear hl
  go_wp2_with fail
  go_ret2
  exact ⟨rfl, HL.out⟩

set_option maxRecDepth 20000 in
set_option maxHeartbeats 2000000 in
theorem do5_any (d : Nat) (S : DS) (F : Nat → Prop) (x : AD) (ad : Option Addr) (cd : Nat) (ak : Option Addr) (ck : Nat) (hk : x.kind = 5) (hsm : Small x) (hu : S.uses < 4611686018427387904)
    (w : World) (h : DiskAt w d S F) (hv : ActV w x ad cd ak) (hAF : x.data ≠ [] → ∀ bk o, ad = some ⟨bk, o, none⟩ → ¬ F bk) (hKF : x.keep ≠ [] → ∀ bk o, ak = some ⟨bk, o, none⟩ → ¬ F bk) (hFw : ∀ b, F b → b < w.heap.size) :
    Calls Try.prog 19 #[.pointer (some ⟨d, 0, none⟩), .agg #[.int .i64 x.kind, .string x.name, .string x.dest, .slice ad x.data.length cd, .int .i64 x.n, .slice ak x.keep.length ck]] w
      fun e w' => e = .returned (.tuple #[.string (Dsk.read S x.name).1, .int .i64 ((Dsk.read S x.name).2 : Nat)]) ∧ Left F d w S w' := by
  have hlint : True := by have := hsm; have := hu; have := hAF; have := hKF; have := hFw; have := hv; trivial
  clear hlint
  rw [hk]
  clear hk
  have HX := Lib.hid (show Ext w (w.alloc (.cells #[.int .i64 5, .string x.name, .string x.dest, .slice ad x.data.length cd, .int .i64 x.n, .slice ak x.keep.length ck] 47)) from (Ext.refl w).alloc _)
  have HD := Lib.hid h
  have HV := Lib.hid hv
  have HM := Lib.hid hsm
  have HAF := Lib.hid hAF
  have HKF := Lib.hid hKF
  have HFW := Lib.hid hFw
  have s1 := hsm.name
  have s2 := hsm.dest
  have s3 := hsm.data
  have s4 := hsm.keep
  have s5 := hsm.n
  clear h hv hsm hAF hKF hFw
  generalize hp : Dsk.read S x.name = p
  have HP := Lib.hid hp; clear hp
  go_enter Try.func19, Try.ntmps19
  go_wp2_with fail
  refine (read_any d S F x.name (by omega) _ (HD.out.ext HX.out)).mono ?_
  rintro e w' ⟨rfl, rfl⟩
  rw [HP.out]
  go_wp2_with fail
  go_ret2
  exact ⟨rfl, left_same HX.out (HD.out.ext HX.out) (Only.refl _ _)⟩

set_option maxRecDepth 20000 in
set_option maxHeartbeats 2000000 in
theorem do6_any (d : Nat) (S : DS) (F : Nat → Prop) (x : AD) (ad : Option Addr) (cd : Nat) (ak : Option Addr) (ck : Nat) (hk : x.kind = 6) (hsm : Small x) (hu : S.uses < 4611686018427387904)
    (w : World) (h : DiskAt w d S F) (hv : ActV w x ad cd ak) (hAF : x.data ≠ [] → ∀ bk o, ad = some ⟨bk, o, none⟩ → ¬ F bk) (hKF : x.keep ≠ [] → ∀ bk o, ak = some ⟨bk, o, none⟩ → ¬ F bk) (hFw : ∀ b, F b → b < w.heap.size) :
    Calls Try.prog 19 #[.pointer (some ⟨d, 0, none⟩), .agg #[.int .i64 x.kind, .string x.name, .string x.dest, .slice ad x.data.length cd, .int .i64 x.n, .slice ak x.keep.length ck]] w
      fun e w' => e = .returned (.tuple #[.string ⟨#[]⟩, .int .i64 0]) ∧ Left F d w (arm S x.n) w' := by
  have hlint : True := by have := hsm; have := hu; have := hAF; have := hKF; have := hFw; have := hv; trivial
  clear hlint
  rw [hk]
  clear hk
  have HX := Lib.hid (show Ext w (w.alloc (.cells #[.int .i64 6, .string x.name, .string x.dest, .slice ad x.data.length cd, .int .i64 x.n, .slice ak x.keep.length ck] 47)) from (Ext.refl w).alloc _)
  have HD := Lib.hid h
  have HV := Lib.hid hv
  have HM := Lib.hid hsm
  have HAF := Lib.hid hAF
  have HKF := Lib.hid hKF
  have HFW := Lib.hid hFw
  have s1 := hsm.name
  have s2 := hsm.dest
  have s3 := hsm.data
  have s4 := hsm.keep
  have s5 := hsm.n
  clear h hv hsm hAF hKF hFw
  go_enter Try.func19, Try.ntmps19
  go_wp2_with fail
  refine (arm_any d S F x.n s5 _ (HD.out.ext HX.out)).mono ?_
  rintro e w' ⟨rfl, h1, h2⟩
  have HL := Lib.hid (left_same HX.out h1 h2); clear h1 h2
  go_wp2_with fail
  go_ret2
  exact ⟨rfl, HL.out⟩

set_option maxRecDepth 20000 in
set_option maxHeartbeats 2000000 in
theorem do7_any (d : Nat) (S : DS) (F : Nat → Prop) (x : AD) (ad : Option Addr) (cd : Nat) (ak : Option Addr) (ck : Nat) (hk : x.kind = 7) (hsm : Small x) (hu : S.uses < 4611686018427387904)
    (w : World) (h : DiskAt w d S F) (hv : ActV w x ad cd ak) (hAF : x.data ≠ [] → ∀ bk o, ad = some ⟨bk, o, none⟩ → ¬ F bk) (hKF : x.keep ≠ [] → ∀ bk o, ak = some ⟨bk, o, none⟩ → ¬ F bk) (hFw : ∀ b, F b → b < w.heap.size) :
    Calls Try.prog 19 #[.pointer (some ⟨d, 0, none⟩), .agg #[.int .i64 x.kind, .string x.name, .string x.dest, .slice ad x.data.length cd, .int .i64 x.n, .slice ak x.keep.length ck]] w
      fun e w' => e = .returned (.tuple #[.string ⟨#[]⟩, .int .i64 0]) ∧ Left F d w (crash S x.keep) w' := by
  have hlint : True := by have := hsm; have := hu; have := hAF; have := hKF; have := hFw; have := hv; trivial
  clear hlint
  rw [hk]
  clear hk
  have HX := Lib.hid (show Ext w (w.alloc (.cells #[.int .i64 7, .string x.name, .string x.dest, .slice ad x.data.length cd, .int .i64 x.n, .slice ak x.keep.length ck] 47)) from (Ext.refl w).alloc _)
  have HD := Lib.hid h
  have HV := Lib.hid hv
  have HM := Lib.hid hsm
  have HAF := Lib.hid hAF
  have HKF := Lib.hid hKF
  have HFW := Lib.hid hFw
  have s1 := hsm.name
  have s2 := hsm.dest
  have s3 := hsm.data
  have s4 := hsm.keep
  have s5 := hsm.n
  clear h hv hsm hAF hKF hFw
  go_enter Try.func19, Try.ntmps19
  go_wp2_with fail
  refine (crash_gen d S F ak ck x.keep (by omega) HM.out.keeps _ (HD.out.ext HX.out) (HV.out.2.2.1.ext HX.out) HKF.out).mono ?_
  rintro e w' ⟨rfl, h1, h2⟩
  have HL := Lib.hid (left_same HX.out h1 h2); clear h1 h2
  go_wp2_with fail
  go_ret2
  exact ⟨rfl, HL.out⟩

set_option maxRecDepth 20000 in
set_option maxHeartbeats 2000000 in
theorem do9_any (d : Nat) (S : DS) (F : Nat → Prop) (x : AD) (ad : Option Addr) (cd : Nat) (ak : Option Addr) (ck : Nat) (k0 : x.kind ≠ 0) (k1 : x.kind ≠ 1) (k2 : x.kind ≠ 2) (k3 : x.kind ≠ 3) (k4 : x.kind ≠ 4) (k5 : x.kind ≠ 5) (k6 : x.kind ≠ 6) (k7 : x.kind ≠ 7) (hsm : Small x) (hu : S.uses < 4611686018427387904)
    (w : World) (h : DiskAt w d S F) (hv : ActV w x ad cd ak) (hAF : x.data ≠ [] → ∀ bk o, ad = some ⟨bk, o, none⟩ → ¬ F bk) (hKF : x.keep ≠ [] → ∀ bk o, ak = some ⟨bk, o, none⟩ → ¬ F bk) (hFw : ∀ b, F b → b < w.heap.size) :
    Calls Try.prog 19 #[.pointer (some ⟨d, 0, none⟩), .agg #[.int .i64 x.kind, .string x.name, .string x.dest, .slice ad x.data.length cd, .int .i64 x.n, .slice ak x.keep.length ck]] w
      fun e w' => e = .returned (.tuple #[.string ⟨#[]⟩, .int .i64 ((lay S x.name (cats x.data)).1 : Nat)]) ∧ Left F d w (lay S x.name (cats x.data)).2 w' := by
  have hlint : True := by have := hsm; have := hu; have := hAF; have := hKF; have := hFw; have := hv; trivial
  clear hlint
  have HX := Lib.hid (show Ext w (w.alloc (.cells #[.int .i64 x.kind, .string x.name, .string x.dest, .slice ad x.data.length cd, .int .i64 x.n, .slice ak x.keep.length ck] 47)) from (Ext.refl w).alloc _)
  have HD := Lib.hid h
  have HV := Lib.hid hv
  have HM := Lib.hid hsm
  have HAF := Lib.hid hAF
  have HKF := Lib.hid hKF
  have HFW := Lib.hid hFw
  have s1 := hsm.name
  have s2 := hsm.dest
  have s3 := hsm.data
  have s4 := hsm.keep
  have s5 := hsm.n
  clear h hv hsm hAF hKF hFw
  have hsz := HM.out.cats
  generalize hp : lay S x.name (cats x.data) = p
  have HP := Lib.hid hp; clear hp
  obtain ⟨w1, hw1⟩ : ∃ w1, w1 = w.alloc (.cells #[.int .i64 x.kind, .string x.name, .string x.dest, .slice ad x.data.length cd, .int .i64 x.n, .slice ak x.keep.length ck] 47) := ⟨_, rfl⟩
  have b1 : w1.cell? ⟨w.heap.size, 1, none⟩ = some (.string x.name) := by rw [hw1, cell_new]; rfl
  have b3 : w1.cell? ⟨w.heap.size, 3, none⟩ = some (.slice ad x.data.length cd) := by rw [hw1, cell_new]; rfl
  have HX1 := Lib.hid (show Ext w w1 by rw [hw1]; exact (Ext.refl w).alloc _)
  have HS := Lib.hid HV.out.2.1
  have hnF : ¬ F w.heap.size := fun hb => by have := HFW.out _ hb; omega
  go_enter Try.func19, Try.ntmps19
  go_wp2_with fail
  rw [← hw1]
  clear hw1
  go_region_held3 (fun u => u.cell? ⟨w.heap.size, 1, none⟩ = some (.string x.name) ∧ u.cell? ⟨w.heap.size, 3, none⟩ = some (.slice ad x.data.length cd)) (first | exact ⟨b1, b3⟩ | exact ⟨Ext.cell hx b1, Ext.cell hx b3⟩ | exact ⟨Only.cell hl.2 (Ext.cell hx b1) hnF, Only.cell hl.2 (Ext.cell hx b3) hnF⟩) (first
    | (go_at_call 25; refine (mjoin_any ad cd x.data (by omega) (by omega) _ ((HS.out.ext HX1.out).ext (by first | exact Ext.refl _ | exact (Ext.refl _).drew))).mono ?_; rintro e v ⟨rfl, hx⟩)
    | (go_at_call 49; refine (put_any d S F x.name (cats x.data) (by omega) (by omega) _ ((HD.out.ext HX1.out).ext (by first | exact hx | exact ((Ext.refl _).drew).trans hx))).mono ?_; rintro e v2 ⟨rfl, hl⟩))
  have HZ := Lib.hid (show Left F d w p.2 v2 by rw [← HP.out]; first | exact left_ext (HX1.out.trans (((Ext.refl _).drew).trans hx)) hl | exact left_ext (HX1.out.trans hx) hl)
  rw [HP.out]
  clear hx hl b1 b3
  go_wp2_with fail
  go_ret2
  exact ⟨rfl, HZ.out⟩
end Go.Proofs.Ytmdkjcigmhgpeaa
