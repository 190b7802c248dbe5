/- The walk of law 06's awake. -/
import Derived.Test.YtmdkjcigmhgpeaaDiskLaw
namespace Go.Proofs.Ytmdkjcigmhgpeaa
open Go.RowKit Go.Maps Dsk

set_option maxHeartbeats 1000000 in
/-- awake: the document's example comes true. -/
theorem awake06_any (w : World) : Calls Try.prog 8 #[] w fun e w' => e = .returned (.bool true) ∧ Ext w w' := by
  go_enter Try.func8, Try.ntmps8
  go_wp2_with fail
  refine (new_held 100 (by decide) w).mono ?_
  rintro e w1 ⟨d, rfl, hd, hx⟩
  have H1 := Lib.hid (And.intro hd hx); clear hd hx
  go_wp2_with fail
  refine (append_held w.heap.size d (new 100) nA _ _ [⟨#[120]⟩, ⟨#[121]⟩] (by decide) (by decide) (by simp; decide) (by decide) w1 H1.out.1 H1.out.2.size (StrsAt.two w1 _ _ _)).mono ?_
  rintro e w2 ⟨rfl, hd, hb⟩
  rw [aw1_ok]
  have H2 := Lib.hid (And.intro (show Held w.heap.size w2 d aw1 from hd) (Below.trans H1.out.2 hb)); clear hd hb H1
  go_wp2_with fail
  refine (sync_held w.heap.size d aw1 _ _ [nA] (by decide) (by simp; decide) (by rw [aw_uses.2.1]; decide) w2 H2.out.1 H2.out.2.size (StrsAt.one w2 _ _)).mono ?_
  rintro e w3 ⟨rfl, hd, hb⟩
  rw [aw2_ok]
  have H3 := Lib.hid (And.intro (show Held w.heap.size w3 d aw2 from hd) (Below.trans H2.out.2 hb)); clear hd hb H2
  go_wp2_with fail
  refine (append_held w.heap.size d aw2 nA _ _ [⟨#[122, 119]⟩] (by decide) (by decide) (by simp; decide) (by rw [aw_uses.2.2.1]; decide) w3 H3.out.1 H3.out.2.size (StrsAt.one w3 _ _)).mono ?_
  rintro e w4 ⟨rfl, hd, hb⟩
  rw [aw3_ok]
  have H4 := Lib.hid (And.intro (show Held w.heap.size w4 d aw3 from hd) (Below.trans H3.out.2 hb)); clear hd hb H3
  go_wp2_with fail
  refine (crash_held w.heap.size d aw3 1 (by decide) _ w4 H4.out.1 H4.out.2.size).mono ?_
  rintro e w5 ⟨rfl, hd, hb⟩
  have H5 := Lib.hid (And.intro (show Held w.heap.size w5 d aw4 from hd) (Below.trans H4.out.2 hb)); clear hd hb H4
  go_wp2_with fail
  refine (read_any d aw4 _ nA (by decide) w5 H5.out.1).mono ?_
  rintro e w6 ⟨rfl, rfl⟩
  rw [aw_read]
  have ht : (Dsk.read aw4 nA).1.toList = [120, 121, 122] := by rw [Lib.toList_data]; exact aw_text
  generalize (Dsk.read aw4 nA).1 = s at ht
  go_wp2_with fail
  refine (kept_any d aw4 _ nA (by decide) w5 H5.out.1).mono ?_
  rintro e w6 ⟨rfl, rfl⟩
  rw [aw_kept]
  go_wp2_with fail
  refine (free_any d aw4 _ w5 H5.out.1).mono ?_
  rintro e w6 ⟨rfl, hx⟩
  rw [aw_free]
  have H6 := Lib.hid (And.intro (Held.ext H5.out.1 hx) (H5.out.2.trans (Below.mono hx H5.out.2.size))); clear hx H5
  go_wp2_with fail
  refine (uses_any d aw4 _ w6 H6.out.1).mono ?_
  rintro e w7 ⟨rfl, rfl⟩
  rw [aw_uses.2.2.2]
  go_wp2_with fail
  go_ret
  exact ⟨rfl, H6.out.2⟩
end Go.Proofs.Ytmdkjcigmhgpeaa
