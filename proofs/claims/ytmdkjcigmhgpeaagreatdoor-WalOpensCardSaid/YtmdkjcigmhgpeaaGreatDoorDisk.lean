/- The disk in memory: its own cells, its map, its files; what stays as it is. -/
import Derived.Test.YtmdkjcigmhgpeaaGreatDoorDiskSpec
import Derived.Maps.RangeWalk
import Derived.Lib.SmallJoins
namespace Go.Proofs.YtmdkjcigmhgpeaaGreatDoor
open Go.RowKit Go.Maps Dsk

/-- How a pointer to a file reads, as a map's element: by its block's number. -/
def ptrElem : Value → Option (DataW Unit × List MemPlace)
  | .pointer none => some (.lit (.int .i64 (-1)), [])
  | .pointer (some ⟨b, 0, none⟩) => some (.lit (.int .i64 b), [])
  | _ => none
def blk (b : Nat) : DataW Unit := .lit (.int .i64 b)
theorem ptrElem_blk {v : Value} {b : Nat} {ps : List MemPlace} (h : ptrElem v = some (blk b, ps)) : v = .pointer (some ⟨b, 0, none⟩) := by
  unfold ptrElem at h
  split at h
  · simp [blk] at h
  · simp [blk] at h; have := Int.ofNat.inj h.1; subst this; rfl
  · cases h
theorem ptrElem_none {v : Value} {ps : List MemPlace} (h : ptrElem v = some (.lit (.int .i64 (-1)), ps)) : v = .pointer none := by
  unfold ptrElem at h
  split at h
  · rfl
  · simp at h
  · cases h
theorem ptrElem_mk (b : Nat) : ptrElem (.pointer (some ⟨b, 0, none⟩)) = some (blk b, []) := rfl
theorem keyed : Keyed Tryz.prog 9 := string_keyed Tryz.underlying9
theorem zero_file (w : World) : (zeroValue 115).run Tryz.prog w = .ok (.pointer none) w := by kernel_rfl

/-! ### the map as read -/
def ent (β : List UInt8 → Nat) (f : FD) : Lit × DataW Unit := (.string f.key, blk (β f.key))
def mapOf (l : List FD) (β : List UInt8 → Nat) : DataW Unit := .map (l.map (ent β))
def upd (β : List UInt8 → Nat) (k : List UInt8) (b : Nat) : List UInt8 → Nat := fun x => if x = k then b else β x
theorem upd_same (β : List UInt8 → Nat) (k : List UInt8) (b : Nat) : upd β k b k = b := by simp [upd]
theorem upd_other (β : List UInt8 → Nat) {k x : List UInt8} (b : Nat) (h : x ≠ k) : upd β k b x = β x := by simp [upd, h]
theorem same_string (a b : List UInt8) : (Lit.string a).sameKey (.string b) = (a == b) := rfl
theorem size_mapOf (l : List FD) (β : List UInt8 → Nat) : Maps.size (mapOf l β) = l.length := by simp [mapOf, Maps.size]
theorem find_map (β : List UInt8 → Nat) (n : ByteArray) : ∀ l : List FD, (l.map (ent β)).find? (fun p => p.1.sameKey (.string (lst n))) = (get l n).map (ent β)
  | [] => rfl
  | f :: r => by
    have ih := find_map β n r
    unfold Dsk.get at ih ⊢
    rw [List.map_cons, List.find?_cons, List.find?_cons, ih]
    show (match (f.key == lst n) with | true => _ | false => _) = _
    cases (f.key == lst n) <;> rfl
theorem atKey_some {l : List FD} {β : List UInt8 → Nat} {n : ByteArray} {f : FD} (h : get l n = some f) (z : DataW Unit) : (mapOf l β).atKey (.string (lst n)) z = blk (β (lst n)) := by
  unfold mapOf DataW.atKey
  simp only [find_map, h, Option.map_some]
  show blk (β f.key) = _
  rw [(get_mem h).2]
theorem atKey_none {l : List FD} {β : List UInt8 → Nat} {n : ByteArray} (h : get l n = none) (z : DataW Unit) : (mapOf l β).atKey (.string (lst n)) z = z := by
  unfold mapOf DataW.atKey
  simp only [find_map, h, Option.map_none]
theorem map_drop (β : List UInt8 → Nat) (n : ByteArray) (l : List FD) : (l.map (ent β)).filter (fun p => !p.1.sameKey (.string (lst n))) = (drop n l).map (ent β) := by
  unfold drop
  rw [List.filter_map]
  rfl
theorem mapOf_del (l : List FD) (β : List UInt8 → Nat) (n : ByteArray) : (mapOf l β).del (.string (lst n)) = mapOf (drop n l) β := by
  show DataW.map ((l.map (ent β)).filter (fun p => !p.1.sameKey (.string (lst n)))) = _
  rw [map_drop]; rfl
theorem insert_map (β : List UInt8 → Nat) (f : FD) (b : Nat) : ∀ l : List FD, (∀ g ∈ l, g.key ≠ f.key) → DataW.insert (.string f.key, blk b) (l.map (ent β)) = (ins f l).map (ent (upd β f.key b))
  | [], _ => by simp [DataW.insert, ins, ent, upd_same]
  | g :: r, h => by
    have ih := insert_map β f b r (fun x hx => h x (by simp [hx]))
    have hg : ent (upd β f.key b) g = ent β g := by unfold ent; rw [upd_other β b (h g (by simp))]
    have hr : r.map (ent (upd β f.key b)) = r.map (ent β) := List.map_congr_left (fun x hx => by unfold ent; rw [upd_other β b (h x (by simp [hx]))])
    have hb : ∀ p : Lit × DataW Unit, p = ent β g → (Lit.string f.key).before p.1 = decide (f.key < g.key) := fun p hp => by rw [hp]; exact before_lt _ _
    rw [List.map_cons]
    unfold DataW.insert ins
    rw [hb _ rfl]
    by_cases hlt : f.key < g.key
    · have hf : ent (upd β f.key b) f = (.string f.key, blk b) := by unfold ent; rw [upd_same]
      simp only [hlt, decide_true, if_true, List.map_cons, hg, hr, hf]
    · simp only [hlt, decide_false, Bool.false_eq_true, if_false, List.map_cons, ih, hg]
theorem mapOf_put (l : List FD) (β : List UInt8 → Nat) (f : FD) (b : Nat) : (mapOf l β).put (.string f.key) (blk b) = mapOf (put f l) (upd β f.key b) := by
  show DataW.map (DataW.insert (.string f.key, blk b) ((l.map (ent β)).filter (fun p => !p.1.sameKey (.string (lst f.name))))) = _
  rw [map_drop, insert_map β f b _ (fun g hg => (mem_drop.1 hg).2)]
  rfl
/-- The same names at the same blocks. -/
theorem mapOf_congr {l k : List FD} {β γ : List UInt8 → Nat} (h : l.map (ent β) = k.map (ent γ)) : mapOf l β = mapOf k γ := by unfold mapOf; rw [h]
theorem owns_size {w : World} {mb n : Nat} {l : List FD} {β : List UInt8 → Nat} (h : w.ownsMap Tryz.prog 9 ptrElem mb n (mapOf l β)) : w.ownsMap Tryz.prog 9 ptrElem mb l.length (mapOf l β) := by
  have e := size_mapOf l β
  obtain ⟨es, clock, hb, F, hs, hD⟩ := h
  refine ⟨es, clock, hb, F, ?_, hD⟩
  rw [← e, hD]
  simp [Maps.size, length_sorted]

/-! ### what stays -/
/-- Nothing but blocks of F, and new ones, has turned. -/
structure Only (F : Nat → Prop) (w w' : World) : Prop where
  os : w'.os = w.os
  tape : w'.tape = w.tape
  output : w'.output = w.output
  size : w.heap.size ≤ w'.heap.size
  block : ∀ k, k < w.heap.size → ¬ F k → w'.heap[k]? = w.heap[k]?
theorem Only.refl (F : Nat → Prop) (w : World) : Only F w w := ⟨rfl, rfl, rfl, Nat.le_refl _, fun _ _ _ => rfl⟩
theorem Only.trans {F : Nat → Prop} {a b c : World} (h : Only F a b) (k : Only (fun x => F x ∨ a.heap.size ≤ x) b c) : Only F a c :=
  ⟨k.os.trans h.os, k.tape.trans h.tape, k.output.trans h.output, Nat.le_trans h.size k.size, fun i hi hF => (k.block i (Nat.lt_of_lt_of_le hi h.size) (by rintro (h1 | h1); exact hF h1; omega)).trans (h.block i hi hF)⟩
theorem Only.mono {F G : Nat → Prop} {w w' : World} (h : Only F w w') (hFG : ∀ b, b < w.heap.size → F b → G b) : Only G w w' := ⟨h.os, h.tape, h.output, h.size, fun k hk hG => h.block k hk (fun hF => hG (hFG k hk hF))⟩
theorem Only.andThen {F : Nat → Prop} {a b c : World} (h : Only F a b) (k : Only F b c) : Only F a c := h.trans (k.mono (fun _ _ hF => .inl hF))
theorem Only.ext {F : Nat → Prop} {w w' : World} (h : Ext w w') : Only F w w' := ⟨h.os, h.tape, h.output, h.size, fun k hk _ => h.block k hk⟩
theorem Only.below {F : Nat → Prop} {w w' : World} (h : Only F w w') {B : Nat} (hB : B ≤ w.heap.size) (hF : ∀ b, F b → B ≤ b) : Below B w w' :=
  ⟨h.os, h.tape, h.output, h.size, fun k hk => h.block k (by omega) (fun hk' => by have := hF k hk'; omega)⟩
theorem Only.setCell {F : Nat → Prop} {a w : World} (h : Only F a w) {b : Nat} (hb : F b ∨ a.heap.size ≤ b) (i : Nat) (v : Value) : Only F a (w.setCell ⟨b, i, none⟩ v) :=
  h.trans ⟨rfl, rfl, rfl, by simp [World.setCell], fun k _ hF => Below.heap_setCell w ⟨b, i, none⟩ v k (fun e => hF (by
    have e' : k = b := e
    rw [e']; exact hb))⟩
theorem Only.alloc {F : Nat → Prop} {a w : World} (h : Only F a w) (o : Obj) : Only F a (w.alloc o) := h.trans (Only.ext ((Ext.refl w).alloc o))
theorem Only.grown {F : Nat → Prop} {a w w' : World} (h : Only F a w) {row : Option Nat} (hg : w.grownBy w' row) (hr : ∀ b, row = some b → F b ∨ a.heap.size ≤ b) : Only F a w' :=
  h.trans ⟨hg.os, hg.tape, hg.output, hg.size, fun k hk hF => hg.block k hk (fun e => hF (hr k e.symm))⟩
theorem Only.grownBy {F : Nat → Prop} {w w' : World} (h : Only F w w') (hF : ∀ b, ¬ F b) : w.grownBy w' none := ⟨h.os, h.tape, h.output, h.size, fun k hk _ => h.block k hk (hF k)⟩
theorem Only.cell {F : Nat → Prop} {w w' : World} (h : Only F w w') {b o : Nat} {v : Value} (hc : w.cell? ⟨b, o, none⟩ = some v) (hF : ¬ F b) : w'.cell? ⟨b, o, none⟩ = some v :=
  (World.cell?_of_block (a := ⟨b, o, none⟩) (h.block b (cell_lt hc) hF)).trans hc
theorem StrsAt.only {F : Nat → Prop} {w w' : World} {a : Option Addr} {xs : List ByteArray} (h : StrsAt w a xs) (k : Only F w w') (hF : ∀ bk o, a = some ⟨bk, o, none⟩ → ¬ F bk) : StrsAt w' a xs := by
  intro j x hj
  obtain ⟨bk, o, rfl, hl, hc⟩ := h j x hj
  exact ⟨bk, o, rfl, Nat.lt_of_lt_of_le hl k.size, k.cell hc (hF _ _ rfl)⟩

theorem lt_of_heap {w : World} {b : Nat} {o : Obj} (h : w.heap[b]? = some o) : b < w.heap.size := (Array.getElem?_eq_some_iff.1 h).1

/-! ### the disk -/
def dcells (S : DS) (mb : Nat) : Array Value := #[.bool S.off, .bool S.armed, .int .i64 (S.left : Nat), .int .i64 (S.uses : Nat), .int .i64 (S.room : Nat), .map (some mb)]
def fcells (f : FD) : Array Value := #[.string f.data, .int .i64 (f.kept : Nat)]
structure DiskIn (w : World) (d mb : Nat) (β : List UInt8 → Nat) (S : DS) : Prop where
  good : Dsk.Good S
  row : w.heap[d]? = some (.cells (dcells S mb) 96 (0, 0))
  map : w.ownsMap Tryz.prog 9 ptrElem mb S.files.length (mapOf S.files β)
  file : ∀ f ∈ S.files, w.heap[β f.key]? = some (.cells (fcells f) 120 (0, 0))
  one : ∀ f ∈ S.files, ∀ g ∈ S.files, β f.key = β g.key → f.key = g.key
def foot (d mb : Nat) (β : List UInt8 → Nat) (l : List FD) (b : Nat) : Prop := b = d ∨ b = mb ∨ ∃ f ∈ l, b = β f.key
/-- The disk at d, within the blocks of F. -/
def DiskAt (w : World) (d : Nat) (S : DS) (F : Nat → Prop) : Prop := ∃ mb β, DiskIn w d mb β S ∧ ∀ b, foot d mb β S.files b → F b
theorem DiskIn.foot_lt {w : World} {d mb : Nat} {β : List UInt8 → Nat} {S : DS} (h : DiskIn w d mb β S) {b : Nat} (hb : foot d mb β S.files b) : b < w.heap.size := by
  rcases hb with rfl | rfl | ⟨f, hf, rfl⟩
  · exact lt_of_heap h.row
  · exact h.map.lt
  · exact lt_of_heap (h.file f hf)
theorem DiskIn.d_mb {w : World} {d mb : Nat} {β : List UInt8 → Nat} {S : DS} (h : DiskIn w d mb β S) : d ≠ mb := by
  obtain ⟨es, clock, hb, _⟩ := h.map
  intro e
  have h1 := h.row
  rw [e, hb] at h1
  cases h1
theorem DiskIn.d_file {w : World} {d mb : Nat} {β : List UInt8 → Nat} {S : DS} (h : DiskIn w d mb β S) {f : FD} (hf : f ∈ S.files) : β f.key ≠ d := by
  intro e
  have h1 := h.file f hf
  rw [e, h.row] at h1
  simp [dcells, fcells] at h1
theorem DiskIn.mb_file {w : World} {d mb : Nat} {β : List UInt8 → Nat} {S : DS} (h : DiskIn w d mb β S) {f : FD} (hf : f ∈ S.files) : β f.key ≠ mb := by
  obtain ⟨es, clock, hb, _⟩ := h.map
  intro e
  have h1 := h.file f hf
  rw [e, hb] at h1
  cases h1
/-- Nothing of the disk's own has turned. -/
theorem DiskIn.stays {w w' : World} {d mb : Nat} {β : List UInt8 → Nat} {S : DS} (h : DiskIn w d mb β S) (hs : ∀ b, foot d mb β S.files b → w'.heap[b]? = w.heap[b]?) : DiskIn w' d mb β S := by
  obtain ⟨h1, h2, h3, h4, h5⟩ := h
  refine ⟨h1, (hs d (.inl rfl)).trans h2, ?_, fun f hf => (hs _ (.inr (.inr ⟨f, hf, rfl⟩))).trans (h4 f hf), h5⟩
  obtain ⟨es, clock, hb, rest⟩ := h3
  exact ⟨es, clock, (hs mb (.inr (.inl rfl))).trans hb, rest⟩
theorem DiskIn.ext {w w' : World} {d mb : Nat} {β : List UInt8 → Nat} {S : DS} (h : DiskIn w d mb β S) (k : Ext w w') : DiskIn w' d mb β S := h.stays (fun b hb => k.block b (h.foot_lt hb))
theorem DiskAt.ext {w w' : World} {d : Nat} {S : DS} {F : Nat → Prop} (h : DiskAt w d S F) (k : Ext w w') : DiskAt w' d S F := by
  obtain ⟨mb, β, h, hF⟩ := h
  exact ⟨mb, β, h.ext k, hF⟩
theorem DiskAt.only {w w' : World} {d : Nat} {S : DS} {F G : Nat → Prop} (h : DiskAt w d S F) (k : Only G w w') (hG : ∀ b, F b → ¬ G b) : DiskAt w' d S F := by
  obtain ⟨mb, β, h, hF⟩ := h
  exact ⟨mb, β, h.stays (fun b hb => k.block b (h.foot_lt hb) (hG b (hF b hb))), hF⟩
theorem DiskAt.mono {w : World} {d : Nat} {S : DS} {F G : Nat → Prop} (h : DiskAt w d S F) (hG : ∀ b, b < w.heap.size → F b → G b) : DiskAt w d S G := by
  obtain ⟨mb, β, h, hF⟩ := h
  exact ⟨mb, β, h, fun b hb => hG b (h.foot_lt hb) (hF b hb)⟩
theorem DiskAt.good {w : World} {d : Nat} {S : DS} {F : Nat → Prop} (h : DiskAt w d S F) : Dsk.Good S := by obtain ⟨_, _, h, _⟩ := h; exact h.good
/-- F, and what is new behind w. -/
abbrev More (F : Nat → Prop) (w : World) (b : Nat) : Prop := F b ∨ w.heap.size ≤ b

/-- Another power, the same files. -/
theorem DiskIn.power {w w' : World} {d mb : Nat} {β : List UInt8 → Nat} {S T : DS} (h : DiskIn w d mb β S) (hg : Dsk.Good T) (hf : T.files = S.files) (hr : w'.heap[d]? = some (.cells (dcells T mb) 96 (0, 0))) (ho : Only (fun b => b = d) w w') : DiskIn w' d mb β T := by
  obtain ⟨es, clock, hb, rest⟩ := h.map
  refine ⟨hg, hr, ?_, fun f hf' => ?_, fun f hf' g hg' => ?_⟩
  · rw [hf]; exact ⟨es, clock, (ho.block mb h.map.lt (fun e => h.d_mb e.symm)).trans hb, rest⟩
  · rw [hf] at hf'; exact (ho.block _ (lt_of_heap (h.file f hf')) (h.d_file hf')).trans (h.file f hf')
  · rw [hf] at hf' hg'; exact h.one f hf' g hg'

/-! ### a look-up, for the walk ('rfl' for hw, with a guard that says yes too) -/
theorem wpList_count {w : World} {ops : Array Oper} {rest : List Oper} {o : Oper} {a : Act} {Q : Exit → Act → World → Prop}
    (hw : Region.wanted o (yielded ops a.tmps) = true) (m : Operand) (hop : o.op = Op.call { callee := Callee.builtin Builtin.len, args := #[m], argTypes := #[92] }) (mb n : Nat) (l : List FD) (β : List UInt8 → Nat)
    (hm : a.eval m = .map (some mb)) (hown : w.ownsMap Tryz.prog 9 ptrElem mb n (mapOf l β))
    (hK : wpList Tryz.prog ops Q rest (a.put o.dst (.int .i64 (l.length : Nat))) w) : wpList Tryz.prog ops Q (o :: rest) a w := by
  refine wpList_step fun K' hK' => ?_
  rw [if_pos hw]
  have hrun := hown.len Tryz.underlying92 o.type
  rw [size_mapOf] at hrun
  unfold Oper.wp
  simp [execOp, hop, resolve, invoke, builtin, hm, hrun, Result.andThen]
  exact hK' _ _ hK
theorem wpList_file {w : World} {ops : Array Oper} {rest : List Oper} {o : Oper} {a : Act} {Q : Exit → Act → World → Prop}
    (hw : Region.wanted o (yielded ops a.tmps) = true) (m x : Operand) (hop : o.op = Op.lookup 92 m x false) (mb n : Nat) (l : List FD) (β : List UInt8 → Nat) (s : ByteArray) (f : FD)
    (hm : a.eval m = .map (some mb)) (hown : w.ownsMap Tryz.prog 9 ptrElem mb n (mapOf l β)) (hx : a.eval x = .string s) (hs : s.size ≤ maxLen) (hf : get l s = some f)
    (hK : wpList Tryz.prog ops Q rest (a.put o.dst (.pointer (some ⟨β (lst s), 0, none⟩))) w) : wpList Tryz.prog ops Q (o :: rest) a w := by
  refine wpList_step fun K' hK' => ?_
  rw [if_pos hw]
  obtain ⟨v, ps, hrun, hv⟩ := hown.lookup keyed Tryz.underlying92 (zero_file w) (zd := .lit (.int .i64 (-1))) (zp := []) rfl (Go.WideMaps.keyOf_string_mk Tryz.underlying9 hs)
  rw [atKey_some hf] at hv
  obtain rfl := ptrElem_blk hv
  unfold Oper.wp
  simp [execOp, hop, hm, hx, hrun, Result.andThen]
  exact hK' _ _ hK
theorem wpList_nofile {w : World} {ops : Array Oper} {rest : List Oper} {o : Oper} {a : Act} {Q : Exit → Act → World → Prop}
    (hw : Region.wanted o (yielded ops a.tmps) = true) (m x : Operand) (hop : o.op = Op.lookup 92 m x false) (mb n : Nat) (l : List FD) (β : List UInt8 → Nat) (s : ByteArray)
    (hm : a.eval m = .map (some mb)) (hown : w.ownsMap Tryz.prog 9 ptrElem mb n (mapOf l β)) (hx : a.eval x = .string s) (hs : s.size ≤ maxLen) (hf : get l s = none)
    (hK : wpList Tryz.prog ops Q rest (a.put o.dst (.pointer none)) w) : wpList Tryz.prog ops Q (o :: rest) a w := by
  refine wpList_step fun K' hK' => ?_
  rw [if_pos hw]
  obtain ⟨v, ps, hrun, hv⟩ := hown.lookup keyed Tryz.underlying92 (zero_file w) (zd := .lit (.int .i64 (-1))) (zp := []) rfl (Go.WideMaps.keyOf_string_mk Tryz.underlying9 hs)
  rw [atKey_none hf] at hv
  obtain rfl := ptrElem_none hv
  unfold Oper.wp
  simp [execOp, hop, hm, hx, hrun, Result.andThen]
  exact hK' _ _ hK
end Go.Proofs.YtmdkjcigmhgpeaaGreatDoor
