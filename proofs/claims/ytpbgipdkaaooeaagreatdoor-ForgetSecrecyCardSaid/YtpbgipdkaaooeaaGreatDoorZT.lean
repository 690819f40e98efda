/- law35.sanity: the walk. -/
import Derived.Test.YtpbgipdkaaooeaaGreatDoorZS
import Derived.Test.YtpbgipdkaaooeaaGreatDoorZQ
import Derived.BigQuiet
import Derived.Deep.DeepCutAuto
import Derived.Deep.WholeRow
open Go Go.Proofs Go.RowKit
namespace Go.Proofs.YtpbgipdkaaooeaaGreatDoor
set_option linter.unusedSimpArgs false
set_option linter.unusedVariables false
attribute [local go_sem ↓] Go.wp_at_zero Go.wp_at_succ

/-- A box that holds a ledger. -/
structure LedBox (k : Nat) (o nd : Int) (v2 v3 v4 v5 : Value) (g : LedD) (wx : World) : Prop where
  box : wx.heap[k]? = some (.cells #[.int .i64 o, .int .i64 nd, v2, v3, v4, v5] 26 (0, 0))
  led : LedR wx (.agg #[.int .i64 o, .int .i64 nd, v2, v3, v4, v5]) g
theorem LedBox.later {k : Nat} {o nd : Int} {v2 v3 v4 v5 : Value} {g : LedD} {wx w' : World} (h : LedBox k o nd v2 v3 v4 v5 g wx) (hb : Below wx.heap.size wx w') : LedBox k o nd v2 v3 v4 v5 g w' := ⟨blk_later h.box hb, h.led.later hb⟩
def LedP (w : World) (g : LedD) (n : Int) (e : Ending) (w' : World) : Prop := ∃ o nd p2 l2 q2 p3 l3 q3 p4 l4 q4 p5 l5 q5, e = .returned (.tuple #[.agg #[.int .i64 o, .int .i64 nd, .slice p2 l2 q2, .slice p3 l3 q3, .slice p4 l4 q4, .slice p5 l5 q5], .int .i64 n]) ∧ Hid (LedR w' (.agg #[.int .i64 o, .int .i64 nd, .slice p2 l2 q2, .slice p3 l3 q3, .slice p4 l4 q4, .slice p5 l5 q5]) g) ∧ Hid (Below w.heap.size w w')
theorem led_parts {f : FuncId} {args : Array Value} {w : World} {g : LedD} {n : Int} (m : Int) (hm : n = m) (h : Calls Tryz.prog f args w (LedErr w g n)) : Calls Tryz.prog f args w (LedP w g m) := h.mono fun e w' h => by
  obtain ⟨v', rfl, hl, hb⟩ := h
  obtain ⟨v2, v3, v4, v5, rfl, ⟨vs, ⟨-, p2, q2, rfl, -⟩, -⟩, ⟨-, p3, q3, rfl, -⟩, ⟨-, p4, q4, rfl, -⟩, ⟨-, p5, q5, rfl, -⟩⟩ := id hl
  exact ⟨_, _, p2, _, q2, p3, _, q3, p4, _, q4, p5, _, q5, by rw [hm], hl, hb⟩
def LedQ (w : World) (g : LedD) (e : Ending) (w' : World) : Prop := ∃ o nd p2 l2 q2 p3 l3 q3 p4 l4 q4 p5 l5 q5, e = .returned (.agg #[.int .i64 o, .int .i64 nd, .slice p2 l2 q2, .slice p3 l3 q3, .slice p4 l4 q4, .slice p5 l5 q5]) ∧ Hid (LedR w' (.agg #[.int .i64 o, .int .i64 nd, .slice p2 l2 q2, .slice p3 l3 q3, .slice p4 l4 q4, .slice p5 l5 q5]) g) ∧ Hid (Below w.heap.size w w')
theorem led_parts1 {f : FuncId} {args : Array Value} {w : World} {g : LedD} (h : Calls Tryz.prog f args w (LedRet w g)) : Calls Tryz.prog f args w (LedQ w g) := h.mono fun e w' h => by
  obtain ⟨v', rfl, hl, hb⟩ := h
  obtain ⟨v2, v3, v4, v5, rfl, ⟨vs, ⟨-, p2, q2, rfl, -⟩, -⟩, ⟨-, p3, q3, rfl, -⟩, ⟨-, p4, q4, rfl, -⟩, ⟨-, p5, q5, rfl, -⟩⟩ := id hl
  exact ⟨_, _, p2, _, q2, p3, _, q3, p4, _, q4, p5, _, q5, rfl, hl, hb⟩
def KeyP (w : World) (ks : List Int) (n : Int) (e : Ending) (w' : World) : Prop := e = .returned (.tuple #[.agg (keyC2 ks), .int .i64 n]) ∧ Hid (Below w.heap.size w w')
theorem key_parts {args : Array Value} {w : World} {g : LedD} {t : ByteArray} {down : List Bool} (m : Int) (hm : keyE g t down = m) (ks : List Int) (hk : keyD g t down = ks) (h : Calls Tryz.prog 19 args w (KeyRet w g t down)) : Calls Tryz.prog 19 args w (KeyP w ks m) := h.mono fun e w' h => by
  obtain ⟨rfl, hb⟩ := h
  rw [hk, hm]
  exact ⟨rfl, hb⟩
theorem keyD_length (g : LedD) (t : ByteArray) (down : List Bool) : (keyD g t down).length = 32 := by
  unfold keyD
  split
  · rename_i h
    unfold keyE at h
    split at h
    · contradiction
    · split at h
      · rename_i h2; exact h2.2
      · cases h
  · simp
/-- A key, stored whole into a fresh box. -/
theorem key_box (w1 : World) (c : Array Value) (ks : Array Value) : ((w1.alloc (.cells c 39)).setRow w1.heap.size ks).heap[w1.heap.size]? = some (.cells ks 39 (0, 0)) ∧ Below w1.heap.size w1 ((w1.alloc (.cells c 39)).setRow w1.heap.size ks) :=
  ⟨setRow_heap _ w1.heap.size c ks 39 (0, 0) (heap_alloc_new _ _), ((Below.refl _ _).alloc (Nat.le_refl _) _).trans ⟨rfl, rfl, rfl, by simp, fun k hk => setRow_other _ w1.heap.size k _ (by omega)⟩⟩
theorem bytes_nil (w : World) : BytesR w (.slice none 0 0) [] := ⟨RowR.nil w 1, by simp⟩
theorem bools_nil (w : World) : BoolsR w (.slice none 0 0) [] := RowR.nil w 1
theorem row_fresh (w : World) (cs : List Value) (t : TypeId) (n : Nat) (hn : cs.length = n) (hm : n ≤ 4096) (k : Nat) (hk : k = w.heap.size) : RowR (w.alloc (.cells cs.toArray t)) (.slice (some ⟨k, 0, none⟩) n n) 1 cs n := by
  subst hk
  refine ⟨by omega, _, _, rfl, Nat.le_refl _, by unfold maxLen; omega, fun _ => ⟨_, 0, rfl, by simp, fun j hj => ?_⟩⟩
  rw [Nat.zero_add, (blk_cells (heap_alloc_new w (.cells cs.toArray t))).1 j]
  simp
theorem wpList_load39_want {ops : Array Oper} {rest : List Oper} {o : Oper} {a : Act} {w : World} {Q : Exit → Act → World → Prop} (hw : Region.wanted o (yielded ops a.tmps) = true) (x : Operand) (ho : o.op = .load 39 x)
    (k : Nat) (hx : a.eval x = .pointer (some ⟨k, 0, none⟩)) (hg : w.heap[k]? = some (.cells (keyC2 sK) 39 (0, 0)))
    (h : wpList Tryz.prog ops Q rest (a.put o.dst (.agg (keyC2 sK))) w) : wpList Tryz.prog ops Q (o :: rest) a w :=
  BigFrame.wpList_want hw fun _ hK => wp_load_row 39 x ho k hx 39 (keyC2 sK) (0, 0) _ hg und39 rfl (keyC2_size sK rfl) (hK _ _ h)
theorem built39c : Tryz.prog.built 39 [(0, .int .u8 7), (1, .int .u8 8), (2, .int .u8 9)] = some (keyC2 sK) := by kernel_rfl
theorem wpList_build39c {ops : Array Oper} {rest : List Oper} {o : Oper} {a : Act} {w : World} {Q : Exit → Act → World → Prop} (hg : o.guard = none) (ho : o.op = .build 39 #[(0, .const (.int .u8 7)), (1, .const (.int .u8 8)), (2, .const (.int .u8 9))])
    (h : wpList Tryz.prog ops Q rest (a.put o.dst (.agg (keyC2 sK))) w) : wpList Tryz.prog ops Q (o :: rest) a w := by
  have hb : Tryz.prog.built 39 ((#[(0, .const (.int .u8 7)), (1, .const (.int .u8 8)), (2, .const (.int .u8 9))] : Array (Nat × Operand)).map fun (i, x) => (i, a.eval x)).toList = some (keyC2 sK) := by
    rw [show (((#[(0, .const (.int .u8 7)), (1, .const (.int .u8 8)), (2, .const (.int .u8 9))] : Array (Nat × Operand)).map fun (i, x) => (i, a.eval x)).toList) = [(0, .int .u8 7), (1, .int .u8 8), (2, .int .u8 9)] by simp [Act.eval]]
    exact built39c
  exact wpList_build hg 39 _ ho (by rw [hb]; rfl) (by rw [hb]; exact h)
theorem wpList_store39_new {ops : Array Oper} {rest : List Oper} {o : Oper} {a : Act} {Q : Exit → Act → World → Prop} (hgd : o.guard = none) (x y : Operand) (ho : o.op = .store 39 x y) (w0 : World) (c cells : Array Value)
    (hx : a.eval x = .pointer (some ⟨w0.heap.size, 0, none⟩)) (hy : a.eval y = .agg cells) (hi : (Tryz.prog.info? 39).map (·.size) = some cells.size) (hold : c.size = cells.size) (h1 : cells.all (·.oneCell') = true)
    (h : wpList Tryz.prog ops Q rest (a.put o.dst undef) (w0.alloc (.cells cells 39))) : wpList Tryz.prog ops Q (o :: rest) a (w0.alloc (.cells c 39)) :=
  wpList_store_row hgd 39 x y ho w0.heap.size cells hx hy 39 c (heap_alloc_new w0 _) hi hold h1 (by rw [World.setRow_alloc_new]; exact h)
theorem cert_no {w : World} {args : Array Value} {o : Option (ByteArray × Int)} (h : Calls Tryz.prog 21 args w fun e w' => e = .returned (.tuple #[firstV o, .bool o.isSome]) ∧ Below w.heap.size w w') (hn : o.isSome = false) :
    Calls Tryz.prog 21 args w fun e w' => e = .returned (.tuple #[.agg #[.string ⟨#[]⟩, .int .i64 0], .bool false]) ∧ Hid (Below w.heap.size w w') := h.mono fun e w' h => by
  cases o with
  | none => exact h
  | some p => cases hn
theorem cert_yes {w : World} {args : Array Value} {o : Option (ByteArray × Int)} {t : ByteArray} {a : Int} (h : Calls Tryz.prog 21 args w fun e w' => e = .returned (.tuple #[firstV o, .bool o.isSome]) ∧ Below w.heap.size w w') (hn : o = some (t, a)) :
    Calls Tryz.prog 21 args w fun e w' => e = .returned (.tuple #[.agg #[.string t, .int .i64 a], .bool true]) ∧ Hid (Below w.heap.size w w') := h.mono fun e w' h => by
  subst hn
  exact h

set_option maxRecDepth 100000 in
set_option maxHeartbeats 4000000 in
/-- law35.sanity -/
theorem sanity_9 (w : World) : Calls Tryz.prog 9 #[] w fun e w' => e = .returned (.bool true) ∧ Below w.heap.size w w' := by
  have HB : Hid (Below w.heap.size w w) := Below.refl _ _
  have HZK : Hid (zKey = #[.int .u8 0, .int .u8 0, .int .u8 0, .int .u8 0, .int .u8 0, .int .u8 0, .int .u8 0, .int .u8 0, .int .u8 0, .int .u8 0, .int .u8 0, .int .u8 0, .int .u8 0, .int .u8 0, .int .u8 0, .int .u8 0, .int .u8 0, .int .u8 0, .int .u8 0, .int .u8 0, .int .u8 0, .int .u8 0, .int .u8 0, .int .u8 0, .int .u8 0, .int .u8 0, .int .u8 0, .int .u8 0, .int .u8 0, .int .u8 0, .int .u8 0, .int .u8 0]) := Lib.hid rfl
  have S39 := Lib.hid (keyC2_size sK rfl)
  go_enter Tryz.func9, Tryz.ntmps9
  -- region 1
  have C := Lib.hid (led_parts 1 san1 (new_23 w 3 4))
  go_upto_region 2 with (go_at_call 23; refine C.out.mono ?_; rintro e w1 ⟨o1, n1, a1, la1, qa1, b1, lb1, qb1, c1, lc1, qc1, d1, ld1, qd1, rfl, HL, HC⟩)
  have nb := (Below.refl w1.heap.size w1).alloc (Nat.le_refl _) (.cells #[.int .i64 o1, .int .i64 n1, .slice a1 la1 qa1, .slice b1 lb1 qb1, .slice c1 lc1 qc1, .slice d1 ld1 qd1] 26)
  have bb := below_step HC.out nb
  clear nb HC HL C
  replace HB := Lib.hid (below_step HB.out bb)
  clear bb
  generalize w1.alloc (.cells #[.int .i64 o1, .int .i64 n1, .slice a1 la1 qa1, .slice b1 lb1 qb1, .slice c1 lc1 qc1, .slice d1 ld1 qd1] 26) = W1 at *
  generalize w1.heap.size = k1 at *
  clear w1
  -- region 2
  have C := Lib.hid (led_parts 0 san2 (new_23 W1 3 2))
  go_upto_region 3 with (go_at_call 23; refine C.out.mono ?_; rintro e w1 ⟨o2, n2, a2, la2, qa2, b2, lb2, qb2, c2, lc2, qc2, d2, ld2, qd2, rfl, HL, HC⟩)
  have nb := (Below.refl w1.heap.size w1).alloc (Nat.le_refl _) (.cells #[.int .i64 o2, .int .i64 n2, .slice a2 la2 qa2, .slice b2 lb2 qb2, .slice c2 lc2 qc2, .slice d2 ld2 qd2] 26)
  have bb := below_step HC.out nb
  have L2 : Hid (LedBox w1.heap.size o2 n2 (.slice a2 la2 qa2) (.slice b2 lb2 qb2) (.slice c2 lc2 qc2) (.slice d2 ld2 qd2) _ (w1.alloc (.cells #[.int .i64 o2, .int .i64 n2, .slice a2 la2 qa2, .slice b2 lb2 qb2, .slice c2 lc2 qc2, .slice d2 ld2 qd2] 26))) := Lib.hid ⟨heap_alloc_new _ _, HL.out.later nb⟩
  clear nb HC HL C
  replace HB := Lib.hid (below_step HB.out bb)
  clear bb
  generalize w1.alloc (.cells #[.int .i64 o2, .int .i64 n2, .slice a2 la2 qa2, .slice b2 lb2 qb2, .slice c2 lc2 qc2, .slice d2 ld2 qd2] 26) = W2 at *
  generalize w1.heap.size = k2 at *
  clear w1 W1
  -- region 3
  go_upto_region 4 with (first
    | (refine wpList_build39c rfl rfl ?_)
    | (refine wpList_store39_new rfl _ _ rfl W2 _ (keyC2 sK) rfl rfl (keyC2_size sK rfl) rfl (keyC2_one sK) ?_))
  have bb := (Below.refl W2.heap.size W2).alloc (Nat.le_refl _) (.cells (keyC2 sK) 39)
  have K3 := Lib.hid (heap_alloc_new W2 (.cells (keyC2 sK) 39))
  replace L2 := Lib.hid (L2.out.later bb)
  replace HB := Lib.hid (below_step HB.out bb)
  clear bb
  generalize W2.alloc (.cells (keyC2 sK) 39) = W3 at *
  generalize W2.heap.size = k3 at *
  clear W2
  -- region 4
  obtain ⟨x1, x2, x3⟩ := box_walk L2.out.box
  have C := Lib.hid (led_parts 0 san3 (enroll_12 (W3.alloc (.cells #[.int .u8 1, .int .u8 2, .int .u8 3] 5)) _ (.slice (some ⟨W3.heap.size, 0, none⟩) 3 3) sG sT sK [1, 2, 3] (L2.out.led.later ((Below.refl _ _).alloc (Nat.le_refl _) _)) fit_G rfl (by decide) ⟨row_fresh W3 [.int .u8 1, .int .u8 2, .int .u8 3] 5 3 rfl (by omega) _ rfl, by decide⟩))
  go_upto_region 5 with (first | (go_at_call 12; refine C.out.mono ?_; rintro e w1 ⟨o4, n4, a4, la4, qa4, b4, lb4, qb4, c4, lc4, qc4, d4, ld4, qd4, rfl, HL, HC⟩) | (refine wpList_load_row rfl 39 _ rfl k3 rfl 39 (keyC2 sK) (0, 0) _ K3.out und39 rfl S39.out ?_))
  clear x1 x2 x3
  have nb := (Below.refl w1.heap.size w1).alloc (Nat.le_refl _) (.cells #[.int .i64 o4, .int .i64 n4, .slice a4 la4 qa4, .slice b4 lb4 qb4, .slice c4 lc4 qc4, .slice d4 ld4 qd4] 26)
  have bb := below_step (below_step ((Below.refl W3.heap.size W3).alloc (Nat.le_refl _) (.cells #[.int .u8 1, .int .u8 2, .int .u8 3] 5)) HC.out) nb
  have L4 : Hid (LedBox w1.heap.size o4 n4 (.slice a4 la4 qa4) (.slice b4 lb4 qb4) (.slice c4 lc4 qc4) (.slice d4 ld4 qd4) _ (w1.alloc (.cells #[.int .i64 o4, .int .i64 n4, .slice a4 la4 qa4, .slice b4 lb4 qb4, .slice c4 lc4 qc4, .slice d4 ld4 qd4] 26))) := Lib.hid ⟨heap_alloc_new _ _, HL.out.later nb⟩
  clear nb HC HL C
  replace L2 := Lib.hid (L2.out.later bb)
  replace K3 := Lib.hid (blk_later K3.out bb)
  replace HB := Lib.hid (below_step HB.out bb)
  clear bb
  generalize w1.alloc (.cells #[.int .i64 o4, .int .i64 n4, .slice a4 la4 qa4, .slice b4 lb4 qb4, .slice c4 lc4 qc4, .slice d4 ld4 qd4] 26) = W4 at *
  generalize w1.heap.size = k4 at *
  generalize W3.heap.size = m4 at *
  clear w1 W3
  -- region 5
  obtain ⟨x1, x2, x3⟩ := box_walk L4.out.box
  have C := Lib.hid (key_parts 0 san4.1 sK san4.2 (key_19 (W4.alloc (.cells #[.bool true] 4)) _ (.slice (some ⟨W4.heap.size, 0, none⟩) 1 1) sA sT [true] (L4.out.led.later ((Below.refl _ _).alloc (Nat.le_refl _) _)) fit_A (row_fresh W4 [.bool true] 4 1 rfl (by omega) _ rfl) by_A))
  have hsz : (keyC2 sK).size = 32 := by simp [keyC2, keyD_length, sK]
  have HSC : Hid (∀ wx : World, (storeCells ⟨wx.heap.size, 0, none⟩ (keyC2 sK).toList 0).run Tryz.prog (wx.alloc (.cells #[.int .u8 0, .int .u8 0, .int .u8 0, .int .u8 0, .int .u8 0, .int .u8 0, .int .u8 0, .int .u8 0, .int .u8 0, .int .u8 0, .int .u8 0, .int .u8 0, .int .u8 0, .int .u8 0, .int .u8 0, .int .u8 0, .int .u8 0, .int .u8 0, .int .u8 0, .int .u8 0, .int .u8 0, .int .u8 0, .int .u8 0, .int .u8 0, .int .u8 0, .int .u8 0, .int .u8 0, .int .u8 0, .int .u8 0, .int .u8 0, .int .u8 0, .int .u8 0] 39)) = .ok () (wx.alloc (.cells (keyC2 sK) 39))) := fun wx => run_storeCells_new wx 39 zKey (keyC2 sK) (keyC2_size sK (by first | exact keyD_length _ _ _ | rfl)) (by rw [hsz]; rfl) (keyC2_one sK)
  go_upto_region 6 with (go_at_call 19; refine C.out.mono ?_; rintro e w1 ⟨rfl, HC⟩; have hsc := HSC.out w1)
  clear x1 x2 x3 hsz hsc HSC C
  have nb := (Below.refl w1.heap.size w1).alloc (Nat.le_refl _) (.cells (keyC2 sK) 39)
  have bb := below_step (below_step ((Below.refl W4.heap.size W4).alloc (Nat.le_refl _) (.cells #[.bool true] 4)) HC.out) nb
  have K5 := Lib.hid (heap_alloc_new w1 (.cells (keyC2 sK) 39))
  clear nb HC
  replace L2 := Lib.hid (L2.out.later bb)
  replace K3 := Lib.hid (blk_later K3.out bb)
  replace L4 := Lib.hid (L4.out.later bb)
  replace HB := Lib.hid (below_step HB.out bb)
  clear bb
  generalize w1.alloc (.cells (keyC2 sK) 39) = W5 at *
  generalize w1.heap.size = k5 at *
  generalize W4.heap.size = m5 at *
  clear w1 W4
  -- region 6
  obtain ⟨x1, x2, x3⟩ := box_walk L4.out.box
  have C := Lib.hid (key_parts 40 san5 _ rfl (key_19 (W5.alloc (.cells #[.bool true, .bool true] 4)) _ (.slice (some ⟨W5.heap.size, 0, none⟩) 2 2) sA sT [true, true] (L4.out.led.later ((Below.refl _ _).alloc (Nat.le_refl _) _)) fit_A (row_fresh W5 [.bool true, .bool true] 4 2 rfl (by omega) _ rfl) by_A))
  have hsz : (keyC2 (keyD sA sT [true, true])).size = 32 := by simp [keyC2, keyD_length, sK]
  have HSC : Hid (∀ wx : World, (storeCells ⟨wx.heap.size, 0, none⟩ (keyC2 (keyD sA sT [true, true])).toList 0).run Tryz.prog (wx.alloc (.cells #[.int .u8 0, .int .u8 0, .int .u8 0, .int .u8 0, .int .u8 0, .int .u8 0, .int .u8 0, .int .u8 0, .int .u8 0, .int .u8 0, .int .u8 0, .int .u8 0, .int .u8 0, .int .u8 0, .int .u8 0, .int .u8 0, .int .u8 0, .int .u8 0, .int .u8 0, .int .u8 0, .int .u8 0, .int .u8 0, .int .u8 0, .int .u8 0, .int .u8 0, .int .u8 0, .int .u8 0, .int .u8 0, .int .u8 0, .int .u8 0, .int .u8 0, .int .u8 0] 39)) = .ok () (wx.alloc (.cells (keyC2 (keyD sA sT [true, true])) 39))) := fun wx => run_storeCells_new wx 39 zKey (keyC2 (keyD sA sT [true, true])) (keyC2_size (keyD sA sT [true, true]) (by first | exact keyD_length _ _ _ | rfl)) (by rw [hsz]; rfl) (keyC2_one (keyD sA sT [true, true]))
  go_upto_region 7 with (go_at_call 19; refine C.out.mono ?_; rintro e w1 ⟨rfl, HC⟩; have hsc := HSC.out w1)
  clear x1 x2 x3 hsz hsc HSC C
  have nb := (Below.refl w1.heap.size w1).alloc (Nat.le_refl _) (.cells (keyC2 (keyD sA sT [true, true])) 39)
  have bb := below_step (below_step ((Below.refl W5.heap.size W5).alloc (Nat.le_refl _) (.cells #[.bool true, .bool true] 4)) HC.out) nb
  clear nb HC
  replace L2 := Lib.hid (L2.out.later bb)
  replace K3 := Lib.hid (blk_later K3.out bb)
  replace L4 := Lib.hid (L4.out.later bb)
  replace K5 := Lib.hid (blk_later K5.out bb)
  replace HB := Lib.hid (below_step HB.out bb)
  clear bb
  generalize w1.alloc (.cells (keyC2 (keyD sA sT [true, true])) 39) = W6 at *
  generalize w1.heap.size = k6 at *
  generalize W5.heap.size = m6 at *
  clear w1 W5
  -- region 7
  obtain ⟨x1, x2, x3⟩ := box_walk L4.out.box
  have C := Lib.hid (led_parts1 (hold_26 W6 _ sA (sT, 9) L4.out.led fit_A))
  go_upto_region 8 with (go_at_call 26; refine C.out.mono ?_; rintro e w1 ⟨o7, n7, a7, la7, qa7, b7, lb7, qb7, c7, lc7, qc7, d7, ld7, qd7, rfl, HL, HC⟩)
  clear x1 x2 x3
  have nb := (Below.refl w1.heap.size w1).alloc (Nat.le_refl _) (.cells #[.int .i64 o7, .int .i64 n7, .slice a7 la7 qa7, .slice b7 lb7 qb7, .slice c7 lc7 qc7, .slice d7 ld7 qd7] 26)
  have bb := below_step HC.out nb
  have L7 : Hid (LedBox w1.heap.size o7 n7 (.slice a7 la7 qa7) (.slice b7 lb7 qb7) (.slice c7 lc7 qc7) (.slice d7 ld7 qd7) _ (w1.alloc (.cells #[.int .i64 o7, .int .i64 n7, .slice a7 la7 qa7, .slice b7 lb7 qb7, .slice c7 lc7 qc7, .slice d7 ld7 qd7] 26))) := Lib.hid ⟨heap_alloc_new _ _, HL.out.later nb⟩
  clear nb HC HL C
  replace L2 := Lib.hid (L2.out.later bb)
  replace K3 := Lib.hid (blk_later K3.out bb)
  replace L4 := Lib.hid (L4.out.later bb)
  replace K5 := Lib.hid (blk_later K5.out bb)
  replace HB := Lib.hid (below_step HB.out bb)
  clear bb
  generalize w1.alloc (.cells #[.int .i64 o7, .int .i64 n7, .slice a7 la7 qa7, .slice b7 lb7 qb7, .slice c7 lc7 qc7, .slice d7 ld7 qd7] 26) = W7 at *
  generalize w1.heap.size = k7 at *
  clear w1 W6
  -- region 8
  obtain ⟨x1, x2, x3⟩ := box_walk L7.out.box
  have C := Lib.hid (led_parts 350 san6 (demand_15 W7 _ sH sT 8 L7.out.led fit_H))
  go_upto_region 9 with (go_at_call 15; refine C.out.mono ?_; rintro e w1 ⟨o8, n8, a8, la8, qa8, b8, lb8, qb8, c8, lc8, qc8, d8, ld8, qd8, rfl, HL, HC⟩)
  clear x1 x2 x3
  have nb := (Below.refl w1.heap.size w1).alloc (Nat.le_refl _) (.cells #[.int .i64 o8, .int .i64 n8, .slice a8 la8 qa8, .slice b8 lb8 qb8, .slice c8 lc8 qc8, .slice d8 ld8 qd8] 26)
  have bb := below_step HC.out nb
  clear nb HC HL C
  replace L2 := Lib.hid (L2.out.later bb)
  replace K3 := Lib.hid (blk_later K3.out bb)
  replace L4 := Lib.hid (L4.out.later bb)
  replace K5 := Lib.hid (blk_later K5.out bb)
  replace L7 := Lib.hid (L7.out.later bb)
  replace HB := Lib.hid (below_step HB.out bb)
  clear bb
  generalize w1.alloc (.cells #[.int .i64 o8, .int .i64 n8, .slice a8 la8 qa8, .slice b8 lb8 qb8, .slice c8 lc8 qc8, .slice d8 ld8 qd8] 26) = W8 at *
  generalize w1.heap.size = k8 at *
  clear w1 W7
  -- region 9
  obtain ⟨x1, x2, x3⟩ := box_walk L7.out.box
  have C := Lib.hid (led_parts 0 san7 (demand_15 W8 _ sH sT 9 L7.out.led fit_H))
  go_upto_region 10 with (go_at_call 15; refine C.out.mono ?_; rintro e w1 ⟨o9, n9, a9, la9, qa9, b9, lb9, qb9, c9, lc9, qc9, d9, ld9, qd9, rfl, HL, HC⟩)
  clear x1 x2 x3
  have nb := (Below.refl w1.heap.size w1).alloc (Nat.le_refl _) (.cells #[.int .i64 o9, .int .i64 n9, .slice a9 la9 qa9, .slice b9 lb9 qb9, .slice c9 lc9 qc9, .slice d9 ld9 qd9] 26)
  have bb := below_step HC.out nb
  have L9 : Hid (LedBox w1.heap.size o9 n9 (.slice a9 la9 qa9) (.slice b9 lb9 qb9) (.slice c9 lc9 qc9) (.slice d9 ld9 qd9) _ (w1.alloc (.cells #[.int .i64 o9, .int .i64 n9, .slice a9 la9 qa9, .slice b9 lb9 qb9, .slice c9 lc9 qc9, .slice d9 ld9 qd9] 26))) := Lib.hid ⟨heap_alloc_new _ _, HL.out.later nb⟩
  clear nb HC HL C
  replace L2 := Lib.hid (L2.out.later bb)
  replace K3 := Lib.hid (blk_later K3.out bb)
  replace L4 := Lib.hid (L4.out.later bb)
  replace K5 := Lib.hid (blk_later K5.out bb)
  replace L7 := Lib.hid (L7.out.later bb)
  replace HB := Lib.hid (below_step HB.out bb)
  clear bb
  generalize w1.alloc (.cells #[.int .i64 o9, .int .i64 n9, .slice a9 la9 qa9, .slice b9 lb9 qb9, .slice c9 lc9 qc9, .slice d9 ld9 qd9] 26) = W9 at *
  generalize w1.heap.size = k9 at *
  clear w1 W8
  -- region 10
  obtain ⟨x1, x2, x3⟩ := box_walk L9.out.box
  have C := Lib.hid (led_parts 1 san8 (give_17 W9 _ sB 0 sT 8 L9.out.led fit_B))
  go_upto_region 11 with (go_at_call 17; refine C.out.mono ?_; rintro e w1 ⟨o10, n10, a10, la10, qa10, b10, lb10, qb10, c10, lc10, qc10, d10, ld10, qd10, rfl, HL, HC⟩)
  clear x1 x2 x3
  have nb := (Below.refl w1.heap.size w1).alloc (Nat.le_refl _) (.cells #[.int .i64 o10, .int .i64 n10, .slice a10 la10 qa10, .slice b10 lb10 qb10, .slice c10 lc10 qc10, .slice d10 ld10 qd10] 26)
  have bb := below_step HC.out nb
  clear nb HC HL C
  replace L2 := Lib.hid (L2.out.later bb)
  replace K3 := Lib.hid (blk_later K3.out bb)
  replace L4 := Lib.hid (L4.out.later bb)
  replace K5 := Lib.hid (blk_later K5.out bb)
  replace L7 := Lib.hid (L7.out.later bb)
  replace L9 := Lib.hid (L9.out.later bb)
  replace HB := Lib.hid (below_step HB.out bb)
  clear bb
  generalize w1.alloc (.cells #[.int .i64 o10, .int .i64 n10, .slice a10 la10 qa10, .slice b10 lb10 qb10, .slice c10 lc10 qc10, .slice d10 ld10 qd10] 26) = W10 at *
  generalize w1.heap.size = k10 at *
  clear w1 W9
  -- region 11
  obtain ⟨x1, x2, x3⟩ := box_walk L9.out.box
  have C := Lib.hid (led_parts 0 san9 (give_17 W10 _ sB 0 sT 9 L9.out.led fit_B))
  go_upto_region 12 with (go_at_call 17; refine C.out.mono ?_; rintro e w1 ⟨o11, n11, a11, la11, qa11, b11, lb11, qb11, c11, lc11, qc11, d11, ld11, qd11, rfl, HL, HC⟩)
  clear x1 x2 x3
  have nb := (Below.refl w1.heap.size w1).alloc (Nat.le_refl _) (.cells #[.int .i64 o11, .int .i64 n11, .slice a11 la11 qa11, .slice b11 lb11 qb11, .slice c11 lc11 qc11, .slice d11 ld11 qd11] 26)
  have bb := below_step HC.out nb
  have L11 : Hid (LedBox w1.heap.size o11 n11 (.slice a11 la11 qa11) (.slice b11 lb11 qb11) (.slice c11 lc11 qc11) (.slice d11 ld11 qd11) _ (w1.alloc (.cells #[.int .i64 o11, .int .i64 n11, .slice a11 la11 qa11, .slice b11 lb11 qb11, .slice c11 lc11 qc11, .slice d11 ld11 qd11] 26))) := Lib.hid ⟨heap_alloc_new _ _, HL.out.later nb⟩
  clear nb HC HL C
  replace L2 := Lib.hid (L2.out.later bb)
  replace K3 := Lib.hid (blk_later K3.out bb)
  replace L4 := Lib.hid (L4.out.later bb)
  replace K5 := Lib.hid (blk_later K5.out bb)
  replace L7 := Lib.hid (L7.out.later bb)
  replace L9 := Lib.hid (L9.out.later bb)
  replace HB := Lib.hid (below_step HB.out bb)
  clear bb
  generalize w1.alloc (.cells #[.int .i64 o11, .int .i64 n11, .slice a11 la11 qa11, .slice b11 lb11 qb11, .slice c11 lc11 qc11, .slice d11 ld11 qd11] 26) = W11 at *
  generalize w1.heap.size = k11 at *
  clear w1 W10
  -- region 12
  obtain ⟨x1, x2, x3⟩ := box_walk L11.out.box
  have C := Lib.hid (led_parts 4 san10 (give_17 W11 _ sC 0 sT 9 L11.out.led fit_C))
  go_upto_region 13 with (go_at_call 17; refine C.out.mono ?_; rintro e w1 ⟨o12, n12, a12, la12, qa12, b12, lb12, qb12, c12, lc12, qc12, d12, ld12, qd12, rfl, HL, HC⟩)
  clear x1 x2 x3
  have nb := (Below.refl w1.heap.size w1).alloc (Nat.le_refl _) (.cells #[.int .i64 o12, .int .i64 n12, .slice a12 la12 qa12, .slice b12 lb12 qb12, .slice c12 lc12 qc12, .slice d12 ld12 qd12] 26)
  have bb := below_step HC.out nb
  clear nb HC HL C
  replace L2 := Lib.hid (L2.out.later bb)
  replace K3 := Lib.hid (blk_later K3.out bb)
  replace L4 := Lib.hid (L4.out.later bb)
  replace K5 := Lib.hid (blk_later K5.out bb)
  replace L7 := Lib.hid (L7.out.later bb)
  replace L9 := Lib.hid (L9.out.later bb)
  replace L11 := Lib.hid (L11.out.later bb)
  replace HB := Lib.hid (below_step HB.out bb)
  clear bb
  generalize w1.alloc (.cells #[.int .i64 o12, .int .i64 n12, .slice a12 la12 qa12, .slice b12 lb12 qb12, .slice c12 lc12 qc12, .slice d12 ld12 qd12] 26) = W12 at *
  generalize w1.heap.size = k12 at *
  clear w1 W11
  -- region 13
  obtain ⟨x1, x2, x3⟩ := box_walk L11.out.box
  have C := Lib.hid (key_parts 0 san11.1 sK san11.2 (key_19 W12 _ (.slice none 0 0) sC sT [] L11.out.led fit_C (bools_nil _) by_C))
  have hsz : (keyC2 sK).size = 32 := by simp [keyC2, keyD_length, sK]
  have HSC : Hid (∀ wx : World, (storeCells ⟨wx.heap.size, 0, none⟩ (keyC2 sK).toList 0).run Tryz.prog (wx.alloc (.cells #[.int .u8 0, .int .u8 0, .int .u8 0, .int .u8 0, .int .u8 0, .int .u8 0, .int .u8 0, .int .u8 0, .int .u8 0, .int .u8 0, .int .u8 0, .int .u8 0, .int .u8 0, .int .u8 0, .int .u8 0, .int .u8 0, .int .u8 0, .int .u8 0, .int .u8 0, .int .u8 0, .int .u8 0, .int .u8 0, .int .u8 0, .int .u8 0, .int .u8 0, .int .u8 0, .int .u8 0, .int .u8 0, .int .u8 0, .int .u8 0, .int .u8 0, .int .u8 0] 39)) = .ok () (wx.alloc (.cells (keyC2 sK) 39))) := fun wx => run_storeCells_new wx 39 zKey (keyC2 sK) (keyC2_size sK (by first | exact keyD_length _ _ _ | rfl)) (by rw [hsz]; rfl) (keyC2_one sK)
  go_upto_region 14 with (go_at_call 19; refine C.out.mono ?_; rintro e w1 ⟨rfl, HC⟩; have hsc := HSC.out w1)
  clear x1 x2 x3 hsz hsc HSC C
  have nb := (Below.refl w1.heap.size w1).alloc (Nat.le_refl _) (.cells (keyC2 sK) 39)
  have bb := below_step HC.out nb
  have K13 := Lib.hid (heap_alloc_new w1 (.cells (keyC2 sK) 39))
  clear nb HC
  replace L2 := Lib.hid (L2.out.later bb)
  replace K3 := Lib.hid (blk_later K3.out bb)
  replace L4 := Lib.hid (L4.out.later bb)
  replace K5 := Lib.hid (blk_later K5.out bb)
  replace L7 := Lib.hid (L7.out.later bb)
  replace L9 := Lib.hid (L9.out.later bb)
  replace L11 := Lib.hid (L11.out.later bb)
  replace HB := Lib.hid (below_step HB.out bb)
  clear bb
  generalize w1.alloc (.cells (keyC2 sK) 39) = W13 at *
  generalize w1.heap.size = k13 at *
  clear w1 W12
  -- region 14
  obtain ⟨x1, x2, x3⟩ := box_walk L11.out.box
  have C := Lib.hid (cert_no (cert_21 W13 _ sC sT L11.out.led fit_C) san12)
  go_upto_region 15 with (go_at_call 21; refine C.out.mono ?_; rintro e w1 ⟨rfl, HC⟩)
  clear x1 x2 x3
  have nb := (Below.refl w1.heap.size w1).alloc (Nat.le_refl _) (.cells #[.string ⟨#[]⟩, .int .i64 0] 46)
  have bb := below_step HC.out nb
  clear nb HC C
  replace L2 := Lib.hid (L2.out.later bb)
  replace K3 := Lib.hid (blk_later K3.out bb)
  replace L4 := Lib.hid (L4.out.later bb)
  replace K5 := Lib.hid (blk_later K5.out bb)
  replace L7 := Lib.hid (L7.out.later bb)
  replace L9 := Lib.hid (L9.out.later bb)
  replace L11 := Lib.hid (L11.out.later bb)
  replace K13 := Lib.hid (blk_later K13.out bb)
  replace HB := Lib.hid (below_step HB.out bb)
  clear bb
  generalize w1.alloc (.cells #[.string ⟨#[]⟩, .int .i64 0] 46) = W14 at *
  generalize w1.heap.size = k14 at *
  clear w1 W13
  -- region 15
  obtain ⟨x1, x2, x3⟩ := box_walk L11.out.box
  have C := Lib.hid (led_parts 0 san13 (give_17 W14 _ sC 2 sT 10 L11.out.led fit_C))
  go_upto_region 16 with (go_at_call 17; refine C.out.mono ?_; rintro e w1 ⟨o15, n15, a15, la15, qa15, b15, lb15, qb15, c15, lc15, qc15, d15, ld15, qd15, rfl, HL, HC⟩)
  clear x1 x2 x3
  have nb := (Below.refl w1.heap.size w1).alloc (Nat.le_refl _) (.cells #[.int .i64 o15, .int .i64 n15, .slice a15 la15 qa15, .slice b15 lb15 qb15, .slice c15 lc15 qc15, .slice d15 ld15 qd15] 26)
  have bb := below_step HC.out nb
  have L15 : Hid (LedBox w1.heap.size o15 n15 (.slice a15 la15 qa15) (.slice b15 lb15 qb15) (.slice c15 lc15 qc15) (.slice d15 ld15 qd15) _ (w1.alloc (.cells #[.int .i64 o15, .int .i64 n15, .slice a15 la15 qa15, .slice b15 lb15 qb15, .slice c15 lc15 qc15, .slice d15 ld15 qd15] 26))) := Lib.hid ⟨heap_alloc_new _ _, HL.out.later nb⟩
  clear nb HC HL C
  replace L2 := Lib.hid (L2.out.later bb)
  replace K3 := Lib.hid (blk_later K3.out bb)
  replace L4 := Lib.hid (L4.out.later bb)
  replace K5 := Lib.hid (blk_later K5.out bb)
  replace L7 := Lib.hid (L7.out.later bb)
  replace L9 := Lib.hid (L9.out.later bb)
  replace L11 := Lib.hid (L11.out.later bb)
  replace K13 := Lib.hid (blk_later K13.out bb)
  replace HB := Lib.hid (below_step HB.out bb)
  clear bb
  generalize w1.alloc (.cells #[.int .i64 o15, .int .i64 n15, .slice a15 la15 qa15, .slice b15 lb15 qb15, .slice c15 lc15 qc15, .slice d15 ld15 qd15] 26) = W15 at *
  generalize w1.heap.size = k15 at *
  clear w1 W14
  -- region 16
  obtain ⟨x1, x2, x3⟩ := box_walk L15.out.box
  have C := Lib.hid (cert_yes (t := ⟨#[97]⟩) (cert_21 W15 _ sD sT L15.out.led fit_D) san14)
  go_upto_region 17 with (go_at_call 21; refine C.out.mono ?_; rintro e w1 ⟨rfl, HC⟩)
  clear x1 x2 x3
  have nb := (Below.refl w1.heap.size w1).alloc (Nat.le_refl _) (.cells #[.string ⟨#[97]⟩, .int .i64 10] 46)
  have bb := below_step HC.out nb
  have K16 := Lib.hid (heap_alloc_new w1 (.cells #[.string ⟨#[97]⟩, .int .i64 10] 46))
  clear nb HC C
  replace L2 := Lib.hid (L2.out.later bb)
  replace K3 := Lib.hid (blk_later K3.out bb)
  replace L4 := Lib.hid (L4.out.later bb)
  replace K5 := Lib.hid (blk_later K5.out bb)
  replace L7 := Lib.hid (L7.out.later bb)
  replace L9 := Lib.hid (L9.out.later bb)
  replace L11 := Lib.hid (L11.out.later bb)
  replace K13 := Lib.hid (blk_later K13.out bb)
  replace L15 := Lib.hid (L15.out.later bb)
  replace HB := Lib.hid (below_step HB.out bb)
  clear bb
  generalize w1.alloc (.cells #[.string ⟨#[97]⟩, .int .i64 10] 46) = W16 at *
  generalize w1.heap.size = k16 at *
  clear w1 W15
  -- region 17
  obtain ⟨x1, x2, x3⟩ := box_walk L15.out.box
  have C := Lib.hid (key_parts 351 san15 _ rfl (key_19 W16 _ (.slice none 0 0) sD sT [] L15.out.led fit_D (bools_nil _) by_D))
  have hsz : (keyC2 (keyD sD sT [])).size = 32 := by simp [keyC2, keyD_length, sK]
  have HSC : Hid (∀ wx : World, (storeCells ⟨wx.heap.size, 0, none⟩ (keyC2 (keyD sD sT [])).toList 0).run Tryz.prog (wx.alloc (.cells #[.int .u8 0, .int .u8 0, .int .u8 0, .int .u8 0, .int .u8 0, .int .u8 0, .int .u8 0, .int .u8 0, .int .u8 0, .int .u8 0, .int .u8 0, .int .u8 0, .int .u8 0, .int .u8 0, .int .u8 0, .int .u8 0, .int .u8 0, .int .u8 0, .int .u8 0, .int .u8 0, .int .u8 0, .int .u8 0, .int .u8 0, .int .u8 0, .int .u8 0, .int .u8 0, .int .u8 0, .int .u8 0, .int .u8 0, .int .u8 0, .int .u8 0, .int .u8 0] 39)) = .ok () (wx.alloc (.cells (keyC2 (keyD sD sT [])) 39))) := fun wx => run_storeCells_new wx 39 zKey (keyC2 (keyD sD sT [])) (keyC2_size (keyD sD sT []) (by first | exact keyD_length _ _ _ | rfl)) (by rw [hsz]; rfl) (keyC2_one (keyD sD sT []))
  go_upto_region 18 with (go_at_call 19; refine C.out.mono ?_; rintro e w1 ⟨rfl, HC⟩; have hsc := HSC.out w1)
  clear x1 x2 x3 hsz hsc HSC C
  have nb := (Below.refl w1.heap.size w1).alloc (Nat.le_refl _) (.cells (keyC2 (keyD sD sT [])) 39)
  have bb := below_step HC.out nb
  clear nb HC
  replace L2 := Lib.hid (L2.out.later bb)
  replace K3 := Lib.hid (blk_later K3.out bb)
  replace L4 := Lib.hid (L4.out.later bb)
  replace K5 := Lib.hid (blk_later K5.out bb)
  replace L7 := Lib.hid (L7.out.later bb)
  replace L9 := Lib.hid (L9.out.later bb)
  replace L11 := Lib.hid (L11.out.later bb)
  replace K13 := Lib.hid (blk_later K13.out bb)
  replace L15 := Lib.hid (L15.out.later bb)
  replace K16 := Lib.hid (blk_later K16.out bb)
  replace HB := Lib.hid (below_step HB.out bb)
  clear bb
  generalize w1.alloc (.cells (keyC2 (keyD sD sT [])) 39) = W17 at *
  generalize w1.heap.size = k17 at *
  clear w1 W16
  -- region 18
  obtain ⟨x1, x2, x3⟩ := box_walk L15.out.box
  have C := Lib.hid (led_parts 351 san16 (enroll_12 W17 _ (.slice none 0 0) sD sT sK [] L15.out.led fit_D rfl (by decide) (bytes_nil _)))
  go_upto_region 19 with (first | (go_at_call 12; refine C.out.mono ?_; rintro e w1 ⟨o18, n18, a18, la18, qa18, b18, lb18, qb18, c18, lc18, qc18, d18, ld18, qd18, rfl, HL, HC⟩) | (refine wpList_load_row rfl 39 _ rfl k3 rfl 39 (keyC2 sK) (0, 0) _ K3.out und39 rfl S39.out ?_))
  clear x1 x2 x3
  have nb := (Below.refl w1.heap.size w1).alloc (Nat.le_refl _) (.cells #[.int .i64 o18, .int .i64 n18, .slice a18 la18 qa18, .slice b18 lb18 qb18, .slice c18 lc18 qc18, .slice d18 ld18 qd18] 26)
  have bb := below_step HC.out nb
  clear nb HC HL C
  replace L2 := Lib.hid (L2.out.later bb)
  replace K3 := Lib.hid (blk_later K3.out bb)
  replace L4 := Lib.hid (L4.out.later bb)
  replace K5 := Lib.hid (blk_later K5.out bb)
  replace L7 := Lib.hid (L7.out.later bb)
  replace L9 := Lib.hid (L9.out.later bb)
  replace L11 := Lib.hid (L11.out.later bb)
  replace K13 := Lib.hid (blk_later K13.out bb)
  replace L15 := Lib.hid (L15.out.later bb)
  replace K16 := Lib.hid (blk_later K16.out bb)
  replace HB := Lib.hid (below_step HB.out bb)
  clear bb
  generalize w1.alloc (.cells #[.int .i64 o18, .int .i64 n18, .slice a18 la18 qa18, .slice b18 lb18 qb18, .slice c18 lc18 qc18, .slice d18 ld18 qd18] 26) = W18 at *
  generalize w1.heap.size = k18 at *
  clear w1 W17
  -- region 19
  obtain ⟨x1, x2, x3⟩ := box_walk L15.out.box
  have C := Lib.hid (led_parts 4 san17 (demand_15 W18 _ sD ⟨#[98]⟩ 0 L15.out.led fit_D))
  go_upto_region 20 with (go_at_call 15; refine C.out.mono ?_; rintro e w1 ⟨o19, n19, a19, la19, qa19, b19, lb19, qb19, c19, lc19, qc19, d19, ld19, qd19, rfl, HL, HC⟩)
  clear x1 x2 x3
  have nb := (Below.refl w1.heap.size w1).alloc (Nat.le_refl _) (.cells #[.int .i64 o19, .int .i64 n19, .slice a19 la19 qa19, .slice b19 lb19 qb19, .slice c19 lc19 qc19, .slice d19 ld19 qd19] 26)
  have bb := below_step HC.out nb
  clear nb HC HL C
  replace L2 := Lib.hid (L2.out.later bb)
  replace K3 := Lib.hid (blk_later K3.out bb)
  replace L4 := Lib.hid (L4.out.later bb)
  replace K5 := Lib.hid (blk_later K5.out bb)
  replace L7 := Lib.hid (L7.out.later bb)
  replace L9 := Lib.hid (L9.out.later bb)
  replace L11 := Lib.hid (L11.out.later bb)
  replace K13 := Lib.hid (blk_later K13.out bb)
  replace L15 := Lib.hid (L15.out.later bb)
  replace K16 := Lib.hid (blk_later K16.out bb)
  replace HB := Lib.hid (below_step HB.out bb)
  clear bb
  generalize w1.alloc (.cells #[.int .i64 o19, .int .i64 n19, .slice a19 la19 qa19, .slice b19 lb19 qb19, .slice c19 lc19 qc19, .slice d19 ld19 qd19] 26) = W19 at *
  generalize w1.heap.size = k19 at *
  clear w1 W18
  -- region 20
  obtain ⟨x1, x2, x3⟩ := box_walk L4.out.box
  have C := Lib.hid (led_parts 240 san18 (enroll_12 W19 _ (.slice none 0 0) sA sT sK [] L4.out.led fit_A rfl (by decide) (bytes_nil _)))
  go_upto_region 21 with (first | (go_at_call 12; refine C.out.mono ?_; rintro e w1 ⟨o20, n20, a20, la20, qa20, b20, lb20, qb20, c20, lc20, qc20, d20, ld20, qd20, rfl, HL, HC⟩) | (refine wpList_load_row rfl 39 _ rfl k3 rfl 39 (keyC2 sK) (0, 0) _ K3.out und39 rfl S39.out ?_))
  clear x1 x2 x3
  have nb := (Below.refl w1.heap.size w1).alloc (Nat.le_refl _) (.cells #[.int .i64 o20, .int .i64 n20, .slice a20 la20 qa20, .slice b20 lb20 qb20, .slice c20 lc20 qc20, .slice d20 ld20 qd20] 26)
  have bb := below_step HC.out nb
  clear nb HC HL C
  replace L2 := Lib.hid (L2.out.later bb)
  replace K3 := Lib.hid (blk_later K3.out bb)
  replace L4 := Lib.hid (L4.out.later bb)
  replace K5 := Lib.hid (blk_later K5.out bb)
  replace L7 := Lib.hid (L7.out.later bb)
  replace L9 := Lib.hid (L9.out.later bb)
  replace L11 := Lib.hid (L11.out.later bb)
  replace K13 := Lib.hid (blk_later K13.out bb)
  replace L15 := Lib.hid (L15.out.later bb)
  replace K16 := Lib.hid (blk_later K16.out bb)
  replace HB := Lib.hid (below_step HB.out bb)
  clear bb
  generalize w1.alloc (.cells #[.int .i64 o20, .int .i64 n20, .slice a20 la20 qa20, .slice b20 lb20 qb20, .slice c20 lc20 qc20, .slice d20 ld20 qd20] 26) = W20 at *
  generalize w1.heap.size = k20 at *
  clear w1 W19
  -- region 21
  go_upto_region 22 with (go_at_call 38; refine (rewrite_38 _ _ _ _).mono ?_; rintro e w1 ⟨rfl, HC⟩)
  replace K3 := Lib.hid (blk_later K3.out HC)
  replace K5 := Lib.hid (blk_later K5.out HC)
  replace K13 := Lib.hid (blk_later K13.out HC)
  replace K16 := Lib.hid (blk_later K16.out HC)
  replace HB := Lib.hid (below_step HB.out HC)
  clear HC L2 L4 L7 L9 L11 L15 W20
  have e1 := eql_39 w1 sK sK rfl rfl
  have e2 := equal_39 w1 9998 sK sK rfl rfl
  rw [decide_eq_true rfl] at e1 e2
  obtain ⟨x1, x2, x3⟩ := box_walk K16.out
  have eg : Tryz.prog.eqGuardType Tryz.prog.depth 39 = false := by kernel_rfl
  go_upto_region 23 with (first | (refine wpList_load39_want rfl _ rfl k5 rfl K5.out ?_) | (refine wpList_load39_want rfl _ rfl k3 rfl K3.out ?_))
  go_wp2_with (first | (refine wpList_load39_want rfl _ rfl k13 rfl K13.out ?_) | (refine wpList_load39_want rfl _ rfl k3 rfl K3.out ?_))
  go_ret
  exact ⟨rfl, HB.out⟩
end Go.Proofs.YtpbgipdkaaooeaaGreatDoor
