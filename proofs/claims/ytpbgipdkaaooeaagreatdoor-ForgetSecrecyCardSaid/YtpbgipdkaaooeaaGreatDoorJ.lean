/- slices.DeleteFunc over shares, in place; forget.Certificate. -/
import Derived.Test.YtpbgipdkaaooeaaGreatDoorI
import Derived.Lib.SliceRun
open Go Go.Proofs Go.RowKit
namespace Go.Proofs.YtpbgipdkaaooeaaGreatDoor
set_option linter.unusedSimpArgs false
set_option linter.unusedVariables false
attribute [local go_sem ↓] Go.wp_at_zero Go.wp_at_succ

set_option maxRecDepth 100000 in
theorem cert_21 (w : World) (v : Value) (g : LedD) (t : ByteArray) (h : LedR w v g) (hf : Fits g) :
    Calls Tryz.prog 21 #[v, .string t] w fun e w' => e = .returned (.tuple #[firstV (firstD t g.dones), .bool (firstD t g.dones).isSome]) ∧ Below w.heap.size w w' := by
  obtain ⟨v2, v3, v4, v5, rfl, hrest⟩ := id h
  obtain ⟨-, -, H4, H5⟩ := hrest
  have F0 := TwoBox.laid w #[.int .i64 g.owners, .int .i64 g.need, v2, v3, v4, v5] #[.string ⟨#[]⟩, .int .i64 0] 26 46
  have C := Lib.hid (dem_53 _ v5 g.dones t (H5.later F0.below) (by have := hf.e; omega))
  have F0 := Lib.hid F0
  obtain ⟨x, y, hxy⟩ := firstV_form (firstD t g.dones)
  rw [hxy] at C ⊢
  generalize (firstD t g.dones).isSome = q at *
  clear hxy h hf H4 H5
  generalize g.owners = o at *
  generalize g.need = nd at *
  go_enter Tryz.func21, Tryz.ntmps21
  go_wp2_with (go_at_call 53; refine C.out.mono ?_; rintro e w' ⟨rfl, b1⟩; have F1 := F0.out.later b1; obtain ⟨c1, c2, c3, c4, c5⟩ := F1.walk)
  refine bodyPost_ret (v := .tuple #[.agg #[.string x, .int .i64 y], .bool q]) (by simp [results, Tryz.results21, go_sem, c3]) rfl ⟨rfl, ?_⟩
  exact (F1.below.setCell (Nat.le_succ _) _).setCell (Nat.le_succ _) _

/-! ### clear on the tail of an owned row -/
theorem grownBy_set (W : World) (g o : Nat) (u : Value) : W.grownBy (W.setCell ⟨g, o, none⟩ u) (some g) :=
  ⟨rfl, rfl, rfl, by simp, fun k _ hk => Below.heap_setCell W ⟨g, o, none⟩ u k (fun h => hk (by simp [h]))⟩
theorem grownBy_sets (g : Nat) : ∀ (vs : List Value) (o : Nat) (W : World), W.grownBy (W.setCells g o vs) (some g)
  | [], _, W => World.grownBy.refl W _
  | u :: r, o, W => (grownBy_set W g o u).trans (grownBy_sets g r (o + 1) _)
theorem sets_blk {g : Nat} {e : TypeId} : ∀ (vs : List Value) (o : Nat) (W : World) (cur : Array Value), W.heap[g]? = some (.cells cur e (0, 0)) →
    ∃ cur', (W.setCells g o vs).heap[g]? = some (.cells cur' e (0, 0)) ∧ cur'.size = cur.size ∧ ∀ k, k ≤ o → cur'.toList.take k = cur.toList.take k
  | [], _, _, cur, h => ⟨cur, h, rfl, fun _ _ => rfl⟩
  | u :: r, o, W, cur, h => by
    obtain ⟨c', h1, h2, h3⟩ := sets_blk r (o + 1) (W.setCell ⟨g, o, none⟩ u) _ (blk_set h o u)
    refine ⟨c', h1, by simpa using h2, fun k hk => ?_⟩
    rw [h3 k (by omega)]
    simp only [Array.toList_setIfInBounds]
    rw [List.take_set_of_le (by omega)]

theorem run_clear_row {P : Program} (w : World) (t e ty : TypeId) (z : Value) (ht : P.underlying t = some (.slice e)) (hv : ∀ w, (zeroValue e).run P w = .ok z w) (hz : z.cells.size = 3) (h1 : ∀ u ∈ z.cells, u.oneCell' = true)
    (base n cap : Nat) (xs : List Value) (g : Nat) (ho : w.ownsRow base e 3 (.slice (some ⟨g, 0, none⟩) n cap) n xs) (i : Nat) (hi : i < n) (c : Nat) :
    ∃ w', (Builtin.clear_ #[t] ty #[.slice (some ⟨g, i * 3, none⟩) (n - i) c]).run P w = .ok (.tuple #[]) w' ∧ w'.ownsRow base e 3 (.slice (some ⟨g, 0, none⟩) i cap) i (xs.take (i * 3)) ∧ w.grownBy w' (some g) := by
  have hzl : (Builtin.zeroCells z.cells (n - i)).toList.length = (n - i) * 3 := by simp [Builtin.zeroCells, hz]
  have hst := run_storeCells_cells (P := P) g (i * 3) (Builtin.zeroCells z.cells (n - i)).toList 0 w
    (by intro j hj; rw [hzl] at hj; rw [ho.cellAt _ (by omega)]; rw [List.getElem?_eq_getElem (by rw [ho.1]; omega)]; rfl)
    (by intro j hj; exact ho.frozenAt _)
    (by
      intro u hu
      simp only [Builtin.zeroCells, Array.toList_map, List.mem_map] at hu
      obtain ⟨k, _, rfl⟩ := hu
      have hk : k % z.cells.size < z.cells.size := Nat.mod_lt _ (by omega)
      rw [getElem!_pos z.cells _ hk]
      exact h1 _ (Array.getElem_mem hk))
  simp only [Nat.add_zero] at hst
  refine ⟨w.setCells g (i * 3) (Builtin.zeroCells z.cells (n - i)).toList, ?_, ?_, grownBy_sets g _ _ w⟩
  · obtain ⟨m, hm⟩ : ∃ m, n - i = m + 1 := ⟨n - i - 1, by omega⟩
    rw [hm] at hst ⊢
    simp [Builtin.clear_, run_underlying ht, hv, hst]
  · refine ⟨by rw [List.length_take, ho.1]; omega, ?_⟩
    rcases ho.2 with ⟨h0, _⟩ | ⟨g', cap', cur, hvv, hb, hh, hnc, hcm, hcs, htk⟩
    · simp at h0
    · simp only [Value.slice.injEq, Option.some.injEq, Addr.mk.injEq, and_true, true_and] at hvv
      obtain ⟨rfl, rfl⟩ := hvv
      obtain ⟨c', e1, e2, e3⟩ := sets_blk (Builtin.zeroCells z.cells (n - i)).toList (i * 3) w cur hh
      refine .inr ⟨g, cap, c', rfl, hb, e1, by omega, hcm, by rw [e2, hcs], ?_⟩
      rw [e3 _ (Nat.le_refl _), ← htk, List.take_take]
      congr 1; omega

/-- .. at the operation. -/
theorem wpList_clear_row {P : Program} {w : World} {ops : Array Oper} {rest : List Oper} {o : Oper} {a : Act} {Q : Exit → Act → World → Prop} (hgd : o.guard = none) (s : Operand) (t e : TypeId)
    (ho : o.op = .call { callee := .builtin .clear, args := #[s], argTypes := #[t] }) (z : Value) (ht : P.underlying t = some (.slice e)) (hv : ∀ w, (zeroValue e).run P w = .ok z w) (hz : z.cells.size = 3) (h1 : ∀ u ∈ z.cells, u.oneCell' = true)
    (base n cap : Nat) (xs : List Value) (g : Nat) (hown : w.ownsRow base e 3 (.slice (some ⟨g, 0, none⟩) n cap) n xs) (i : Nat) (hi : i < n) (c : Nat) (hs : a.eval s = .slice (some ⟨g, i * 3, none⟩) (n - i) c)
    (h : ∀ w', w'.ownsRow base e 3 (.slice (some ⟨g, 0, none⟩) i cap) i (xs.take (i * 3)) → w.grownBy w' (some g) → wpList P ops Q rest (a.put o.dst (.tuple #[])) w') : wpList P ops Q (o :: rest) a w := by
  refine wpList_plain hgd fun K hK => ?_
  obtain ⟨w', hr, h2, h3⟩ := run_clear_row w t e o.type z ht hv hz h1 base n cap xs g hown i hi c
  unfold Oper.wp execOp
  simp only [ho, resolve, invoke, builtin, Sem.run_bind, Sem.run_pure, Result.andThen_ok, List.map_toArray, List.map_cons, List.map_nil, hs, hr]
  exact hK _ _ (h w' h2 h3)

theorem zero90 (w : World) : (zeroValue 90).run Tryz.prog w = .ok (.agg #[.string ⟨#[]⟩, .int .u8 0, .slice none 0 0]) w := by kernel_rfl

/-- What is kept: the shares of others. -/
def keepP (t : ByteArray) (p : ByteArray × Int × Value) : Bool := !sEq p.1 t

theorem heldCells_set (qs : List (ByteArray × Int × Value)) : ∀ (i : Nat) (q : ByteArray × Int × Value), i < qs.length → (((heldCells qs).set (i * 3) (.string q.1)).set (i * 3 + 1) (.int .u8 q.2.1)).set (i * 3 + 2) q.2.2 = heldCells (qs.set i q) := by
  induction qs with
  | nil => intro i q h; simp at h
  | cons a l ih =>
    intro i q h
    have e : ∀ a l, heldCells (a :: l) = .string a.1 :: .int .u8 a.2.1 :: a.2.2 :: heldCells l := by intro a l; simp [heldCells]
    cases i with
    | zero => simp [e]
    | succ i =>
      have := ih i q (by simpa using h)
      rw [e, show (i + 1) * 3 = i * 3 + 1 + 1 + 1 by omega]
      simp only [List.set_cons_succ, e]
      rw [this]
theorem heldCells_take (qs : List (ByteArray × Int × Value)) : ∀ (i : Nat), (heldCells qs).take (i * 3) = heldCells (qs.take i) := by
  induction qs with
  | nil => intro i; simp [heldCells]
  | cons a l ih =>
    intro i
    have e : ∀ a l, heldCells (a :: l) = .string a.1 :: .int .u8 a.2.1 :: a.2.2 :: heldCells l := by intro a l; simp [heldCells]
    cases i with
    | zero => simp [heldCells]
    | succ i => rw [e, show (i + 1) * 3 = i * 3 + 1 + 1 + 1 by omega]; simp only [List.take_succ_cons, e, ih]

/-- The loop of DeleteFunc: i shares kept of the first j. -/
structure DelInv (w : World) (B g cap : Nat) (ps : List (ByteArray × Int × Value)) (t : ByteArray) (i j : Nat) (qs : List (ByteArray × Int × Value)) (wr : World) : Prop where
  len : qs.length = ps.length
  lt : i < j
  le : j ≤ ps.length
  own : wr.ownsRow B 90 3 (.slice (some ⟨g, 0, none⟩) ps.length cap) ps.length (heldCells qs)
  front : qs.take i = (ps.take j).filter (keepP t)
  back : qs.drop j = ps.drop j
  grown : w.grownBy wr (some g)

theorem DelInv.start {w : World} {B g cap : Nat} {ps : List (ByteArray × Int × Value)} {t : ByteArray} {i : Nat} (ho : w.ownsRow B 90 3 (.slice (some ⟨g, 0, none⟩) ps.length cap) ps.length (heldCells ps)) (hi : i < ps.length)
    (hit : keepP t ps[i] = false) (hno : ∀ (j : Nat) (h : j < ps.length), j < i → keepP t ps[j] = true) {w' : World} (hb : Below w.heap.size w w') : DelInv w B g cap ps t i (i + 1) ps w' := by
  refine ⟨rfl, Nat.lt_succ_self _, hi, owns_later ho hb, ?_, rfl, ⟨hb.os, hb.tape, hb.output, hb.size, fun k hk _ => hb.block k hk⟩⟩
  rw [List.take_succ_eq_append_getElem hi, List.filter_append]
  have h1 : (ps.take i).filter (keepP t) = ps.take i := by
    rw [List.filter_eq_self]
    intro x hx
    obtain ⟨j, hj, rfl⟩ := List.mem_iff_getElem.1 hx
    simp only [List.length_take] at hj
    rw [List.getElem_take]
    exact hno j (by omega) (by omega)
  rw [h1]
  simp [hit]

section
variable {w wr w' : World} {B g cap : Nat} {ps qs : List (ByteArray × Int × Value)} {t : ByteArray} {i j : Nat}
theorem DelInv.at (h : DelInv w B g cap ps t i j qs wr) (hj : j < ps.length) : qs[j]? = some ps[j] := by
  have := congrArg (·[0]?) h.back
  simp only [List.getElem?_drop, Nat.add_zero] at this
  rw [this, List.getElem?_eq_getElem hj]
theorem DelInv.cells (h : DelInv w B g cap ps t i j qs wr) (hj : j < ps.length) : wr.cell? ⟨g, j * 3, none⟩ = some (.string ps[j].1) ∧ wr.cell? ⟨g, j * 3 + 1, none⟩ = some (.int .u8 ps[j].2.1) ∧ wr.cell? ⟨g, j * 3 + 2, none⟩ = some ps[j].2.2 := by
  have hq := h.at hj
  have hjq : j < qs.length := by rw [h.len]; exact hj
  rw [List.getElem?_eq_getElem hjq] at hq
  have hq := Option.some.inj hq
  have hat := heldCells_at qs j hjq
  rw [hq] at hat
  rw [h.own.cellAt _ (by omega), h.own.cellAt _ (by omega), h.own.cellAt _ (by omega)]
  exact hat
theorem DelInv.drop (h : DelInv w B g cap ps t i j qs wr) (hj : j < ps.length) (hk : keepP t ps[j] = false) (hb : Below wr.heap.size wr w') : DelInv w B g cap ps t i (j + 1) qs w' := by
  refine ⟨h.len, by have := h.lt; omega, hj, owns_later h.own hb, ?_, ?_, h.grown.trans ⟨hb.os, hb.tape, hb.output, hb.size, fun k hk _ => hb.block k hk⟩⟩
  · rw [h.front, List.take_succ_eq_append_getElem hj, List.filter_append]; simp [hk]
  · have := congrArg (List.drop 1) h.back
    simpa [List.drop_drop] using this
theorem DelInv.keep (h : DelInv w B g cap ps t i j qs wr) (hj : j < ps.length) (hk : keepP t ps[j] = true) (hb : Below wr.heap.size wr w') :
    DelInv w B g cap ps t (i + 1) (j + 1) (qs.set i ps[j]) (((w'.setCell ⟨g, i * 3, none⟩ (.string ps[j].1)).setCell ⟨g, i * 3 + 1, none⟩ (.int .u8 ps[j].2.1)).setCell ⟨g, i * 3 + 2, none⟩ ps[j].2.2) := by
  have hiq : i < qs.length := by have := h.lt; have := h.len; omega
  have s1 := (owns_later h.own hb).stored (i * 3) (.string ps[j].1)
  have s2 := s1.1.stored (i * 3 + 1) (.int .u8 ps[j].2.1)
  have s3 := s2.1.stored (i * 3 + 2) ps[j].2.2
  have hs := s3.1
  rw [heldCells_set qs i ps[j] hiq] at hs
  refine ⟨by simpa using h.len, by have := h.lt; omega, hj, hs, ?_, ?_, (((h.grown.trans ⟨hb.os, hb.tape, hb.output, hb.size, fun k hk _ => hb.block k hk⟩).trans s1.2).trans s2.2).trans s3.2⟩
  · rw [List.take_succ_eq_append_getElem hj, List.filter_append, ← h.front, List.take_succ_eq_append_getElem (by simpa using hiq)]
    simp [hk, List.take_set_of_le]
  · rw [List.drop_set_of_lt (by have := h.lt; omega)]
    have := congrArg (List.drop 1) h.back
    simpa [List.drop_drop] using this
end
end Go.Proofs.YtpbgipdkaaooeaaGreatDoor
