/- Equality of keys; forget.Rewrite without a subject. -/
import Derived.Test.YtpbgipdkaaooeaaGreatDoorZK
import Derived.ChangeKeysEq
open Go Go.Proofs Go.RowKit
namespace Go.Proofs.YtpbgipdkaaooeaaGreatDoor
set_option linter.unusedSimpArgs false
set_option linter.unusedVariables false
attribute [local go_sem ↓] Go.wp_at_zero Go.wp_at_succ

theorem keyC2_at (a : List Int) (h : a.length = 32) (i : Nat) (hi : i < 32) : (keyC2 a)[i]? = some (.int .u8 (a.getD i 0)) := by
  unfold keyC2
  rw [List.getElem?_toArray, List.getElem?_map, List.getElem?_eq_getElem (by omega), List.getD_eq_getElem?_getD, List.getElem?_eq_getElem (by omega)]; rfl
theorem plain5 : Tryz.prog.plainKey 5 = true := by kernel_rfl
theorem cells5 : Tryz.prog.cellsOf 5 = 1 := by kernel_rfl
theorem items_keys (w : World) (d : Nat) (a b : List Int) (ha : a.length = 32) (hb : b.length = 32) : ∀ (is : List Nat), (∀ i ∈ is, i < 32) →
    (Op.eqItems (d + 1) 5 1 (keyC2 a) (keyC2 b) is).run Tryz.prog w = .ok (is.all fun i => a.getD i 0 == b.getD i 0) w
  | [], _ => by simp [Op.eqItems]
  | i :: is, h => by
    have hi := h i (by simp)
    have ih := items_keys w d a b ha hb is (fun j hj => h j (by simp [hj]))
    have p1 := run_part_plain (P := Tryz.prog) w plain5 (keyC2_at a ha i hi)
    have p2 := run_part_plain (P := Tryz.prog) w plain5 (keyC2_at b hb i hi)
    have p3 := run_equalIn_int (P := Tryz.prog) w d 5 .u8 .u8 (a.getD i 0) (b.getD i 0) und5
    simp only [Op.eqItems, Nat.mul_one, Sem.run_bind, p1, p2, p3, Result.andThen_ok, List.all_cons]
    cases hq : (a.getD i 0 == b.getD i 0)
    · simp
    · simpa using ih
theorem all_keys (a b : List Int) (ha : a.length = 32) (hb : b.length = 32) : ((List.range 32).all fun i => a.getD i 0 == b.getD i 0) = decide (a = b) := by
  by_cases h : a = b
  · subst h; simp
  · rw [decide_eq_false h]
    cases hq : (List.range 32).all fun i => a.getD i 0 == b.getD i 0 with
    | false => rfl
    | true =>
      refine absurd (List.ext_getElem (by omega) fun i h1 h2 => ?_) h
      rw [List.all_eq_true] at hq
      have := hq i (by simp; omega)
      simp only [beq_iff_eq] at this
      rw [List.getD_eq_getElem?_getD, List.getElem?_eq_getElem h1, List.getD_eq_getElem?_getD, List.getElem?_eq_getElem h2] at this
      exact this
theorem equal_39 (w : World) (d : Nat) (a b : List Int) (ha : a.length = 32) (hb : b.length = 32) : (Op.equalIn (d + 2) 39 (.agg (keyC2 a)) (.agg (keyC2 b))).run Tryz.prog w = .ok (decide (a = b)) w := by
  obtain ⟨i0, HI⟩ := info5
  rw [run_equalIn_array w (d + 1) (keyC2 a) (keyC2 b) und39 HI.1, cells5, items_keys w d a b ha hb _ (fun i hi => by simpa using hi), all_keys a b ha hb]
theorem eql_39 (w : World) (a b : List Int) (ha : a.length = 32) (hb : b.length = 32) : (binOp .eql 39 (.agg (keyC2 a)) (.agg (keyC2 b))).run Tryz.prog w = .ok (.bool (decide (a = b))) w := by
  rw [run_eql_struct, equal_39 w 9998 a b ha hb]; rfl
theorem neq_39 (w : World) (a b : List Int) (ha : a.length = 32) (hb : b.length = 32) : (binOp .neq 39 (.agg (keyC2 a)) (.agg (keyC2 b))).run Tryz.prog w = .ok (.bool (!decide (a = b))) w := by
  rw [run_neq_struct, equal_39 w 9998 a b ha hb]; rfl

set_option maxRecDepth 100000 in
/-- forget.Rewrite without a subject -/
theorem rewrite_38 (w : World) (cs : Array Value) (v1 v2 : Value) : Calls Tryz.prog 38 #[.agg cs, v1, v2, .string ⟨#[]⟩] w fun e w' => e = .returned (.tuple #[.slice none 0 0, .int .i64 1]) ∧ Below w.heap.size w w' := by
  go_enter Tryz.func38, Tryz.ntmps38
  go_wp2
  go_ret2
  exact ⟨rfl, ((Below.refl _ _).alloc (Nat.le_refl _) _).alloc (by simp) _⟩
end Go.Proofs.YtpbgipdkaaooeaaGreatDoor
