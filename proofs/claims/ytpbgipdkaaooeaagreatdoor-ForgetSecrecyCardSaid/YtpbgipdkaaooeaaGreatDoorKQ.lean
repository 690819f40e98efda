/- Quiet regions: a key loaded from the middle of a block; two keys compared. -/
import Derived.Test.YtpbgipdkaaooeaaGreatDoorZQ
import Derived.BigQuiet
import Derived.Deep.MidRow
open Go Go.Proofs Go.RowKit
namespace Go.Proofs.YtpbgipdkaaooeaaGreatDoor
set_option linter.unusedSimpArgs false
set_option linter.unusedVariables false

theorem wpQuiet_load39 {ops : Array Oper} {C : World → Prop} {Q : Act → Prop} {a : Act} {o : Oper} {rest : List Oper} (hw : Region.wanted o (yielded ops a.tmps) = true) (x : Operand) (ho : o.op = .load 39 x)
    (b i : Nat) (hx : a.eval x = .pointer (some ⟨b, i, none⟩)) (ks : List Int) (hl : ks.length = 32) (hS : ∀ w, C w → w.rangeAt b i (ks.map (Value.int .u8)))
    (h : wpQuiet Tryz.prog ops C Q rest (a.put o.dst (.agg (keyC2 ks)))) : wpQuiet Tryz.prog ops C Q (o :: rest) a :=
  BigFrame.wpQuiet_want hw fun K hK => ⟨.agg (keyC2 ks), fun w hw' => by
    unfold Oper.quietAt execOp
    simp only [ho, hx, Instr.loadAt, Instr.sureAddr, Sem.run_bind, Sem.run_pure, Result.andThen_ok, run_loadVar_mid w b i 39 (ks.map (Value.int .u8)) _ (hS w hw') und39 rfl (by rw [List.length_map, hl]; exact size39)]
    exact ⟨rfl, rfl⟩, hK _ h⟩
theorem eg39 : Tryz.prog.eqGuardType Tryz.prog.depth 39 = false := by kernel_rfl
theorem wpQuiet_neq39 {ops : Array Oper} {C : World → Prop} {Q : Act → Prop} {a : Act} {o : Oper} {rest : List Oper} (hw : Region.wanted o (yielded ops a.tmps) = true) (x y : Operand) (r : TypeId) (ho : o.op = .binOp .neq 39 x y r)
    (p q : List Int) (hx : a.eval x = .agg (keyC2 p)) (hy : a.eval y = .agg (keyC2 q)) (hp : p.length = 32) (hq : q.length = 32)
    (h : wpQuiet Tryz.prog ops C Q rest (a.put o.dst (.bool (!decide (p = q))))) : wpQuiet Tryz.prog ops C Q (o :: rest) a :=
  BigFrame.wpQuiet_want hw fun K hK => ⟨.bool (!decide (p = q)), fun w hw' => by
    unfold Oper.quietAt execOp
    simp only [ho, hx, hy]
    have e : (eqGuard .neq 39 x y (.agg (keyC2 p)) (.agg (keyC2 q))).run Tryz.prog w = .ok () w := by
      unfold eqGuard
      simp [go_sem, eg39]
    simp only [Sem.run_bind, e, Result.andThen_ok, neq_39 w p q hp hq, Sem.run_pure]
    exact ⟨rfl, rfl⟩, hK _ h⟩
theorem rangeAt_drewN (w : World) (n b o : Nat) (cs : List Value) : (w.drewN n).rangeAt b o cs ↔ w.rangeAt b o cs := by
  simp [World.rangeAt]
theorem range_key {w : World} {k : Nat} {ks : List Int} (h : w.heap[k]? = some (.cells (keyC2 ks) 39 (0, 0))) : w.rangeAt k 0 (ks.map (Value.int .u8)) := fun j v hv => by
  rw [(blk_cells h).1, Nat.zero_add, keyC2, List.getElem?_toArray]
  exact hv
end Go.Proofs.YtpbgipdkaaooeaaGreatDoor
