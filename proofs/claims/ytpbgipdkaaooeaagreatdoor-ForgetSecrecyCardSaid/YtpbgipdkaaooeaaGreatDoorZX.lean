/- law35.ForgetHolds: the walk. -/
import Derived.Test.YtpbgipdkaaooeaaGreatDoorZW
open Go Go.Proofs Go.RowKit
namespace Go.Proofs.YtpbgipdkaaooeaaGreatDoor
set_option linter.unusedSimpArgs false
set_option linter.unusedVariables false
attribute [local go_sem ↓] Go.wp_at_zero Go.wp_at_succ

/-- A box that holds a ledger whose memory is of its own kinds. -/
structure LedBoxO (k : Nat) (o nd : Int) (v2 v3 v4 v5 : Value) (g : LedD) (wx : World) : Prop where
  box : wx.heap[k]? = some (.cells #[.int .i64 o, .int .i64 nd, v2, v3, v4, v5] 26 (0, 0))
  led : LedO 0 wx (.agg #[.int .i64 o, .int .i64 nd, v2, v3, v4, v5]) g
theorem LedBoxO.later {k : Nat} {o nd : Int} {v2 v3 v4 v5 : Value} {g : LedD} {wx w' : World} (h : LedBoxO k o nd v2 v3 v4 v5 g wx) (hb : Below wx.heap.size wx w') : LedBoxO k o nd v2 v3 v4 v5 g w' := ⟨blk_later h.box hb, h.led.later hb⟩
abbrev zLed : Array Value := #[.int .i64 0, .int .i64 0, .slice none 0 0, .slice none 0 0, .slice none 0 0, .slice none 0 0]
theorem LedBoxO.fresh {o nd : Int} {v2 v3 v4 v5 : Value} {g : LedD} {wx : World} (h : LedO 0 wx (.agg #[.int .i64 o, .int .i64 nd, v2, v3, v4, v5]) g) : LedBoxO wx.heap.size o nd v2 v3 v4 v5 g (wx.alloc (.cells #[.int .i64 o, .int .i64 nd, v2, v3, v4, v5] 26)) := ⟨heap_alloc_new _ _, h.later ((Below.refl _ _).alloc (Nat.le_refl _) _)⟩
theorem LedBoxO.stored {k : Nat} {o nd u0 u1 : Int} {v2 v3 v4 v5 a b c d : Value} {g : LedD} {wx : World} (hk : wx.heap[k]? = some (.cells #[.int .i64 u0, .int .i64 u1, a, b, c, d] 26 (0, 0))) (h : LedO 0 wx (.agg #[.int .i64 o, .int .i64 nd, v2, v3, v4, v5]) g) :
    LedBoxO k o nd v2 v3 v4 v5 g ((((((wx.setCell ⟨k, 0, none⟩ (.int .i64 o)).setCell ⟨k, 1, none⟩ (.int .i64 nd)).setCell ⟨k, 2, none⟩ v2).setCell ⟨k, 3, none⟩ v3).setCell ⟨k, 4, none⟩ v4).setCell ⟨k, 5, none⟩ v5) :=
  ⟨blk_set (blk_set (blk_set (blk_set (blk_set (blk_set hk _ _) _ _) _ _) _ _) _ _) _ _, h.six hk (Nat.zero_le _) _ _ _ _ _ _⟩
/-- The ledger after i steps. -/
def histD (g : LedD) (l : List ActD) : Nat → LedD
  | 0 => g
  | i + 1 => doD (histD g l i) (l.getD i default)
structure Small (n : Nat) (g : LedD) : Prop where
  s : g.shares.length ≤ 5
  r : ∀ x ∈ g.shares, x.length ≤ n
  h : g.holds.length ≤ n
  d : g.demands.length ≤ n
  e : g.dones.length ≤ n
theorem Small.up {n : Nat} {g : LedD} (h : Small n g) : Small (n + 1) g := ⟨h.s, fun x hx => Nat.le_succ_of_le (h.r x hx), Nat.le_succ_of_le h.h, Nat.le_succ_of_le h.d, Nat.le_succ_of_le h.e⟩
theorem Small.zero (n : Nat) : Small n zeroLed := ⟨by simp [zeroLed], by simp [zeroLed], by simp [zeroLed], by simp [zeroLed], by simp [zeroLed]⟩
theorem Small.fits {n : Nat} {g : LedD} (h : Small n g) (hn : n ≤ 4095) : Fits g := ⟨Nat.le_trans h.s (by omega), fun x hx => Nat.le_trans (h.r x hx) hn, Nat.le_trans h.h hn, Nat.le_trans h.d hn, Nat.le_trans h.e hn⟩
theorem small_do {n : Nat} {g : LedD} (h : Small n g) (x : ActD) : Small (n + 1) (doD g x) := by
  unfold doD
  split
  · unfold stepD
    split
    · unfold enrollD
      split
      · unfold enrAt
        refine ⟨by simpa using h.s, fun y hy => ?_, h.up.h, h.up.d, h.up.e⟩
        simp only [List.mem_mapIdx] at hy
        obtain ⟨i, hi, rfl⟩ := hy
        have := h.r _ (List.getElem_mem hi)
        split
        · simp; omega
        · omega
      · exact Small.zero _
    · split
      · unfold holdD
        split
        · exact ⟨h.s, h.up.r, by have := h.h; simp; omega, h.up.d, h.up.e⟩
        · exact Small.zero _
      · split
        · unfold demandD
          split
          · split
            · exact h.up
            · exact ⟨h.s, h.up.r, h.up.h, by have := h.d; simp; omega, h.up.e⟩
          · exact Small.zero _
        · unfold giveD
          have hc : Small n (giveCut g x.owner.toNat (subjD x.who)) := by
            unfold giveCut
            refine ⟨by simpa using h.s, fun y hy => ?_, h.h, h.d, h.e⟩
            rcases List.mem_or_eq_of_mem_set hy with hy | hy
            · exact h.r y hy
            · subst hy
              refine Nat.le_trans (List.length_filter_le _ _) ?_
              by_cases hi : x.owner.toNat < g.shares.length
              · rw [List.getD_eq_getElem?_getD, List.getElem?_eq_getElem hi]; exact h.r _ (List.getElem_mem hi)
              · rw [List.getD_eq_getElem?_getD, List.getElem?_eq_none (by omega)]; simp
          split
          · split
            · exact ⟨hc.s, hc.up.r, hc.up.h, hc.up.d, by have := h.e; simp; omega⟩
            · exact hc.up
          · exact Small.zero _
  · exact h.up
theorem small_start (a b : Nat) : Small 0 (startD a b) := by
  unfold startD newD
  split
  · rename_i hB
    unfold newB at hB
    simp only [Bool.and_eq_true, decide_eq_true_eq] at hB
    refine ⟨by simp; omega, fun x hx => ?_, Nat.le_refl _, Nat.le_refl _, Nat.le_refl _⟩
    rw [List.eq_of_mem_replicate hx]; simp
  · exact Small.zero 0
theorem small_hist (a b : Nat) (l : List ActD) : ∀ i, Small i (histD (startD a b) l i)
  | 0 => small_start a b
  | i + 1 => small_do (small_hist a b l i) _

/-! ### The plain law of holds -/
theorem sEq_self (t : ByteArray) : sEq t t = true := by unfold sEq; exact beq_self_eq_true _
theorem force_more (t : ByteArray) (a u : Int) (l : List (ByteArray × Int)) : forceB t a (l ++ [(t, u)]) = (forceB t a l || decide (a < u)) := by
  unfold forceB
  rw [List.any_append]
  simp [sEq_self]
theorem valid_zero : validB zeroLed = false := by decide
theorem demand_held (g : LedD) (t : ByteArray) (a : Int) : demandE (holdD g (t, a + 1)) t a = if demandE g t a = 0 then 350 else demandE g t a := by
  unfold demandE holdD
  cases hv : validB g with
  | false => simp [valid_zero, hv, firstErr]
  | true =>
    have hv2 : validB { g with holds := g.holds ++ [(t, a + 1)] } = true := hv
    simp only [if_true, hv2, force_more, show decide (a < a + 1) = true from decide_eq_true (by omega)]
    cases (firstD t g.dones).isSome <;> cases ((leftD t g.shares : Int) == 0) <;> cases forceB t a g.holds <;> simp [firstErr]
theorem demand_over (g : LedD) (t : ByteArray) (a : Int) : demandE (holdD g (t, a)) t a = demandE g t a := by
  unfold demandE holdD
  cases hv : validB g with
  | false => simp [valid_zero, firstErr]
  | true =>
    have hv2 : validB { g with holds := g.holds ++ [(t, a)] } = true := hv
    simp only [if_true, hv2, force_more]
    simp
theorem bad_zero (o : Int) : giveBad zeroLed o = true := by unfold giveBad; rw [valid_zero]; rfl
theorem give_held (g : LedD) (o : Int) (t : ByteArray) (a : Int) : giveE (holdD g (t, a + 1)) o t a = if giveE g o t a = 0 ∧ (firstD t g.dones).isSome = false then 350 else giveE g o t a := by
  unfold giveE holdD
  cases hv : validB g with
  | false =>
    have : giveBad g o = true := by unfold giveBad; rw [hv]; rfl
    simp [bad_zero, this]
  | true =>
    have hb : giveBad { g with holds := g.holds ++ [(t, a + 1)] } o = giveBad g o := rfl
    simp only [if_true, hb]
    cases giveBad g o with
    | true => simp
    | false =>
      unfold giveL
      simp only [force_more, Bool.false_eq_true, if_false, show decide (a < a + 1) = true from decide_eq_true (by omega)]
      cases (firstD t g.demands).isSome <;> cases hasRow t (g.shares.getD o.toNat []) <;> cases decide (a < atD t g.demands) <;> cases forceB t a g.holds <;> cases (firstD t g.dones).isSome <;> simp [firstErr]
theorem give_over (g : LedD) (o : Int) (t : ByteArray) (a : Int) : giveE (holdD g (t, a)) o t a = giveE g o t a := by
  unfold giveE holdD
  cases hv : validB g with
  | false =>
    have : giveBad g o = true := by unfold giveBad; rw [hv]; rfl
    simp [bad_zero, this]
  | true =>
    have hb : giveBad { g with holds := g.holds ++ [(t, a)] } o = giveBad g o := rfl
    simp only [if_true, hb]
    cases giveBad g o with
    | true => simp
    | false =>
      unfold giveL
      simp only [force_more]
      simp
end Go.Proofs.YtpbgipdkaaooeaaGreatDoor
