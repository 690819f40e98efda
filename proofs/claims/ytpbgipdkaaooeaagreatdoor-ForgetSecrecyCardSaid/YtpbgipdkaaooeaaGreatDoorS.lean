/- share.newTables, mul, div: GF(2^8) by tables. -/
import Derived.Test.YtpbgipdkaaooeaaGreatDoorM
import Derived.BigQuiet
open Go Go.Proofs Go.RowKit
namespace Go.Proofs.YtpbgipdkaaooeaaGreatDoor
set_option linter.unusedSimpArgs false
set_option linter.unusedVariables false
attribute [local go_sem ↓] Go.wp_at_zero Go.wp_at_succ
def xstep (x : Nat) : Nat := let y := x ^^^ (x * 2); if y > 255 then y ^^^ 283 else y
def gpow : Nat → Nat
  | 0 => 1
  | n + 1 => xstep (gpow n)
noncomputable def tabAt : Nat → Array Value
  | 0 => Tryz.zeroCells176
  | n + 1 => (((tabAt n).setIfInBounds n (.int .u8 (gpow n))).setIfInBounds (n + 255) (.int .u8 (gpow n))).setIfInBounds (510 + gpow n) (.int .i64 n)
theorem xstep_lt (x : Nat) (h : x < 256) : xstep x < 256 := by
  have : ∀ n : Fin 256, xstep n.1 < 256 := by decide +kernel
  exact this ⟨x, h⟩
theorem xs_xor : ∀ n : Fin 256, bits BinOp.xor IntKind.i64 (n.1 : Int) ((n.1 : Int) * 2) = ((n.1 ^^^ (n.1 * 2) : Nat) : Int) ∧ bits BinOp.xor IntKind.i64 (bits BinOp.xor IntKind.i64 (n.1 : Int) ((n.1 : Int) * 2)) 283 = (((n.1 ^^^ (n.1 * 2)) ^^^ 283 : Nat) : Int) := by decide +kernel
theorem xs_small {x : Nat} (hx : x < 256) (h : bits BinOp.xor IntKind.i64 (x : Int) ((x : Int) * 2) ≤ 255) : bits BinOp.xor IntKind.i64 (x : Int) ((x : Int) * 2) = ((xstep x : Nat) : Int) := by
  have := (xs_xor ⟨x, hx⟩).1
  simp only at this
  rw [this] at h ⊢
  unfold xstep
  simp only
  rw [if_neg (by omega)]
theorem xs_big {x : Nat} (hx : x < 256) (h : 255 < bits BinOp.xor IntKind.i64 (x : Int) ((x : Int) * 2)) : bits BinOp.xor IntKind.i64 (bits BinOp.xor IntKind.i64 (x : Int) ((x : Int) * 2)) 283 = ((xstep x : Nat) : Int) := by
  have h1 := (xs_xor ⟨x, hx⟩).1
  have h2 := (xs_xor ⟨x, hx⟩).2
  simp only at h1 h2
  rw [h1] at h
  rw [h2]
  unfold xstep
  simp only
  rw [if_pos (by omega)]
theorem gpow_lt (n : Nat) : gpow n < 256 := by
  induction n with
  | zero => simp [gpow]
  | succ n ih => exact xstep_lt _ ih
theorem zero_size : Tryz.zeroCells176.size = 766 := by kernel_rfl
theorem tabAt_size (n : Nat) : (tabAt n).size = 766 := by
  induction n with
  | zero => exact zero_size
  | succ n ih => simp [tabAt, ih]
set_option maxRecDepth 100000 in
/-- share.newTables -/
theorem tab_73 (w : World) : Calls Tryz.prog 73 #[] w fun e w' => e = .returned (.pointer (some ⟨w.heap.size, 0, none⟩)) ∧ Below w.heap.size w w' ∧ w'.heap[w.heap.size]? = some (.cells (tabAt 255) 176 (0, 0)) := by
  go_enter Tryz.func73, Tryz.ntmps73
  go_wp2
  go_loopw [2, 6] (fun x i wr => ∃ n : Nat, n ≤ 255 ∧ x = .int .i64 (gpow n) ∧ i = .int .i64 n ∧ Below w.heap.size w wr ∧ wr.heap[w.heap.size]? = some (.cells (tabAt n) 176 (0, 0))) (fun _ i _ => 255 - (intOf i).toNat)
  case atStart => exact ⟨0, by omega, rfl, rfl, (Below.refl _ _).alloc (Nat.le_refl _) _, heap_alloc_new _ _⟩
  case round =>
    obtain ⟨n, hn, rfl, rfl, hB, hblk⟩ := hrel
    by_cases hlt : n < 255
    · have hx := gpow_lt n
      obtain ⟨q1, q2, q3⟩ := box_walk hblk
      have hs := tabAt_size n
      have r1 : ∃ u, wr.cell? ⟨w.heap.size, n, none⟩ = some u := ⟨(tabAt n)[n], by rw [q1 n, Array.getElem?_eq_getElem (by omega)]⟩
      have r2 : ∃ u, wr.cell? ⟨w.heap.size, n + 255, none⟩ = some u := ⟨(tabAt n)[n + 255], by rw [q1 (n + 255), Array.getElem?_eq_getElem (by omega)]⟩
      have r3 : ∃ u, wr.cell? ⟨w.heap.size, 510 + gpow n, none⟩ = some u := ⟨(tabAt n)[510 + gpow n], by rw [q1 (510 + gpow n), Array.getElem?_eq_getElem (by omega)]⟩
      obtain ⟨u1, r1⟩ := r1
      obtain ⟨u2, r2⟩ := r2
      obtain ⟨u3, r3⟩ := r3
      have HB := Lib.hid hblk
      have HS := Lib.hid hs
      clear q1 hblk hs
      have HX : Hid (xstep (gpow n) = gpow (n + 1)) := Lib.hid rfl
      have HT : Hid (tabAt (n + 1) = (((tabAt n).setIfInBounds n (.int .u8 (gpow n))).setIfInBounds (n + 255) (.int .u8 (gpow n))).setIfInBounds (510 + gpow n) (.int .i64 n)) := Lib.hid rfl
      generalize gpow n = x at *
      generalize tabAt n = tb at *
      go_upto_region 6 with fail
      go_region
      go_wp2_with fail
      · go_roundw
        case rel =>
          refine ⟨n + 1, by omega, ?_, by go_num, ?_, ?_⟩
          · rw [← HX.out]; exact congrArg (Value.int .i64) (xs_big hx (by assumption))
          · exact (((hB.setCell (Nat.le_refl _) _).setCell (Nat.le_refl _) _).setCell (Nat.le_refl _) _).drew
          · rw [HT.out]; exact blk_set (blk_set (blk_set HB.out _ _) _ _) _ _
        case measure => simp [intOf]; omega
      · go_roundw
        case rel =>
          refine ⟨n + 1, by omega, ?_, by go_num, ?_, ?_⟩
          · rw [← HX.out]; exact congrArg (Value.int .i64) (xs_small hx (by omega))
          · exact (((hB.setCell (Nat.le_refl _) _).setCell (Nat.le_refl _) _).setCell (Nat.le_refl _) _).drew
          · rw [HT.out]; exact blk_set (blk_set (blk_set HB.out _ _) _ _) _ _
        case measure => simp [intOf]; omega
    · obtain rfl : n = 255 := by omega
      go_wp2
      go_ret
      exact ⟨rfl, hB, hblk⟩

def expL : List Nat := [1, 3, 5, 15, 17, 51, 85, 255, 26, 46, 114, 150, 161, 248, 19, 53, 95, 225, 56, 72, 216, 115, 149, 164, 247, 2, 6, 10, 30, 34, 102, 170, 229, 52, 92, 228, 55, 89, 235, 38, 106, 190, 217, 112, 144, 171, 230, 49, 83, 245, 4, 12, 20, 60, 68, 204, 79, 209, 104, 184, 211, 110, 178, 205, 76, 212, 103, 169, 224, 59, 77, 215, 98, 166, 241, 8, 24, 40, 120, 136, 131, 158, 185, 208, 107, 189, 220, 127, 129, 152, 179, 206, 73, 219, 118, 154, 181, 196, 87, 249, 16, 48, 80, 240, 11, 29, 39, 105, 187, 214, 97, 163, 254, 25, 43, 125, 135, 146, 173, 236, 47, 113, 147, 174, 233, 32, 96, 160, 251, 22, 58, 78, 210, 109, 183, 194, 93, 231, 50, 86, 250, 21, 63, 65, 195, 94, 226, 61, 71, 201, 64, 192, 91, 237, 44, 116, 156, 191, 218, 117, 159, 186, 213, 100, 172, 239, 42, 126, 130, 157, 188, 223, 122, 142, 137, 128, 155, 182, 193, 88, 232, 35, 101, 175, 234, 37, 111, 177, 200, 67, 197, 84, 252, 31, 33, 99, 165, 244, 7, 9, 27, 45, 119, 153, 176, 203, 70, 202, 69, 207, 74, 222, 121, 139, 134, 145, 168, 227, 62, 66, 198, 81, 243, 14, 18, 54, 90, 238, 41, 123, 141, 140, 143, 138, 133, 148, 167, 242, 13, 23, 57, 75, 221, 124, 132, 151, 162, 253, 28, 36, 108, 180, 199, 82, 246]
def logL : List Nat := [0, 0, 25, 1, 50, 2, 26, 198, 75, 199, 27, 104, 51, 238, 223, 3, 100, 4, 224, 14, 52, 141, 129, 239, 76, 113, 8, 200, 248, 105, 28, 193, 125, 194, 29, 181, 249, 185, 39, 106, 77, 228, 166, 114, 154, 201, 9, 120, 101, 47, 138, 5, 33, 15, 225, 36, 18, 240, 130, 69, 53, 147, 218, 142, 150, 143, 219, 189, 54, 208, 206, 148, 19, 92, 210, 241, 64, 70, 131, 56, 102, 221, 253, 48, 191, 6, 139, 98, 179, 37, 226, 152, 34, 136, 145, 16, 126, 110, 72, 195, 163, 182, 30, 66, 58, 107, 40, 84, 250, 133, 61, 186, 43, 121, 10, 21, 155, 159, 94, 202, 78, 212, 172, 229, 243, 115, 167, 87, 175, 88, 168, 80, 244, 234, 214, 116, 79, 174, 233, 213, 231, 230, 173, 232, 44, 215, 117, 122, 235, 22, 11, 245, 89, 203, 95, 176, 156, 169, 81, 160, 127, 12, 246, 111, 23, 196, 73, 236, 216, 67, 31, 45, 164, 118, 123, 183, 204, 187, 62, 90, 251, 96, 177, 134, 59, 82, 161, 108, 170, 85, 41, 157, 151, 178, 135, 144, 97, 190, 220, 252, 188, 149, 207, 205, 55, 63, 91, 209, 83, 57, 132, 60, 65, 162, 109, 71, 20, 42, 158, 93, 86, 242, 211, 171, 68, 17, 146, 217, 35, 32, 46, 137, 180, 124, 184, 38, 119, 153, 227, 165, 103, 74, 237, 222, 197, 49, 254, 24, 13, 99, 140, 128, 192, 247, 112, 7]
theorem exp_gpow : ∀ k : Fin 255, expL.getD k.1 0 = gpow k.1 := by decide +kernel
theorem log_exp : ∀ k : Fin 255, logL.getD (expL.getD k.1 0) 0 = k.1 := by decide +kernel
theorem exp_log : ∀ a : Fin 256, a.1 ≠ 0 → expL.getD (logL.getD a.1 0) 0 = a.1 ∧ logL.getD a.1 0 < 255 := by decide +kernel
theorem gpow_255 : gpow 255 = 1 := by decide +kernel
theorem gpow_inj {j k : Nat} (hj : j < 255) (hk : k < 255) (h : gpow j = gpow k) : j = k := by
  have h1 := log_exp ⟨j, hj⟩
  have h2 := log_exp ⟨k, hk⟩
  have e1 := exp_gpow ⟨j, hj⟩
  have e2 := exp_gpow ⟨k, hk⟩
  simp only at h1 h2 e1 e2
  rw [e1, h] at h1
  rw [e2] at h2
  omega
/-- The last index below n at which the power is a. -/
def last : Nat → Nat → Nat
  | 0, _ => 0
  | n + 1, a => if gpow n = a then n else last n a
theorem last_hit {k : Nat} : ∀ n, n ≤ 255 → k < n → last n (gpow k) = k := by
  intro n
  induction n with
  | zero => intro _ h; omega
  | succ n ih =>
    intro hn hk
    unfold last
    split
    · exact gpow_inj (by omega) (by omega) ‹_›
    · exact ih (by omega) (by
        rcases Nat.lt_succ_iff_lt_or_eq.1 hk with h | rfl
        · exact h
        · simp at *)
theorem log_last {a : Nat} (h0 : a ≠ 0) (h : a < 256) : last 255 a = logL.getD a 0 := by
  have h1 := exp_log ⟨a, h⟩ h0
  simp only at h1
  have e := exp_gpow ⟨logL.getD a 0, h1.2⟩
  simp only at e
  rw [h1.1] at e
  have := last_hit (k := logL.getD a 0) 255 (Nat.le_refl _) h1.2
  rw [← e] at this
  exact this
theorem zero_at : ∀ k : Fin 766, Tryz.zeroCells176[k.1]? = some (if k.1 < 510 then .int .u8 0 else .int .i64 0) := by
  have h : Tryz.zeroCells176 = Array.replicate 510 (.int .u8 0) ++ Array.replicate 256 (.int .i64 0) := by kernel_rfl
  intro k
  have hk2 := k.2
  by_cases hk : k.1 < 510
  · rw [h, Array.getElem?_append_left (by simpa using hk), Array.getElem?_replicate, if_pos hk, if_pos hk]
  · rw [h, Array.getElem?_append_right (by simp; omega), Array.getElem?_replicate, if_neg hk, if_pos (by simp; omega)]
theorem tab_at : ∀ n, n ≤ 255 → ∀ k, k < 766 → (tabAt n)[k]? = some (if k < 510 then .int .u8 (if k % 255 < n then gpow (k % 255) else 0 : Nat) else .int .i64 (last n (k - 510) : Nat)) := by
  intro n
  induction n with
  | zero =>
    intro _ k hk
    have := zero_at ⟨k, hk⟩
    simp only [tabAt, last]
    rw [this]; simp
  | succ n ih =>
    intro hn k hk
    have ih := ih (by omega) k hk
    have hs := tabAt_size n
    have hg := gpow_lt n
    unfold tabAt
    rw [Array.getElem?_setIfInBounds, Array.getElem?_setIfInBounds, Array.getElem?_setIfInBounds]
    simp only [Array.size_setIfInBounds, hs]
    by_cases h3 : 510 + gpow n = k
    · subst h3
      rw [if_pos rfl, if_pos (by omega), if_neg (by omega)]
      simp [last]
    · rw [if_neg h3]
      by_cases h2 : n + 255 = k
      · subst h2
        rw [if_pos rfl, if_pos (by omega), if_pos (by omega), show (n + 255) % 255 = n by omega, if_pos (by omega)]
      · rw [if_neg h2]
        by_cases h1 : n = k
        · subst h1
          rw [if_pos rfl, if_pos (by omega), if_pos (by omega), show n % 255 = n by omega, if_pos (by omega)]
        · rw [if_neg h1, ih]
          by_cases hk5 : k < 510
          · rw [if_pos hk5, if_pos hk5]
            have : (k % 255 < n) ↔ (k % 255 < n + 1) := by omega
            simp only [this]
          · rw [if_neg hk5, if_neg hk5]
            rw [show last (n + 1) (k - 510) = if gpow n = k - 510 then n else last n (k - 510) from rfl, if_neg (by omega)]
theorem tab_exp {k : Nat} (hk : k < 510) : (tabAt 255)[k]? = some (.int .u8 ((expL.getD (k % 255) 0 : Nat) : Int)) := by
  rw [tab_at 255 (Nat.le_refl _) k (by omega), if_pos hk, if_pos (by omega)]
  have := exp_gpow ⟨k % 255, by omega⟩
  simp only at this
  rw [this]
theorem tab_log {a : Nat} (h0 : a ≠ 0) (h : a < 256) : (tabAt 255)[510 + a]? = some (.int .i64 ((logL.getD a 0 : Nat) : Int)) := by
  rw [tab_at 255 (Nat.le_refl _) (510 + a) (by omega), if_neg (by omega), show 510 + a - 510 = a by omega, log_last h0 h]
def mulD (a b : Nat) : Nat := if a = 0 ∨ b = 0 then 0 else expL.getD ((logL.getD a 0 + logL.getD b 0) % 255) 0
def divD (a b : Nat) : Nat := if a = 0 ∨ b = 0 then 0 else expL.getD ((logL.getD a 0 + 255 - logL.getD b 0) % 255) 0
/-- The tables lie at block k. -/
def TabR (w : World) (k : Nat) : Prop := w.heap[k]? = some (.cells (tabAt 255) 176 (0, 0))

set_option maxRecDepth 100000 in
/-- tables.mul -/
theorem mul_88 (w : World) (k a b : Nat) (h : TabR w k) (ha : a < 256) (hb : b < 256) :
    Calls Tryz.prog 88 #[.pointer (some ⟨k, 0, none⟩), .int .u8 a, .int .u8 b] w fun e w' => e = .returned (.int .u8 (mulD a b)) ∧ Below w.heap.size w w' := by
  obtain ⟨q1, q2, q3⟩ := box_walk h
  unfold mulD
  by_cases h1 : a = 0
  · rw [if_pos (Or.inl h1)]
    have h1' : (a : Int) = 0 := by omega
    clear q1 q2 h h1
    go_enter Tryz.func88, Tryz.ntmps88
    go_wp2
    go_ret
    exact ⟨rfl, Below.refl _ _⟩
  · by_cases h2 : b = 0
    · rw [if_pos (Or.inr h2)]
      have h1' : ¬ (a : Int) = 0 := by omega
      have h2' : (b : Int) = 0 := by omega
      clear q1 q2 h h1 h2
      go_enter Tryz.func88, Tryz.ntmps88
      go_wp2
      go_ret
      exact ⟨rfl, Below.refl _ _⟩
    · rw [if_neg (by omega)]
      have l1 := tab_log h1 ha
      have l2 := tab_log h2 hb
      have g1 := (exp_log ⟨a, ha⟩ h1).2
      have g2 := (exp_log ⟨b, hb⟩ h2).2
      simp only at g1 g2
      generalize logL.getD a 0 = la at *
      generalize logL.getD b 0 = lb at *
      have l3 := tab_exp (k := la + lb) (by omega)
      rw [← q1] at l1 l2 l3
      clear q1 q2
      generalize expL.getD ((la + lb) % 255) 0 = r at *
      have hna : ((a : Int) == 0) = false := by simp; omega
      have hnb : ((b : Int) == 0) = false := by simp; omega
      go_enter Tryz.func88, Tryz.ntmps88
      go_upto_region 3 with fail
      go_quiet (fail)
      go_wp2
      go_ret
      exact ⟨rfl, ⟨rfl, rfl, rfl, Nat.le_refl _, fun _ _ => rfl⟩⟩

set_option maxRecDepth 100000 in
/-- tables.div -/
theorem div_89 (w : World) (k a b : Nat) (h : TabR w k) (ha : a < 256) (hb : b < 256) :
    Calls Tryz.prog 89 #[.pointer (some ⟨k, 0, none⟩), .int .u8 a, .int .u8 b] w fun e w' => e = .returned (.int .u8 (divD a b)) ∧ Below w.heap.size w w' := by
  obtain ⟨q1, q2, q3⟩ := box_walk h
  unfold divD
  by_cases h1 : a = 0
  · rw [if_pos (Or.inl h1)]
    have h1' : (a : Int) = 0 := by omega
    clear q1 q2 h h1
    go_enter Tryz.func89, Tryz.ntmps89
    go_wp2
    go_ret
    exact ⟨rfl, Below.refl _ _⟩
  · by_cases h2 : b = 0
    · rw [if_pos (Or.inr h2)]
      have h1' : ¬ (a : Int) = 0 := by omega
      have h2' : (b : Int) = 0 := by omega
      clear q1 q2 h h1 h2
      go_enter Tryz.func89, Tryz.ntmps89
      go_wp2
      go_ret
      exact ⟨rfl, Below.refl _ _⟩
    · rw [if_neg (by omega)]
      have l1 := tab_log h1 ha
      have l2 := tab_log h2 hb
      have g1 := (exp_log ⟨a, ha⟩ h1).2
      have g2 := (exp_log ⟨b, hb⟩ h2).2
      simp only at g1 g2
      generalize logL.getD a 0 = la at *
      generalize logL.getD b 0 = lb at *
      have l3 := tab_exp (k := la + 255 - lb) (by omega)
      rw [← q1] at l1 l2 l3
      clear q1 q2
      generalize expL.getD ((la + 255 - lb) % 255) 0 = r at *
      have hna : ((a : Int) == 0) = false := by simp; omega
      have hnb : ((b : Int) == 0) = false := by simp; omega
      go_enter Tryz.func89, Tryz.ntmps89
      go_upto_region 3 with fail
      go_quiet (fail)
      go_wp2
      go_ret
      exact ⟨rfl, ⟨rfl, rfl, rfl, Nat.le_refl _, fun _ _ => rfl⟩⟩
end Go.Proofs.YtpbgipdkaaooeaaGreatDoor
