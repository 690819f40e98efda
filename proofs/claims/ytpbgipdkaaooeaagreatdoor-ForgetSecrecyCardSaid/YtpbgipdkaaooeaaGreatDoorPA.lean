/- GF(2^8) by tables: the laws of a field. No program in sight. -/
import Derived.Test.YtpbgipdkaaooeaaGreatDoorV
open Go Go.Proofs Go.RowKit
namespace Go.Proofs.YtpbgipdkaaooeaaGreatDoor
set_option linter.unusedSimpArgs false
set_option linter.unusedVariables false

/-- Doubling in GF(2^8). -/
def mstep (x : Nat) : Nat := if 2 * x > 255 then (2 * x) ^^^ 283 else 2 * x
/-- Multiplication as in school. -/
def rmulL : Nat → Nat → Nat → Nat → Nat
  | 0, out, _, _ => out
  | f + 1, out, x, y => rmulL f (if y % 2 = 1 then out ^^^ x else out) (mstep x) (y / 2)
def rmul (a b : Nat) : Nat := rmulL 8 0 a b
def allB : Nat → (Nat → Bool) → Bool
  | 0, _ => true
  | n + 1, f => f n && allB n f
theorem allB_at {f : Nat → Bool} : ∀ {n : Nat}, allB n f = true → ∀ k, k < n → f k = true
  | 0, _, k, h => absurd h (by omega)
  | n + 1, h, k, hk => by
    unfold allB at h
    simp only [Bool.and_eq_true] at h
    by_cases e : k = n
    · subst e; exact h.1
    · exact allB_at h.2 k (by omega)
theorem all2 (f : Nat → Nat → Bool) (h : allB 256 (fun a => allB 256 (f a)) = true) {a b : Nat} (ha : a < 256) (hb : b < 256) : f a b = true := allB_at (allB_at h a ha) b hb
theorem mstep_xor {a b : Nat} (ha : a < 256) (hb : b < 256) : mstep (a ^^^ b) = mstep a ^^^ mstep b :=
  Nat.eq_of_beq_eq_true (all2 (fun a b => Nat.beq (mstep (a ^^^ b)) (mstep a ^^^ mstep b)) (by decide +kernel) ha hb)
theorem rmul_xstep {a b : Nat} (ha : a < 256) (hb : b < 256) : rmul (xstep a) b = xstep (rmul a b) :=
  Nat.eq_of_beq_eq_true (all2 (fun a b => Nat.beq (rmul (xstep a) b) (xstep (rmul a b))) (by decide +kernel) ha hb)
theorem rmul_one {b : Nat} (hb : b < 256) : rmul 1 b = b :=
  Nat.eq_of_beq_eq_true (allB_at (f := fun b => Nat.beq (rmul 1 b) b) (by decide +kernel) b hb)
theorem rmul_zero {b : Nat} (hb : b < 256) : rmul 0 b = 0 :=
  Nat.eq_of_beq_eq_true (allB_at (f := fun b => Nat.beq (rmul 0 b) 0) (by decide +kernel) b hb)
def xsteps : Nat → Nat → Nat
  | 0, x => x
  | n + 1, x => xstep (xsteps n x)
theorem xsteps_lt {x : Nat} (hx : x < 256) : ∀ n, xsteps n x < 256
  | 0 => hx
  | n + 1 => xstep_lt _ (xsteps_lt hx n)
theorem rmul_gpow {b : Nat} (hb : b < 256) : ∀ n, rmul (gpow n) b = xsteps n b
  | 0 => rmul_one hb
  | n + 1 => by rw [gpow, rmul_xstep (gpow_lt n) hb, rmul_gpow hb n]; rfl
theorem xsteps_gpow (j : Nat) : ∀ n, xsteps n (gpow j) = gpow (n + j)
  | 0 => by rw [Nat.zero_add]; rfl
  | n + 1 => by rw [xsteps, xsteps_gpow j n, Nat.add_right_comm]; rfl
theorem gpow_mod (k : Nat) : gpow (255 + k) = gpow k := by
  induction k with
  | zero => exact gpow_255
  | succ k ih => rw [← Nat.add_assoc, gpow, ih]; rfl
theorem gpow_lo {k : Nat} (h : k < 510) : gpow k = gpow (k % 255) := by
  by_cases hk : k < 255
  · rw [Nat.mod_eq_of_lt hk]
  · obtain ⟨j, rfl⟩ : ∃ j, k = 255 + j := ⟨k - 255, by omega⟩
    rw [gpow_mod, Nat.add_mod_left, Nat.mod_eq_of_lt (by omega)]
theorem log_lt {a : Nat} (h0 : a ≠ 0) (ha : a < 256) : logL.getD a 0 < 255 := (exp_log ⟨a, ha⟩ h0).2
theorem gpow_log {a : Nat} (h0 : a ≠ 0) (ha : a < 256) : gpow (logL.getD a 0) = a := by
  rw [← exp_gpow ⟨_, log_lt h0 ha⟩]; exact (exp_log ⟨a, ha⟩ h0).1
theorem expL_eq {k : Nat} (h : k < 255) : expL.getD k 0 = gpow k := exp_gpow ⟨k, h⟩
theorem log_gpow {k : Nat} (h : k < 255) : logL.getD (gpow k) 0 = k := by rw [← expL_eq h]; exact log_exp ⟨k, h⟩
theorem gpow_ne {k : Nat} (h : k < 255) : gpow k ≠ 0 := by
  have : allB 255 (fun k => !Nat.beq (expL.getD k 0) 0) = true := by decide +kernel
  have := allB_at this k h
  rw [← expL_eq h]
  intro e
  rw [e] at this
  exact absurd this (by decide)
theorem mulD_gpow {j k : Nat} (hj : j < 255) (hk : k < 255) : mulD (gpow j) (gpow k) = gpow (j + k) := by
  unfold mulD
  rw [if_neg (by have := gpow_ne hj; have := gpow_ne hk; omega), log_gpow hj, log_gpow hk, expL_eq (Nat.mod_lt _ (by omega)), ← gpow_lo (by omega)]
theorem gform {a : Nat} (h0 : a ≠ 0) (ha : a < 256) : ∃ j, j < 255 ∧ gpow j = a := ⟨_, log_lt h0 ha, gpow_log h0 ha⟩
theorem mulD_rmul {a b : Nat} (ha : a < 256) (hb : b < 256) : mulD a b = rmul a b := by
  by_cases h1 : a = 0
  · subst h1; rw [rmul_zero hb]; simp [mulD]
  · obtain ⟨j, hj, rfl⟩ := gform h1 ha
    by_cases h2 : b = 0
    · subst h2
      have : allB 256 (fun a => Nat.beq (rmul a 0) 0) = true := by decide +kernel
      rw [Nat.eq_of_beq_eq_true (allB_at this _ ha)]; simp [mulD]
    · obtain ⟨k, hk, rfl⟩ := gform h2 hb
      rw [mulD_gpow hj hk, rmul_gpow hb, xsteps_gpow]
theorem mulD_comm (a b : Nat) : mulD a b = mulD b a := by
  unfold mulD
  rw [Nat.add_comm]
  by_cases h1 : a = 0 <;> by_cases h2 : b = 0 <;> simp [h1, h2]
theorem mulD_zero (a : Nat) : mulD a 0 = 0 := by simp [mulD]
theorem zero_mulD (a : Nat) : mulD 0 a = 0 := by simp [mulD]
theorem one_mulD {a : Nat} (ha : a < 256) : mulD 1 a = a := by rw [mulD_rmul (by omega) ha, rmul_one ha]
theorem mulD_one {a : Nat} (ha : a < 256) : mulD a 1 = a := by rw [mulD_comm, one_mulD ha]
theorem mulD_assoc {a b c : Nat} (ha : a < 256) (hb : b < 256) (hc : c < 256) : mulD (mulD a b) c = mulD a (mulD b c) := by
  by_cases h1 : a = 0
  · subst h1; simp [zero_mulD]
  by_cases h2 : b = 0
  · subst h2; simp [zero_mulD, mulD_zero]
  by_cases h3 : c = 0
  · subst h3; simp [mulD_zero]
  obtain ⟨i, hi, rfl⟩ := gform h1 ha
  obtain ⟨j, hj, rfl⟩ := gform h2 hb
  obtain ⟨k, hk, rfl⟩ := gform h3 hc
  rw [mulD_gpow hi hj, mulD_gpow hj hk, gpow_lo (k := i + j) (by omega), gpow_lo (k := j + k) (by omega), mulD_gpow (Nat.mod_lt _ (by omega)) hk, mulD_gpow hi (Nat.mod_lt _ (by omega)),
    gpow_lo (k := (i + j) % 255 + k) (by omega), gpow_lo (k := i + (j + k) % 255) (by omega)]
  congr 1
  omega
theorem mulD_pos {a b : Nat} (h1 : a ≠ 0) (ha : a < 256) (h2 : b ≠ 0) (hb : b < 256) : mulD a b ≠ 0 := by
  obtain ⟨i, hi, rfl⟩ := gform h1 ha
  obtain ⟨j, hj, rfl⟩ := gform h2 hb
  rw [mulD_gpow hi hj, gpow_lo (by omega)]
  exact gpow_ne (Nat.mod_lt _ (by omega))
theorem rmulL_xor (f : Nat) : ∀ (o1 o2 x1 x2 y : Nat), x1 < 256 → x2 < 256 → rmulL f (o1 ^^^ o2) (x1 ^^^ x2) y = rmulL f o1 x1 y ^^^ rmulL f o2 x2 y := by
  induction f with
  | zero => intros; rfl
  | succ f ih =>
    intro o1 o2 x1 x2 y h1 h2
    have m1 : ∀ x, x < 256 → mstep x < 256 := fun x hx => Nat.le_of_ble_eq_true (allB_at (f := fun x => Nat.ble (mstep x + 1) 256) (by decide +kernel) x hx)
    unfold rmulL
    rw [mstep_xor h1 h2]
    split
    · rw [show o1 ^^^ o2 ^^^ (x1 ^^^ x2) = (o1 ^^^ x1) ^^^ (o2 ^^^ x2) by
        rw [Nat.xor_assoc, Nat.xor_assoc]; congr 1; rw [← Nat.xor_assoc, Nat.xor_comm o2 x1, Nat.xor_assoc]]
      exact ih _ _ _ _ _ (m1 _ h1) (m1 _ h2)
    · exact ih _ _ _ _ _ (m1 _ h1) (m1 _ h2)
theorem xor_mulD {a b c : Nat} (ha : a < 256) (hb : b < 256) (hc : c < 256) : mulD (a ^^^ b) c = mulD a c ^^^ mulD b c := by
  rw [mulD_rmul (xor_lt ha hb) hc, mulD_rmul ha hc, mulD_rmul hb hc]
  have := rmulL_xor 8 0 0 a b c ha hb
  simpa [rmul] using this
theorem mulD_xor {a b c : Nat} (ha : a < 256) (hb : b < 256) (hc : c < 256) : mulD c (a ^^^ b) = mulD c a ^^^ mulD c b := by
  rw [mulD_comm, xor_mulD ha hb hc, mulD_comm a, mulD_comm b]
theorem divD_self {a : Nat} (h0 : a ≠ 0) (ha : a < 256) : divD a a = 1 := by
  have := Nat.eq_of_beq_eq_true (allB_at (f := fun a => Nat.beq (divD (a + 1) (a + 1)) 1) (n := 255) (by decide +kernel) (a - 1) (by omega))
  rwa [show a - 1 + 1 = a by omega] at this
/-- The inverse, 0 for 0. -/
def invD (b : Nat) : Nat := divD 1 b
theorem divD_gpow {j k : Nat} (hj : j < 255) (hk : k < 255) : divD (gpow j) (gpow k) = gpow (j + 255 - k) := by
  unfold divD
  rw [if_neg (by have := gpow_ne hj; have := gpow_ne hk; omega), log_gpow hj, log_gpow hk, expL_eq (Nat.mod_lt _ (by omega)), ← gpow_lo (by omega)]
theorem divD_mul {a b : Nat} (ha : a < 256) (hb : b < 256) : divD a b = mulD a (invD b) := by
  by_cases h1 : a = 0
  · subst h1; simp [divD, zero_mulD]
  by_cases h2 : b = 0
  · subst h2; simp [divD, invD, mulD_zero]
  obtain ⟨j, hj, rfl⟩ := gform h1 ha
  obtain ⟨k, hk, rfl⟩ := gform h2 hb
  unfold invD
  rw [divD_gpow hj hk, show (1 : Nat) = gpow 0 from rfl, divD_gpow (by omega) hk, gpow_lo (k := 0 + 255 - k) (by omega), mulD_gpow hj (Nat.mod_lt _ (by omega)), gpow_lo (by omega), gpow_lo (k := j + (0 + 255 - k) % 255) (by omega)]
  congr 1
  omega
theorem mulD_inv {a : Nat} (h0 : a ≠ 0) (ha : a < 256) : mulD a (invD a) = 1 := by rw [← divD_mul ha ha, divD_self h0 ha]
end Go.Proofs.YtpbgipdkaaooeaaGreatDoor
