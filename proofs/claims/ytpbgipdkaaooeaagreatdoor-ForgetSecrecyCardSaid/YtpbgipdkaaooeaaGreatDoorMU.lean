/- R4.Mul, R4.Inv: GF(2^8) as in school. -/
import Derived.Test.YtpbgipdkaaooeaaGreatDoorPA
open Go Go.Proofs Go.RowKit
namespace Go.Proofs.YtpbgipdkaaooeaaGreatDoor
set_option linter.unusedSimpArgs false
set_option linter.unusedVariables false
attribute [local go_sem ↓] Go.wp_at_zero Go.wp_at_succ

theorem xor_i64 {a b : Nat} (ha : a < 512) (hb : b < 512) : bits BinOp.xor IntKind.i64 (a : Int) (b : Int) = ((a ^^^ b : Nat) : Int) := by
  have h : a ^^^ b < 512 := Nat.xor_lt_two_pow (n := 9) ha hb
  show IntKind.i64.wrap ((BitVec.ofInt 64 (a : Int) ^^^ BitVec.ofInt 64 (b : Int)).toNat : Int) = _
  rw [BitVec.toNat_xor, BitVec.ofInt_natCast, BitVec.ofInt_natCast, BitVec.toNat_ofNat, BitVec.toNat_ofNat, Nat.mod_eq_of_lt (by omega), Nat.mod_eq_of_lt (by omega)]
  rw [IntKind.wrap_i64]
  omega
theorem mstep_lt {x : Nat} (hx : x < 256) : mstep x < 256 := Nat.le_of_ble_eq_true (allB_at (f := fun x => Nat.ble (mstep x + 1) 256) (by decide +kernel) x hx)
def MulInv (a b : Nat) (o x y : Value) : Prop := ∃ n out xx yy : Nat, o = .int .i64 (out : Int) ∧ x = .int .i64 (xx : Int) ∧ y = .int .i64 (yy : Int) ∧ out < 256 ∧ xx < 256 ∧ yy < 2 ^ n ∧ n ≤ 8 ∧ Hid (rmulL n out xx yy = rmul a b)
set_option maxRecDepth 100000 in
set_option maxHeartbeats 1000000 in
/-- R4.Mul -/
theorem mul_91 (w : World) (a b : Nat) (ha : a < 256) (hb : b < 256) : Calls Tryz.prog 91 #[.int .u8 a, .int .u8 b] w fun e w' => e = .returned (.int .u8 (mulD a b)) ∧ w' = w := by
  have HM := Lib.hid (mulD_rmul ha hb)
  go_enter Tryz.func91, Tryz.ntmps91
  go_wp2
  go_loop [5, 6, 7] (fun o x y => ∃ n out xx yy : Nat, o = .int .i64 (out : Int) ∧ x = .int .i64 (xx : Int) ∧ y = .int .i64 (yy : Int) ∧ out < 256 ∧ xx < 256 ∧ yy < 256 ∧ Hid (yy < 2 ^ n ∧ n ≤ 8 ∧ rmulL n out xx yy = rmul a b)) (fun _ _ y => (intOf y).toNat)
  case atStart => exact ⟨8, 0, a, b, rfl, rfl, rfl, by omega, ha, hb, Lib.hid ⟨hb, Nat.le_refl _, rfl⟩⟩
  case round =>
    obtain ⟨n, out, xx, yy, rfl, rfl, rfl, ho, hx, hy, HR⟩ := hrel
    by_cases h0 : yy = 0
    · subst h0
      have HE : Hid (out = mulD a b) := Lib.hid (by
        rw [HM.out]
        rw [← HR.out.2.2]
        have : ∀ n out xx, rmulL n out xx 0 = out := fun n => by
          induction n with
          | zero => intros; rfl
          | succ n ih => intro o x; rw [rmulL, if_neg (by decide)]; exact ih _ _
        exact (this _ _ _).symm)
      go_wp2
      go_ret
      exact ⟨by rw [← HE.out]; rfl, rfl⟩
    · obtain ⟨m, rfl⟩ : ∃ m, n = m + 1 := ⟨n - 1, by
        have h := HR.out.1
        rcases n with _ | n
        · simp at h; omega
        · rfl⟩
      have hstep : Hid (rmulL m (if yy % 2 = 1 then out ^^^ xx else out) (mstep xx) (yy / 2) = rmul a b ∧ yy / 2 < 2 ^ m ∧ m ≤ 8) := Lib.hid ⟨HR.out.2.2, by have := HR.out.1; rw [Nat.pow_succ] at this; omega, by have := HR.out.2.1; omega⟩
      have hpos : 0 < yy := by omega
      obtain ⟨h, r, hyy, hr⟩ : ∃ h r, yy = 2 * h + r ∧ r < 2 := ⟨yy / 2, yy % 2, by omega, by omega⟩
      have hdiv : (yy : Int).tdiv 2 = (h : Int) := by rw [Int.tdiv_eq_ediv_of_nonneg (by omega)]; omega
      have hdiv2 : (yy : Int) / 2 = (h : Int) := by omega
      have hmod : (yy : Int).tmod 2 = (r : Int) := by rw [Int.tmod_eq_emod_of_nonneg (by omega)]; omega
      have hmod2 : (yy : Int) % 2 = (r : Int) := by omega
      have hh : h < yy ∧ h < 256 := by omega
      rw [show yy % 2 = r by omega, show yy / 2 = h by omega] at hstep
      clear hyy
      have hx1 := xor_i64 (a := out) (b := xx) (by omega) (by omega)
      have hx2 := xor_i64 (a := 2 * xx) (b := 283) (by omega) (by omega)
      have hol := xor_lt ho hx
      have hml := mstep_lt hx
      have HMS : Hid (mstep xx = if 2 * xx > 255 then (2 * xx) ^^^ 283 else 2 * xx) := Lib.hid rfl
      have hx3 : ((2 * xx : Nat) : Int) = 2 * (xx : Int) := by omega
      rw [hx3, show ((283 : Nat) : Int) = 283 from rfl] at hx2
      clear hx3
      by_cases h1 : r = 1
      · subst h1
        rw [if_pos rfl] at hstep
        by_cases h2 : 2 * xx > 255
        · rw [if_pos h2] at HMS
          have h2' : (255 : Int) < 2 * (xx : Int) := by omega
          go_wp2
          all_goals
            go_round
            case rel => exact ⟨m, out ^^^ xx, mstep xx, h, rfl, by rw [HMS.out], rfl, hol, hml, hh.2, Lib.hid ⟨hstep.out.2.1, hstep.out.2.2, hstep.out.1⟩⟩
            case measure => simp [intOf]; omega
        · rw [if_neg h2] at HMS
          have h2' : ¬ (255 : Int) < 2 * (xx : Int) := by omega
          go_wp2
          all_goals
            go_round
            case rel => exact ⟨m, out ^^^ xx, mstep xx, h, rfl, by rw [HMS.out]; go_num, rfl, hol, hml, hh.2, Lib.hid ⟨hstep.out.2.1, hstep.out.2.2, hstep.out.1⟩⟩
            case measure => simp [intOf]; omega
      · obtain rfl : r = 0 := by omega
        rw [if_neg h1] at hstep
        clear h1
        by_cases h2 : 2 * xx > 255
        · rw [if_pos h2] at HMS
          have h2' : (255 : Int) < 2 * (xx : Int) := by omega
          go_wp2
          all_goals
            go_round
            case rel => exact ⟨m, out, mstep xx, h, rfl, by rw [HMS.out], rfl, ho, hml, hh.2, Lib.hid ⟨hstep.out.2.1, hstep.out.2.2, hstep.out.1⟩⟩
            case measure => simp [intOf]; omega
        · rw [if_neg h2] at HMS
          have h2' : ¬ (255 : Int) < 2 * (xx : Int) := by omega
          go_wp2
          all_goals
            go_round
            case rel => exact ⟨m, out, mstep xx, h, rfl, by rw [HMS.out]; go_num, rfl, ho, hml, hh.2, Lib.hid ⟨hstep.out.2.1, hstep.out.2.2, hstep.out.1⟩⟩
            case measure => simp [intOf]; omega
/-- The power and the product after k rounds of Inv. -/
def invP (a : Nat) : Nat → Nat
  | 0 => a
  | k + 1 => mulD (invP a k) (invP a k)
def invO (a : Nat) : Nat → Nat
  | 0 => 1
  | k + 1 => mulD (invO a k) (invP a (k + 1))
theorem invP_lt {a : Nat} (h : a < 256) : ∀ k, invP a k < 256
  | 0 => h
  | k + 1 => mulD_lt _ _
theorem invO_lt (a : Nat) : ∀ k, invO a k < 256
  | 0 => by unfold invO; omega
  | k + 1 => mulD_lt _ _
theorem inv_seven {a : Nat} (h : a < 256) : invO a 7 = invD a := by
  have : allB 256 (fun a => Nat.beq (invO a 7) (invD a)) = true := by decide +kernel
  exact Nat.eq_of_beq_eq_true (allB_at this a h)
set_option maxRecDepth 100000 in
set_option maxHeartbeats 1000000 in
/-- R4.Inv -/
theorem inv_92 (w : World) (a : Nat) (ha : a < 256) : Calls Tryz.prog 92 #[.int .u8 a] w fun e w' => e = .returned (.int .u8 (invD a)) ∧ w' = w := by
  have H7 := Lib.hid (inv_seven ha)
  go_enter Tryz.func92, Tryz.ntmps92
  go_wp2
  go_loop [3, 4, 5] (fun o p c => ∃ k : Nat, k ≤ 7 ∧ o = .int .u8 ((invO a k : Nat) : Int) ∧ p = .int .u8 ((invP a k : Nat) : Int) ∧ c = .int .i64 ((k : Nat) : Int)) (fun _ _ c => 7 - (intOf c).toNat)
  case atStart => exact ⟨0, Nat.zero_le _, rfl, rfl, rfl⟩
  case round =>
    obtain ⟨k, hk, rfl, rfl, rfl⟩ := hrel
    by_cases hlt : k < 7
    · have C1 := Lib.hid (mul_91 w (invP a k) (invP a k) (invP_lt ha k) (invP_lt ha k))
      have C2 := Lib.hid (mul_91 w (invO a k) (invP a (k + 1)) (invO_lt a k) (invP_lt ha (k + 1)))
      have e1 : Hid (mulD (invP a k) (invP a k) = invP a (k + 1)) := Lib.hid rfl
      have e2 : Hid (mulD (invO a k) (invP a (k + 1)) = invO a (k + 1)) := Lib.hid rfl
      rw [e1.out] at C1
      rw [e2.out] at C2
      clear e1 e2
      generalize hq1 : invP a (k + 1) = q1 at *
      generalize hq2 : invO a (k + 1) = q2 at *
      have Q1 := Lib.hid hq1
      have Q2 := Lib.hid hq2
      clear hq1 hq2
      generalize invP a k = q3 at *
      generalize invO a k = q4 at *
      go_upto_region 6 with (go_at_call 91; refine C1.out.mono ?_; rintro e w' ⟨rfl, rfl⟩)
      go_wp2_with (go_at_call 91; refine C2.out.mono ?_; rintro e w' ⟨rfl, rfl⟩)
      go_round
      case rel => exact ⟨k + 1, by omega, by rw [Q2.out], by rw [Q1.out], by go_num⟩
      case measure => simp [intOf] <;> omega
    · obtain rfl : k = 7 := by omega
      rw [H7.out]
      go_wp2
      go_ret
      exact ⟨rfl, rfl⟩
end Go.Proofs.YtpbgipdkaaooeaaGreatDoor
