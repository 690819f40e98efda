/- forget.GiveUp and forget.Enroll: the cases joined. -/
import Derived.Test.YtpbgipdkaaooeaaGreatDoorMA
import Derived.Test.YtpbgipdkaaooeaaGreatDoorMB
import Derived.Test.YtpbgipdkaaooeaaGreatDoorMC
import Derived.Test.YtpbgipdkaaooeaaGreatDoorMD
import Derived.Test.YtpbgipdkaaooeaaGreatDoorME
import Derived.Test.YtpbgipdkaaooeaaGreatDoorMF
import Derived.Test.YtpbgipdkaaooeaaGreatDoorXA
import Derived.Test.YtpbgipdkaaooeaaGreatDoorXB
open Go Go.Proofs Go.RowKit
namespace Go.Proofs.YtpbgipdkaaooeaaGreatDoor
set_option linter.unusedSimpArgs false
set_option linter.unusedVariables false

theorem give_17A (w : World) (v : Value) (g : LedD) (o : Int) (t : ByteArray) (a : Int) (A : Nat) (hA : A ≤ w.heap.size) (hAt : LedAt A w v g) (hf : Fits g) :
    Calls Tryz.prog 17 #[v, .int .i64 o, .agg #[.string t, .int .i64 a]] w (LedErrA A w (giveD g o t a) (giveE g o t a)) := by
  cases hb : giveBad g o with
  | true =>
    have hE : giveE g o t a = 1 := by unfold giveE; rw [hb]; rfl
    have hD : giveD g o t a = zeroLed := by unfold giveD; rw [hE]; rfl
    rw [hE, hD]
    exact give_bad w v g o t a A hA hAt hb
  | false =>
    cases hqa : (firstD t g.demands).isSome <;> cases hqd : (firstD t g.dones).isSome <;> cases hqf : forceB t a g.holds
    · exact give_fff w v g o t a A hA hAt hf hb hqa hqd hqf
    · exact give_fft w v g o t a A hA hAt hf hb hqa hqd hqf
    · exact give_ftf w v g o t a A hA hAt hf hb hqa hqd hqf
    · exact give_ftt w v g o t a A hA hAt hf hb hqa hqd hqf
    · exact give_tff w v g o t a A hA hAt hf hb hqa hqd hqf
    · exact give_tft w v g o t a A hA hAt hf hb hqa hqd hqf
    · exact give_ttf w v g o t a A hA hAt hf hb hqa hqd hqf
    · exact give_ttt w v g o t a A hA hAt hf hb hqa hqd hqf

theorem enroll_12A (w : World) (v vr : Value) (g : LedD) (t : ByteArray) (kb r : List Int) (A : Nat) (hA : A ≤ w.heap.size) (hAt : LedAt A w v g) (hf : Fits g) (hkl : kb.length = 32) (hkb : ∀ x ∈ kb, 0 ≤ x ∧ x ≤ 255) (hr : BytesR w vr r) :
    Calls Tryz.prog 12 #[v, .string t, .agg (kb.map (Value.int .u8)).toArray, vr] w (LedErrA A w (enrollD g t kb r) (enrollE g t)) := by
  cases hv : validB g <;> cases he : sEq t ⟨#[]⟩ <;> cases hd : (firstD t g.dones).isSome
  · exact enroll_fff w v vr g t kb r A hA hAt hf hkl hkb hr hv he hd
  · exact enroll_fft w v vr g t kb r A hA hAt hf hkl hkb hr hv he hd
  · exact enroll_ftf w v vr g t kb r A hA hAt hf hkl hkb hr hv he hd
  · exact enroll_ftt w v vr g t kb r A hA hAt hf hkl hkb hr hv he hd
  · exact enroll_tff w v vr g t kb r A hA hAt hf hkl hkb hr hv he hd
  · exact enroll_tft w v vr g t kb r A hA hAt hf hkl hkb hr hv he hd
  · exact enroll_ttf w v vr g t kb r A hA hAt hf hkl hkb hr hv he hd
  · exact enroll_ttt w v vr g t kb r A hA hAt hf hkl hkb hr hv he hd
theorem give_17 (w : World) (v : Value) (g : LedD) (o : Int) (t : ByteArray) (a : Int) (h : LedR w v g) (hf : Fits g) :
    Calls Tryz.prog 17 #[v, .int .i64 o, .agg #[.string t, .int .i64 a]] w (LedErr w (giveD g o t a) (giveE g o t a)) := (give_17A w v g o t a _ (Nat.le_refl _) h.at hf).mono fun _ _ h => h.old
theorem enroll_12 (w : World) (v vr : Value) (g : LedD) (t : ByteArray) (kb r : List Int) (h : LedR w v g) (hf : Fits g) (hkl : kb.length = 32) (hkb : ∀ x ∈ kb, 0 ≤ x ∧ x ≤ 255) (hr : BytesR w vr r) :
    Calls Tryz.prog 12 #[v, .string t, .agg (kb.map (Value.int .u8)).toArray, vr] w (LedErr w (enrollD g t kb r) (enrollE g t)) := (enroll_12A w v vr g t kb r _ (Nat.le_refl _) h.at hf hkl hkb hr).mono fun _ _ h => h.old
end Go.Proofs.YtpbgipdkaaooeaaGreatDoor
