/- law35.sanity: what its fixed calls answer, by evaluation. -/
import Derived.Test.YtpbgipdkaaooeaaGreatDoorZK
import Derived.Test.YtpbgipdkaaooeaaGreatDoorY
open Go Go.Proofs Go.RowKit
namespace Go.Proofs.YtpbgipdkaaooeaaGreatDoor
set_option linter.unusedSimpArgs false
set_option linter.unusedVariables false
def sT : ByteArray := ⟨#[97]⟩
def sK : List Int := 7 :: 8 :: 9 :: List.replicate 29 0
def sG : LedD := newD 3 2
def sA : LedD := enrollD sG sT sK [1, 2, 3]
def sH : LedD := holdD sA (sT, 9)
def sB : LedD := demandD sH sT 9
def sC : LedD := giveD sB 0 sT 9
def sD : LedD := giveD sC 2 sT 10
theorem san1 : newE 3 4 = 1 := by decide +kernel
theorem san2 : newE 3 2 = 0 := by decide +kernel
theorem san3 : enrollE sG sT = 0 := by decide +kernel
theorem san4 : keyE sA sT [true] = 0 ∧ keyD sA sT [true] = sK := by decide +kernel
theorem san5 : keyE sA sT [true, true] = 40 := by decide +kernel
theorem san6 : demandE sH sT 8 = 350 := by decide +kernel
theorem san7 : demandE sH sT 9 = 0 := by decide +kernel
theorem san8 : giveE sB 0 sT 8 = 1 := by decide +kernel
theorem san9 : giveE sB 0 sT 9 = 0 := by decide +kernel
theorem san10 : giveE sC 0 sT 9 = 4 := by decide +kernel
theorem san11 : keyE sC sT [] = 0 ∧ keyD sC sT [] = sK := by decide +kernel
theorem san12 : (firstD sT sC.dones).isSome = false := by decide +kernel
theorem san13 : giveE sC 2 sT 10 = 0 := by decide +kernel
theorem san14 : firstD sT sD.dones = some (sT, 10) := by decide +kernel
theorem san15 : keyE sD sT [] = 351 := by decide +kernel
theorem san16 : enrollE sD sT = 351 := by decide +kernel
theorem san17 : demandE sD ⟨#[98]⟩ 0 = 4 := by decide +kernel
theorem san18 : enrollE sA sT = 240 := by decide +kernel
def fitsB (g : LedD) : Bool := decide (g.shares.length ≤ 4095) && g.shares.all (fun x => decide (x.length ≤ 4095)) && decide (g.holds.length ≤ 4095) && decide (g.demands.length ≤ 4095) && decide (g.dones.length ≤ 4095)
theorem fitsB_fits {g : LedD} (h : fitsB g = true) : Fits g := by
  unfold fitsB at h
  simp only [Bool.and_eq_true, decide_eq_true_eq, List.all_eq_true] at h
  obtain ⟨⟨⟨⟨h1, h2⟩, h3⟩, h4⟩, h5⟩ := h
  exact ⟨h1, h2, h3, h4, h5⟩
theorem fit_G : Fits sG := fitsB_fits (by decide +kernel)
theorem fit_A : Fits sA := fitsB_fits (by decide +kernel)
theorem fit_H : Fits sH := fitsB_fits (by decide +kernel)
theorem fit_B : Fits sB := fitsB_fits (by decide +kernel)
theorem fit_C : Fits sC := fitsB_fits (by decide +kernel)
theorem fit_D : Fits sD := fitsB_fits (by decide +kernel)
def bytesB (g : LedD) : Bool := g.shares.all fun r => r.all fun s => decide (s.b.length ≤ 4096)
theorem bytesB_le {g : LedD} (h : bytesB g = true) : ∀ r ∈ g.shares, ∀ s ∈ r, s.b.length ≤ 4096 := fun r hr s hs => by
  unfold bytesB at h
  rw [List.all_eq_true] at h
  have := h r hr
  rw [List.all_eq_true] at this
  simpa using this s hs
theorem by_A : ∀ r ∈ sA.shares, ∀ s ∈ r, s.b.length ≤ 4096 := bytesB_le (by decide +kernel)
theorem by_C : ∀ r ∈ sC.shares, ∀ s ∈ r, s.b.length ≤ 4096 := bytesB_le (by decide +kernel)
theorem by_D : ∀ r ∈ sD.shares, ∀ s ∈ r, s.b.length ≤ 4096 := bytesB_le (by decide +kernel)
end Go.Proofs.YtpbgipdkaaooeaaGreatDoor
