/-
  DERIVED. GIVEN WITH THE SEED: THE CARDS: each row of YtpbgipdkaaooeaaGreatDoorRows.lean that lists a variable, with what it lists TIED to the program's text (the seventh form; the later family's looks); each row that meets fmt, with fmt's text TOLD by the authors' own Lean function (tested against real Go, not proved from fmt's source: count such statements apart). THE CARD IS WHAT COUNTS. Prove the row's statement (the work); the ties are given (YtpbgipdkaaooeaaGreatDoorTie.lean); close each card by the builder's one call (the guide's Derived/Test/ToyasCard.lean, 'card_holds'). Laid BY PROGRAM, IN A SANDBOX (cutbox-door.mjs). By AI agents, Wed Nov 11 2026. No macro, syntax, notation, axiom, sorry.
-/
import Derived.Test.YtpbgipdkaaooeaaGreatDoorRows
import GoSem.ClaimSeven
namespace Go.Proofs.YtpbgipdkaaooeaaGreatDoor
namespace Rows

/-- THE TIED CARD OF 'fenlandlaw35.ForgetMatchesReference'. -/
def forgetMatchesReferenceCard : Claim7 := { stood := { row := forgetMatchesReferenceRow, standIns := [], harness := (true, "7ad02d097d4d6d3c420aa49b8bac9cdf711fbefdca4e56c7404148ebae5d63ac"), looks := false }, kinds := [], alts := [], laidByText := true, laidKinds := [.data, .data], laidTests := true, laidLooks := .later }
def ForgetMatchesReferenceCardSaid : Prop := Claim7.holds Tryz.pinned (.plain (OpenSpec.ofChange forgetMatchesReferenceSpec)) forgetMatchesReferenceCard

/-- THE TIED CARD OF 'fenlandlaw35.ForgetStepsMatchReference'. -/
def forgetStepsMatchReferenceCard : Claim7 := { stood := { row := forgetStepsMatchReferenceRow, standIns := [], harness := (true, "7ad02d097d4d6d3c420aa49b8bac9cdf711fbefdca4e56c7404148ebae5d63ac"), looks := false }, kinds := [], alts := [], laidByText := true, laidKinds := [.data, .data], laidTests := true, laidLooks := .later }
def ForgetStepsMatchReferenceCardSaid : Prop := Claim7.holds Tryz.pinned (.plain (OpenSpec.ofChange forgetStepsMatchReferenceSpec)) forgetStepsMatchReferenceCard

/-- THE TIED CARD OF 'fenlandlaw35.ForgetKeys'. -/
def forgetKeysCard : Claim7 := { stood := { row := forgetKeysRow, standIns := [], harness := (true, "7ad02d097d4d6d3c420aa49b8bac9cdf711fbefdca4e56c7404148ebae5d63ac"), looks := false }, kinds := [], alts := [], laidByText := true, laidKinds := [.data, .data], laidTests := true, laidLooks := .later }
def ForgetKeysCardSaid : Prop := Claim7.holds Tryz.pinned (.plain (OpenSpec.ofChange forgetKeysSpec)) forgetKeysCard

/-- THE TIED CARD OF 'fenlandlaw35.ForgetHolds'. -/
def forgetHoldsCard : Claim7 := { stood := { row := forgetHoldsRow, standIns := [], harness := (true, "7ad02d097d4d6d3c420aa49b8bac9cdf711fbefdca4e56c7404148ebae5d63ac"), looks := false }, kinds := [], alts := [], laidByText := true, laidKinds := [.data, .data], laidTests := true, laidLooks := .later }
def ForgetHoldsCardSaid : Prop := Claim7.holds Tryz.pinned (.plain (OpenSpec.ofChange forgetHoldsSpec)) forgetHoldsCard

/-- THE TIED CARD OF 'fenlandlaw35.ForgetCertificates'. -/
def forgetCertificatesCard : Claim7 := { stood := { row := forgetCertificatesRow, standIns := [], harness := (true, "7ad02d097d4d6d3c420aa49b8bac9cdf711fbefdca4e56c7404148ebae5d63ac"), looks := false }, kinds := [], alts := [], laidByText := true, laidKinds := [.data, .data], laidTests := true, laidLooks := .later }
def ForgetCertificatesCardSaid : Prop := Claim7.holds Tryz.pinned (.plain (OpenSpec.ofChange forgetCertificatesSpec)) forgetCertificatesCard

/-- THE TIED CARD OF 'fenlandlaw35.ForgetSecrecy'. -/
def forgetSecrecyCard : Claim7 := { stood := { row := forgetSecrecyRow, standIns := [], harness := (true, "7ad02d097d4d6d3c420aa49b8bac9cdf711fbefdca4e56c7404148ebae5d63ac"), looks := false }, kinds := [], alts := [], laidByText := true, laidKinds := [.data, .data], laidTests := true, laidLooks := .later }
def ForgetSecrecyCardSaid : Prop := Claim7.holds Tryz.pinned (.plain (OpenSpec.ofChange forgetSecrecySpec)) forgetSecrecyCard

/-- THE SECOND FORM's CARD OF 'fenlandlaw35.ForgetStepsMatchReference'. -/
def forgetStepsMatchReferenceUptoCard : Claim7 := { stood := { row := forgetStepsMatchReferenceUptoRow, standIns := [], harness := (true, "7ad02d097d4d6d3c420aa49b8bac9cdf711fbefdca4e56c7404148ebae5d63ac"), looks := false }, kinds := [], alts := [], laidByText := true, laidKinds := [.data, .data], laidTests := true, laidLooks := .later }
def ForgetStepsMatchReferenceUptoCardSaid : Prop := Claim7.holds Tryz.pinned (.plain (OpenSpec.upto forgetStepsMatchReferenceSpec)) forgetStepsMatchReferenceUptoCard

/-- THE SECOND FORM's CARD OF 'fenlandlaw35.ForgetKeys'. -/
def forgetKeysUptoCard : Claim7 := { stood := { row := forgetKeysUptoRow, standIns := [], harness := (true, "7ad02d097d4d6d3c420aa49b8bac9cdf711fbefdca4e56c7404148ebae5d63ac"), looks := false }, kinds := [], alts := [], laidByText := true, laidKinds := [.data, .data], laidTests := true, laidLooks := .later }
def ForgetKeysUptoCardSaid : Prop := Claim7.holds Tryz.pinned (.plain (OpenSpec.upto forgetKeysSpec)) forgetKeysUptoCard

/-- THE SECOND FORM's CARD OF 'fenlandlaw35.ForgetHolds'. -/
def forgetHoldsUptoCard : Claim7 := { stood := { row := forgetHoldsUptoRow, standIns := [], harness := (true, "7ad02d097d4d6d3c420aa49b8bac9cdf711fbefdca4e56c7404148ebae5d63ac"), looks := false }, kinds := [], alts := [], laidByText := true, laidKinds := [.data, .data], laidTests := true, laidLooks := .later }
def ForgetHoldsUptoCardSaid : Prop := Claim7.holds Tryz.pinned (.plain (OpenSpec.upto forgetHoldsSpec)) forgetHoldsUptoCard

/-- THE SECOND FORM's CARD OF 'fenlandlaw35.ForgetCertificates'. -/
def forgetCertificatesUptoCard : Claim7 := { stood := { row := forgetCertificatesUptoRow, standIns := [], harness := (true, "7ad02d097d4d6d3c420aa49b8bac9cdf711fbefdca4e56c7404148ebae5d63ac"), looks := false }, kinds := [], alts := [], laidByText := true, laidKinds := [.data, .data], laidTests := true, laidLooks := .later }
def ForgetCertificatesUptoCardSaid : Prop := Claim7.holds Tryz.pinned (.plain (OpenSpec.upto forgetCertificatesSpec)) forgetCertificatesUptoCard

/-- THE SECOND FORM's CARD OF 'fenlandlaw35.ForgetSecrecy'. -/
def forgetSecrecyUptoCard : Claim7 := { stood := { row := forgetSecrecyUptoRow, standIns := [], harness := (true, "7ad02d097d4d6d3c420aa49b8bac9cdf711fbefdca4e56c7404148ebae5d63ac"), looks := false }, kinds := [], alts := [], laidByText := true, laidKinds := [.data, .data], laidTests := true, laidLooks := .later }
def ForgetSecrecyUptoCardSaid : Prop := Claim7.holds Tryz.pinned (.plain (OpenSpec.upto forgetSecrecySpec)) forgetSecrecyUptoCard
end Rows
end Go.Proofs.YtpbgipdkaaooeaaGreatDoor
