/-
  NARROWER THAN 'FOR EVERY INPUT', by the rows' own cells (each row's printed sentence says how): ForgetMatchesReference: calm, laid · ForgetStepsMatchReference: laid · ForgetKeys: laid · ForgetHolds: laid · ForgetCertificates: laid · ForgetSecrecy: laid.
  DERIVED. THE GIVEN ROWS OF THIS SEAT. 6 by the template 'for every input the law returns true; each argument reads behind the call as it read before'; 0 by the template 'total and deterministic' (their statements: YtpbgipdkaaooeaaGreatDoorTotals.lean).
  GIVEN WITH THE SEED: the statements are not yours to turn. If you find one false, say at which input.
  Laid BY PROGRAM, IN A SANDBOX (cutbox-rows.mjs): the forced cells as the released guide's own fill.sh prints them over the translation e1da5e229c6e5d1f… (all of the seat's roots in one cut). By AI agents, Wed Nov 11 2026. No macro, syntax, notation, axiom, sorry.
-/
import Derived.Test.YtpbgipdkaaooeaaGreatDoorChecked
import GoSem.Claim
import GoSem.ClaimJoined
import GoSem.ClaimMapViews
import Derived.JoinedTies
import Derived.KernelRfl
namespace Go.Proofs.YtpbgipdkaaooeaaGreatDoor
/- THE CELL 'sum', in the pinned program and in every row, IS THE sha256 OF THE DUMP (.gsa) THAT YtpbgipdkaaooeaaGreatDoorProg.lean LOADS. Nothing in Lean hashes anything: it is a label: what it is worth is what the hold of that sum in a sandbox is worth. -/
noncomputable def Tryz.pinned : Pinned := { name := "ytpbgipdkaaooeaagreatdoor", sum := "e1da5e229c6e5d1ff384f1bc643fd9a1b62c16e262a171e8df2feb6ee2c2a0dc", checked := Tryz.checked }
namespace Rows
def none {H : Type} : Left H := { results := [], args := [] }

/- WHAT THE LISTED PACKAGE-LEVEL VARIABLES READ AS WHEN THE CALL BEGINS. Each datum BY PROGRAM (the guide's laid-datum.mjs) off the statement by which the dump's own 'gosem.cut.vars' lays the variable. In a bare row this is a premise. The card (YtpbgipdkaaooeaaGreatDoorCards.lean) ties it to the program's text. -/
def laid_fenland_blake_sigma {H : Type} : DataW H := .agg [.agg [.lit (.int .u8 0), .lit (.int .u8 1), .lit (.int .u8 2), .lit (.int .u8 3), .lit (.int .u8 4), .lit (.int .u8 5), .lit (.int .u8 6), .lit (.int .u8 7), .lit (.int .u8 8), .lit (.int .u8 9), .lit (.int .u8 10), .lit (.int .u8 11), .lit (.int .u8 12), .lit (.int .u8 13), .lit (.int .u8 14), .lit (.int .u8 15)], .agg [.lit (.int .u8 14), .lit (.int .u8 10), .lit (.int .u8 4), .lit (.int .u8 8), .lit (.int .u8 9), .lit (.int .u8 15), .lit (.int .u8 13), .lit (.int .u8 6), .lit (.int .u8 1), .lit (.int .u8 12), .lit (.int .u8 0), .lit (.int .u8 2), .lit (.int .u8 11), .lit (.int .u8 7), .lit (.int .u8 5), .lit (.int .u8 3)], .agg [.lit (.int .u8 11), .lit (.int .u8 8), .lit (.int .u8 12), .lit (.int .u8 0), .lit (.int .u8 5), .lit (.int .u8 2), .lit (.int .u8 15), .lit (.int .u8 13), .lit (.int .u8 10), .lit (.int .u8 14), .lit (.int .u8 3), .lit (.int .u8 6), .lit (.int .u8 7), .lit (.int .u8 1), .lit (.int .u8 9), .lit (.int .u8 4)], .agg [.lit (.int .u8 7), .lit (.int .u8 9), .lit (.int .u8 3), .lit (.int .u8 1), .lit (.int .u8 13), .lit (.int .u8 12), .lit (.int .u8 11), .lit (.int .u8 14), .lit (.int .u8 2), .lit (.int .u8 6), .lit (.int .u8 5), .lit (.int .u8 10), .lit (.int .u8 4), .lit (.int .u8 0), .lit (.int .u8 15), .lit (.int .u8 8)], .agg [.lit (.int .u8 9), .lit (.int .u8 0), .lit (.int .u8 5), .lit (.int .u8 7), .lit (.int .u8 2), .lit (.int .u8 4), .lit (.int .u8 10), .lit (.int .u8 15), .lit (.int .u8 14), .lit (.int .u8 1), .lit (.int .u8 11), .lit (.int .u8 12), .lit (.int .u8 6), .lit (.int .u8 8), .lit (.int .u8 3), .lit (.int .u8 13)], .agg [.lit (.int .u8 2), .lit (.int .u8 12), .lit (.int .u8 6), .lit (.int .u8 10), .lit (.int .u8 0), .lit (.int .u8 11), .lit (.int .u8 8), .lit (.int .u8 3), .lit (.int .u8 4), .lit (.int .u8 13), .lit (.int .u8 7), .lit (.int .u8 5), .lit (.int .u8 15), .lit (.int .u8 14), .lit (.int .u8 1), .lit (.int .u8 9)], .agg [.lit (.int .u8 12), .lit (.int .u8 5), .lit (.int .u8 1), .lit (.int .u8 15), .lit (.int .u8 14), .lit (.int .u8 13), .lit (.int .u8 4), .lit (.int .u8 10), .lit (.int .u8 0), .lit (.int .u8 7), .lit (.int .u8 6), .lit (.int .u8 3), .lit (.int .u8 9), .lit (.int .u8 2), .lit (.int .u8 8), .lit (.int .u8 11)], .agg [.lit (.int .u8 13), .lit (.int .u8 11), .lit (.int .u8 7), .lit (.int .u8 14), .lit (.int .u8 12), .lit (.int .u8 1), .lit (.int .u8 3), .lit (.int .u8 9), .lit (.int .u8 5), .lit (.int .u8 0), .lit (.int .u8 15), .lit (.int .u8 4), .lit (.int .u8 8), .lit (.int .u8 6), .lit (.int .u8 2), .lit (.int .u8 10)], .agg [.lit (.int .u8 6), .lit (.int .u8 15), .lit (.int .u8 14), .lit (.int .u8 9), .lit (.int .u8 11), .lit (.int .u8 3), .lit (.int .u8 0), .lit (.int .u8 8), .lit (.int .u8 12), .lit (.int .u8 2), .lit (.int .u8 13), .lit (.int .u8 7), .lit (.int .u8 1), .lit (.int .u8 4), .lit (.int .u8 10), .lit (.int .u8 5)], .agg [.lit (.int .u8 10), .lit (.int .u8 2), .lit (.int .u8 8), .lit (.int .u8 4), .lit (.int .u8 7), .lit (.int .u8 6), .lit (.int .u8 1), .lit (.int .u8 5), .lit (.int .u8 15), .lit (.int .u8 11), .lit (.int .u8 9), .lit (.int .u8 14), .lit (.int .u8 3), .lit (.int .u8 12), .lit (.int .u8 13), .lit (.int .u8 0)]]
def laid_fenland_chacha_rounds {H : Type} : DataW H := .agg [.agg [.lit (.int .i64 0), .lit (.int .i64 4), .lit (.int .i64 8), .lit (.int .i64 12)], .agg [.lit (.int .i64 1), .lit (.int .i64 5), .lit (.int .i64 9), .lit (.int .i64 13)], .agg [.lit (.int .i64 2), .lit (.int .i64 6), .lit (.int .i64 10), .lit (.int .i64 14)], .agg [.lit (.int .i64 3), .lit (.int .i64 7), .lit (.int .i64 11), .lit (.int .i64 15)], .agg [.lit (.int .i64 0), .lit (.int .i64 5), .lit (.int .i64 10), .lit (.int .i64 15)], .agg [.lit (.int .i64 1), .lit (.int .i64 6), .lit (.int .i64 11), .lit (.int .i64 12)], .agg [.lit (.int .i64 2), .lit (.int .i64 7), .lit (.int .i64 8), .lit (.int .i64 13)], .agg [.lit (.int .i64 3), .lit (.int .i64 4), .lit (.int .i64 9), .lit (.int .i64 14)]]

/-- 'fenlandlaw35.ForgetMatchesReference': WHATEVER THE INPUT: true; the input reads as it did. -/
def forgetMatchesReferenceSpec : ChangeSpec := { name := "forgetMatchesReference", fn := fun _ => fun
  | [d1, d2, d3] => { results := [.lit (.bool true)], args := [d1, d2, d3] }
  | _ => none }
def forgetMatchesReferenceRow : OpenClaim := { program := "ytpbgipdkaaooeaagreatdoor", sum := "e1da5e229c6e5d1ff384f1bc643fd9a1b62c16e262a171e8df2feb6ee2c2a0dc", func := "fenland/fenlandlaw35.ForgetMatchesReference", spec := "forgetMatchesReference", unfollowed := true, recurses := true, named := ["fenland/blake.iv", "fenland/blake.sigma", "fenland/chacha.rounds"], apart := false, calm := true, outside := [.timePasses], laid := [("fenland/blake.sigma", laid_fenland_blake_sigma), ("fenland/chacha.rounds", laid_fenland_chacha_rounds)] }
def ForgetMatchesReferenceSaid : Prop := forgetMatchesReferenceRow.holds Tryz.pinned (OpenSpec.ofChange forgetMatchesReferenceSpec)

/-- ITS FALSE NEIGHBOUR: 'it returns false'. Refute it at one input. -/
def forgetMatchesReferenceWrong : ChangeSpec := { name := "forgetMatchesReference", fn := fun _ => fun
  | [d1, d2, d3] => { results := [.lit (.bool false)], args := [d1, d2, d3] }
  | _ => none }
def ForgetMatchesReferenceWrongFalsely : Prop := forgetMatchesReferenceRow.holds Tryz.pinned (OpenSpec.ofChange forgetMatchesReferenceWrong)

/-- 'fenlandlaw35.ForgetStepsMatchReference': WHATEVER THE INPUT: true; the input reads as it did. -/
def forgetStepsMatchReferenceSpec : ChangeSpec := { name := "forgetStepsMatchReference", fn := fun _ => fun
  | [d1, d2] => { results := [.lit (.bool true)], args := [d1, d2] }
  | _ => none }
def forgetStepsMatchReferenceRow : OpenClaim := { program := "ytpbgipdkaaooeaagreatdoor", sum := "e1da5e229c6e5d1ff384f1bc643fd9a1b62c16e262a171e8df2feb6ee2c2a0dc", func := "fenland/fenlandlaw35.ForgetStepsMatchReference", spec := "forgetStepsMatchReference", unfollowed := true, recurses := true, named := ["fenland/blake.iv", "fenland/blake.sigma", "fenland/chacha.rounds"], apart := false, laid := [("fenland/blake.sigma", laid_fenland_blake_sigma), ("fenland/chacha.rounds", laid_fenland_chacha_rounds)] }
def ForgetStepsMatchReferenceSaid : Prop := forgetStepsMatchReferenceRow.holds Tryz.pinned (OpenSpec.ofChange forgetStepsMatchReferenceSpec)

/-- ITS FALSE NEIGHBOUR: 'it returns false'. Refute it at one input. -/
def forgetStepsMatchReferenceWrong : ChangeSpec := { name := "forgetStepsMatchReference", fn := fun _ => fun
  | [d1, d2] => { results := [.lit (.bool false)], args := [d1, d2] }
  | _ => none }
def ForgetStepsMatchReferenceWrongFalsely : Prop := forgetStepsMatchReferenceRow.holds Tryz.pinned (OpenSpec.ofChange forgetStepsMatchReferenceWrong)

/-- 'fenlandlaw35.ForgetKeys': WHATEVER THE INPUT: true; the input reads as it did. -/
def forgetKeysSpec : ChangeSpec := { name := "forgetKeys", fn := fun _ => fun
  | [d1, d2, d3] => { results := [.lit (.bool true)], args := [d1, d2, d3] }
  | _ => none }
def forgetKeysRow : OpenClaim := { program := "ytpbgipdkaaooeaagreatdoor", sum := "e1da5e229c6e5d1ff384f1bc643fd9a1b62c16e262a171e8df2feb6ee2c2a0dc", func := "fenland/fenlandlaw35.ForgetKeys", spec := "forgetKeys", unfollowed := true, recurses := true, named := ["fenland/blake.iv", "fenland/blake.sigma", "fenland/chacha.rounds"], apart := false, laid := [("fenland/blake.sigma", laid_fenland_blake_sigma), ("fenland/chacha.rounds", laid_fenland_chacha_rounds)] }
def ForgetKeysSaid : Prop := forgetKeysRow.holds Tryz.pinned (OpenSpec.ofChange forgetKeysSpec)

/-- ITS FALSE NEIGHBOUR: 'it returns false'. Refute it at one input. -/
def forgetKeysWrong : ChangeSpec := { name := "forgetKeys", fn := fun _ => fun
  | [d1, d2, d3] => { results := [.lit (.bool false)], args := [d1, d2, d3] }
  | _ => none }
def ForgetKeysWrongFalsely : Prop := forgetKeysRow.holds Tryz.pinned (OpenSpec.ofChange forgetKeysWrong)

/-- 'fenlandlaw35.ForgetHolds': WHATEVER THE INPUT: true; the input reads as it did. -/
def forgetHoldsSpec : ChangeSpec := { name := "forgetHolds", fn := fun _ => fun
  | [d1, d2, d3] => { results := [.lit (.bool true)], args := [d1, d2, d3] }
  | _ => none }
def forgetHoldsRow : OpenClaim := { program := "ytpbgipdkaaooeaagreatdoor", sum := "e1da5e229c6e5d1ff384f1bc643fd9a1b62c16e262a171e8df2feb6ee2c2a0dc", func := "fenland/fenlandlaw35.ForgetHolds", spec := "forgetHolds", unfollowed := true, recurses := true, named := ["fenland/blake.iv", "fenland/blake.sigma", "fenland/chacha.rounds"], apart := false, laid := [("fenland/blake.sigma", laid_fenland_blake_sigma), ("fenland/chacha.rounds", laid_fenland_chacha_rounds)] }
def ForgetHoldsSaid : Prop := forgetHoldsRow.holds Tryz.pinned (OpenSpec.ofChange forgetHoldsSpec)

/-- ITS FALSE NEIGHBOUR: 'it returns false'. Refute it at one input. -/
def forgetHoldsWrong : ChangeSpec := { name := "forgetHolds", fn := fun _ => fun
  | [d1, d2, d3] => { results := [.lit (.bool false)], args := [d1, d2, d3] }
  | _ => none }
def ForgetHoldsWrongFalsely : Prop := forgetHoldsRow.holds Tryz.pinned (OpenSpec.ofChange forgetHoldsWrong)

/-- 'fenlandlaw35.ForgetCertificates': WHATEVER THE INPUT: true; the input reads as it did. -/
def forgetCertificatesSpec : ChangeSpec := { name := "forgetCertificates", fn := fun _ => fun
  | [d1, d2, d3] => { results := [.lit (.bool true)], args := [d1, d2, d3] }
  | _ => none }
def forgetCertificatesRow : OpenClaim := { program := "ytpbgipdkaaooeaagreatdoor", sum := "e1da5e229c6e5d1ff384f1bc643fd9a1b62c16e262a171e8df2feb6ee2c2a0dc", func := "fenland/fenlandlaw35.ForgetCertificates", spec := "forgetCertificates", unfollowed := true, recurses := true, named := ["fenland/blake.iv", "fenland/blake.sigma", "fenland/chacha.rounds"], apart := false, laid := [("fenland/blake.sigma", laid_fenland_blake_sigma), ("fenland/chacha.rounds", laid_fenland_chacha_rounds)] }
def ForgetCertificatesSaid : Prop := forgetCertificatesRow.holds Tryz.pinned (OpenSpec.ofChange forgetCertificatesSpec)

/-- ITS FALSE NEIGHBOUR: 'it returns false'. Refute it at one input. -/
def forgetCertificatesWrong : ChangeSpec := { name := "forgetCertificates", fn := fun _ => fun
  | [d1, d2, d3] => { results := [.lit (.bool false)], args := [d1, d2, d3] }
  | _ => none }
def ForgetCertificatesWrongFalsely : Prop := forgetCertificatesRow.holds Tryz.pinned (OpenSpec.ofChange forgetCertificatesWrong)

/-- 'fenlandlaw35.ForgetSecrecy': WHATEVER THE INPUT: true; the input reads as it did. -/
def forgetSecrecySpec : ChangeSpec := { name := "forgetSecrecy", fn := fun _ => fun
  | [d] => { results := [.lit (.bool true)], args := [d] }
  | _ => none }
def forgetSecrecyRow : OpenClaim := { program := "ytpbgipdkaaooeaagreatdoor", sum := "e1da5e229c6e5d1ff384f1bc643fd9a1b62c16e262a171e8df2feb6ee2c2a0dc", func := "fenland/fenlandlaw35.ForgetSecrecy", spec := "forgetSecrecy", unfollowed := true, recurses := true, named := ["fenland/blake.iv", "fenland/blake.sigma", "fenland/chacha.rounds"], apart := false, laid := [("fenland/blake.sigma", laid_fenland_blake_sigma), ("fenland/chacha.rounds", laid_fenland_chacha_rounds)] }
def ForgetSecrecySaid : Prop := forgetSecrecyRow.holds Tryz.pinned (OpenSpec.ofChange forgetSecrecySpec)

/-- ITS FALSE NEIGHBOUR: 'it returns false'. Refute it at one input. -/
def forgetSecrecyWrong : ChangeSpec := { name := "forgetSecrecy", fn := fun _ => fun
  | [d] => { results := [.lit (.bool false)], args := [d] }
  | _ => none }
def ForgetSecrecyWrongFalsely : Prop := forgetSecrecyRow.holds Tryz.pinned (OpenSpec.ofChange forgetSecrecyWrong)

/- THE SECOND FORM. 'bulk': how many values and letters a reading holds, each counted each time it is reached (what is shared counts as often as it is met; a slice's spare places count too). A statement '..UptoSaid' is the law's where the arguments, and the package variables that the reading takes, are together of bulk at most 1048576: NARROWER than '..Said'. Prove '..Said' where nothing that the law and all that it calls make is longer than what came in: it says more and counts as full. Else prove '..UptoSaid'. A law counts once. -/
mutual
def uptoBulk {H : Type} : DataW H → Nat
  | .lit (.string bytes) => bytes.length + 1
  | .lit _ => 1
  | .nil => 1
  | .ptr d => uptoBulk d + 1
  | .slice elems spare => uptoBulkAll elems + uptoBulkAll spare + 1
  | .agg parts => uptoBulkAll parts + 1
  | .iface _ d => uptoBulk d + 1
  | .map entries => uptoBulkEntries entries + 1
  | .held _ => 1
def uptoBulkAll {H : Type} : List (DataW H) → Nat
  | [] => 0
  | d :: r => uptoBulk d + uptoBulkAll r
def uptoBulkEntries {H : Type} : List (Lit × DataW H) → Nat
  | [] => 0
  | x :: r => uptoBulkEntry x + uptoBulkEntries r
def uptoBulkEntry {H : Type} : Lit × DataW H → Nat
  | (.string bytes, d) => bytes.length + uptoBulk d + 1
  | (_, d) => uptoBulk d + 1
 end
def uptoSmall : (H : Type) → List (DataW H) → Bool := fun _ ds => decide (uptoBulkAll ds ≤ 1048576)
def OpenSpec.upto (s : _root_.Go.ChangeSpec) : _root_.Go.OpenSpec := { _root_.Go.OpenSpec.ofChange s with cond := some uptoSmall }

/-- 'fenlandlaw35.ForgetStepsMatchReference', WHERE WHAT IT READS IS OF BULK AT MOST 1048576: true; the input reads as it did. -/
def forgetStepsMatchReferenceUptoRow : OpenClaim := { program := "ytpbgipdkaaooeaagreatdoor", sum := "e1da5e229c6e5d1ff384f1bc643fd9a1b62c16e262a171e8df2feb6ee2c2a0dc", func := "fenland/fenlandlaw35.ForgetStepsMatchReference", spec := "forgetStepsMatchReference", unfollowed := true, recurses := true, named := ["fenland/blake.iv", "fenland/blake.sigma", "fenland/chacha.rounds"], apart := false, laid := [("fenland/blake.sigma", laid_fenland_blake_sigma), ("fenland/chacha.rounds", laid_fenland_chacha_rounds)], narrowed := true }
def ForgetStepsMatchReferenceUptoSaid : Prop := forgetStepsMatchReferenceUptoRow.holds Tryz.pinned (OpenSpec.upto forgetStepsMatchReferenceSpec)

/-- 'fenlandlaw35.ForgetKeys', WHERE WHAT IT READS IS OF BULK AT MOST 1048576: true; the input reads as it did. -/
def forgetKeysUptoRow : OpenClaim := { program := "ytpbgipdkaaooeaagreatdoor", sum := "e1da5e229c6e5d1ff384f1bc643fd9a1b62c16e262a171e8df2feb6ee2c2a0dc", func := "fenland/fenlandlaw35.ForgetKeys", spec := "forgetKeys", unfollowed := true, recurses := true, named := ["fenland/blake.iv", "fenland/blake.sigma", "fenland/chacha.rounds"], apart := false, laid := [("fenland/blake.sigma", laid_fenland_blake_sigma), ("fenland/chacha.rounds", laid_fenland_chacha_rounds)], narrowed := true }
def ForgetKeysUptoSaid : Prop := forgetKeysUptoRow.holds Tryz.pinned (OpenSpec.upto forgetKeysSpec)

/-- 'fenlandlaw35.ForgetHolds', WHERE WHAT IT READS IS OF BULK AT MOST 1048576: true; the input reads as it did. -/
def forgetHoldsUptoRow : OpenClaim := { program := "ytpbgipdkaaooeaagreatdoor", sum := "e1da5e229c6e5d1ff384f1bc643fd9a1b62c16e262a171e8df2feb6ee2c2a0dc", func := "fenland/fenlandlaw35.ForgetHolds", spec := "forgetHolds", unfollowed := true, recurses := true, named := ["fenland/blake.iv", "fenland/blake.sigma", "fenland/chacha.rounds"], apart := false, laid := [("fenland/blake.sigma", laid_fenland_blake_sigma), ("fenland/chacha.rounds", laid_fenland_chacha_rounds)], narrowed := true }
def ForgetHoldsUptoSaid : Prop := forgetHoldsUptoRow.holds Tryz.pinned (OpenSpec.upto forgetHoldsSpec)

/-- 'fenlandlaw35.ForgetCertificates', WHERE WHAT IT READS IS OF BULK AT MOST 1048576: true; the input reads as it did. -/
def forgetCertificatesUptoRow : OpenClaim := { program := "ytpbgipdkaaooeaagreatdoor", sum := "e1da5e229c6e5d1ff384f1bc643fd9a1b62c16e262a171e8df2feb6ee2c2a0dc", func := "fenland/fenlandlaw35.ForgetCertificates", spec := "forgetCertificates", unfollowed := true, recurses := true, named := ["fenland/blake.iv", "fenland/blake.sigma", "fenland/chacha.rounds"], apart := false, laid := [("fenland/blake.sigma", laid_fenland_blake_sigma), ("fenland/chacha.rounds", laid_fenland_chacha_rounds)], narrowed := true }
def ForgetCertificatesUptoSaid : Prop := forgetCertificatesUptoRow.holds Tryz.pinned (OpenSpec.upto forgetCertificatesSpec)

/-- 'fenlandlaw35.ForgetSecrecy', WHERE WHAT IT READS IS OF BULK AT MOST 1048576: true; the input reads as it did. -/
def forgetSecrecyUptoRow : OpenClaim := { program := "ytpbgipdkaaooeaagreatdoor", sum := "e1da5e229c6e5d1ff384f1bc643fd9a1b62c16e262a171e8df2feb6ee2c2a0dc", func := "fenland/fenlandlaw35.ForgetSecrecy", spec := "forgetSecrecy", unfollowed := true, recurses := true, named := ["fenland/blake.iv", "fenland/blake.sigma", "fenland/chacha.rounds"], apart := false, laid := [("fenland/blake.sigma", laid_fenland_blake_sigma), ("fenland/chacha.rounds", laid_fenland_chacha_rounds)], narrowed := true }
def ForgetSecrecyUptoSaid : Prop := forgetSecrecyUptoRow.holds Tryz.pinned (OpenSpec.upto forgetSecrecySpec)

end Rows
end Go.Proofs.YtpbgipdkaaooeaaGreatDoor
