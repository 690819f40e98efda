/- ForgetHolds answers true for every input, whatever the named variables hold beyond what the row lists; each argument reads afterwards as it read before. -/
import Derived.Test.YtpbgipdkaaooeaaGreatDoorCards
import Derived.Test.YtpbgipdkaaooeaaGreatDoorTie
import Derived.Test.YtpbgipdkaaooeaaGreatDoorZR
import Derived.Test.YtpbgipdkaaooeaaGreatDoorZY
import Derived.WalkKit
import Derived.ProofKit
import Derived.OpenShut
import Derived.Deep.DeepHandedRow
import Derived.Lay
namespace Go.Proofs.YtpbgipdkaaooeaaGreatDoor.fnHolds
set_option linter.unusedSimpArgs false
set_option linter.unusedVariables false
open Go Go.Proofs Go.ChangeShapes Go.WideShapes Go.ChangeAt Go.RowKit

theorem own : ownKnob Tryz.prog.godebug = none := by kernel_rfl
theorem laidOut : laidOutB Tryz.prog = true := by kernel_rfl

theorem agg_of {v : Value} {n : Nat} (h : v.cells.toList.length = n) (hn : n ≠ 1) : v = .agg v.cells := by
  cases v <;> first | rfl | (simp [Value.cells] at h; omega)

set_option maxRecDepth 100000 in
/-- What the walk gives, for every argument and every world. -/
theorem contract (H : Type) (enc : TypeId × Value → H) (W : World) (args : Array Value) (ds gs : List (DataW H)) (before : List MemPlace)
    (base : Nat) (hval0 : ∀ (j : Nat) t v, Tryz.f6.params[j]? = some t → args[j]? = some v → Value.okWide Tryz.prog W .any base t v)
    (hW : DataW.Whole enc Tryz.prog Tryz.f6.params.toList Rows.forgetHoldsSpec.vars false W args.toList ds gs before) :
    Calls Tryz.prog 6 args W fun e W' => ∃ v, e = .returned v ∧ Rows.forgetHoldsSpec.post enc Tryz.prog Tryz.f6 false true false false W args v W' := by
  have hW' := hW
  obtain ⟨p, q, hA0, hV, rfl, hfz, hnd⟩ := hW
  have hA : DataW.TrodAll enc Tryz.prog W 0 (fun _ => true) true Tryz.f6.params.toList args.toList ds p := hA0
  rw [Tryz.params6] at hA hval0
  obtain ⟨v0, v1, v2, d0, d1, d2, p0, p1, p2, rfl, rfl, rfl, h0, h1, h2⟩ := trodAll_three hA
  obtain ⟨rfl, rfl⟩ := trodVars_none hV
  clear hA0 hA
  simp only [List.append_nil] at hW'
  have k0 := h0
  have k1 := h1
  have k2 := h2
  obtain ⟨n0, h0⟩ := h0
  obtain ⟨n1, h1⟩ := h1
  obtain ⟨n2, h2⟩ := h2
  -- the pair of numbers
  obtain ⟨xs, m0, -, -, hl0, hx0, hf0⟩ := DataW.trod_array Tryz.underlying58 h0
  rw [cells58] at hl0
  have e0 := agg_of hl0 (by decide)
  obtain ⟨a, b, hab, ha, hb⟩ : ∃ a b : Nat, v0.cells.toList = [.int .u8 a, .int .u8 b] ∧ a < 256 ∧ b < 256 := by
    match hc : v0.cells.toList, hl0 with
    | [u0, u1], _ =>
      have g0 := hf0 0 (by decide)
      have g1 := hf0 1 (by decide)
      rw [hc, cells5', Nat.zero_mul, List.drop_zero, List.take_succ_cons, List.take_zero, List.getElem?_eq_getElem (by omega)] at g0
      rw [hc, cells5', Nat.one_mul, List.drop_succ_cons, List.drop_zero, List.take_succ_cons, List.take_zero, List.getElem?_eq_getElem (by omega)] at g1
      obtain ⟨a, rfl, ha⟩ := rd_u8 g0
      obtain ⟨b, rfl, hb⟩ := rd_u8 g1
      exact ⟨a, b, rfl, ha, hb⟩
  have e00 : v0 = .agg #[.int .u8 a, .int .u8 b] := by
    rw [e0]; congr 1; apply Array.ext'; rw [hab]
  -- the steps
  have c1 : v1.cells.toList = [v1] := by
    obtain ⟨sa, sl, sc, rfl⟩ := okWide_slice Tryz.underlying59 (hval0 1 59 v1 rfl rfl)
    rfl
  rw [c1] at h1
  obtain ⟨l, hl⟩ := rd_acts h1
  -- the last step
  have hl2 : v2.cells.toList.length = 5 := by
    obtain ⟨-, -, -, -, hh, -⟩ := DataW.trod_struct Tryz.underlying30 h2
    rw [hh, cells30]
  obtain ⟨x, hx⟩ := rd_act_val (agg_of hl2 (by decide)) h2
  subst e00
  refine (holds_6 W a b v1 v2 l x ha hb hl hx).mono fun e W' ⟨he, hg⟩ => ?_
  subst he
  have hlt := hW'.lt
  refine ⟨_, rfl, _, _, _, [], p0 ++ (p1 ++ p2), [], hW', ?_, ?_, ?_, hg.frame _, fun h => by cases h⟩
  · exact trodAll_mk1 (shut_bool Tryz.underlying4 true)
  · have g0 := Below.trod laidOut (by kernel_rfl) (of_decide_eq_true (by kernel_rfl)) k0 hg (fun x hx => hlt x (by simp [hx]))
    have g1 := Below.trod laidOut (by kernel_rfl) (of_decide_eq_true (by kernel_rfl)) k1 hg (fun x hx => hlt x (by simp [hx]))
    have g2 := Below.trod laidOut (by kernel_rfl) (of_decide_eq_true (by kernel_rfl)) k2 hg (fun x hx => hlt x (by simp [hx]))
    have e : Tryz.f6.params.toList = [58, 59, 30] := by rw [Tryz.params6]
    rw [e]
    exact trodAll_mk3 g0 g1 g2
  · rfl

/-- The witness's arguments. -/
def wArgs : Array Value := #[.agg #[.int .u8 0, .int .u8 0], .slice none 0 0, .agg #[.int .u8 0, .int .u8 0, .int .i8 0, .int .i8 0, .slice none 0 0]]
/-- A world for the witness: the listed variables hold what the row lists. -/
noncomputable def laidWorld (os : Os) : World := World.laidAll Tryz.prog os Rows.forgetHoldsRow.laid
theorem laid_met (os : Os) : laidMet Tryz.prog Rows.forgetHoldsRow.laid ((laidWorld os).forCall (fun _ _ => 0) ⟨#[], wArgs, []⟩).memory :=
  laidMet_laidAll wArgs (by kernel_rfl) (by kernel_rfl)
theorem reads (os : Os) {H : Type} (enc : TypeId × Value → H) : ∃ places, DataW.whole enc Tryz.prog ((laidWorld os).forCall (fun _ _ => 0) ⟨#[], wArgs, []⟩).memory Tryz.f6.params.toList Rows.forgetHoldsSpec.vars false wArgs.toList 8 = some ([.agg [.lit (.int .u8 0), .lit (.int .u8 0)], .nil, .agg [.lit (.int .u8 0), .lit (.int .u8 0), .lit (.int .i8 0), .lit (.int .i8 0), .nil]], [], places) :=
  ⟨[], by kernel_rfl⟩

set_option maxRecDepth 100000 in
theorem lifted (os : Os) (started : os.Started) (H : Type) (enc : TypeId × Value → H) (F : Stop.Interp) :
    ReturnsInHanded {} Tryz.checked os 6 .any ((OpenSpec.ofChange Rows.forgetHoldsSpec).preRow enc Tryz.prog Tryz.f6 Rows.forgetHoldsRow.domain false Rows.forgetHoldsRow.laid) (((OpenSpec.ofChange Rows.forgetHoldsSpec).at F).post enc Tryz.prog Tryz.f6 false true false false) := by
  obtain ⟨places, hx⟩ := reads os enc
  refine returnsInHanded_of_row (C := Tryz.checked) (s := OpenSpec.ofChange Rows.forgetHoldsSpec) own started (by kernel_rfl) Tryz.func6
    (witness_row_at (enc := enc) (C := Tryz.checked) false (laidWorld os) wArgs (World.laidAll_os _ _ _) (by kernel_rfl) (by kernel_rfl) (by kernel_rfl)
      (OpenSpec.preRow_of_cond 8 hx (by kernel_rfl) (fun k hk => by cases hk) (by kernel_rfl) (laid_met os))) ?_
  intro W base args ds gs before hval hW _ _ _ hL _ _
  exact contract H enc W args ds gs before base hval hW

theorem said : Rows.ForgetHoldsSaid :=
  OpenClaim.holds_of_cond 6 Tryz.f6 rfl rfl rfl rfl rfl rfl rfl ⟨rfl, rfl, rfl, rfl, rfl⟩ rfl rfl rfl rfl rfl (by kernel_rfl) Tryz.func6 (by kernel_rfl)
    (of_decide_eq_true (by kernel_rfl)) (by unfold Func.isWrapper; first | (rw [if_pos (by decide +kernel)]; kernel_rfl) | (rw [if_neg (by decide +kernel)]; exact ⟨rfl, rfl⟩))
    (fun os started H enc _ F => by rw [OpenClaim.pre_eq_preRow]; exact lifted os started H enc F)

/-- No parameter wants a stand-in. -/
theorem plain (f : FuncId) (fn : Func) (hf : Tryz.pinned.checked.prog.funcNamed "fenland/fenlandlaw35.ForgetHolds" = some f) (hfn : Tryz.pinned.checked.prog.funcs[f]? = some fn) :
    false = Tryz.pinned.checked.prog.looks [] ∧ ∀ (j : Nat) t, fn.params[j]? = some t → Tryz.pinned.checked.prog.wantsStandIn t = false := by
  obtain rfl : f = 6 := Option.some.inj ((show Tryz.prog.funcNamed "fenland/fenlandlaw35.ForgetHolds" = some 6 by kernel_rfl).symm.trans hf) |>.symm
  obtain rfl : fn = Tryz.f6 := (Option.some.inj (Tryz.func6.symm.trans hfn)).symm
  refine ⟨by kernel_rfl, fun j t ht => ?_⟩
  rw [Tryz.params6] at ht
  have hm : t ∈ #[58, 59, 30] := Array.mem_of_getElem? ht
  have ht3 : t = 58 ∨ t = 59 ∨ t = 30 := by simpa using hm
  rcases ht3 with rfl | rfl | rfl
  · exact (show Tryz.prog.wantsStandIn 58 = false by kernel_rfl)
  · exact (show Tryz.prog.wantsStandIn 59 = false by kernel_rfl)
  · exact (show Tryz.prog.wantsStandIn 30 = false by kernel_rfl)
end Go.Proofs.YtpbgipdkaaooeaaGreatDoor.fnHolds
namespace Go.Proofs.YtpbgipdkaaooeaaGreatDoor
open Go
/-- The tied card. -/
theorem forgetHolds_card : Rows.ForgetHoldsCardSaid :=
  Claim7.holds_tied_plain_at .later [] _ _ _ _ fnHolds.said (fun _ h => by cases h) (by kernel_rfl) (fun _ h => by cases h) forgetHolds_row_tie rfl ⟨rfl, rfl⟩ (by kernel_rfl) rfl fnHolds.plain (by kernel_rfl)
#print axioms forgetHolds_card
end Go.Proofs.YtpbgipdkaaooeaaGreatDoor
