/- ForgetKeys answers true for every input, whatever the named variables hold beyond what the row lists; each argument reads afterwards as it read before. -/
import Derived.Test.YtpbgipdkaaooeaaGreatDoorCards
import Derived.Test.YtpbgipdkaaooeaaGreatDoorTie
import Derived.Test.YtpbgipdkaaooeaaGreatDoorZR
import Derived.Test.YtpbgipdkaaooeaaGreatDoorKA
import Derived.WalkKit
import Derived.ProofKit
import Derived.OpenShut
import Derived.Deep.DeepHandedRow
import Derived.Lay
namespace Go.Proofs.YtpbgipdkaaooeaaGreatDoor.fnKeys
set_option linter.unusedSimpArgs false
set_option linter.unusedVariables false
open Go Go.Proofs Go.ChangeShapes Go.WideShapes Go.ChangeAt Go.RowKit

theorem own : ownKnob Tryz.prog.godebug = none := by kernel_rfl
theorem laidOut : laidOutB Tryz.prog = true := by kernel_rfl

theorem cells66 : Tryz.prog.cellsOf 66 = 5 := by kernel_rfl
theorem cells4' : Tryz.prog.cellsOf 4 = 1 := by kernel_rfl
theorem agg_of {v : Value} {n : Nat} (h : v.cells.toList.length = n) (hn : n ≠ 1) : v = .agg v.cells := by
  cases v <;> first | rfl | (simp [Value.cells] at h; omega)

set_option maxRecDepth 100000 in
/-- What the walk gives, for every argument and every world. -/
theorem contract (H : Type) (enc : TypeId × Value → H) (W : World) (args : Array Value) (ds gs : List (DataW H)) (before : List MemPlace)
    (base : Nat) (hval0 : ∀ (j : Nat) t v, Tryz.f5.params[j]? = some t → args[j]? = some v → Value.okWide Tryz.prog W .any base t v)
    (hW : DataW.Whole enc Tryz.prog Tryz.f5.params.toList Rows.forgetKeysSpec.vars false W args.toList ds gs before) :
    Calls Tryz.prog 5 args W fun e W' => ∃ v, e = .returned v ∧ Rows.forgetKeysSpec.post enc Tryz.prog Tryz.f5 false true false false W args v W' := by
  have hW' := hW
  obtain ⟨p, q, hA0, hV, rfl, hfz, hnd⟩ := hW
  have hA : DataW.TrodAll enc Tryz.prog W 0 (fun _ => true) true Tryz.f5.params.toList args.toList ds p := hA0
  rw [Tryz.params5] at hA hval0
  obtain ⟨v0, v1, v2, d0, d1, d2, p0, p1, p2, rfl, rfl, rfl, h0, h1, h2⟩ := trodAll_three hA
  obtain ⟨rfl, rfl⟩ := trodVars_none hV
  clear hA0 hA
  simp only [List.append_nil] at hW'
  have k0 := h0
  have k1 := h1
  have k2 := h2
  obtain ⟨n0, h0⟩ := h0
  obtain ⟨n1, h1⟩ := h1
  obtain ⟨n2, h2⟩ := h2
  -- the pair of numbers
  obtain ⟨xs, m0, -, -, hl0, hx0, hf0⟩ := DataW.trod_array Tryz.underlying58 h0
  rw [cells58] at hl0
  have e0 := agg_of hl0 (by decide)
  obtain ⟨a, b, hab, ha, hb⟩ : ∃ a b : Nat, v0.cells.toList = [.int .u8 a, .int .u8 b] ∧ a < 256 ∧ b < 256 := by
    match hc : v0.cells.toList, hl0 with
    | [u0, u1], _ =>
      have g0 := hf0 0 (by decide)
      have g1 := hf0 1 (by decide)
      rw [hc, cells5', Nat.zero_mul, List.drop_zero, List.take_succ_cons, List.take_zero, List.getElem?_eq_getElem (by omega)] at g0
      rw [hc, cells5', Nat.one_mul, List.drop_succ_cons, List.drop_zero, List.take_succ_cons, List.take_zero, List.getElem?_eq_getElem (by omega)] at g1
      obtain ⟨a, rfl, ha⟩ := rd_u8 g0
      obtain ⟨b, rfl, hb⟩ := rd_u8 g1
      exact ⟨a, b, rfl, ha, hb⟩
  have e00 : v0 = .agg #[.int .u8 a, .int .u8 b] := by
    rw [e0]; congr 1; apply Array.ext'; rw [hab]
  -- the steps
  have c1 : v1.cells.toList = [v1] := by
    obtain ⟨sa, sl, sc, rfl⟩ := okWide_slice Tryz.underlying59 (hval0 1 59 v1 rfl rfl)
    rfl
  rw [c1] at h1
  obtain ⟨l, hl⟩ := rd_acts h1
  -- the flags
  obtain ⟨ys, m2, -, -, hl2, hx2, hf2⟩ := DataW.trod_array Tryz.underlying66 h2
  rw [cells66] at hl2
  have e2 := agg_of hl2 (by decide)
  obtain ⟨q0, q1, q2, q3, q4, hq⟩ : ∃ q0 q1 q2 q3 q4 : Bool, v2.cells.toList = [.bool q0, .bool q1, .bool q2, .bool q3, .bool q4] := by
    match hc : v2.cells.toList, hl2 with
    | [u0, u1, u2, u3, u4], _ =>
      have g0 := hf2 0 (by decide)
      have g1 := hf2 1 (by decide)
      have g2 := hf2 2 (by decide)
      have g3 := hf2 3 (by decide)
      have g4 := hf2 4 (by decide)
      rw [hc, cells4', List.getElem?_eq_getElem (by omega)] at g0 g1 g2 g3 g4
      obtain ⟨q0, r0, -⟩ := DataW.trod_bool Tryz.underlying4 g0
      obtain ⟨q1, r1, -⟩ := DataW.trod_bool Tryz.underlying4 g1
      obtain ⟨q2, r2, -⟩ := DataW.trod_bool Tryz.underlying4 g2
      obtain ⟨q3, r3, -⟩ := DataW.trod_bool Tryz.underlying4 g3
      obtain ⟨q4, r4, -⟩ := DataW.trod_bool Tryz.underlying4 g4
      simp at r0 r1 r2 r3 r4
      subst r0 r1 r2 r3 r4
      exact ⟨q0, q1, q2, q3, q4, rfl⟩
  have e22 : v2 = .agg #[.bool q0, .bool q1, .bool q2, .bool q3, .bool q4] := by
    rw [e2]; congr 1; apply Array.ext'; rw [hq]
  subst e00 e22
  refine (keys_5 W a b v1 l q0 q1 q2 q3 q4 ha hb hl).mono fun e W' ⟨he, hg⟩ => ?_
  subst he
  have hlt := hW'.lt
  refine ⟨_, rfl, _, _, _, [], p0 ++ (p1 ++ p2), [], hW', ?_, ?_, ?_, hg.frame _, fun h => by cases h⟩
  · exact trodAll_mk1 (shut_bool Tryz.underlying4 true)
  · have g0 := Below.trod laidOut (by kernel_rfl) (of_decide_eq_true (by kernel_rfl)) k0 hg (fun x hx => hlt x (by simp [hx]))
    have g1 := Below.trod laidOut (by kernel_rfl) (of_decide_eq_true (by kernel_rfl)) k1 hg (fun x hx => hlt x (by simp [hx]))
    have g2 := Below.trod laidOut (by kernel_rfl) (of_decide_eq_true (by kernel_rfl)) k2 hg (fun x hx => hlt x (by simp [hx]))
    have e : Tryz.f5.params.toList = [58, 59, 66] := by rw [Tryz.params5]
    rw [e]
    exact trodAll_mk3 g0 g1 g2
  · rfl

/-- The witness's arguments. -/
def wArgs : Array Value := #[.agg #[.int .u8 0, .int .u8 0], .slice none 0 0, .agg #[.bool false, .bool false, .bool false, .bool false, .bool false]]
/-- A world for the witness: the listed variables hold what the row lists. -/
noncomputable def laidWorld (os : Os) : World := World.laidAll Tryz.prog os Rows.forgetKeysRow.laid
theorem laid_met (os : Os) : laidMet Tryz.prog Rows.forgetKeysRow.laid ((laidWorld os).forCall (fun _ _ => 0) ⟨#[], wArgs, []⟩).memory :=
  laidMet_laidAll wArgs (by kernel_rfl) (by kernel_rfl)
theorem reads (os : Os) {H : Type} (enc : TypeId × Value → H) : ∃ places, DataW.whole enc Tryz.prog ((laidWorld os).forCall (fun _ _ => 0) ⟨#[], wArgs, []⟩).memory Tryz.f5.params.toList Rows.forgetKeysSpec.vars false wArgs.toList 8 = some ([.agg [.lit (.int .u8 0), .lit (.int .u8 0)], .nil, .agg [.lit (.bool false), .lit (.bool false), .lit (.bool false), .lit (.bool false), .lit (.bool false)]], [], places) :=
  ⟨[], by kernel_rfl⟩

set_option maxRecDepth 100000 in
theorem lifted (os : Os) (started : os.Started) (H : Type) (enc : TypeId × Value → H) (F : Stop.Interp) :
    ReturnsInHanded {} Tryz.checked os 5 .any ((OpenSpec.ofChange Rows.forgetKeysSpec).preRow enc Tryz.prog Tryz.f5 Rows.forgetKeysRow.domain false Rows.forgetKeysRow.laid) (((OpenSpec.ofChange Rows.forgetKeysSpec).at F).post enc Tryz.prog Tryz.f5 false true false false) := by
  obtain ⟨places, hx⟩ := reads os enc
  refine returnsInHanded_of_row (C := Tryz.checked) (s := OpenSpec.ofChange Rows.forgetKeysSpec) own started (by kernel_rfl) Tryz.func5
    (witness_row_at (enc := enc) (C := Tryz.checked) false (laidWorld os) wArgs (World.laidAll_os _ _ _) (by kernel_rfl) (by kernel_rfl) (by kernel_rfl)
      (OpenSpec.preRow_of_cond 8 hx (by kernel_rfl) (fun k hk => by cases hk) (by kernel_rfl) (laid_met os))) ?_
  intro W base args ds gs before hval hW _ _ _ hL _ _
  exact contract H enc W args ds gs before base hval hW

theorem said : Rows.ForgetKeysSaid :=
  OpenClaim.holds_of_cond 5 Tryz.f5 rfl rfl rfl rfl rfl rfl rfl ⟨rfl, rfl, rfl, rfl, rfl⟩ rfl rfl rfl rfl rfl (by kernel_rfl) Tryz.func5 (by kernel_rfl)
    (of_decide_eq_true (by kernel_rfl)) (by unfold Func.isWrapper; first | (rw [if_pos (by decide +kernel)]; kernel_rfl) | (rw [if_neg (by decide +kernel)]; exact ⟨rfl, rfl⟩))
    (fun os started H enc _ F => by rw [OpenClaim.pre_eq_preRow]; exact lifted os started H enc F)

/-- No parameter wants a stand-in. -/
theorem plain (f : FuncId) (fn : Func) (hf : Tryz.pinned.checked.prog.funcNamed "fenland/fenlandlaw35.ForgetKeys" = some f) (hfn : Tryz.pinned.checked.prog.funcs[f]? = some fn) :
    false = Tryz.pinned.checked.prog.looks [] ∧ ∀ (j : Nat) t, fn.params[j]? = some t → Tryz.pinned.checked.prog.wantsStandIn t = false := by
  obtain rfl : f = 5 := Option.some.inj ((show Tryz.prog.funcNamed "fenland/fenlandlaw35.ForgetKeys" = some 5 by kernel_rfl).symm.trans hf) |>.symm
  obtain rfl : fn = Tryz.f5 := (Option.some.inj (Tryz.func5.symm.trans hfn)).symm
  refine ⟨by kernel_rfl, fun j t ht => ?_⟩
  rw [Tryz.params5] at ht
  have hm : t ∈ #[58, 59, 66] := Array.mem_of_getElem? ht
  have ht3 : t = 58 ∨ t = 59 ∨ t = 66 := by simpa using hm
  rcases ht3 with rfl | rfl | rfl
  · exact (show Tryz.prog.wantsStandIn 58 = false by kernel_rfl)
  · exact (show Tryz.prog.wantsStandIn 59 = false by kernel_rfl)
  · exact (show Tryz.prog.wantsStandIn 66 = false by kernel_rfl)
end Go.Proofs.YtpbgipdkaaooeaaGreatDoor.fnKeys
namespace Go.Proofs.YtpbgipdkaaooeaaGreatDoor
open Go
/-- The tied card. -/
theorem forgetKeys_card : Rows.ForgetKeysCardSaid :=
  Claim7.holds_tied_plain_at .later [] _ _ _ _ fnKeys.said (fun _ h => by cases h) (by kernel_rfl) (fun _ h => by cases h) forgetKeys_row_tie rfl ⟨rfl, rfl⟩ (by kernel_rfl) rfl fnKeys.plain (by kernel_rfl)
#print axioms forgetKeys_card
end Go.Proofs.YtpbgipdkaaooeaaGreatDoor
