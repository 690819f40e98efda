/- ForgetSecrecy answers true for every input, whatever the named variables hold beyond what the row lists; each argument reads afterwards as it read before. -/
import Derived.Test.YtpbgipdkaaooeaaGreatDoorCards
import Derived.Test.YtpbgipdkaaooeaaGreatDoorTie
import Derived.Test.YtpbgipdkaaooeaaGreatDoorZR
import Derived.Test.YtpbgipdkaaooeaaGreatDoorSE
import Derived.WalkKit
import Derived.ProofKit
import Derived.OpenShut
import Derived.Deep.DeepHandedRow
import Derived.Lay
namespace Go.Proofs.YtpbgipdkaaooeaaGreatDoor.fnSecrecy
set_option linter.unusedSimpArgs false
set_option linter.unusedVariables false
open Go Go.Proofs Go.ChangeShapes Go.WideShapes Go.ChangeAt Go.RowKit

theorem own : ownKnob Tryz.prog.godebug = none := by kernel_rfl
theorem laidOut : laidOutB Tryz.prog = true := by kernel_rfl

theorem cells77 : Tryz.prog.cellsOf 77 = 68 := by kernel_rfl
theorem cells39' : Tryz.prog.cellsOf 39 = 32 := by kernel_rfl
theorem cells28' : Tryz.prog.cellsOf 28 = 1 := by kernel_rfl
theorem one_of {α : Type} {cs : List α} {i : Nat} (h : i < cs.length) : (cs.drop i).take 1 = [cs[i]] := by
  rw [List.drop_eq_getElem_cons h, List.take_succ_cons, List.take_zero]
theorem cut_at {α : Type} (cs : List α) (k n m : Nat) (h : k + n = m) : cs.drop k = (cs.drop k).take n ++ cs.drop m := by
  have h1 := List.take_append_drop n (cs.drop k)
  rw [List.drop_drop] at h1
  first
    | (rw [h] at h1; exact h1.symm)
    | (rw [Nat.add_comm, h] at h1; exact h1.symm)
section
open Go.Deep
variable {H : Type} {enc : TypeId × Value → H} {w : World} {spare : Nat → Bool} {held : Bool}
theorem rd_key {n : Nat} {cs : List Value} {x : DataW H × List MemPlace} (h : DataW.trod enc Tryz.prog w 0 spare held n 39 cs = some x) : ∃ ks : List Int, cs = ks.map (Value.int .u8) ∧ ks.length = 32 ∧ ∀ y ∈ ks, 0 ≤ y ∧ y ≤ 255 := by
  obtain ⟨xs, m, -, -, hl, hx, hf⟩ := DataW.trod_array Tryz.underlying39 h
  rw [cells39'] at hl
  obtain ⟨q, hq⟩ := choose_lt (α := Int) (p := fun i q => cs[i]? = some (.int .u8 q) ∧ 0 ≤ q ∧ q ≤ 255) (n := 32) (fun i hi => by
    have g := hf i hi
    rw [cells5', Nat.mul_one, one_of (by omega), List.getElem?_eq_getElem (by omega)] at g
    obtain ⟨k, hk, hk2⟩ := rd_u8 g
    exact ⟨(k : Int), by rw [List.getElem?_eq_getElem (by omega), hk], by omega, by omega⟩)
  refine ⟨(List.range 32).map q, ?_, by simp, fun y hy => ?_⟩
  · apply List.ext_getElem?
    intro i
    by_cases hi : i < 32
    · rw [(hq i hi).1]; simp [hi]
    · rw [List.getElem?_eq_none (by omega), List.getElem?_eq_none (by simp; omega)]
  · obtain ⟨i, hi, rfl⟩ := List.mem_map.1 hy
    exact (hq i (List.mem_range.1 hi)).2
end
theorem agg_of {v : Value} {n : Nat} (h : v.cells.toList.length = n) (hn : n ≠ 1) : v = .agg v.cells := by
  cases v <;> first | rfl | (simp [Value.cells] at h; omega)

set_option maxRecDepth 100000 in
/-- What the walk gives, for every argument and every world. -/
theorem contract (H : Type) (enc : TypeId × Value → H) (W : World) (args : Array Value) (ds gs : List (DataW H)) (before : List MemPlace)
    (base : Nat) (hval0 : ∀ (j : Nat) t v, Tryz.f8.params[j]? = some t → args[j]? = some v → Value.okWide Tryz.prog W .any base t v)
    (hW : DataW.Whole enc Tryz.prog Tryz.f8.params.toList Rows.forgetSecrecySpec.vars false W args.toList ds gs before) :
    Calls Tryz.prog 8 args W fun e W' => ∃ v, e = .returned v ∧ Rows.forgetSecrecySpec.post enc Tryz.prog Tryz.f8 false true false false W args v W' := by
  have hW' := hW
  obtain ⟨p, q, hA0, hV, rfl, hfz, hnd⟩ := hW
  have hA : DataW.TrodAll enc Tryz.prog W 0 (fun _ => true) true Tryz.f8.params.toList args.toList ds p := hA0
  rw [Tryz.params8] at hA hval0
  obtain ⟨v0, d0, rfl, rfl, h0⟩ := trodAll_one hA
  obtain ⟨rfl, rfl⟩ := trodVars_none hV
  clear hA0 hA
  simp only [List.append_nil] at hW'
  have k0 := h0
  obtain ⟨n0, h0⟩ := h0
  obtain ⟨xs, m0, -, -, hl0, hx0, hf0⟩ := DataW.trod_struct Tryz.underlying77 h0
  rw [cells77] at hl0
  have e0 := agg_of hl0 (by decide)
  obtain ⟨cs, hcs⟩ : ∃ cs, cs = v0.cells.toList := ⟨_, rfl⟩
  rw [← hcs] at hl0 hf0
  have hs : xs.length = 5 := hx0
  have g0 : DataW.trod enc Tryz.prog W 0 (fun _ => true) true m0 58 (List.take (Tryz.prog.cellsOf 58) (List.drop 0 cs)) = xs[0]? := hf0 0 ⟨"N", 58, 0, false, "", "", 0⟩ rfl
  have g1 : DataW.trod enc Tryz.prog W 0 (fun _ => true) true m0 39 (List.take (Tryz.prog.cellsOf 39) (List.drop 2 cs)) = xs[1]? := hf0 1 ⟨"K", 39, 2, false, "", "", 2⟩ rfl
  have g2 : DataW.trod enc Tryz.prog W 0 (fun _ => true) true m0 28 (List.take (Tryz.prog.cellsOf 28) (List.drop 34 cs)) = xs[2]? := hf0 2 ⟨"Random", 28, 34, false, "", "", 40⟩ rfl
  have g3 : DataW.trod enc Tryz.prog W 0 (fun _ => true) true m0 39 (List.take (Tryz.prog.cellsOf 39) (List.drop 35 cs)) = xs[3]? := hf0 3 ⟨"Other", 39, 35, false, "", "", 64⟩ rfl
  have g4 : DataW.trod enc Tryz.prog W 0 (fun _ => true) true m0 5 (List.take (Tryz.prog.cellsOf 5) (List.drop 67 cs)) = xs[4]? := hf0 4 ⟨"First", 5, 67, false, "", "", 96⟩ rfl
  rw [List.getElem?_eq_getElem (by omega)] at g0 g1 g2 g3 g4
  rw [cells58, List.drop_zero] at g0
  rw [cells39'] at g1 g3
  rw [cells28', one_of (by omega)] at g2
  rw [cells5', one_of (by omega)] at g4
  obtain ⟨ys, m1, -, -, hl1, hy1, hf1⟩ := DataW.trod_array Tryz.underlying58 g0
  obtain ⟨a, b, hab, ha, hb⟩ : ∃ a b : Nat, List.take 2 cs = [.int .u8 a, .int .u8 b] ∧ a < 256 ∧ b < 256 := by
    rw [cells58] at hl1
    match hc : List.take 2 cs, hl1 with
    | [u0, u1], _ =>
      have q0 := hf1 0 (by decide)
      have q1 := hf1 1 (by decide)
      have hy : ys.length = 2 := hy1
      rw [hc, cells5', Nat.zero_mul, List.drop_zero, List.take_succ_cons, List.take_zero, List.getElem?_eq_getElem (by omega)] at q0
      rw [hc, cells5', Nat.one_mul, List.drop_succ_cons, List.drop_zero, List.take_succ_cons, List.take_zero, List.getElem?_eq_getElem (by omega)] at q1
      obtain ⟨a, rfl, ha⟩ := rd_u8 q0
      obtain ⟨b, rfl, hb⟩ := rd_u8 q1
      exact ⟨a, b, rfl, ha, hb⟩
  obtain ⟨kb, hkb, hk, hkr⟩ := rd_key g1
  obtain ⟨r, hr⟩ := rd_bytes g2
  obtain ⟨ko, hko, ho, hor⟩ := rd_key g3
  obtain ⟨f, hff, hf⟩ := rd_u8 g4
  have d5 : cs.drop 67 = [.int .u8 (f : Int)] := by
    rw [← hff, ← one_of (by omega), List.take_of_length_le (by simp [hl0])]
  have d4 : cs.drop 35 = ko.map (Value.int .u8) ++ [.int .u8 (f : Int)] := by rw [cut_at cs 35 32 67 rfl, hko, d5]
  have d3 : cs.drop 34 = cs[34] :: (ko.map (Value.int .u8) ++ [.int .u8 (f : Int)]) := by rw [cut_at cs 34 1 35 rfl, one_of (by omega), d4]; rfl
  have d2 : cs.drop 2 = kb.map (Value.int .u8) ++ (cs[34] :: (ko.map (Value.int .u8) ++ [.int .u8 (f : Int)])) := by rw [cut_at cs 2 32 34 rfl, hkb, d3]
  have d1 : cs.drop 0 = [.int .u8 (a : Int), .int .u8 (b : Int)] ++ (kb.map (Value.int .u8) ++ (cs[34] :: (ko.map (Value.int .u8) ++ [.int .u8 (f : Int)]))) := by
    rw [cut_at cs 0 2 2 rfl, d2, List.drop_zero, hab]
  have e00 : v0 = .agg (secC a b kb cs[34] ko f) := by
    rw [e0]; congr 1; apply Array.ext'; rw [← hcs]
    exact (List.drop_zero).symm.trans d1
  generalize cs[34] = rv at *
  subst e00
  refine (secrecy_8 W a b f kb ko r rv ha hb hf hk ho hkr hor hr).mono fun e W' ⟨he, hg⟩ => ?_
  subst he
  have hlt := hW'.lt
  refine ⟨_, rfl, _, _, _, [], p, [], hW', ?_, ?_, ?_, hg.frame _, fun h => by cases h⟩
  · exact trodAll_mk1 (shut_bool Tryz.underlying4 true)
  · have g0 := Below.trod laidOut (by kernel_rfl) (of_decide_eq_true (by kernel_rfl)) k0 hg (fun x hx => hlt x (by simp [hx]))
    have e : Tryz.f8.params.toList = [77] := by rw [Tryz.params8]
    rw [e]
    exact trodAll_mk1 g0
  · rfl

/-- The witness's arguments. -/
def wArgs : Array Value := #[.agg #[.int .u8 0, .int .u8 0, .int .u8 0, .int .u8 0, .int .u8 0, .int .u8 0, .int .u8 0, .int .u8 0, .int .u8 0, .int .u8 0, .int .u8 0, .int .u8 0, .int .u8 0, .int .u8 0, .int .u8 0, .int .u8 0, .int .u8 0, .int .u8 0, .int .u8 0, .int .u8 0, .int .u8 0, .int .u8 0, .int .u8 0, .int .u8 0, .int .u8 0, .int .u8 0, .int .u8 0, .int .u8 0, .int .u8 0, .int .u8 0, .int .u8 0, .int .u8 0, .int .u8 0, .int .u8 0, .slice none 0 0, .int .u8 0, .int .u8 0, .int .u8 0, .int .u8 0, .int .u8 0, .int .u8 0, .int .u8 0, .int .u8 0, .int .u8 0, .int .u8 0, .int .u8 0, .int .u8 0, .int .u8 0, .int .u8 0, .int .u8 0, .int .u8 0, .int .u8 0, .int .u8 0, .int .u8 0, .int .u8 0, .int .u8 0, .int .u8 0, .int .u8 0, .int .u8 0, .int .u8 0, .int .u8 0, .int .u8 0, .int .u8 0, .int .u8 0, .int .u8 0, .int .u8 0, .int .u8 0, .int .u8 0]]
/-- A world for the witness: the listed variables hold what the row lists. -/
noncomputable def laidWorld (os : Os) : World := World.laidAll Tryz.prog os Rows.forgetSecrecyRow.laid
theorem laid_met (os : Os) : laidMet Tryz.prog Rows.forgetSecrecyRow.laid ((laidWorld os).forCall (fun _ _ => 0) ⟨#[], wArgs, []⟩).memory :=
  laidMet_laidAll wArgs (by kernel_rfl) (by kernel_rfl)
theorem reads (os : Os) {H : Type} (enc : TypeId × Value → H) : ∃ places, DataW.whole enc Tryz.prog ((laidWorld os).forCall (fun _ _ => 0) ⟨#[], wArgs, []⟩).memory Tryz.f8.params.toList Rows.forgetSecrecySpec.vars false wArgs.toList 8 = some ([.agg [.agg [.lit (.int .u8 0), .lit (.int .u8 0)], .agg [.lit (.int .u8 0), .lit (.int .u8 0), .lit (.int .u8 0), .lit (.int .u8 0), .lit (.int .u8 0), .lit (.int .u8 0), .lit (.int .u8 0), .lit (.int .u8 0), .lit (.int .u8 0), .lit (.int .u8 0), .lit (.int .u8 0), .lit (.int .u8 0), .lit (.int .u8 0), .lit (.int .u8 0), .lit (.int .u8 0), .lit (.int .u8 0), .lit (.int .u8 0), .lit (.int .u8 0), .lit (.int .u8 0), .lit (.int .u8 0), .lit (.int .u8 0), .lit (.int .u8 0), .lit (.int .u8 0), .lit (.int .u8 0), .lit (.int .u8 0), .lit (.int .u8 0), .lit (.int .u8 0), .lit (.int .u8 0), .lit (.int .u8 0), .lit (.int .u8 0), .lit (.int .u8 0), .lit (.int .u8 0)], .nil, .agg [.lit (.int .u8 0), .lit (.int .u8 0), .lit (.int .u8 0), .lit (.int .u8 0), .lit (.int .u8 0), .lit (.int .u8 0), .lit (.int .u8 0), .lit (.int .u8 0), .lit (.int .u8 0), .lit (.int .u8 0), .lit (.int .u8 0), .lit (.int .u8 0), .lit (.int .u8 0), .lit (.int .u8 0), .lit (.int .u8 0), .lit (.int .u8 0), .lit (.int .u8 0), .lit (.int .u8 0), .lit (.int .u8 0), .lit (.int .u8 0), .lit (.int .u8 0), .lit (.int .u8 0), .lit (.int .u8 0), .lit (.int .u8 0), .lit (.int .u8 0), .lit (.int .u8 0), .lit (.int .u8 0), .lit (.int .u8 0), .lit (.int .u8 0), .lit (.int .u8 0), .lit (.int .u8 0), .lit (.int .u8 0)], .lit (.int .u8 0)]], [], places) :=
  ⟨[], by kernel_rfl⟩

set_option maxRecDepth 100000 in
theorem lifted (os : Os) (started : os.Started) (H : Type) (enc : TypeId × Value → H) (F : Stop.Interp) :
    ReturnsInHanded {} Tryz.checked os 8 .any ((OpenSpec.ofChange Rows.forgetSecrecySpec).preRow enc Tryz.prog Tryz.f8 Rows.forgetSecrecyRow.domain false Rows.forgetSecrecyRow.laid) (((OpenSpec.ofChange Rows.forgetSecrecySpec).at F).post enc Tryz.prog Tryz.f8 false true false false) := by
  obtain ⟨places, hx⟩ := reads os enc
  refine returnsInHanded_of_row (C := Tryz.checked) (s := OpenSpec.ofChange Rows.forgetSecrecySpec) own started (by kernel_rfl) Tryz.func8
    (witness_row_at (enc := enc) (C := Tryz.checked) false (laidWorld os) wArgs (World.laidAll_os _ _ _) (by kernel_rfl) (by kernel_rfl) (by kernel_rfl)
      (OpenSpec.preRow_of_cond 8 hx (by kernel_rfl) (fun k hk => by cases hk) (by kernel_rfl) (laid_met os))) ?_
  intro W base args ds gs before hval hW _ _ _ hL _ _
  exact contract H enc W args ds gs before base hval hW

theorem said : Rows.ForgetSecrecySaid :=
  OpenClaim.holds_of_cond 8 Tryz.f8 rfl rfl rfl rfl rfl rfl rfl ⟨rfl, rfl, rfl, rfl, rfl⟩ rfl rfl rfl rfl rfl (by kernel_rfl) Tryz.func8 (by kernel_rfl)
    (of_decide_eq_true (by kernel_rfl)) (by unfold Func.isWrapper; first | (rw [if_pos (by decide +kernel)]; kernel_rfl) | (rw [if_neg (by decide +kernel)]; exact ⟨rfl, rfl⟩))
    (fun os started H enc _ F => by rw [OpenClaim.pre_eq_preRow]; exact lifted os started H enc F)

/-- No parameter wants a stand-in. -/
theorem plain (f : FuncId) (fn : Func) (hf : Tryz.pinned.checked.prog.funcNamed "fenland/fenlandlaw35.ForgetSecrecy" = some f) (hfn : Tryz.pinned.checked.prog.funcs[f]? = some fn) :
    false = Tryz.pinned.checked.prog.looks [] ∧ ∀ (j : Nat) t, fn.params[j]? = some t → Tryz.pinned.checked.prog.wantsStandIn t = false := by
  obtain rfl : f = 8 := Option.some.inj ((show Tryz.prog.funcNamed "fenland/fenlandlaw35.ForgetSecrecy" = some 8 by kernel_rfl).symm.trans hf) |>.symm
  obtain rfl : fn = Tryz.f8 := (Option.some.inj (Tryz.func8.symm.trans hfn)).symm
  refine ⟨by kernel_rfl, fun j t ht => ?_⟩
  rw [Tryz.params8] at ht
  have hm : t ∈ #[77] := Array.mem_of_getElem? ht
  obtain rfl : t = 77 := by simpa using hm
  exact (show Tryz.prog.wantsStandIn 77 = false by kernel_rfl)
end Go.Proofs.YtpbgipdkaaooeaaGreatDoor.fnSecrecy
namespace Go.Proofs.YtpbgipdkaaooeaaGreatDoor
open Go
/-- The tied card. -/
theorem forgetSecrecy_card : Rows.ForgetSecrecyCardSaid :=
  Claim7.holds_tied_plain_at .later [] _ _ _ _ fnSecrecy.said (fun _ h => by cases h) (by kernel_rfl) (fun _ h => by cases h) forgetSecrecy_row_tie rfl ⟨rfl, rfl⟩ (by kernel_rfl) rfl fnSecrecy.plain (by kernel_rfl)
#print axioms forgetSecrecy_card
end Go.Proofs.YtpbgipdkaaooeaaGreatDoor
