/- ForgetCertificates answers true for every input, whatever the named variables hold beyond what the row lists; each argument reads afterwards as it read before. -/
import Derived.Test.YtpbgipdkaaooeaaGreatDoorCards
import Derived.Test.YtpbgipdkaaooeaaGreatDoorTie
import Derived.Test.YtpbgipdkaaooeaaGreatDoorZR
import Derived.Test.YtpbgipdkaaooeaaGreatDoorCA
import Derived.WalkKit
import Derived.ProofKit
import Derived.OpenShut
import Derived.Deep.DeepHandedRow
import Derived.Lay
namespace Go.Proofs.YtpbgipdkaaooeaaGreatDoor.fnCerts
set_option linter.unusedSimpArgs false
set_option linter.unusedVariables false
open Go Go.Proofs Go.ChangeShapes Go.WideShapes Go.ChangeAt Go.RowKit

theorem own : ownKnob Tryz.prog.godebug = none := by kernel_rfl
theorem laidOut : laidOutB Tryz.prog = true := by kernel_rfl

theorem cells4' : Tryz.prog.cellsOf 4 = 1 := by kernel_rfl
section
open Go.Deep
variable {H : Type} {enc : TypeId × Value → H} {w : World} {spare : Nat → Bool} {held : Bool}
theorem rd_bools {n : Nat} {v : Value} {x : DataW H × List MemPlace} (h : DataW.trod enc Tryz.prog w 0 spare held n 31 [v] = some x) : ∃ l, BoolsR w v l := by
  rcases Go.Deep.open_slice Tryz.underlying31 h with ⟨hv, -⟩ | ⟨a, len, cap, m, k, D, Pl, hv, -, hle, hm, hmm, -, hx⟩
  · simp only [List.cons.injEq, and_true] at hv
    subst hv
    exact ⟨[], RowR.nil w 1⟩
  · simp only [List.cons.injEq, and_true] at hv
    subst hv
    have hlm : len ≤ m := by rw [hmm]; split <;> omega
    obtain ⟨q, hq⟩ := choose_lt (α := Bool) (p := fun i q => w.cells? 0 (a.add (i * 1)) 1 = some [.bool q]) (n := len) (fun i hi => by
      obtain ⟨cs', h1, h2⟩ := hx i (by omega)
      obtain ⟨b, rfl, -⟩ := DataW.trod_bool Tryz.underlying4 h2
      rw [cells4'] at h1
      exact ⟨b, h1⟩)
    have hl : ((List.range len).map q).length = len := by simp
    refine ⟨(List.range len).map q, by simp, some a, cap, by rw [hl], by omega, hm, fun h0 => ?_⟩
    rw [hl] at h0
    have c0 := (World.cells?_some (hq 0 h0)).2.2 0 (by omega)
    rw [Nat.zero_mul, addr_add_zero, addr_add_zero] at c0
    have hp := plain_addr (u := .bool (q 0)) (by rw [c0]; rfl)
    have hq2 : ∀ i, i < len → w.cell? ⟨a.block, a.off + i, none⟩ = some (.bool (q i)) := fun i hi => by
      have := (World.cells?_some (hq i hi)).2.2 0 (by omega)
      rw [hp, add_plain', add_plain', Nat.mul_one, Nat.add_zero] at this
      exact this
    rw [hp]
    refine ⟨a.block, a.off, rfl, ?_, fun j hj => ?_⟩
    · exact World.block_lt_of_cell? w ⟨a.block, a.off + 0, none⟩ (hq2 0 h0)
    · rw [hl, Nat.mul_one] at hj
      rw [hq2 j hj]
      simp [hj]
end
theorem agg_of {v : Value} {n : Nat} (h : v.cells.toList.length = n) (hn : n ≠ 1) : v = .agg v.cells := by
  cases v <;> first | rfl | (simp [Value.cells] at h; omega)

set_option maxRecDepth 100000 in
/-- What the walk gives, for every argument and every world. -/
theorem contract (H : Type) (enc : TypeId × Value → H) (W : World) (args : Array Value) (ds gs : List (DataW H)) (before : List MemPlace)
    (base : Nat) (hval0 : ∀ (j : Nat) t v, Tryz.f7.params[j]? = some t → args[j]? = some v → Value.okWide Tryz.prog W .any base t v)
    (hW : DataW.Whole enc Tryz.prog Tryz.f7.params.toList Rows.forgetCertificatesSpec.vars false W args.toList ds gs before) :
    Calls Tryz.prog 7 args W fun e W' => ∃ v, e = .returned v ∧ Rows.forgetCertificatesSpec.post enc Tryz.prog Tryz.f7 false true false false W args v W' := by
  have hW' := hW
  obtain ⟨p, q, hA0, hV, rfl, hfz, hnd⟩ := hW
  have hA : DataW.TrodAll enc Tryz.prog W 0 (fun _ => true) true Tryz.f7.params.toList args.toList ds p := hA0
  rw [Tryz.params7] at hA hval0
  obtain ⟨v0, v1, v2, d0, d1, d2, p0, p1, p2, rfl, rfl, rfl, h0, h1, h2⟩ := trodAll_three hA
  obtain ⟨rfl, rfl⟩ := trodVars_none hV
  clear hA0 hA
  simp only [List.append_nil] at hW'
  have k0 := h0
  have k1 := h1
  have k2 := h2
  obtain ⟨n0, h0⟩ := h0
  obtain ⟨n1, h1⟩ := h1
  obtain ⟨n2, h2⟩ := h2
  -- the pair of numbers
  obtain ⟨xs, m0, -, -, hl0, hx0, hf0⟩ := DataW.trod_array Tryz.underlying58 h0
  rw [cells58] at hl0
  have e0 := agg_of hl0 (by decide)
  obtain ⟨a, b, hab, ha, hb⟩ : ∃ a b : Nat, v0.cells.toList = [.int .u8 a, .int .u8 b] ∧ a < 256 ∧ b < 256 := by
    match hc : v0.cells.toList, hl0 with
    | [u0, u1], _ =>
      have g0 := hf0 0 (by decide)
      have g1 := hf0 1 (by decide)
      rw [hc, cells5', Nat.zero_mul, List.drop_zero, List.take_succ_cons, List.take_zero, List.getElem?_eq_getElem (by omega)] at g0
      rw [hc, cells5', Nat.one_mul, List.drop_succ_cons, List.drop_zero, List.take_succ_cons, List.take_zero, List.getElem?_eq_getElem (by omega)] at g1
      obtain ⟨a, rfl, ha⟩ := rd_u8 g0
      obtain ⟨b, rfl, hb⟩ := rd_u8 g1
      exact ⟨a, b, rfl, ha, hb⟩
  have e00 : v0 = .agg #[.int .u8 a, .int .u8 b] := by
    rw [e0]; congr 1; apply Array.ext'; rw [hab]
  -- the steps
  have c1 : v1.cells.toList = [v1] := by
    obtain ⟨sa, sl, sc, rfl⟩ := okWide_slice Tryz.underlying59 (hval0 1 59 v1 rfl rfl)
    rfl
  rw [c1] at h1
  obtain ⟨l, hl⟩ := rd_acts h1
  -- who is down
  have c2 : v2.cells.toList = [v2] := by
    obtain ⟨sa, sl, sc, rfl⟩ := okWide_slice Tryz.underlying31 (hval0 2 31 v2 rfl rfl)
    rfl
  rw [c2] at h2
  obtain ⟨down, hd⟩ := rd_bools h2
  subst e00
  refine (certs_7 W a b v1 v2 l down ha hb hl hd).mono fun e W' ⟨he, hg⟩ => ?_
  subst he
  have hlt := hW'.lt
  refine ⟨_, rfl, _, _, _, [], p0 ++ (p1 ++ p2), [], hW', ?_, ?_, ?_, hg.frame _, fun h => by cases h⟩
  · exact trodAll_mk1 (shut_bool Tryz.underlying4 true)
  · have g0 := Below.trod laidOut (by kernel_rfl) (of_decide_eq_true (by kernel_rfl)) k0 hg (fun x hx => hlt x (by simp [hx]))
    have g1 := Below.trod laidOut (by kernel_rfl) (of_decide_eq_true (by kernel_rfl)) k1 hg (fun x hx => hlt x (by simp [hx]))
    have g2 := Below.trod laidOut (by kernel_rfl) (of_decide_eq_true (by kernel_rfl)) k2 hg (fun x hx => hlt x (by simp [hx]))
    have e : Tryz.f7.params.toList = [58, 59, 31] := by rw [Tryz.params7]
    rw [e]
    exact trodAll_mk3 g0 g1 g2
  · rfl

/-- The witness's arguments. -/
def wArgs : Array Value := #[.agg #[.int .u8 0, .int .u8 0], .slice none 0 0, .slice none 0 0]
/-- A world for the witness: the listed variables hold what the row lists. -/
noncomputable def laidWorld (os : Os) : World := World.laidAll Tryz.prog os Rows.forgetCertificatesRow.laid
theorem laid_met (os : Os) : laidMet Tryz.prog Rows.forgetCertificatesRow.laid ((laidWorld os).forCall (fun _ _ => 0) ⟨#[], wArgs, []⟩).memory :=
  laidMet_laidAll wArgs (by kernel_rfl) (by kernel_rfl)
theorem reads (os : Os) {H : Type} (enc : TypeId × Value → H) : ∃ places, DataW.whole enc Tryz.prog ((laidWorld os).forCall (fun _ _ => 0) ⟨#[], wArgs, []⟩).memory Tryz.f7.params.toList Rows.forgetCertificatesSpec.vars false wArgs.toList 8 = some ([.agg [.lit (.int .u8 0), .lit (.int .u8 0)], .nil, .nil], [], places) :=
  ⟨[], by kernel_rfl⟩

set_option maxRecDepth 100000 in
theorem lifted (os : Os) (started : os.Started) (H : Type) (enc : TypeId × Value → H) (F : Stop.Interp) :
    ReturnsInHanded {} Tryz.checked os 7 .any ((OpenSpec.ofChange Rows.forgetCertificatesSpec).preRow enc Tryz.prog Tryz.f7 Rows.forgetCertificatesRow.domain false Rows.forgetCertificatesRow.laid) (((OpenSpec.ofChange Rows.forgetCertificatesSpec).at F).post enc Tryz.prog Tryz.f7 false true false false) := by
  obtain ⟨places, hx⟩ := reads os enc
  refine returnsInHanded_of_row (C := Tryz.checked) (s := OpenSpec.ofChange Rows.forgetCertificatesSpec) own started (by kernel_rfl) Tryz.func7
    (witness_row_at (enc := enc) (C := Tryz.checked) false (laidWorld os) wArgs (World.laidAll_os _ _ _) (by kernel_rfl) (by kernel_rfl) (by kernel_rfl)
      (OpenSpec.preRow_of_cond 8 hx (by kernel_rfl) (fun k hk => by cases hk) (by kernel_rfl) (laid_met os))) ?_
  intro W base args ds gs before hval hW _ _ _ hL _ _
  exact contract H enc W args ds gs before base hval hW

theorem said : Rows.ForgetCertificatesSaid :=
  OpenClaim.holds_of_cond 7 Tryz.f7 rfl rfl rfl rfl rfl rfl rfl ⟨rfl, rfl, rfl, rfl, rfl⟩ rfl rfl rfl rfl rfl (by kernel_rfl) Tryz.func7 (by kernel_rfl)
    (of_decide_eq_true (by kernel_rfl)) (by unfold Func.isWrapper; first | (rw [if_pos (by decide +kernel)]; kernel_rfl) | (rw [if_neg (by decide +kernel)]; exact ⟨rfl, rfl⟩))
    (fun os started H enc _ F => by rw [OpenClaim.pre_eq_preRow]; exact lifted os started H enc F)

/-- No parameter wants a stand-in. -/
theorem plain (f : FuncId) (fn : Func) (hf : Tryz.pinned.checked.prog.funcNamed "fenland/fenlandlaw35.ForgetCertificates" = some f) (hfn : Tryz.pinned.checked.prog.funcs[f]? = some fn) :
    false = Tryz.pinned.checked.prog.looks [] ∧ ∀ (j : Nat) t, fn.params[j]? = some t → Tryz.pinned.checked.prog.wantsStandIn t = false := by
  obtain rfl : f = 7 := Option.some.inj ((show Tryz.prog.funcNamed "fenland/fenlandlaw35.ForgetCertificates" = some 7 by kernel_rfl).symm.trans hf) |>.symm
  obtain rfl : fn = Tryz.f7 := (Option.some.inj (Tryz.func7.symm.trans hfn)).symm
  refine ⟨by kernel_rfl, fun j t ht => ?_⟩
  rw [Tryz.params7] at ht
  have hm : t ∈ #[58, 59, 31] := Array.mem_of_getElem? ht
  have ht3 : t = 58 ∨ t = 59 ∨ t = 31 := by simpa using hm
  rcases ht3 with rfl | rfl | rfl
  · exact (show Tryz.prog.wantsStandIn 58 = false by kernel_rfl)
  · exact (show Tryz.prog.wantsStandIn 59 = false by kernel_rfl)
  · exact (show Tryz.prog.wantsStandIn 31 = false by kernel_rfl)
end Go.Proofs.YtpbgipdkaaooeaaGreatDoor.fnCerts
namespace Go.Proofs.YtpbgipdkaaooeaaGreatDoor
open Go
/-- The tied card. -/
theorem forgetCertificates_card : Rows.ForgetCertificatesCardSaid :=
  Claim7.holds_tied_plain_at .later [] _ _ _ _ fnCerts.said (fun _ h => by cases h) (by kernel_rfl) (fun _ h => by cases h) forgetCertificates_row_tie rfl ⟨rfl, rfl⟩ (by kernel_rfl) rfl fnCerts.plain (by kernel_rfl)
#print axioms forgetCertificates_card
end Go.Proofs.YtpbgipdkaaooeaaGreatDoor
