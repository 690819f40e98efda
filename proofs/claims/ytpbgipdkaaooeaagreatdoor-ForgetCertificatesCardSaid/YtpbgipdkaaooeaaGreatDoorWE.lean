/- R4.Well; R4.Combine of too few shares. -/
import Derived.Test.YtpbgipdkaaooeaaGreatDoorZO
import Derived.BigQuiet
import Derived.Deep.DeepCutAuto
open Go Go.Proofs Go.RowKit
namespace Go.Proofs.YtpbgipdkaaooeaaGreatDoor
set_option linter.unusedSimpArgs false
set_option linter.unusedVariables false
attribute [local go_sem ↓] Go.wp_at_zero Go.wp_at_succ

/-- What a list of shares holds at each place. -/
theorem shares_here {w : World} {v : Value} {ps : List (Int × Value)} {l : ShareL} (hl : RowR w v 2 (shareCells ps) ps.length) (hs : SharesAre w ps l) : ∃ ao n cap, v = .slice ao n cap ∧ n = l.length ∧ n ≤ cap ∧ cap ≤ maxLen ∧
    (0 < n → ∃ b off, ao = some ⟨b, off, none⟩ ∧ b < w.heap.size ∧ Hid (∀ j, j < n → ∃ av kv, BytesR w (.slice av (bsD l j).length kv) (bsD l j) ∧ ptD l j < 256 ∧ ∀ wx, Below w.heap.size w wx → wx.cell? ⟨b, off + j * 2, none⟩ = some (.int .u8 (ptD l j)) ∧ wx.cell? ⟨b, off + j * 2 + 1, none⟩ = some (.slice av (bsD l j).length kv))) := by
  obtain ⟨hlen, ao, cap, rfl, hle, hm, hcell⟩ := hl
  have hpl := hs.length
  refine ⟨ao, ps.length, cap, rfl, hpl, hle, hm, fun hn => ?_⟩
  obtain ⟨b, off, rfl, hbb, hcells⟩ := hcell hn
  refine ⟨b, off, rfl, hbb, Lib.hid fun j hj => ?_⟩
  have hjl : j < l.length := by omega
  have hat := shareCells_at ps j hj
  obtain ⟨e1, e2, e3⟩ := hs.at j hj hjl
  have hp : ptD l j = l[j].1 := by unfold ptD; rw [List.getD_eq_getElem?_getD, List.getElem?_eq_getElem hjl]; rfl
  have hq : bsD l j = l[j].2 := by unfold bsD; rw [List.getD_eq_getElem?_getD, List.getElem?_eq_getElem hjl]; rfl
  obtain ⟨-, av, kv, hv, -⟩ := id e3.1
  rw [hp, hq]
  rw [hv] at e3
  refine ⟨av, kv, e3, e2, fun wx hbe => ?_⟩
  have c1 := hcells (j * 2) (by omega)
  have c2 := hcells (j * 2 + 1) (by omega)
  rw [hat.1, e1] at c1
  rw [hat.2, hv, ← Nat.add_assoc] at c2
  exact ⟨by rw [hbe.cell (p := ⟨b, off + j * 2, none⟩) hbb]; exact c1, by rw [hbe.cell (p := ⟨b, off + j * 2 + 1, none⟩) hbb]; exact c2⟩

/-- Which points were seen among the first i shares. -/
def seenC (l : ShareL) (i : Nat) : Array Value := ((List.range 256).map fun c => Value.bool (decide (0 < (tabL l i).getD c 0))).toArray
theorem seenC_size (l : ShareL) (i : Nat) : (seenC l i).size = 256 := by simp [seenC]
theorem seenC_at (l : ShareL) (i k : Nat) (h : k < 256) : (seenC l i)[k]? = some (.bool (decide (0 < (tabL l i).getD k 0))) := by
  unfold seenC
  rw [List.getElem?_toArray, List.getElem?_map, List.getElem?_range h]; rfl
theorem seenC_set (l : ShareL) (i : Nat) (h : ptD l i < 256) : (seenC l i).setIfInBounds (ptD l i) (.bool true) = seenC l (i + 1) := by
  apply Array.ext
  · simp [seenC_size]
  · intro j h1 h2
    have hj : j < 256 := by simpa [seenC_size] using h2
    have e1 := seenC_at l i j hj
    have e2 := seenC_at l (i + 1) j hj
    rw [Array.getElem?_eq_getElem (by rw [seenC_size]; exact hj)] at e1 e2
    rw [Array.getElem_setIfInBounds, Option.some.inj e2]
    have hl := tabL_length l i
    split
    · rename_i e
      rw [tabL, List.getD_eq_getElem?_getD, ← e, List.getElem?_set_self (by omega)]
      simp
    · rename_i e
      rw [tabL, List.getD_eq_getElem?_getD, List.getElem?_set_ne e, ← List.getD_eq_getElem?_getD]
      exact Option.some.inj e1
    · rw [seenC_size]; exact hj
theorem seenC_zero (l : ShareL) : seenC l 0 = (List.replicate 256 (Value.bool false)).toArray := by
  show seenC [] 0 = _
  kernel_rfl
theorem mk31 (w : World) : (Instr.makeSlice 31 (.int .i64 256) (.int .i64 256)).run Tryz.prog w = .ok (.slice (some ⟨w.heap.size, 0, none⟩) 256 256) (w.alloc (.cells (List.replicate 256 (Value.bool false)).toArray 4)) := by kernel_rfl

set_option maxRecDepth 100000 in
set_option maxHeartbeats 1000000 in
/-- R4.Well -/
theorem well_62 (w : World) (v : Value) (ps : List (Int × Value)) (l : ShareL) (hl : RowR w v 2 (shareCells ps) ps.length) (hs : SharesAre w ps l) (hn2 : ps.length ≤ 70000) :
    Calls Tryz.prog 62 #[v] w fun e w' => e = .returned (.bool (okTo l l.length)) ∧ Below w.heap.size w w' := by
  have hpl0 := hs.length
  obtain ⟨ao, n, cap, rfl, hN, hle, hm, hc⟩ := shares_here hl hs
  have HC := Lib.hid hc
  have hn3 : n ≤ 70000 := by omega
  have HPL := Lib.hid hN
  clear hl hs hn2 hpl0 hc hN hm
  have MK : ∀ w : World, (Instr.makeSlice 31 (.int .i64 256) (.int .i64 256)).run Tryz.prog w = .ok (.slice (some ⟨w.heap.size, 0, none⟩) 256 256) (w.alloc (.cells (seenC l 0) 4)) := fun w => by rw [seenC_zero]; exact mk31 w
  go_enter Tryz.func62, Tryz.ntmps62
  go_upto_region 3 with fail
  clear MK
  have HB0 : Hid (Below w.heap.size w (w.alloc (.cells (seenC l 0) 4))) := Lib.hid ((Below.refl _ _).alloc (Nat.le_refl _) _)
  have HT0 := Lib.hid (heap_alloc_new w (.cells (seenC l 0) 4))
  go_loopw [4] (fun c wr => ∃ q : Nat, q ≤ n ∧ c = .int .i64 ((q : Nat) : Int) ∧ Hid (Below w.heap.size w wr) ∧ Hid (wr.heap[w.heap.size]? = some (.cells (seenC l q) 4 (0, 0))) ∧ Hid (okTo l q = true)) (fun c _ => n - (intOf c).toNat)
  case atStart => exact ⟨0, Nat.zero_le _, rfl, HB0, HT0, rfl⟩
  case round =>
    clear HB0 HT0
    obtain ⟨q, hq, rfl, HB, HT, HOK⟩ := hrel
    by_cases hlt : q < n
    · obtain ⟨b, off, rfl, hbb, HAT⟩ := HC.out (by omega)
      obtain ⟨av, kv, hbq, hpq, hcq⟩ := HAT.out q hlt
      obtain ⟨av0, kv0, hb0, hp0, hc0⟩ := HAT.out 0 (by omega)
      have hbr : b < wr.heap.size := Nat.lt_of_lt_of_le hbb HB.out.size
      have HBAD : Hid (badD l q = (decide (ptD l q = 0) || decide (0 < (tabL l q).getD (ptD l q) 0) || decide ((bsD l q).length ≠ (bsD l 0).length))) := Lib.hid rfl
      have HNXT : Hid (badD l q = false → okTo l (q + 1) = true) := fun h => by unfold okTo; rw [HOK.out, h]; rfl
      have HBD : Hid (badD l q = true → okTo l l.length = false) := fun h => okTo_false l h (by have := HPL.out; omega)
      have HSET := Lib.hid (seenC_set l q hpq)
      have HATP := Lib.hid (seenC_at l q (ptD l q) hpq)
      have HSZ := Lib.hid (seenC_size l q)
      obtain ⟨c1, c2⟩ := hcq wr HB.out
      obtain ⟨z1, z2⟩ := hc0 wr HB.out
      simp only [Nat.zero_mul, Nat.add_zero] at z2
      obtain ⟨t1, t2, t3⟩ := box_walk HT.out
      have t4 := (t1 (ptD l q)).trans HATP.out
      clear hbq hb0 hcq hc0 hp0 z1 t1
      generalize decide (0 < (tabL l q).getD (ptD l q) 0) = sn at *
      generalize seenC l q = tb at *
      generalize ptD l q = p at *
      generalize (bsD l q).length = ln at *
      generalize (bsD l 0).length = ln0 at *
      have HBN : Hid (∀ nq, Below w.heap.size w (wr.drewN nq)) := fun nq => below_step HB.out ⟨rfl, rfl, rfl, Nat.le_refl _, fun _ _ => rfl⟩
      go_upto_region 5 with fail
      by_cases hp0 : p = 0
      · have HE : Hid (okTo l l.length = false) := Lib.hid (HBD.out (by rw [HBAD.out]; simp [hp0]))
        have hp0' : ((p : Int) == 0) = true := by simp; omega
        go_quiet (fail)
        go_wp2
        go_ret
        exact ⟨by rw [HE.out]; rfl, HBN.out _⟩
      · have hp0' : ((p : Int) == 0) = false := by simp; omega
        cases sn with
        | true =>
          have HE : Hid (okTo l l.length = false) := Lib.hid (HBD.out (by rw [HBAD.out]; simp))
          go_quiet (fail)
          go_wp2
          go_ret
          exact ⟨by rw [HE.out]; rfl, HBN.out _⟩
        | false =>
          by_cases hln : ln = ln0
          · have HE : Hid (okTo l (q + 1) = true) := Lib.hid (HNXT.out (by rw [HBAD.out]; simp [hp0, hln]))
            have hl1 : (ln : Int) = (ln0 : Int) := by omega
            go_quiet (fail)
            go_wp2
            go_roundw
            case rel =>
              exact ⟨q + 1, by omega, by go_num, Lib.hid ((HBN.out _).setCell (Nat.le_refl _) _), by rw [← HSET.out]; exact blk_set (w := wr.drewN nq) HT.out _ _, HE⟩
            case measure => simp [intOf] <;> omega
          · have HE : Hid (okTo l l.length = false) := Lib.hid (HBD.out (by rw [HBAD.out]; simp [hln]))
            have hl1 : ¬ (ln : Int) = (ln0 : Int) := by omega
            go_quiet (fail)
            go_wp2
            go_ret
            exact ⟨by rw [HE.out]; rfl, HBN.out _⟩
    · obtain rfl : q = n := by omega
      have HR : Hid (okTo l l.length = true) := Lib.hid (by rw [← HPL.out]; exact HOK.out)
      go_wp2
      go_ret
      exact ⟨by rw [HR.out]; rfl, HB.out⟩
set_option maxRecDepth 100000 in
set_option maxHeartbeats 1000000 in
/-- R4.Combine of fewer shares than needed -/
theorem comb_35_few (w : World) (v : Value) (ps : List (Int × Value)) (l : ShareL) (need : Int) (hl : RowR w v 2 (shareCells ps) ps.length) (hs : SharesAre w ps l) (hn2 : ps.length ≤ 70000) (h1 : 1 ≤ need) (h2 : need ≤ 255) (hf : (l.length : Int) < need) :
    Calls Tryz.prog 35 #[v, .int .i64 need] w fun e w' => e = .returned (.tuple #[.slice none 0 0, .int .i64 40]) ∧ Below w.heap.size w w' := by
  have C : Hid (Calls Tryz.prog 62 #[v] w fun e w' => e = .returned (.bool (okTo l l.length)) ∧ Hid (Below w.heap.size w w')) := Lib.hid (well_62 w v ps l hl hs hn2)
  obtain ⟨-, ao, cap, rfl, -⟩ := hl
  have hpl := hs.length
  rw [← hpl] at hf
  clear hs hpl
  generalize okTo l l.length = ok at *
  generalize ps.length = n at *
  have d1 : decide ((n : Int) < need) = true := decide_eq_true hf
  cases ok with
  | false =>
    go_enter Tryz.func35, Tryz.ntmps35
    go_wp2_with (go_at_call 62; refine C.out.mono ?_; rintro e w1 ⟨rfl, HB⟩)
    go_ret2
    exact ⟨rfl, HB.out⟩
  | true =>
    go_enter Tryz.func35, Tryz.ntmps35
    go_wp2_with (go_at_call 62; refine C.out.mono ?_; rintro e w1 ⟨rfl, HB⟩)
    go_ret2
    exact ⟨rfl, HB.out⟩
end Go.Proofs.YtpbgipdkaaooeaaGreatDoor
