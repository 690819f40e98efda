/- R35.through: the walk. -/
import Derived.Test.YtpbgipdkaaooeaaGreatDoorPF
import Derived.Test.YtpbgipdkaaooeaaGreatDoorMU
import Derived.Test.YtpbgipdkaaooeaaGreatDoorRH
import Derived.Deep.RegionWith
open Go Go.Proofs Go.RowKit
namespace Go.Proofs.YtpbgipdkaaooeaaGreatDoor
set_option linter.unusedSimpArgs false
set_option linter.unusedVariables false
attribute [local go_sem ↓] Go.wp_at_zero Go.wp_at_succ

def natC (l : List Nat) : Array Value := (l.map fun x : Nat => Value.int .u8 (x : Int)).toArray
theorem natC_size (l : List Nat) : (natC l).size = l.length := by simp [natC]
theorem natC_at (l : List Nat) (i : Nat) (h : i < l.length) : (natC l)[i]? = some (.int .u8 ((l.getD i 0 : Nat) : Int)) := by
  unfold natC
  rw [List.getElem?_toArray, List.getElem?_map, List.getElem?_eq_getElem h, List.getD_eq_getElem?_getD, List.getElem?_eq_getElem h]; rfl
theorem natC_set (l : List Nat) (i x : Nat) : (natC l).setIfInBounds i (.int .u8 (x : Int)) = natC (l.set i x) := by
  apply Array.ext'
  simp [natC]
/-- make([]byte, n), known whole -/
theorem make28 (w : World) (n : Nat) (hn : n ≤ 4096) (h0 : 0 < n) : ∃ W, (Instr.makeSlice 28 (.int .i64 (n : Int)) (.int .i64 (n : Int))).run Tryz.prog w = .ok (.slice (some ⟨w.heap.size, 0, none⟩) n n) W ∧ W.heap[w.heap.size]? = some (.cells (natC (List.replicate n 0)) 5 (0, 0)) ∧ Below w.heap.size w W := by
  obtain ⟨i0, HI⟩ := info5
  obtain ⟨W, hrun, hown, hgr⟩ := run_make_full (P := Tryz.prog) w w.heap.size 28 5 i0 (.int .u8 0) 1 und28 HI.1 HI.2.1 HI.2.2.1 .i64 .i64 n (by rw [HI.2.2.2]; omega) (by unfold maxLen; omega) (Nat.le_refl _)
  rw [show Value.cells (.int .u8 0) = #[.int .u8 0] from rfl, toList_madeCells_one, Nat.mul_one] at hown
  refine ⟨W, hrun, ?_, ⟨hgr.os, hgr.tape, hgr.output, hgr.size, fun k hk => hgr.block k hk (by simp)⟩⟩
  obtain ⟨-, hh⟩ := hown
  rcases hh with ⟨h, -⟩ | ⟨g, cap, cur, h, -, hb, -, -, hs, ht⟩
  · cases h
  · simp only [Value.slice.injEq, Option.some.injEq, Addr.mk.injEq, and_true, true_and] at h
    obtain ⟨rfl, rfl⟩ := h
    rw [hb]
    have : cur = natC (List.replicate n 0) := by
      apply Array.ext'
      rw [Nat.mul_one, List.take_of_length_le (by simp; omega)] at ht
      rw [ht]
      simp [natC]
    rw [this]
/-- What through's loops keep: the result's block. -/
structure TI (w : World) (out : List Nat) (wr : World) : Prop where
  below : Below w.heap.size w wr
  out : wr.heap[w.heap.size]? = some (.cells (natC out) 5 (0, 0))
theorem TI.later {w wr w' : World} {out : List Nat} (h : TI w out wr) (hb : Below wr.heap.size wr w') : TI w out w' := ⟨below_step h.below hb, blk_later h.out hb⟩
theorem TI.other {w wr : World} {out : List Nat} (h : TI w out wr) {g : Nat} (hg : w.heap.size < g) (i : Nat) (u : Value) : TI w out (wr.setCell ⟨g, i, none⟩ u) :=
  ⟨h.below.setCell (Nat.le_of_lt hg) _, (Below.heap_setCell _ _ _ _ (Nat.ne_of_lt hg)).trans h.out⟩
/-- The result after i points, and k coefficients of the next. -/
def rowO (P V : Nat → Nat) (n i k : Nat) : List Nat := (List.range n).map fun c => if c < k then outD P V n (i + 1) c else outD P V n i c
theorem rowO_length (P V : Nat → Nat) (n i k : Nat) : (rowO P V n i k).length = n := by simp [rowO]
theorem rowO_getD (P V : Nat → Nat) (n i k c : Nat) (hc : c < n) : (rowO P V n i k).getD c 0 = if c < k then outD P V n (i + 1) c else outD P V n i c := by
  unfold rowO
  rw [List.getD_eq_getElem?_getD, List.getElem?_map, List.getElem?_range hc]; rfl
theorem rowO_step (P V : Nat → Nat) (n i k : Nat) (hk : k < n) : (rowO P V n i k).set k (outD P V n (i + 1) k) = rowO P V n i (k + 1) := by
  refine List.ext_getElem (by simp [rowO]) fun j h1 h2 => ?_
  simp only [List.getElem_set, rowO, List.getElem_map, List.getElem_range]
  by_cases e : k = j
  · subst e; rw [if_pos rfl, if_pos (by omega)]
  · rw [if_neg e]
    by_cases h : j < k
    · rw [if_pos h, if_pos (by omega)]
    · rw [if_neg h, if_neg (by omega)]
theorem rowO_full (P V : Nat → Nat) (n i : Nat) : rowO P V n i n = rowO P V n (i + 1) 0 := by
  refine List.ext_getElem (by simp [rowO]) fun j h1 h2 => ?_
  simp only [rowO, List.getElem_map, List.getElem_range]
  have : j < n := by simpa [rowO] using h1
  rw [if_pos this, if_neg (by omega)]
theorem rowO_zero (P V : Nat → Nat) (n : Nat) : rowO P V n 0 0 = List.replicate n 0 := by
  refine List.ext_getElem (by simp [rowO]) fun j h1 h2 => ?_
  simp only [rowO, List.getElem_map, List.getElem_range, List.getElem_replicate]
  rw [if_neg (by omega)]; rfl
def ThrRet (w : World) (P V : Nat → Nat) (n : Nat) (e : Ending) (w' : World) : Prop := e = .returned (.slice (some ⟨w.heap.size, 0, none⟩) n n) ∧ Hid (w'.heap[w.heap.size]? = some (.cells (natC (rowO P V n n 0)) 5 (0, 0))) ∧ Hid (Below w.heap.size w w')
set_option maxRecDepth 100000 in
set_option maxHeartbeats 4000000 in
theorem through_66 (w : World) (vp vv : Value) (pl vl : List Int) (n : Nat) (hp : BytesR w vp pl) (hv : BytesR w vv vl) (hpl : pl.length = n) (hvl : vl.length = n) (hn : n ≤ 4000) (h1n : 0 < n) :
    Calls Tryz.prog 66 #[vp, vv] w (ThrRet w (byteAt pl) (byteAt vl) n) := by
  have HPB : Hid (∀ j, byteAt pl j < 256) := Lib.hid (fun j => (byteAt_of hp j).1)
  have HVB : Hid (∀ j, byteAt vl j < 256) := Lib.hid (fun j => (byteAt_of hv j).1)
  have HPA : Hid (∀ j, j < n → pl.getD j 0 = ((byteAt pl j : Nat) : Int)) := Lib.hid (fun j hj => by
    have := (byteAt_of hp j).2 (by omega)
    rw [← this, List.getD_eq_getElem?_getD, List.getElem?_eq_getElem (by omega)]; rfl)
  have HVA : Hid (∀ j, j < n → vl.getD j 0 = ((byteAt vl j : Nat) : Int)) := Lib.hid (fun j hj => by
    have := (byteAt_of hv j).2 (by omega)
    rw [← this, List.getD_eq_getElem?_getD, List.getElem?_eq_getElem (by omega)]; rfl)
  obtain ⟨ap, np, cp, rfl, hnp, hap⟩ := bytes_here hp
  obtain ⟨av, nv, cv, rfl, hnv, hav⟩ := bytes_here hv
  obtain rfl : np = n := by omega
  obtain rfl : nv = np := by omega
  have HP : Hid (∀ j, j < nv → ∃ b off, ap = some ⟨b, off, none⟩ ∧ b < w.heap.size ∧ ∀ wx, Below w.heap.size w wx → wx.cell? ⟨b, off + j, none⟩ = some (.int .u8 ((byteAt pl j : Nat) : Int))) := Lib.hid (fun j hj => by
    obtain ⟨b, off, e, hb, hc⟩ := hap j hj
    exact ⟨b, off, e, hb, fun wx hx => by rw [hc wx hx, HPA.out j hj]⟩)
  have HVV : Hid (∀ j, j < nv → ∃ b off, av = some ⟨b, off, none⟩ ∧ b < w.heap.size ∧ ∀ wx, Below w.heap.size w wx → wx.cell? ⟨b, off + j, none⟩ = some (.int .u8 ((byteAt vl j : Nat) : Int))) := Lib.hid (fun j hj => by
    obtain ⟨b, off, e, hb, hc⟩ := hav j hj
    exact ⟨b, off, e, hb, fun wx hx => by rw [hc wx hx, HVA.out j hj]⟩)
  clear hp hv hap hav hnp hnv hpl hvl HPA HVA
  generalize byteAt pl = P at *
  generalize byteAt vl = V at *
  obtain ⟨W, hrun, hblk, hbw⟩ := make28 w nv (by omega) h1n
  have T0 : Hid (TI w (rowO P V nv 0 0) W) := Lib.hid ⟨hbw, by rw [rowO_zero]; exact hblk⟩
  clear hblk hbw
  go_enter Tryz.func66, Tryz.ntmps66
  go_upto_region 3 with fail
  clear hrun
  go_loopw [6] (fun c wr => ∃ i : Nat, i ≤ nv ∧ c = .int .i64 ((i : Nat) : Int) ∧ Hid (TI w (rowO P V nv i 0) wr)) (fun c _ => nv - (intOf c).toNat)
  case atStart => exact ⟨0, Nat.zero_le _, rfl, T0⟩
  case round =>
    clear T0
    obtain ⟨i, hi, rfl, T1⟩ := hrel
    by_cases hlt : i < nv
    · go_upto_region 7 with fail
      have T2 : Hid (TI w (rowO P V nv i 0) (wr.alloc (.cells #[.int .u8 1] 5))) := Lib.hid (T1.out.later ((Below.refl _ _).alloc (Nat.le_refl _) _))
      have G2 : Hid ((wr.alloc (.cells #[.int .u8 1] 5)).heap[wr.heap.size]? = some (.cells (natC (basisD P i 0)) 5 (0, 0))) := Lib.hid (heap_alloc_new _ _)
      have hg2 : w.heap.size < wr.heap.size := lt_of_blk T1.out.out
      clear T1
      generalize wr.alloc (.cells #[.int .u8 1] 5) = W2 at *
      generalize wr.heap.size = g2 at *
      have HL0 : Hid (1 = (basisD P i 0).length) := Lib.hid rfl
      go_loopw [7, 8, 9] (fun c7 c8 c9 wr => ∃ j g bl : Nat, j ≤ nv ∧ c7 = .slice (some ⟨g, 0, none⟩) bl bl ∧ c8 = .int .u8 ((scaleD P i j : Nat) : Int) ∧ c9 = .int .i64 ((j : Nat) : Int) ∧ w.heap.size < g ∧ Hid (bl = (basisD P i j).length) ∧ Hid (TI w (rowO P V nv i 0) wr) ∧ Hid (wr.heap[g]? = some (.cells (natC (basisD P i j)) 5 (0, 0)))) (fun _ _ c9 _ => nv - (intOf c9).toNat)
      case atStart => exact ⟨0, g2, 1, Nat.zero_le _, rfl, rfl, rfl, hg2, HL0, T2, G2⟩
      case round =>
        clear T2 G2 HL0 hg2
        obtain ⟨j, g, bl, hj, rfl, rfl, rfl, hgw, HL, T3, G3⟩ := hrel
        have hbl : bl ≤ nv + 1 := by rw [HL.out, basisD_length]; split <;> omega
        have hsc := scaleD_lt P i j
        by_cases hltj : j < nv
        · by_cases hji : j = i
          · subst hji
            have HB : Hid (basisD P j (j + 1) = basisD P j j) := Lib.hid (by rw [basisD, if_pos rfl])
            have HS : Hid (scaleD P j (j + 1) = scaleD P j j) := Lib.hid (by rw [scaleD, if_pos rfl])
            generalize hq1 : scaleD P j j = q1 at *
            have Q1 := Lib.hid hq1
            clear hq1
            go_wp2_with fail
            go_roundw
            case rel => exact ⟨j + 1, g, bl, by omega, rfl, by rw [HS.out], by go_num, hgw, by rw [HB.out]; exact HL, T3, by rw [HB.out]; exact G3⟩
            case measure => simp [intOf] <;> omega
          · have HB : Hid (basisD P i (j + 1) = nxtAt (basisD P i j) (P j) (basisD P i j).length) := Lib.hid (by rw [basisD, if_neg hji]; rfl)
            have HS : Hid (scaleD P i (j + 1) = mulD (scaleD P i j) (P i ^^^ P j)) := Lib.hid (by rw [scaleD, if_neg hji])
            have hji' : ((j : Int) == (i : Int)) = false := by simp; omega
            have HSM := Lib.hid (basisD_small P i j)
            have hpj := HPB.out j
            have hpi := HPB.out i
            generalize hq1 : scaleD P i j = q1 at *
            have Q1 := Lib.hid hq1
            clear hq1
            generalize basisD P i j = bs at *
            obtain ⟨W3, hrun, hblk, hbw⟩ := make28 wr (bl + 1) (by omega) (by omega)
            rw [show ((bl + 1 : Nat) : Int) = (bl : Int) + 1 by omega] at hrun
            have T4 : Hid (TI w (rowO P V nv i 0) W3) := Lib.hid (T3.out.later hbw)
            have G4 : Hid (W3.heap[g]? = some (.cells (natC bs) 5 (0, 0))) := Lib.hid (blk_later G3.out hbw)
            have N4 : Hid (W3.heap[wr.heap.size]? = some (.cells (natC (nxtAt bs (P j) 0)) 5 (0, 0))) := Lib.hid (by rw [nxtAt_zero, ← HL.out]; exact hblk)
            have hgn : g < wr.heap.size := lt_of_blk G3.out
            clear hblk hbw T3 G3
            go_upto_region 12 with fail
            clear hrun
            generalize wr.heap.size = gn at *
            go_loopw [11] (fun c wr => ∃ k : Nat, k ≤ bl ∧ c = .int .i64 ((k : Nat) : Int) ∧ Hid (TI w (rowO P V nv i 0) wr) ∧ Hid (wr.heap[g]? = some (.cells (natC bs) 5 (0, 0))) ∧ Hid (wr.heap[gn]? = some (.cells (natC (nxtAt bs (P j) k)) 5 (0, 0)))) (fun c _ => bl - (intOf c).toNat)
            case atStart => exact ⟨0, Nat.zero_le _, rfl, T4, G4, N4⟩
            case round =>
              clear T4 G4 N4
              obtain ⟨k, hk, rfl, T5, G5, N5⟩ := hrel
              by_cases hltk : k < bl
              · have hkb : k < bs.length := by rw [← HL.out]; exact hltk
                have hbk := small8_getD HSM.out k
                have E1 : Hid ((natC (nxtAt bs (P j) k))[k + 1]? = some (.int .u8 0)) := Lib.hid (by rw [natC_at _ _ (by rw [nxtAt_length]; omega), List.getD_eq_getElem?_getD, nxtAt_new _ _ _ hkb]; rfl)
                have E2 : Hid ((natC bs)[k]? = some (.int .u8 ((bs.getD k 0 : Nat) : Int))) := Lib.hid (natC_at _ _ hkb)
                have E3 : Hid ((natC ((nxtAt bs (P j) k).set (k + 1) (bs.getD k 0)))[k]? = some (.int .u8 (((if k = 0 then 0 else bs.getD (k - 1) 0 : Nat) : Nat) : Int))) := Lib.hid (by rw [natC_at _ _ (by simp [nxtAt_length]; omega), List.getD_eq_getElem?_getD, nxtAt_old _ _ _ hkb]; rfl)
                have E4 : Hid (((nxtAt bs (P j) k).set (k + 1) (bs.getD k 0)).set k ((if k = 0 then 0 else bs.getD (k - 1) 0) ^^^ mulD (bs.getD k 0) (P j)) = nxtAt bs (P j) (k + 1)) := Lib.hid (nxtAt_step _ _ _ hkb)
                have ho2 : (if k = 0 then 0 else bs.getD (k - 1) 0) < 256 := by split; omega; exact small8_getD HSM.out _
                have hml := mulD_lt (bs.getD k 0) (P j)
                have hx1 := xor_u8 (a := 0) (b := bs.getD k 0) (by omega) hbk
                rw [Nat.zero_xor, show ((0 : Nat) : Int) = 0 from rfl] at hx1
                have hx2 := xor_u8 ho2 hml
                have CM : Hid (∀ wx, Calls Tryz.prog 91 #[.int .u8 ((bs.getD k 0 : Nat) : Int), .int .u8 ((P j : Nat) : Int)] wx fun e w' => e = .returned (.int .u8 (mulD (bs.getD k 0) (P j))) ∧ w' = wx) := Lib.hid (fun wx => mul_91 wx _ _ hbk hpj)
                have SET1 : Hid (∀ wx : World, Hid (wx.heap[gn]? = some (.cells (natC (nxtAt bs (P j) k)) 5 (0, 0))) → Hid ((wx.setCell ⟨gn, k + 1, none⟩ (.int .u8 ((bs.getD k 0 : Nat) : Int))).heap[gn]? = some (.cells (natC ((nxtAt bs (P j) k).set (k + 1) (bs.getD k 0))) 5 (0, 0)))) := Lib.hid (fun wx h => by have := blk_set h.out (k + 1) (.int .u8 ((bs.getD k 0 : Nat) : Int)); rw [natC_set] at this; exact this)
                have SET2 : Hid (∀ wx : World, Hid (wx.heap[gn]? = some (.cells (natC ((nxtAt bs (P j) k).set (k + 1) (bs.getD k 0))) 5 (0, 0))) → Hid ((wx.setCell ⟨gn, k, none⟩ (.int .u8 (((if k = 0 then 0 else bs.getD (k - 1) 0) ^^^ mulD (bs.getD k 0) (P j) : Nat) : Int))).heap[gn]? = some (.cells (natC (nxtAt bs (P j) (k + 1))) 5 (0, 0)))) := Lib.hid (fun wx h => by have := blk_set h.out k (.int .u8 (((if k = 0 then 0 else bs.getD (k - 1) 0) ^^^ mulD (bs.getD k 0) (P j) : Nat) : Int)); rw [natC_set, E4.out] at this; exact this)
                obtain ⟨bp, op, hap, hbp, hcp⟩ := HP.out j hltj
                subst hap
                have HCP := Lib.hid hcp
                have T5d := Lib.hid (T5.out.later (Below.refl _ _).drew)
                have G5d : Hid (wr.drew.heap[g]? = some (.cells (natC bs) 5 (0, 0))) := G5
                have N5d : Hid (wr.drew.heap[gn]? = some (.cells (natC (nxtAt bs (P j) k)) 5 (0, 0))) := N5
                obtain ⟨q1', q2', q3'⟩ := box_walk G5d.out
                have r1 := (q1' k).trans E2.out
                obtain ⟨s1, s2, s3⟩ := box_walk N5d.out
                have r2 := (s1 (k + 1)).trans E1.out
                clear q1' s1 hcp E4
                generalize (if k = 0 then 0 else bs.getD (k - 1) 0) = ov at *
                generalize mulD (bs.getD k 0) (P j) = ml at *
                generalize ov ^^^ ml = xv at *
                generalize bs.getD k 0 = bk at *
                have hwk : IntKind.i64.wrap ((k : Int) + 1) = (k : Int) + 1 := by rw [IntKind.wrap_i64]; omega
                have hwk2 : (0 : Int) ≤ (k : Int) + 1 := by omega
                have hwk3 : ((k : Int) + 1).toNat = k + 1 := by omega
                have hwk4 : (k : Int) + 1 < (bl : Int) + 1 := by omega
                go_upto_region 14 with fail
                go_cut [] (fun wx => Hid (TI w (rowO P V nv i 0) wx) ∧ Hid (wx.heap[g]? = some (.cells (natC bs) 5 (0, 0))) ∧ Hid (wx.heap[gn]? = some (.cells (natC ((nxtAt bs (P j) k).set (k + 1) bk)) 5 (0, 0))))
                case first =>
                  go_region_with (fail)
                  all_goals
                    go_wp2_with fail
                    go_meet
                    exact ⟨Lib.hid (T5d.out.other (by omega) _ _), Lib.hid ((Below.heap_setCell _ _ _ _ (Nat.ne_of_lt hgn)).trans G5d.out), SET1.out _ N5d⟩
                case rest =>
                  obtain ⟨T6, G6, N6⟩ := hcut
                  clear r1 r2 s2 s3 q2' q3' T5d G5d N5d T5 G5 N5 hwk hwk2 hwk3 hwk4
                  have T6d := Lib.hid (T6.out.later (Below.refl _ _).drew)
                  have G6d : Hid (wc.drew.heap[g]? = some (.cells (natC bs) 5 (0, 0))) := G6
                  have N6d : Hid (wc.drew.heap[gn]? = some (.cells (natC ((nxtAt bs (P j) k).set (k + 1) bk)) 5 (0, 0))) := N6
                  obtain ⟨q1', q2', q3'⟩ := box_walk G6d.out
                  have r1 := (q1' k).trans E2.out
                  obtain ⟨s1, s2, s3⟩ := box_walk N6d.out
                  have r2 := (s1 k).trans E3.out
                  have r3 := HCP.out wc.drew T6d.out.below
                  have r4 : bp < wc.drew.heap.size := Nat.lt_of_lt_of_le hbp T6d.out.below.size
                  clear q1' s1
                  go_upto_region 15 with fail
                  go_region_with (go_at_call 91; refine (CM.out _).mono ?_; rintro e w5 ⟨rfl, rfl⟩)
                  all_goals
                    go_wp2_with fail
                    go_roundw
                    case rel => exact ⟨k + 1, by omega, by go_num, Lib.hid (T6d.out.other (by omega) _ _), Lib.hid ((Below.heap_setCell _ _ _ _ (Nat.ne_of_lt hgn)).trans G6d.out), SET2.out _ N6d⟩
                    case measure => simp [intOf] <;> omega
              · obtain rfl : k = bl := by omega
                have HLN : Hid (k + 1 = (basisD P i (j + 1)).length) := Lib.hid (by rw [HB.out, nxtAt_length, HL.out])
                have N6 : Hid (wr.heap[gn]? = some (.cells (natC (basisD P i (j + 1))) 5 (0, 0))) := Lib.hid (by rw [HB.out, ← HL.out]; exact N5.out)
                have hl1 := xor_lt hpi hpj
                have hx1 := xor_u8 hpi hpj
                have CM : Hid (∀ wx, Calls Tryz.prog 91 #[.int .u8 ((q1 : Nat) : Int), .int .u8 ((P i ^^^ P j : Nat) : Int)] wx fun e w' => e = .returned (.int .u8 (mulD q1 (P i ^^^ P j))) ∧ w' = wx) := Lib.hid (fun wx => mul_91 wx _ _ hsc hl1)
                rw [← HS.out] at CM
                obtain ⟨bp, op, hap, hbp, hcp⟩ := HP.out j hltj
                obtain ⟨bp2, op2, hap2, hbp2, hcp2⟩ := HP.out i hlt
                have r1 := hcp wr T5.out.below
                have r2 := hcp2 wr T5.out.below
                have r3 : bp < wr.heap.size := Nat.lt_of_lt_of_le hbp T5.out.below.size
                subst hap
                injection hap2 with hap2
                injection hap2 with hap3 hap4
                subst hap3 hap4
                clear hcp hcp2 G5 N5 HL HB HSM
                generalize hq2 : scaleD P i (j + 1) = q2 at *
                have Q2 := Lib.hid hq2
                clear hq2
                have HDW : Hid (∀ n, Hid (TI w (rowO P V nv i 0) (wr.drewN n)) ∧ Hid ((wr.drewN n).heap[gn]? = some (.cells (natC (basisD P i (j + 1))) 5 (0, 0)))) := Lib.hid (fun n => ⟨Lib.hid (T5.out.later (below_drewN wr n)), N6⟩)
                clear T5 N6
                go_upto_region 17 with fail
                go_quiet ((go_at_call 91; exact Calls.quiet_of_same (CM.out _)))
                go_wp2
                go_roundw
                case rel => exact ⟨j + 1, gn, k + 1, by omega, by go_num, by rw [Q2.out], by go_num, by omega, HLN, (HDW.out _).1, (HDW.out _).2⟩
                case measure => simp [intOf] <;> omega
        · obtain rfl : j = nv := by omega
          have hinv := invD_lt (scaleD P i j)
          have hvi := HVB.out i
          have C1 : Hid (∀ wx, Calls Tryz.prog 92 #[.int .u8 ((scaleD P i j : Nat) : Int)] wx fun e w' => e = .returned (.int .u8 (invD (scaleD P i j))) ∧ w' = wx) := Lib.hid (fun wx => inv_92 wx _ hsc)
          have C2 : Hid (∀ wx, Calls Tryz.prog 91 #[.int .u8 ((V i : Nat) : Int), .int .u8 ((invD (scaleD P i j) : Nat) : Int)] wx fun e w' => e = .returned (.int .u8 (cofD P V j i)) ∧ w' = wx) := Lib.hid (fun wx => mul_91 wx _ _ hvi hinv)
          have hcf : cofD P V j i < 256 := mulD_lt _ _
          obtain ⟨bp, op, hap, hbp, hcp⟩ := HVV.out i hlt
          subst hap
          have r1 := hcp wr T3.out.below
          have r3 : bp < wr.heap.size := Nat.lt_of_lt_of_le hbp T3.out.below.size
          have HSM := Lib.hid (basisD_small P i j)
          have HOS : Hid (∀ k, outD P V j (i + 1) k = outD P V j i k ^^^ mulD (cofD P V j i) ((basisD P i j).getD k 0)) := Lib.hid (fun k => outD_succ P V j i k)
          have HBJ : Hid (bl = j) := Lib.hid (by rw [HL.out, basisD_length, if_pos hlt])
          have hblj : j = bl := HBJ.out.symm
          have HBS : Hid ((basisD P i j).length = j) := Lib.hid (by rw [basisD_length, if_pos hlt])
          clear hcp HL HBJ
          subst hblj
          generalize hcfv : cofD P V j i = cf at *
          clear hcfv
          generalize invD (scaleD P i j) = iv at *
          generalize scaleD P i j = sc at *
          generalize basisD P i j = bs at *
          go_upto_region 18 with fail
          go_quiet ((first | (go_at_call 92; exact Calls.quiet_of_same (C1.out _)) | (go_at_call 91; exact Calls.quiet_of_same (C2.out _))))
          have T4 : Hid (TI w (rowO P V j i 0) (wr.drewN nq)) := Lib.hid (T3.out.later (below_drewN wr nq))
          have G4 : Hid ((wr.drewN nq).heap[g]? = some (.cells (natC bs) 5 (0, 0))) := G3
          clear T3 G3 r1 r3
          generalize wr.drewN nq = W4 at *
          go_upto_region 20 with fail
          have hbs := HBS.out
          go_loopw [13] (fun c wr => ∃ k : Nat, k ≤ j ∧ c = .int .i64 ((k : Nat) : Int) ∧ Hid (TI w (rowO P V j i k) wr) ∧ Hid (wr.heap[g]? = some (.cells (natC bs) 5 (0, 0)))) (fun c _ => j - (intOf c).toNat)
          case atStart => exact ⟨0, Nat.zero_le _, rfl, T4, G4⟩
          case round =>
            clear T4 G4
            obtain ⟨k, hk, rfl, T5, G5⟩ := hrel
            by_cases hltk : k < j
            · have hkj : k < j := hltk
              have hbk := small8_getD HSM.out k
              have hml := mulD_lt cf (bs.getD k 0)
              have hov := outD_lt P V j i k
              have hx1 := xor_u8 hov hml
              rw [← HOS.out k] at hx1
              have E1 : Hid ((natC (rowO P V j i k))[k]? = some (.int .u8 ((outD P V j i k : Nat) : Int))) := Lib.hid (by rw [natC_at _ _ (by rw [rowO_length]; exact hkj), rowO_getD _ _ _ _ _ _ hkj, if_neg (by omega)])
              have E2 : Hid ((natC bs)[k]? = some (.int .u8 ((bs.getD k 0 : Nat) : Int))) := Lib.hid (natC_at _ _ (by omega))
              have CM : Hid (∀ wx, Calls Tryz.prog 91 #[.int .u8 ((cf : Nat) : Int), .int .u8 ((bs.getD k 0 : Nat) : Int)] wx fun e w' => e = .returned (.int .u8 (mulD cf (bs.getD k 0))) ∧ w' = wx) := Lib.hid (fun wx => mul_91 wx _ _ hcf hbk)
              have SETO : Hid (Hid (TI w (rowO P V j i (k + 1)) (wr.drew.setCell ⟨w.heap.size, k, none⟩ (.int .u8 ((outD P V j (i + 1) k : Nat) : Int))))) := Lib.hid (Lib.hid ⟨(T5.out.later (Below.refl _ _).drew).below.setCell (Nat.le_refl _) _, by
                have := blk_set (show wr.drew.heap[w.heap.size]? = _ from T5.out.out) k (.int .u8 ((outD P V j (i + 1) k : Nat) : Int))
                rw [natC_set, rowO_step _ _ _ _ _ hkj] at this
                exact this⟩)
              have hgw2 : g ≠ w.heap.size := by omega
              have G5d : Hid (wr.drew.heap[g]? = some (.cells (natC bs) 5 (0, 0))) := G5
              have N5d : Hid (wr.drew.heap[w.heap.size]? = some (.cells (natC (rowO P V j i k)) 5 (0, 0))) := Lib.hid T5.out.out
              obtain ⟨q1', q2', q3'⟩ := box_walk G5d.out
              have r1 := (q1' k).trans E2.out
              obtain ⟨s1, s2, s3⟩ := box_walk N5d.out
              have r2 := (s1 k).trans E1.out
              clear q1' s1 T5 G5
              generalize outD P V j (i + 1) k = o1 at *
              generalize outD P V j i k = o0 at *
              generalize mulD cf (bs.getD k 0) = ml at *
              generalize bs.getD k 0 = bk at *
              go_upto_region 22 with fail
              go_region_with (go_at_call 91; refine (CM.out _).mono ?_; rintro e w5 ⟨rfl, rfl⟩)
              all_goals
                go_wp2_with fail
                go_roundw
                case rel => exact ⟨k + 1, by omega, by go_num, SETO.out, Lib.hid ((Below.heap_setCell _ _ _ _ hgw2).trans G5d.out)⟩
                case measure => simp [intOf] <;> omega
            · obtain rfl : k = j := by omega
              have T6 : Hid (TI w (rowO P V k (i + 1) 0) wr) := Lib.hid (by rw [← rowO_full]; exact T5.out)
              go_wp2_with fail
              go_roundw
              case rel => exact ⟨i + 1, by omega, by go_num, T6⟩
              case measure => simp [intOf] <;> omega
    · obtain rfl : i = nv := by omega
      have R : Hid (ThrRet w P V i (.returned (.slice (some ⟨w.heap.size, 0, none⟩) i i)) wr) := Lib.hid ⟨rfl, Lib.hid T1.out.out, Lib.hid T1.out.below⟩
      go_wp2
      go_ret
      exact R.out
end Go.Proofs.YtpbgipdkaaooeaaGreatDoor
