/- share.ordered. -/
import Derived.Test.YtpbgipdkaaooeaaGreatDoorZ
import Derived.BigQuiet
import Derived.Deep.AppendLies
open Go Go.Proofs Go.RowKit
namespace Go.Proofs.YtpbgipdkaaooeaaGreatDoor
set_option linter.unusedSimpArgs false
set_option linter.unusedVariables false
attribute [local go_sem ↓] Go.wp_at_zero Go.wp_at_succ

/-- The table 'at' after i shares. -/
def tabL (l : ShareL) : Nat → List Nat
  | 0 => List.replicate 256 0
  | i + 1 => (tabL l i).set (ptD l i) (i + 1)
theorem tabL_length (l : ShareL) : ∀ i, (tabL l i).length = 256
  | 0 => by rw [tabL, List.length_replicate]
  | i + 1 => by rw [tabL, List.length_set, tabL_length l i]
theorem tabL_le (l : ShareL) : ∀ i, ∀ c ∈ tabL l i, c ≤ i
  | 0 => fun c hc => by have := List.eq_of_mem_replicate hc; omega
  | i + 1 => fun c hc => by
    unfold tabL at hc
    rcases List.mem_or_eq_of_mem_set hc with h | h
    · have := tabL_le l i c h; omega
    · omega
theorem tabL_getD_le (l : ShareL) (i k : Nat) : (tabL l i).getD k 0 ≤ i := by
  by_cases h : k < (tabL l i).length
  · rw [List.getD_eq_getElem?_getD, List.getElem?_eq_getElem h]
    exact tabL_le l i _ (List.getElem_mem h)
  · rw [List.getD_eq_getElem?_getD, List.getElem?_eq_none (by omega)]; simp
def tabC (l : ShareL) (i : Nat) : Array Value := ((tabL l i).map fun c : Nat => Value.int .i64 (c : Int)).toArray
theorem tabC_size (l : ShareL) (i : Nat) : (tabC l i).size = 256 := by simp [tabC, tabL_length]
theorem tabC_zero (l : ShareL) : tabC l 0 = Tryz.zeroCells174 := by kernel_rfl
theorem tabC_at (l : ShareL) (i k : Nat) (h : k < 256) : (tabC l i)[k]? = some (.int .i64 (((tabL l i).getD k 0 : Nat) : Int)) := by
  unfold tabC
  rw [List.getElem?_toArray, List.getElem?_map, List.getElem?_eq_getElem (by rw [tabL_length]; exact h), List.getD_eq_getElem?_getD, List.getElem?_eq_getElem (by rw [tabL_length]; exact h)]
  rfl
theorem tabC_set (l : ShareL) (i : Nat) : (tabC l i).setIfInBounds (ptD l i) (.int .i64 ((i : Int) + 1)) = tabC l (i + 1) := by
  unfold tabC
  rw [tabL, List.setIfInBounds_toArray, List.map_set]
  rfl
/-- Is share i ill-formed, behind those ahead of it? -/
def badD (l : ShareL) (i : Nat) : Bool := decide (ptD l i = 0) || decide (0 < (tabL l i).getD (ptD l i) 0) || decide ((bsD l i).length ≠ (bsD l 0).length)
def okTo (l : ShareL) : Nat → Bool
  | 0 => true
  | i + 1 => okTo l i && !badD l i
theorem okTo_false (l : ShareL) {i : Nat} (h : badD l i = true) : ∀ {n : Nat}, i < n → okTo l n = false
  | 0, hn => absurd hn (by omega)
  | n + 1, hn => by
    unfold okTo
    by_cases hi : i = n
    · subst hi; simp [h]
    · rw [okTo_false l h (n := n) (by omega)]; rfl
/-- The shares at the first m points. -/
def pickD (l : ShareL) : Nat → ShareL
  | 0 => []
  | m + 1 => if 0 < (tabL l l.length).getD m 0 then pickD l m ++ [(ptD l ((tabL l l.length).getD m 0 - 1), bsD l ((tabL l l.length).getD m 0 - 1))] else pickD l m
def orderD (l : ShareL) : ShareL := pickD l 256
theorem pickD_len (l : ShareL) : ∀ m, (pickD l m).length ≤ m
  | 0 => by simp [pickD]
  | m + 1 => by
    have := pickD_len l m
    unfold pickD
    split
    · simp; omega
    · omega
theorem SharesAre.snoc {w : World} {ps : List (Int × Value)} {l : ShareL} (h : SharesAre w ps l) {p : Nat} {v : Value} {bs : List Int} (hp : p < 256) (hb : BytesR w v bs) : SharesAre w (ps ++ [((p : Int), v)]) (l ++ [(p, bs)]) := by
  induction h with
  | nil => exact .cons rfl hp hb .nil
  | cons h1 h2 h3 _ ih => exact .cons h1 h2 h3 ih
theorem shareCells_snoc (ps : List (Int × Value)) (p : Int) (v : Value) : shareCells (ps ++ [(p, v)]) = shareCells ps ++ [.int .u8 p, v] := by simp [shareCells]
theorem below_grown {w w' : World} {k g : Nat} (h : w.grownBy w' (some g)) (hg : k ≤ g) (hk : k ≤ w.heap.size) : Below k w w' :=
  ⟨h.os, h.tape, h.output, h.size, fun j hj => h.block j (by omega) (by simp; omega)⟩

/-- What ordered hands back. -/
def OrdRet (w : World) (l : ShareL) (e : Ending) (w' : World) : Prop := Below w.heap.size w w' ∧
  if okTo l l.length = true then ∃ v' ps', e = .returned (.tuple #[v', .bool true]) ∧ RowR w' v' 2 (shareCells ps') ps'.length ∧ SharesAre w' ps' (orderD l) else e = .returned (.tuple #[.slice none 0 0, .bool false])

/-- The second loop of ordered, at point m. -/
structure PickInv (w : World) (K : Nat) (l : ShareL) (m g cp : Nat) (ps : List (Int × Value)) (wr : World) : Prop where
  below : Below w.heap.size w wr
  own : wr.ownsRow K 81 2 (.slice (some ⟨g, 0, none⟩) ps.length cp) ps.length (shareCells ps)
  are : SharesAre w ps (pickD l m)
  base : w.heap.size ≤ K
  le : K ≤ wr.heap.size
theorem PickInv.skip {w wr : World} {K m g cp : Nat} {l : ShareL} {ps : List (Int × Value)} (h : PickInv w K l m g cp ps wr) (h0 : ¬ 0 < (tabL l l.length).getD m 0) : PickInv w K l (m + 1) g cp ps wr :=
  ⟨h.below, h.own, by unfold pickD; rw [if_neg h0]; exact h.are, h.base, h.le⟩
theorem PickInv.step {w wr w7 : World} {K m g cp g' cap' p : Nat} {l : ShareL} {ps : List (Int × Value)} {v : Value} {bs : List Int} (h : PickInv w K l m g cp ps wr) (o : Obj)
    (hk : pickD l (m + 1) = pickD l m ++ [(p, bs)]) (hp : p < 256) (hb : BytesR w v bs)
    (hown : w7.ownsRow K 81 2 (.slice (some ⟨g', 0, none⟩) (ps.length + 1) cap') (ps.length + 1) (shareCells ps ++ [.int .u8 p, v])) (hg : (wr.alloc o).grownBy w7 (some g)) :
    PickInv w K l (m + 1) g' cap' (ps ++ [((p : Int), v)]) w7 := by
  have hgK : K ≤ g := (h.own.lt g rfl).1
  have hle := h.le
  have hb0 := h.base
  have b1 : Below w.heap.size wr (wr.alloc o) := (Below.refl _ _).alloc h.below.size _
  have b2 : Below w.heap.size (wr.alloc o) w7 := below_grown hg (by omega) (by have := b1.size; have := h.below.size; omega)
  have hlen : (ps ++ [((p : Int), v)]).length = ps.length + 1 := by simp
  refine ⟨h.below.trans (b1.trans b2), ?_, by rw [hk]; exact h.are.snoc hp hb, h.base, ?_⟩
  · rw [hlen, shareCells_snoc]; exact hown
  · have := b1.size; have := b2.size; omega
theorem und174 : Tryz.prog.underlying 174 = some (.array 256 3) := by kernel_rfl
theorem size174 : (Tryz.prog.info? 174).map (·.size) = some 256 := by kernel_rfl
theorem index_174 (w : World) (tb : Array Value) (m : Nat) (v : Value) (hs : tb.size = 256) (hm : m < 256) (h : tb[m]? = some v) : (Instr.index 174 (.agg tb) (.int .i64 (m : Int))).run Tryz.prog w = .ok v w := by
  have h0 : (0 : Int) ≤ (m : Int) := by omega
  have h1 : (m : Int) < 256 := by omega
  have hg : tb[m]?.getD undef = v := by rw [h]; rfl
  simp [Instr.index, run_underlying und174, asIntOf, hm, hs, h0, h1, h, hg, go_sem]
  exact (Array.getElem?_eq_some_iff.1 h).2
set_option maxRecDepth 100000 in
set_option maxHeartbeats 1000000 in
/-- share.ordered -/
theorem ord_86 (w : World) (v : Value) (ps : List (Int × Value)) (l : ShareL) (hl : RowR w v 2 (shareCells ps) ps.length) (hs : SharesAre w ps l) (hn2 : ps.length ≤ 4096) :
    Calls Tryz.prog 86 #[v] w (OrdRet w l) := by
  obtain ⟨hlen, ao, cap, rfl, hle, hm, hcell⟩ := hl
  have hpl := hs.length
  have HC : Hid (0 < ps.length → ∃ b off, ao = some ⟨b, off, none⟩ ∧ b < w.heap.size ∧ Hid (∀ j, j < ps.length → ∃ av kv, BytesR w (.slice av (bsD l j).length kv) (bsD l j) ∧ ptD l j < 256 ∧ ∀ wx, Below w.heap.size w wx → wx.cell? ⟨b, off + j * 2, none⟩ = some (.int .u8 (ptD l j)) ∧ wx.cell? ⟨b, off + j * 2 + 1, none⟩ = some (.slice av (bsD l j).length kv))) := fun hn => by
    obtain ⟨b, off, rfl, hbb, hcells⟩ := hcell hn
    refine ⟨b, off, rfl, hbb, Lib.hid fun j hj => ?_⟩
    have hjl : j < l.length := by omega
    have hat := shareCells_at ps j hj
    obtain ⟨e1, e2, e3⟩ := hs.at j hj hjl
    have hp : ptD l j = l[j].1 := by unfold ptD; rw [List.getD_eq_getElem?_getD, List.getElem?_eq_getElem hjl]; rfl
    have hq : bsD l j = l[j].2 := by unfold bsD; rw [List.getD_eq_getElem?_getD, List.getElem?_eq_getElem hjl]; rfl
    obtain ⟨-, av, kv, hv, -⟩ := id e3.1
    rw [hp, hq]
    rw [hv] at e3
    refine ⟨av, kv, e3, e2, fun wx hbe => ?_⟩
    have c1 := hcells (j * 2) (by omega)
    have c2 := hcells (j * 2 + 1) (by omega)
    rw [hat.1, e1] at c1
    rw [hat.2, hv, ← Nat.add_assoc] at c2
    exact ⟨by rw [hbe.cell (p := ⟨b, off + j * 2, none⟩) hbb]; exact c1, by rw [hbe.cell (p := ⟨b, off + j * 2 + 1, none⟩) hbb]; exact c2⟩
  obtain ⟨n, hN⟩ : ∃ n, n = ps.length := ⟨_, rfl⟩
  rw [← hN] at HC hn2 hle hpl ⊢
  clear hlen hcell hs hN
  have HPL := Lib.hid hpl; clear hpl
  have HM := Lib.hid hm; clear hm
  obtain ⟨i0, HI⟩ := info81
  have HI := Lib.hid HI
  go_enter Tryz.func86, Tryz.ntmps86
  go_wp2
  go_loopw [12] (fun c wr => ∃ q : Nat, q ≤ n ∧ c = .int .i64 ((q : Nat) : Int) ∧ Hid (Below w.heap.size w wr) ∧ Hid (wr.heap[w.heap.size]? = some (.cells (tabC l q) 174 (0, 0))) ∧ Hid (okTo l q = true)) (fun c _ => n - (intOf c).toNat)
  case atStart => exact ⟨0, Nat.zero_le _, rfl, (Below.refl _ _).alloc (Nat.le_refl _) _, by rw [tabC_zero]; exact heap_alloc_new _ _, rfl⟩
  case round =>
    obtain ⟨q, hq, rfl, HB, HT, HOK⟩ := hrel
    by_cases hlt : q < n
    · obtain ⟨b, off, rfl, hbb, HAT⟩ := HC.out (by omega)
      obtain ⟨av, kv, hbq, hpq, hcq⟩ := HAT.out q hlt
      obtain ⟨av0, kv0, hb0, hp0, hc0⟩ := HAT.out 0 (by omega)
      have hbr : b < wr.heap.size := Nat.lt_of_lt_of_le hbb HB.out.size
      have HBA := Lib.hid (HB.out.alloc HB.out.size (.cells #[.int .u8 (ptD l q), .slice av (bsD l q).length kv] 81))
      have HTA := Lib.hid (blk_later HT.out ((Below.refl _ _).alloc (Nat.le_refl _) (.cells #[.int .u8 (ptD l q), .slice av (bsD l q).length kv] 81)))
      have HCQ := Lib.hid hcq
      have HC0 := Lib.hid hc0
      have HBAD : Hid (badD l q = (decide (ptD l q = 0) || decide (0 < (tabL l q).getD (ptD l q) 0) || decide ((bsD l q).length ≠ (bsD l 0).length))) := Lib.hid rfl
      have HNXT : Hid (badD l q = false → okTo l (q + 1) = true) := fun h => by unfold okTo; rw [HOK.out, h]; rfl
      have HBD : Hid (badD l q = true → okTo l l.length = false) := fun h => okTo_false l h (by have := HPL.out; omega)
      have HSET := Lib.hid (tabC_set l q)
      have HATP := Lib.hid (tabC_at l q (ptD l q) hpq)
      have HSZ := Lib.hid (tabC_size l q)
      have hle2 := tabL_getD_le l q (ptD l q)
      clear hbq hb0 hcq hc0 hp0
      obtain ⟨c1, c2⟩ := HCQ.out wr HB.out
      generalize (tabL l q).getD (ptD l q) 0 = sn at *
      generalize tabC l q = tb at *
      generalize ptD l q = p at *
      generalize (bsD l q).length = ln at *
      generalize (bsD l 0).length = ln0 at *
      go_upto_region 5 with fail
      obtain ⟨z1, z2⟩ := HC0.out _ HBA.out
      obtain ⟨t1, t2, t3⟩ := box_walk HTA.out
      have t4 := (t1 p).trans HATP.out
      have hbw : b < (wr.alloc (.cells #[.int .u8 (p : Int), .slice av ln kv] 81)).heap.size := by simp; omega
      simp only [Nat.zero_mul, Nat.add_zero] at z2
      clear c1 c2 z1 t1
      have NEWB := Lib.hid (heap_alloc_new wr (.cells #[.int .u8 (p : Int), .slice av ln kv] 81))
      obtain ⟨y1, y2, y3⟩ := box_walk NEWB.out
      generalize wr.alloc (.cells #[.int .u8 (p : Int), .slice av ln kv] 81) = W at *
      generalize wr.heap.size = kb at *
      have HBN : Hid (∀ nq, Below w.heap.size w (W.drewN nq)) := fun nq => below_step HBA.out ⟨rfl, rfl, rfl, Nat.le_refl _, fun _ _ => rfl⟩
      by_cases hp0 : p = 0
      · have HE : Hid (okTo l l.length = false) := Lib.hid (HBD.out (by rw [HBAD.out]; simp [hp0]))
        have hp0' : ((p : Int) == 0) = true := by simp; omega
        go_quiet (fail)
        go_wp2
        go_ret2
        exact ⟨HBN.out _, by rw [HE.out]; rfl⟩
      · have hp0' : ((p : Int) == 0) = false := by simp; omega
        by_cases hs0 : 0 < sn
        · have HE : Hid (okTo l l.length = false) := Lib.hid (HBD.out (by rw [HBAD.out]; simp [hs0]))
          have hs1 : decide ((0 : Int) < (sn : Int)) = true := by simp; omega
          go_quiet (fail)
          go_wp2
          go_ret2
          exact ⟨HBN.out _, by rw [HE.out]; rfl⟩
        · have hs1 : decide ((0 : Int) < (sn : Int)) = false := by simp; omega
          by_cases hln : ln = ln0
          · have HE : Hid (okTo l (q + 1) = true) := Lib.hid (HNXT.out (by rw [HBAD.out]; simp [hp0, hln]; omega))
            have hl1 : (ln : Int) = (ln0 : Int) := by omega
            go_quiet (fail)
            go_wp2
            go_roundw
            case rel =>
              exact ⟨q + 1, by omega, by go_num, Lib.hid ((HBN.out _).setCell (Nat.le_refl _) _), by rw [← HSET.out]; exact blk_set (w := W.drewN nq) HTA.out _ _, HE⟩
            case measure => simp [intOf] <;> omega
          · have HE : Hid (okTo l l.length = false) := Lib.hid (HBD.out (by rw [HBAD.out]; simp [hln]))
            have hl1 : ¬ (ln : Int) = (ln0 : Int) := by omega
            go_quiet (fail)
            go_wp2
            go_ret2
            exact ⟨HBN.out _, by rw [HE.out]; rfl⟩
    · obtain rfl : q = n := by omega
      obtain ⟨W2, hrun, hown, hgr⟩ := run_make_own (P := Tryz.prog) wr wr.heap.size 71 81 i0 (.agg #[.int .u8 0, .slice none 0 0]) 2 und71 HI.out.1 HI.out.2.1 HI.out.2.2.1 .i64 .i64 q (by rw [HI.out.2.2.2]; omega) (by unfold maxLen; omega) (Nat.le_refl _)
      have b2 : Below wr.heap.size wr W2 := ⟨hgr.os, hgr.tape, hgr.output, hgr.size, fun k hk => hgr.block k hk (by simp)⟩
      have HT2 := Lib.hid (blk_later HT.out b2)
      have I0 : Hid (PickInv w wr.heap.size l 0 wr.heap.size q [] W2) := ⟨below_step HB.out b2, hown, .nil, HB.out.size, b2.size⟩
      have HN := Lib.hid HPL.out
      have HSZ : Hid ((Tryz.prog.info? 174).map (·.size) = some (tabC l q).size) := Lib.hid (by rw [tabC_size]; exact size174)
      have HTM : Hid (∀ m, m < 256 → (tabC l q)[m]? = some (.int .i64 (((tabL l l.length).getD m 0 : Nat) : Int))) := fun m hm => by rw [← HPL.out]; exact tabC_at l q m hm
      have HTN : Hid (∀ m, (tabL l l.length).getD m 0 ≤ q) := fun m => by have := tabL_getD_le l l.length m; rw [← HPL.out] at this; rw [← HPL.out]; exact this
      have HKK : Hid (∀ m, 0 < (tabL l l.length).getD m 0 → pickD l (m + 1) = pickD l m ++ [(ptD l ((tabL l l.length).getD m 0 - 1), bsD l ((tabL l l.length).getD m 0 - 1))]) := fun m h => by rw [pickD, if_pos h]
      have HOK : Hid (okTo l l.length = true) := Lib.hid (by rw [← HPL.out]; exact HOK.out)
      have HSZ2 := Lib.hid (tabC_size l q)
      clear hown hgr b2 HT HB
      go_upto_region 10 with fail
      generalize wr.heap.size = K at *
      generalize tabC l q = tb at *
      go_wp2_with (refine wpList_load_row rfl 174 _ rfl w.heap.size rfl 174 _ (0, 0) _ HT2.out und174 rfl HSZ.out ?_)
      go_loopw [7, 48] (fun o c wr' => ∃ (m g cp : Nat) (ps' : List (Int × Value)), m ≤ 256 ∧ o = .slice (some ⟨g, 0, none⟩) ps'.length cp ∧ c = .int .i64 ((m : Nat) : Int) ∧ Hid (PickInv w K l m g cp ps' wr')) (fun _ c _ => 256 - (intOf c).toNat)
      case atStart => exact ⟨0, K, q, [], by omega, rfl, rfl, I0⟩
      case round =>
        clear I0 hrun HT2
        obtain ⟨m, g, cp, ps', hm, rfl, rfl, HP⟩ := hrel
        by_cases hlt : m < 256
        · have ht := HTM.out m hlt
          have htn := HTN.out m
          have hpl := HP.out.are.length
          have hpl2 := pickD_len l m
          have hpl3 : ps'.length ≤ 256 := by omega
          clear hpl hpl2
          have HKM := Lib.hid (HKK.out m)
          have HSK := Lib.hid HP.out.skip
          have HTA : Hid (∀ j, j < q → ∃ b off av kv, ao = some ⟨b, off, none⟩ ∧ b < w.heap.size ∧ BytesR w (.slice av (bsD l j).length kv) (bsD l j) ∧ ptD l j < 256 ∧ ∀ wx, Below w.heap.size w wx → wx.cell? ⟨b, off + j * 2, none⟩ = some (.int .u8 (ptD l j)) ∧ wx.cell? ⟨b, off + j * 2 + 1, none⟩ = some (.slice av (bsD l j).length kv)) := fun j hj => by
            obtain ⟨b, off, hao, hbb, HAT⟩ := HC.out (by omega)
            obtain ⟨av, kv, h1, h2, h3⟩ := HAT.out j hj
            exact ⟨b, off, av, kv, hao, hbb, h1, h2, h3⟩
          by_cases hc : 0 < (tabL l l.length).getD m 0
          · generalize (tabL l l.length).getD m 0 = c at *
            obtain ⟨j, rfl⟩ : ∃ j, c = j + 1 := ⟨c - 1, by omega⟩
            have hidx := index_174 wr tb m _ HSZ2.out hlt ht
            have HKM2 := HKM.out hc
            rw [show j + 1 - 1 = j by omega] at HKM2
            rw [Int.natCast_add, Int.natCast_one] at hidx
            have HKM2 := Lib.hid HKM2
            have hj : j < q := by omega
            obtain ⟨b, off, av, kv, rfl, hbb, hbq, hpq, hcq⟩ := HTA.out j hj
            have STEP : Hid (∀ (w7 : World) (g' cap' : Nat), w7.ownsRow K 81 2 (.slice (some ⟨g', 0, none⟩) (ps'.length + 1) cap') (ps'.length + 1) (shareCells ps' ++ [.int .u8 (ptD l j), .slice av (bsD l j).length kv]) → (wr.alloc (.cells #[.int .u8 (ptD l j), .slice av (bsD l j).length kv] 81)).grownBy w7 (some g) → Hid (PickInv w K l (m + 1) g' cap' (ps' ++ [((ptD l j : Int), .slice av (bsD l j).length kv)]) w7)) := fun w7 g' cap' h1 h2 => Lib.hid (HP.out.step _ HKM2.out hpq hbq h1 h2)
            obtain ⟨c1, c2⟩ := hcq wr HP.out.below
            have hbr : b < wr.heap.size := Nat.lt_of_lt_of_le hbb HP.out.below.size
            have HBAS := Lib.hid HP.out.base
            have HOWN := Lib.hid (owns_later HP.out.own ((Below.refl wr.heap.size wr).alloc (Nat.le_refl _) (.cells #[.int .u8 (ptD l j), .slice av (bsD l j).length kv] 81)))
            have HKW : Hid (K ≤ (wr.alloc (.cells #[.int .u8 (ptD l j), .slice av (bsD l j).length kv] 81)).heap.size) := Lib.hid (Nat.le_trans HP.out.le (by simp))
            have HNEWS : Hid (∀ (i : Nat) (u : Value), [Value.int .u8 (ptD l j), .slice av (bsD l j).length kv][i]? = some u → (wr.alloc (.cells #[.int .u8 (ptD l j), .slice av (bsD l j).length kv] 81)).cell? ((⟨wr.heap.size, 0, none⟩ : Addr).add i) = some u) := by
              refine Lib.hid ?_
              intro i u hi
              match i, hi with
              | 0, hi => simp at hi; subst hi; simp [Addr.add]
              | 1, hi => simp at hi; subst hi; simp [Addr.add]
            have HONE : Hid (∀ u ∈ [Value.int .u8 (ptD l j), .slice av (bsD l j).length kv], u.oneCell' = true) := by
              refine Lib.hid ?_
              intro u hu; simp at hu; rcases hu with rfl | rfl <;> rfl
            have HLP : Hid ((ps' ++ [((ptD l j : Int), Value.slice av (bsD l j).length kv)]).length = ps'.length + 1) := Lib.hid (by simp)
            clear hcq hbq HKM HKK HTA HSK ht
            generalize ptD l j = p at *
            generalize (bsD l j).length = ln at *
            generalize hpx : ps' ++ [((p : Int), Value.slice av ln kv)] = px at *
            generalize shareCells ps' = sc at *
            generalize ps'.length = pl at *
            go_wp2_with (refine wpList_append_lies _ rfl (.tmp 53) (.tmp 59) 71 rfl K 81 i0 _ 2 32 und71 HI.out.1 HI.out.2.1 HI.out.2.2.1 HI.out.2.2.2 rfl (by decide) (.slice (some ⟨g, 0, none⟩) pl cp) pl sc (by simp [Act.eval, Act.put]) HOWN.out ⟨wr.heap.size, 0, none⟩ 1 1 [.int .u8 p, .slice av ln kv] (by simp [Act.eval, Act.put]) rfl HNEWS.out HONE.out (by omega) (by unfold maxLen; omega) (by omega) HKW.out _ rfl ?_; intro g' cap' w7 hown hg hat hlt7; have HX := STEP.out w7 g' cap' hown hg)
            go_roundw
            case rel => exact ⟨m + 1, g', cap', px, by omega, by rw [HLP.out], by go_num, HX⟩
            case measure => simp [intOf] <;> omega
          · have HSK2 := Lib.hid (HSK.out hc)
            clear HSK HTA
            have hidx := index_174 wr tb m _ HSZ2.out hlt ht
            generalize (tabL l l.length).getD m 0 = c at *
            generalize hpl4 : ps'.length = pl at *
            go_wp2
            go_roundw
            case rel => exact ⟨m + 1, g, cp, ps', by omega, by rw [hpl4], by go_num, HSK2⟩
            case measure => simp [intOf] <;> omega
        · obtain rfl : m = 256 := by omega
          have R : Hid (OrdRet w l (.returned (.tuple #[.slice (some ⟨g, 0, none⟩) ps'.length cp, .bool true])) wr) := Lib.hid ⟨HP.out.below, by rw [HOK.out, if_pos rfl]; exact ⟨_, ps', rfl, RowR.of_owns HP.out.own, HP.out.are.later HP.out.below⟩⟩
          go_wp2
          go_ret2
          exact R.out
end Go.Proofs.YtpbgipdkaaooeaaGreatDoor
