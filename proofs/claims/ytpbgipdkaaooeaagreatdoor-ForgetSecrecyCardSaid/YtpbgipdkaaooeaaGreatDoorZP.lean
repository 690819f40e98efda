/- share.Combine. -/
import Derived.Test.YtpbgipdkaaooeaaGreatDoorZO
import Derived.BigQuiet
import Derived.Laws.BytesArg
import Derived.Deep.RegionHeld3
import Derived.Deep.DeepCutAuto
open Go Go.Proofs Go.RowKit
namespace Go.Proofs.YtpbgipdkaaooeaaGreatDoor
set_option linter.unusedSimpArgs false
set_option linter.unusedVariables false
attribute [local go_sem ↓] Go.wp_at_zero Go.wp_at_succ

theorem shareCells_take (ps : List (Int × Value)) : ∀ m, shareCells (ps.take m) = (shareCells ps).take (m * 2) := by
  induction ps with
  | nil => intro m; simp [shareCells]
  | cons a ps ih =>
    intro m
    cases m with
    | zero => simp [shareCells]
    | succ m => rw [List.take_succ_cons, shareCells_cons, shareCells_cons, show (m + 1) * 2 = m * 2 + 1 + 1 by omega, List.take_succ_cons, List.take_succ_cons, ih]
theorem shareCells_drop (ps : List (Int × Value)) : ∀ m, shareCells (ps.drop m) = (shareCells ps).drop (m * 2) := by
  induction ps with
  | nil => intro m; simp [shareCells]
  | cons a ps ih =>
    intro m
    cases m with
    | zero => simp [shareCells]
    | succ m => rw [List.drop_succ_cons, shareCells_cons, show (m + 1) * 2 = m * 2 + 1 + 1 by omega, List.drop_succ_cons, List.drop_succ_cons, ih]
theorem SharesAre.take {w : World} {ps : List (Int × Value)} {l : ShareL} (h : SharesAre w ps l) : ∀ m, SharesAre w (ps.take m) (l.take m) := by
  induction h with
  | nil => intro m; simpa using SharesAre.nil
  | cons h1 h2 h3 _ ih =>
    intro m
    cases m with
    | zero => exact .nil
    | succ m => exact .cons h1 h2 h3 (ih m)
theorem SharesAre.drop {w : World} {ps : List (Int × Value)} {l : ShareL} (h : SharesAre w ps l) : ∀ m, SharesAre w (ps.drop m) (l.drop m) := by
  induction h with
  | nil => intro m; simpa using SharesAre.nil
  | cons h1 h2 h3 h4 ih =>
    intro m
    cases m with
    | zero => exact .cons h1 h2 h3 h4
    | succ m => exact ih m
theorem pickD_from (l : ShareL) : ∀ m, ∀ s ∈ pickD l m, ∃ j, j < l.length ∧ s = (ptD l j, bsD l j)
  | 0 => fun s hs => by simp [pickD] at hs
  | m + 1 => fun s hs => by
    unfold pickD at hs
    split at hs
    · rename_i hc
      rw [List.mem_append] at hs
      rcases hs with hs | hs
      · exact pickD_from l m s hs
      · simp only [List.mem_singleton] at hs
        have := tabL_getD_le l l.length m
        exact ⟨_, by omega, hs⟩
    · exact pickD_from l m s hs
theorem okTo_at (l : ShareL) : ∀ n, okTo l n = true → ∀ j, j < n → badD l j = false
  | 0 => fun _ j hj => absurd hj (by omega)
  | n + 1 => fun h j hj => by
    unfold okTo at h
    simp only [Bool.and_eq_true, Bool.not_eq_true'] at h
    by_cases hjn : j = n
    · rw [hjn]; exact h.2
    · exact okTo_at l n h.1 j (by omega)
theorem orderD_len (l : ShareL) (h : okTo l l.length = true) : ∀ s ∈ orderD l, s.2.length = (bsD l 0).length := fun s hs => by
  obtain ⟨j, hj, rfl⟩ := pickD_from l 256 s hs
  have := okTo_at l _ h j hj
  unfold badD at this
  simp at this
  exact this.2
theorem orderD_le (l : ShareL) : (orderD l).length ≤ 256 := pickD_len l 256

/-- share.Combine's error. -/
def combE (l : ShareL) (need : Int) : Int :=
  if need < 1 ∨ 255 < need then 1 else if okTo l l.length = false ∨ ((orderD l).length : Int) < need then 40
  else if ((orderD l).drop need.toNat).all (fun s => decide (interD ((orderD l).take need.toNat) s.1 (bsD l 0).length = s.2)) = true then 0 else 40
def combD (l : ShareL) (need : Int) : List Int := if combE l need = 0 then interD ((orderD l).take need.toNat) 0 (bsD l 0).length else []
theorem interD_bytes (l : ShareL) (x n0 : Nat) : ∀ y ∈ interD l x n0, 0 ≤ y ∧ y ≤ 255 := fun y hy => by
  unfold interD at hy
  obtain ⟨i, -, rfl⟩ := List.mem_map.1 hy
  have := accD_lt l x i l.length
  omega
theorem interD_length (l : ShareL) (x n0 : Nat) : (interD l x n0).length = n0 := by simp [interD]
def CombRet (w : World) (l : ShareL) (need : Int) (e : Ending) (w' : World) : Prop := ∃ v', e = .returned (.tuple #[v', .int .i64 (combE l need)]) ∧ BytesR w' v' (combD l need) ∧ Below w.heap.size w w'
theorem CombRet.bad {w w' : World} {l : ShareL} {need c : Int} (hc : combE l need = c) (h0 : c ≠ 0) (hb : Below w.heap.size w w') : CombRet w l need (.returned (.tuple #[.slice none 0 0, .int .i64 c])) w' := by
  refine ⟨_, by rw [hc], ?_, hb⟩
  unfold combD
  rw [hc, if_neg h0]
  exact ⟨RowR.nil w' 1, by simp⟩

/-! ### Slicing rows -/
theorem elem71 : Tryz.prog.underlying 71 = some (.slice (Tryz.prog.elem 71)) := by kernel_rfl
theorem elem71' : Tryz.prog.elem 71 = 81 := by kernel_rfl
theorem size_elem71 (w : World) : (sizeOf (Tryz.prog.elem 71)).run Tryz.prog w = .ok 2 w := by
  obtain ⟨i, h1, -, h3, -⟩ := info81
  rw [elem71']
  simp [sizeOf, typeInfo, h1, h3, go_sem]
theorem row_drop {w : World} {a : Option Addr} {n cap m : Nat} {cs : List Value} (h : RowR w (.slice a n cap) 2 cs n) (hm : m ≤ n) :
    ∃ a', (∀ wx, (Instr.slice 71 (.slice a n cap) (some (.int .i64 (m : Int))) none none).run Tryz.prog wx = .ok (.slice a' (n - m) (cap - m)) wx) ∧ RowR w (.slice a' (n - m) (cap - m)) 2 (cs.drop (m * 2)) (n - m) := by
  obtain ⟨h1, ao, cp, h2, h3, h4, h5⟩ := h
  simp only [Value.slice.injEq] at h2
  obtain ⟨rfl, -, rfl⟩ := h2
  refine ⟨if cap = m then a else a.map (·.add (m * 2)), fun wx => ?_, by rw [List.length_drop, h1]; omega, _, _, rfl, by omega, by omega, fun hn => ?_⟩
  · rw [run_slice_l wx 71 a n cap elem71 .i64 _ (by omega) (by omega), size_elem71]
    simp [Result.andThen, sliced]
  · obtain ⟨b, off, rfl, hb, hc⟩ := h5 (by omega)
    refine ⟨b, off + m * 2, by rw [if_neg (by omega)]; simp [Addr.add], hb, fun j hj => ?_⟩
    rw [List.getElem?_drop, ← hc (m * 2 + j) (by omega), Nat.add_assoc]
theorem row_take {w : World} {a : Option Addr} {n cap m : Nat} {cs : List Value} (h : RowR w (.slice a n cap) 2 cs n) (hm : m ≤ n) (h0 : 0 < m) :
    ∃ a', (∀ wx, (Instr.slice 71 (.slice a n cap) none (some (.int .i64 (m : Int))) none).run Tryz.prog wx = .ok (.slice a' m cap) wx) ∧ RowR w (.slice a' m cap) 2 (cs.take (m * 2)) m := by
  obtain ⟨h1, ao, cp, h2, h3, h4, h5⟩ := h
  simp only [Value.slice.injEq] at h2
  obtain ⟨rfl, -, rfl⟩ := h2
  obtain ⟨b, off, rfl, hb, hc⟩ := h5 (by omega)
  refine ⟨some ⟨b, off, none⟩, fun wx => ?_, by rw [List.length_take, h1]; omega, _, _, rfl, by omega, by omega, fun hn => ⟨b, off, rfl, hb, fun j hj => ?_⟩⟩
  · rw [run_slice_h wx 71 _ n cap elem71 .i64 _ (by omega) (by omega), size_elem71]
    simp [Result.andThen, sliced, Addr.add]
  · rw [List.getElem?_take_of_lt hj, ← hc j (by omega)]
/-! ### []byte to string -/
theorem und9 : Tryz.prog.underlying 9 = some .string := by kernel_rfl
theorem und5 : Tryz.prog.underlying 5 = some (.int .u8) := by kernel_rfl
theorem conv_bytes {w : World} {a : Option Addr} {n c : Nat} {xs : List Int} (h : BytesR w (.slice a n c) xs) : (convert 28 9 (.slice a n c)).run Tryz.prog w = .ok (.string (strOfNums xs)) w := by
  obtain ⟨⟨h1, ao, cp, h2, h3, h4, h5⟩, -⟩ := h
  simp only [Value.slice.injEq] at h2
  obtain ⟨rfl, hn, rfl⟩ := h2
  by_cases h0 : 0 < xs.length
  · obtain ⟨b, off, rfl, hb, hc⟩ := h5 h0
    refine run_convert_bytes_arg w 28 5 und28 und5 b off n c xs (by omega) (fun i hi => ?_) 9 und9
    rw [hc i (by omega), List.getElem?_map, List.getElem?_eq_getElem (by omega), List.getD_eq_getElem?_getD, List.getElem?_eq_getElem (by omega)]; rfl
  · obtain rfl : xs = [] := List.length_eq_zero_iff.1 (by omega)
    have hn0 : n = 0 := by simpa using hn
    subst hn0
    cases a with
    | none => exact run_convert_bytes_nil w 28 5 und28 und5 0 c 9 und9
    | some ad =>
      obtain ⟨b, off, e⟩ := ad
      have : (convert 28 9 (.slice (some ⟨b, off, e⟩) 0 c)).run Tryz.prog w = .ok (.string (strOfNums [])) w := by
        rw [run_convert_bytes_string w 28 9 5 _ 0 c und28 und5 und9]
        exact run_bytesToString w _ 0 c [] (by simp [loadCells, loadCellsFrom, Sem.run_pure])
      exact this
theorem str_ne {xs ys : List Int} (hx : ∀ x ∈ xs, 0 ≤ x ∧ x ≤ 255) (hy : ∀ y ∈ ys, 0 ≤ y ∧ y ≤ 255) (h : strOfNums xs = strOfNums ys) : xs = ys := by
  have h2 : (strOfNums xs).data.toList = (strOfNums ys).data.toList := by rw [h]
  rw [strOfNums_data, strOfNums_data] at h2
  have hlen : xs.length = ys.length := by have := congrArg List.length h2; simpa using this
  apply List.ext_getElem hlen
  intro i h3 h4
  have h5 : (xs.map fun n => UInt8.ofNat n.toNat)[i]? = (ys.map fun n => UInt8.ofNat n.toNat)[i]? := by rw [h2]
  rw [List.getElem?_map, List.getElem?_map, List.getElem?_eq_getElem h3, List.getElem?_eq_getElem h4] at h5
  simp only [Option.map_some, Option.some.injEq] at h5
  have a1 := hx _ (List.getElem_mem h3)
  have a2 := hy _ (List.getElem_mem h4)
  have h6 := congrArg UInt8.toNat h5
  simp only [UInt8.toNat_ofNat'] at h6
  omega
/-- What a row of shares holds at each place. -/
theorem shares_at {w : World} {ao : Option Addr} {n cap : Nat} {ps : List (Int × Value)} {l : ShareL} (hr : RowR w (.slice ao n cap) 2 (shareCells ps) n) (hs : SharesAre w ps l) (hpl : ps.length = n) :
    ∀ j, j < n → ∃ b off av kv, ao = some ⟨b, off, none⟩ ∧ b < w.heap.size ∧ BytesR w (.slice av (bsD l j).length kv) (bsD l j) ∧ ptD l j < 256 ∧
      ∀ wx, Below w.heap.size w wx → wx.cell? ⟨b, off + j * 2, none⟩ = some (.int .u8 (ptD l j)) ∧ wx.cell? ⟨b, off + j * 2 + 1, none⟩ = some (.slice av (bsD l j).length kv) := fun j hj => by
  obtain ⟨hlen, ao', cap', heq, hle, hm, hcell⟩ := hr
  simp only [Value.slice.injEq] at heq
  obtain ⟨rfl, -, rfl⟩ := heq
  obtain ⟨b, off, rfl, hbb, hcells⟩ := hcell (by omega)
  have hll := hs.length
  have hjl : j < l.length := by omega
  have hat := shareCells_at ps j (by omega)
  obtain ⟨e1, e2, e3⟩ := hs.at j (by omega) hjl
  have hp : ptD l j = l[j].1 := by unfold ptD; rw [List.getD_eq_getElem?_getD, List.getElem?_eq_getElem hjl]; rfl
  have hq : bsD l j = l[j].2 := by unfold bsD; rw [List.getD_eq_getElem?_getD, List.getElem?_eq_getElem hjl]; rfl
  obtain ⟨-, av, kv, hv, -⟩ := id e3.1
  rw [hp, hq]
  rw [hv] at e3
  refine ⟨b, off, av, kv, rfl, hbb, e3, e2, fun wx hbe => ?_⟩
  have c1 := hcells (j * 2) (by omega)
  have c2 := hcells (j * 2 + 1) (by omega)
  rw [hat.1, e1] at c1
  rw [hat.2, hv, ← Nat.add_assoc] at c2
  exact ⟨by rw [hbe.cell (p := ⟨b, off + j * 2, none⟩) hbb]; exact c1, by rw [hbe.cell (p := ⟨b, off + j * 2 + 1, none⟩) hbb]; exact c2⟩
theorem bsD_mem {l : ShareL} {j : Nat} (h : j < l.length) : (ptD l j, bsD l j) ∈ l := by
  have : (ptD l j, bsD l j) = l[j] := by unfold ptD bsD; rw [List.getD_eq_getElem?_getD, List.getElem?_eq_getElem h]; rfl
  rw [this]; exact List.getElem_mem h
theorem mem_bsD {l : ShareL} {s : Nat × List Int} (h : s ∈ l) : ∃ j, j < l.length ∧ s = (ptD l j, bsD l j) := by
  obtain ⟨j, hj, rfl⟩ := List.mem_iff_getElem.1 h
  refine ⟨j, hj, ?_⟩
  unfold ptD bsD; rw [List.getD_eq_getElem?_getD, List.getElem?_eq_getElem hj]; rfl
theorem str_beq {xs ys : List Int} (hx : ∀ x ∈ xs, 0 ≤ x ∧ x ≤ 255) (hy : ∀ y ∈ ys, 0 ≤ y ∧ y ≤ 255) : ((strOfNums xs).toList == (strOfNums ys).toList) = decide (xs = ys) := by
  by_cases h : xs = ys
  · subst h; simp
  · rw [decide_eq_false h]
    have : ¬ (strOfNums xs).toList = (strOfNums ys).toList := fun he => h (str_ne hx hy (by
      have h2 : (strOfNums xs).data = (strOfNums ys).data := by
        have e : ∀ b : ByteArray, b.toList = b.data.toList := fun b => ByteArray.toList_eq b
        rw [e, e] at he
        exact Array.toList_inj.1 he
      cases hq : strOfNums xs; cases hq2 : strOfNums ys
      rw [hq, hq2] at h2
      simp only at h2
      rw [h2]))
    simpa using this
set_option maxRecDepth 100000 in
set_option maxHeartbeats 1000000 in
/-- share.Combine -/
theorem comb_59 (w : World) (vl : Value) (ps : List (Int × Value)) (l : ShareL) (need : Int) (hl : RowR w vl 2 (shareCells ps) ps.length) (hs : SharesAre w ps l) (hn2 : ps.length ≤ 4096) (hbl : ∀ s ∈ l, s.2.length ≤ 4096) :
    Calls Tryz.prog 59 #[vl, .int .i64 need] w (CombRet w l need) := by
  have CO := Lib.hid (ord_86 w vl ps l hl hs hn2)
  have HN0 : Hid ((bsD l 0).length ≤ 4096) := Lib.hid (by
    unfold bsD
    rw [List.getD_eq_getElem?_getD]
    by_cases h0 : 0 < l.length
    · rw [List.getElem?_eq_getElem h0]; exact hbl _ (List.getElem_mem h0)
    · rw [List.getElem?_eq_none (by omega)]; simp)
  clear hl hs hn2 hbl
  by_cases h1 : need < 1
  · have HE : Hid (combE l need = 1) := Lib.hid (by unfold combE; rw [if_pos (.inl h1)])
    clear CO HN0
    go_enter Tryz.func59, Tryz.ntmps59
    go_wp2
    go_ret2
    exact CombRet.bad HE.out (by decide) (Below.refl _ _)
  by_cases h2 : 255 < need
  · have HE : Hid (combE l need = 1) := Lib.hid (by unfold combE; rw [if_pos (.inr h2)])
    clear CO HN0
    go_enter Tryz.func59, Tryz.ntmps59
    go_wp2
    go_ret2
    exact CombRet.bad HE.out (by decide) (Below.refl _ _)
  by_cases hok : ¬ okTo l l.length = true
  · have HE : Hid (combE l need = 40) := Lib.hid (by unfold combE; rw [if_neg (by omega), if_pos (.inl (by simpa using hok))])
    have CO2 : Hid (Calls Tryz.prog 86 #[vl] w fun e w' => e = .returned (.tuple #[.slice none 0 0, .bool false]) ∧ Below w.heap.size w w') := Lib.hid (CO.out.mono fun e w' h => ⟨by have := h.2; rw [if_neg hok] at this; exact this, h.1⟩)
    clear CO HN0 hok
    go_enter Tryz.func59, Tryz.ntmps59
    go_wp2_with (go_at_call 86; refine CO2.out.mono ?_; rintro e w1 ⟨rfl, b1⟩)
    go_ret2
    exact CombRet.bad HE.out (by decide) b1
  have hok : okTo l l.length = true := by simpa using hok
  have HOL := Lib.hid (orderD_len l hok)
  have CO2 : Hid (Calls Tryz.prog 86 #[vl] w fun e w' => ∃ ao n cap ps', e = .returned (.tuple #[.slice ao n cap, .bool true]) ∧ Hid (ps'.length = n) ∧ Hid (RowR w' (.slice ao n cap) 2 (shareCells ps') n) ∧ Hid (SharesAre w' ps' (orderD l)) ∧ Hid (Below w.heap.size w w')) := Lib.hid (CO.out.mono fun e w' h => by
    obtain ⟨hb, h⟩ := h
    rw [if_pos hok] at h
    obtain ⟨v', ps', rfl, h3, h4⟩ := h
    obtain ⟨-, ao, cap, rfl, -⟩ := id h3
    exact ⟨ao, _, cap, ps', rfl, Lib.hid rfl, h3, h4, hb⟩)
  clear CO
  have HE0 : Hid (combE l need = if ((orderD l).length : Int) < need then 40 else if ((orderD l).drop need.toNat).all (fun s => decide (interD ((orderD l).take need.toNat) s.1 (bsD l 0).length = s.2)) = true then 0 else 40) := Lib.hid (by
    unfold combE
    rw [if_neg (by omega)]
    by_cases hlt : ((orderD l).length : Int) < need
    · rw [if_pos (.inr hlt), if_pos hlt]
    · rw [if_neg (by simp [hok]; omega), if_neg hlt])
  have HD0 : Hid (combE l need = 0 → combD l need = interD ((orderD l).take need.toNat) 0 (bsD l 0).length) := fun h => by unfold combD; rw [if_pos h]
  have HDL := Lib.hid (orderD_le l)
  clear hok
  obtain ⟨m, rfl⟩ : ∃ m : Nat, need = (m : Int) := ⟨need.toNat, by omega⟩
  rw [Int.toNat_natCast] at HE0 HD0
  have hm1 : 1 ≤ m := by omega
  have hm2 : m ≤ 255 := by omega
  generalize hod : orderD l = od at *
  clear hod
  generalize (bsD l 0).length = n0 at *
  go_enter Tryz.func59, Tryz.ntmps59
  go_upto_region 4 with (go_at_call 86; refine CO2.out.mono ?_; rintro e w1 ⟨ao, n, cap, ps', rfl, HPL, HR, HS, B1⟩)
  have hnl : n = od.length := by have := HS.out.length; rw [HPL.out] at this; exact this
  by_cases hlt : (n : Int) < (m : Int)
  · have HE : Hid (combE l m = 40) := Lib.hid (by rw [HE0.out, if_pos (by omega)])
    clear HE0 HD0 HDL hnl
    go_wp2
    go_ret2
    exact CombRet.bad HE.out (by decide) B1.out
  have hmn : m ≤ n := by omega
  have hn5 : n ≤ 256 := by have := HDL.out; omega
  have HE1 : Hid (combE l m = if (od.drop m).all (fun s => decide (interD (od.take m) s.1 n0 = s.2)) = true then 0 else 40) := Lib.hid (by rw [HE0.out, if_neg (by omega)])
  have HNL := Lib.hid hnl
  clear HE0 HDL hnl
  obtain ⟨a1, hd1, HR1⟩ := row_drop HR.out hmn
  obtain ⟨a2, hd2, HR2⟩ := row_take HR.out hmn (by omega)
  rw [← shareCells_drop] at HR1
  rw [← shareCells_take] at HR2
  have HS1 := Lib.hid (HS.out.drop m)
  have HS2 := Lib.hid (HS.out.take m)
  have HR1 := Lib.hid HR1
  have HR2 := Lib.hid HR2
  have HD1 := Lib.hid hd1
  have HD2 := Lib.hid hd2
  clear hd1 hd2
  go_upto_region 7 with (go_at_call 73; refine (tab_73 _).mono ?_; rintro e w2 ⟨rfl, b2, t2⟩)
  have hT : TabR w2 w1.heap.size := t2
  have HT := Lib.hid hT
  have HR1b := Lib.hid (HR1.out.later b2)
  have HR2b := Lib.hid (HR2.out.later b2)
  have HS1b := Lib.hid (HS1.out.later b2)
  have HS2b := Lib.hid (HS2.out.later b2)
  have B2 := Lib.hid (below_step B1.out b2)
  clear HR1 HR2 HS1 HS2 HS HR B1 t2 hT b2
  generalize w1.heap.size = k at *
  have hd1 := HD1.out w2
  clear HD1
  obtain ⟨r, hrm⟩ : ∃ r, r = n - m := ⟨_, rfl⟩
  have hlr : (od.drop m).length = r := by rw [List.length_drop, ← HNL.out, hrm]
  have hlf : (od.take m).length = m := by rw [List.length_take, ← HNL.out]; omega
  have HAT := Lib.hid (shares_at HR1b.out HS1b.out (by rw [HS1b.out.length, List.length_drop, ← HNL.out]))
  have HPF : Hid ((ps'.take m).length = m) := Lib.hid (by rw [List.length_take, HPL.out]; omega)
  rw [← hrm] at HR1b hd1 HAT
  have hr5 : r ≤ 256 := by omega
  have HLR : Hid (∀ j, j < r → (bsD (od.drop m) j).length = n0) := fun j hj => HOL.out _ (List.mem_of_mem_drop (bsD_mem (by rw [hlr]; exact hj)))
  have HLF : Hid (∀ j (h : j < (od.take m).length), (od.take m)[j].2.length = n0) := fun j hj => HOL.out _ (List.mem_of_mem_take (List.getElem_mem hj))
  have HLRL := Lib.hid hlr
  have CI : Hid (∀ wx x, Below w2.heap.size w2 wx → x < 256 → Calls Tryz.prog 87 #[.slice a2 m cap, .int .u8 ((x : Nat) : Int), .func (.func 88) #[.pointer (some ⟨k, 0, none⟩)] #[], .func (.func 89) #[.pointer (some ⟨k, 0, none⟩)] #[]] wx (InterRet wx (od.take m) x n0)) := fun wx x hbx hx =>
    inter_87 wx k _ (ps'.take m) (od.take m) x n0 (blk_later HT.out hbx) (by rw [HPF.out]; exact HR2b.out.later hbx) (HS2b.out.later hbx) hx (by rw [HPF.out]; omega) (by rw [HPF.out]; omega) HLF.out HN0.out
  have HMM : Hid ((∀ i, i < r → interD (od.take m) (ptD (od.drop m) i) n0 = bsD (od.drop m) i) → combE l m = 0) := fun h => by
    rw [HE1.out, if_pos]
    rw [List.all_eq_true]
    intro s hs
    obtain ⟨j, hj, rfl⟩ := mem_bsD hs
    rw [HLRL.out] at hj
    simpa using h j hj
  have HMB : Hid (∀ i, i < r → interD (od.take m) (ptD (od.drop m) i) n0 ≠ bsD (od.drop m) i → combE l m = 40) := fun i hi h => by
    rw [HE1.out, if_neg]
    intro ha
    rw [List.all_eq_true] at ha
    have := ha _ (bsD_mem (l := od.drop m) (j := i) (by rw [HLRL.out]; exact hi))
    simp at this
    exact h this
  have HIB : Hid (∀ x, ∀ y ∈ interD (od.take m) x n0, 0 ≤ y ∧ y ≤ 255) := fun x => interD_bytes _ _ _
  have HIL : Hid (∀ x, (interD (od.take m) x n0).length = n0) := fun x => interD_length _ _ _
  clear hlr hlf HE1 HLF HPF HNL HOL HS1b HS2b HR1b HR2b HT hrm hmn hn5
  generalize od.take m = lf at *
  generalize od.drop m = lr at *
  generalize cap - m = c1 at *
  go_wp2
  go_loopw [35] (fun c wr => ∃ j : Nat, j ≤ r ∧ c = .int .i64 ((j : Nat) : Int) ∧ Hid (Below w2.heap.size w2 wr) ∧ Hid (∀ i, i < j → interD lf (ptD lr i) n0 = bsD lr i)) (fun c _ => r - (intOf c).toNat)
  case atStart => exact ⟨0, Nat.zero_le _, rfl, Below.refl _ _, fun i hi => absurd hi (by omega)⟩
  case round =>
    clear hd1
    obtain ⟨j, hj, rfl, HB, HM⟩ := hrel
    by_cases hlt : j < r
    · obtain ⟨b, off, av, kv, rfl, hbb, hbq, hpq, hcq⟩ := HAT.out j hlt
      rw [HLR.out j hlt] at hbq hcq
      have HMBj := Lib.hid (HMB.out j hlt)
      obtain ⟨c1, c2⟩ := hcq wr HB.out
      have hbr : b < wr.heap.size := Nat.lt_of_lt_of_le hbb HB.out.size
      have HBQ := Lib.hid hbq
      have HBA := Lib.hid (HB.out.alloc HB.out.size (.cells #[.int .u8 (ptD lr j), .slice av n0 kv] 81))
      have NEWB := Lib.hid (heap_alloc_new wr (.cells #[.int .u8 (ptD lr j), .slice av n0 kv] 81))
      clear hcq hbq
      have CIj : Hid (∀ wx, Below w2.heap.size w2 wx → Calls Tryz.prog 87 #[.slice a2 m cap, .int .u8 ((ptD lr j : Nat) : Int), .func (.func 88) #[.pointer (some ⟨k, 0, none⟩)] #[], .func (.func 89) #[.pointer (some ⟨k, 0, none⟩)] #[]] wx fun e w' => ∃ a5 k5, e = .returned (.slice a5 n0 k5) ∧ Hid (BytesR w' (.slice a5 n0 k5) (interD lf (ptD lr j) n0)) ∧ Hid (Below wx.heap.size wx w')) := fun wx hbx => (CI.out wx (ptD lr j) hbx hpq).mono fun e w' h => by
        obtain ⟨v', rfl, ho, hb⟩ := h
        obtain ⟨a5, k5, rfl⟩ := slice_of_owns ho
        exact ⟨a5, k5, rfl, ⟨by rw [HIL.out]; exact RowR.of_owns ho, HIB.out _⟩, hb⟩
      have HIBj := Lib.hid (HIB.out (ptD lr j))
      have HILj := Lib.hid (HIL.out (ptD lr j))
      have HBY := Lib.hid HBQ.out.2
      obtain ⟨MJ, HMJ⟩ : ∃ P : Prop, P = (∀ i, i < j + 1 → interD lf (ptD lr i) n0 = bsD lr i) := ⟨_, rfl⟩
      have HNXT : Hid (interD lf (ptD lr j) n0 = bsD lr j → MJ) := fun h => by
        rw [HMJ]
        intro i hi
        by_cases hij : i = j
        · rw [hij]; exact h
        · exact HM.out i (by omega)
      replace HMJ := Lib.hid HMJ
      generalize ptD lr j = p at *
      generalize bsD lr j = bs at *
      go_upto_region 10 with fail
      clear c1 c2
      obtain ⟨y1, y2, y3⟩ := box_walk NEWB.out
      generalize wr.alloc (.cells #[.int .u8 (p : Int), .slice av n0 kv] 81) = W at *
      generalize wr.heap.size = kb at *
      have hd2 : ∀ wx, (Instr.slice 71 (.slice ao n cap) none (some (.int .i64 (m : Int))) none).run Tryz.prog wx = .ok (.slice a2 m cap) wx := HD2.out
      have HBD := Lib.hid HBA.out.drew
      have cv1 := conv_bytes (HBQ.out.later HBD.out)
      have hbeq := str_beq HIBj.out HBY.out
      have KB := Lib.hid y3
      have y4 : W.drew.cell? ⟨kb, 0, none⟩ = some (.int .u8 (p : Int)) := y1 0
      have y5 : W.drew.cell? ⟨kb, 1, none⟩ = some (.slice av n0 kv) := y1 1
      clear y1
      by_cases heq : interD lf p n0 = bs
      · rw [decide_eq_true heq] at hbeq
        have HNX := Lib.hid (HNXT.out heq)
        rw [HMJ.out] at HNX
        clear HNXT HMBj
        have heq := Lib.hid heq
        generalize interD lf p n0 = xs at *
        refine wp_region_held_drew (S := (fun w' => w'.cell? ⟨kb, 0, none⟩ = some (.int .u8 (p : Int)) ∧ w'.cell? ⟨kb, 1, none⟩ = some (.slice av n0 kv) ∧ (convert 28 9 (.slice av n0 kv)).run Tryz.prog w' = .ok (.string (strOfNums bs)) w')) (by kernel_rfl) ?_ (fun hHeld => ?_)
        · (try dsimp only); (first | assumption | exact ⟨y4, y5, cv1⟩ | exact ⟨x4, x5, cv6⟩)
        refine wpAnyH_take (i := 0) (oi := { dst := some 39, op := Op.move (Operand.tmp 6), type := 71, pos := "share.go:151", after := #[], guard := none }) (v := ?_) rfl (by kernel_rfl) (by kernel_rfl) (by kernel_rfl) (fun _ _ _ h => h) (Or.inl ⟨by rfl, ?_⟩) (by assumption) ?_
        rotate_left
        · intro w hSw; (try dsimp only at hSw); (go_simp <;> with_reducible rfl)
        (try simp only [Act.put, List.setIfInBounds_toArray, List.set_cons_zero, List.set_cons_succ])
        refine wpAnyH_take (i := 1) (oi := { dst := some 40, op := Op.move (Operand.tmp 1), type := 3, pos := "share.go:151", after := #[], guard := none }) (v := ?_) rfl (by kernel_rfl) (by kernel_rfl) (by kernel_rfl) (fun _ _ _ h => h) (Or.inl ⟨by rfl, ?_⟩) (by assumption) ?_
        rotate_left
        · intro w hSw; (try dsimp only at hSw); (go_simp <;> with_reducible rfl)
        (try simp only [Act.put, List.setIfInBounds_toArray, List.set_cons_zero, List.set_cons_succ])
        refine wpAnyH_take (i := 2) (oi := { dst := some 41, op := Op.slice 71 (Operand.tmp 39) none (some (Operand.tmp 40)) none, type := 71, pos := "share.go:151", after := #[{ on := 0, ground := Ground.data }, { on := 1, ground := Ground.data }], guard := none }) (v := ?_) rfl (by kernel_rfl) (by kernel_rfl) (by kernel_rfl) (fun _ _ _ h => h) (Or.inl ⟨by rfl, ?_⟩) (by assumption) ?_
        rotate_left
        · intro w hSw; (try dsimp only at hSw); (go_simp <;> with_reducible rfl)
        (try simp only [Act.put, List.setIfInBounds_toArray, List.set_cons_zero, List.set_cons_succ])
        refine wpAnyH_take (i := 3) (oi := { dst := some 42, op := Op.fieldAddr 81 (Operand.tmp 10) 0, type := 0, pos := "share.go:151", after := #[], guard := none }) (v := ?_) rfl (by kernel_rfl) (by kernel_rfl) (by kernel_rfl) (fun _ _ _ h => h) (Or.inl ⟨by rfl, ?_⟩) (by assumption) ?_
        rotate_left
        · intro w hSw; (try dsimp only at hSw); (go_simp <;> with_reducible rfl)
        (try simp only [Act.put, List.setIfInBounds_toArray, List.set_cons_zero, List.set_cons_succ])
        refine wpAnyH_take (i := 4) (oi := { dst := some 43, op := Op.load 5 (Operand.tmp 42), type := 5, pos := "share.go:151", after := #[{ on := 3, ground := Ground.data }], guard := none }) (v := ?_) rfl (by kernel_rfl) (by kernel_rfl) (by kernel_rfl) (fun _ _ _ h => h) (Or.inl ⟨by rfl, ?_⟩) (by assumption) ?_
        rotate_left
        · intro w hSw; (try dsimp only at hSw); (go_simp <;> with_reducible rfl)
        (try simp only [Act.put, List.setIfInBounds_toArray, List.set_cons_zero, List.set_cons_succ])
        refine wpAnyH_take (i := 5) (oi := { dst := some 44, op := Op.move (Operand.tmp 8), type := 133, pos := "share.go:151", after := #[], guard := none }) (v := ?_) rfl (by kernel_rfl) (by kernel_rfl) (by kernel_rfl) (fun _ _ _ h => h) (Or.inl ⟨by rfl, ?_⟩) (by assumption) ?_
        rotate_left
        · intro w hSw; (try dsimp only at hSw); (go_simp <;> with_reducible rfl)
        (try simp only [Act.put, List.setIfInBounds_toArray, List.set_cons_zero, List.set_cons_succ])
        refine wpAnyH_take (i := 6) (oi := { dst := some 45, op := Op.makeFunc (Fn.func 88) #[Operand.tmp 44] #[], type := 149, pos := "share.go:151", after := #[{ on := 5, ground := Ground.data }], guard := none }) (v := ?_) rfl (by kernel_rfl) (by kernel_rfl) (by kernel_rfl) (fun _ _ _ h => h) (Or.inl ⟨by rfl, ?_⟩) (by assumption) ?_
        rotate_left
        · intro w hSw; (try dsimp only at hSw); (go_simp <;> with_reducible rfl)
        (try simp only [Act.put, List.setIfInBounds_toArray, List.set_cons_zero, List.set_cons_succ])
        refine wpAnyH_take (i := 7) (oi := { dst := some 46, op := Op.move (Operand.tmp 8), type := 133, pos := "share.go:151", after := #[], guard := none }) (v := ?_) rfl (by kernel_rfl) (by kernel_rfl) (by kernel_rfl) (fun _ _ _ h => h) (Or.inl ⟨by rfl, ?_⟩) (by assumption) ?_
        rotate_left
        · intro w hSw; (try dsimp only at hSw); (go_simp <;> with_reducible rfl)
        (try simp only [Act.put, List.setIfInBounds_toArray, List.set_cons_zero, List.set_cons_succ])
        refine wpAnyH_take (i := 8) (oi := { dst := some 47, op := Op.makeFunc (Fn.func 89) #[Operand.tmp 46] #[], type := 149, pos := "share.go:151", after := #[{ on := 7, ground := Ground.data }], guard := none }) (v := ?_) rfl (by kernel_rfl) (by kernel_rfl) (by kernel_rfl) (fun _ _ _ h => h) (Or.inl ⟨by rfl, ?_⟩) (by assumption) ?_
        rotate_left
        · intro w hSw; (try dsimp only at hSw); (go_simp <;> with_reducible rfl)
        (try simp only [Act.put, List.setIfInBounds_toArray, List.set_cons_zero, List.set_cons_succ])
        refine wpAnyH_take (i := 11) (oi := { dst := some 50, op := Op.fieldAddr 81 (Operand.tmp 10) 1, type := 0, pos := "share.go:151", after := #[], guard := none }) (v := ?_) rfl (by kernel_rfl) (by kernel_rfl) (by kernel_rfl) (fun _ _ _ h => h) (Or.inl ⟨by rfl, ?_⟩) (by assumption) ?_
        rotate_left
        · intro w hSw; (try dsimp only at hSw); (go_simp <;> with_reducible rfl)
        (try simp only [Act.put, List.setIfInBounds_toArray, List.set_cons_zero, List.set_cons_succ])
        refine wpAnyH_take (i := 12) (oi := { dst := some 51, op := Op.load 28 (Operand.tmp 50), type := 28, pos := "share.go:151", after := #[{ on := 11, ground := Ground.data }], guard := none }) (v := ?_) rfl (by kernel_rfl) (by kernel_rfl) (by kernel_rfl) (fun _ _ _ h => h) (Or.inl ⟨by rfl, ?_⟩) (by assumption) ?_
        rotate_left
        · intro w hSw; (try dsimp only at hSw); (go_simp <;> with_reducible rfl)
        (try simp only [Act.put, List.setIfInBounds_toArray, List.set_cons_zero, List.set_cons_succ])
        refine wpAnyH_take (i := 13) (oi := { dst := some 52, op := Op.convert 28 9 (Operand.tmp 51), type := 9, pos := "share.go:151", after := #[{ on := 12, ground := Ground.data }], guard := none }) (v := ?_) rfl (by kernel_rfl) (by kernel_rfl) (by kernel_rfl) (fun _ _ _ h => h) (Or.inl ⟨by rfl, ?_⟩) (by assumption) ?_
        rotate_left
        · intro w hSw; (try dsimp only at hSw); (go_simp <;> with_reducible rfl)
        (try simp only [Act.put, List.setIfInBounds_toArray, List.set_cons_zero, List.set_cons_succ])
        refine wpAnyH_ready (rs := [9]) (by kernel_rfl) (by simp) ?_
        refine AllReadyH.cons (o := { dst := some 48, op := Op.call { callee := Callee.value (Operand.func 87), args := #[Operand.tmp 41, Operand.tmp 43, Operand.tmp 45, Operand.tmp 47], argTypes := #[71, 5, 149, 149] }, type := 28, pos := "share.go:151", after := #[{ on := 2, ground := Ground.data }, { on := 4, ground := Ground.data }, { on := 6, ground := Ground.data }, { on := 8, ground := Ground.data }], guard := none }) rfl (fun K hK => ?_) AllReadyH.nil
        go_wp2_with (go_at_call 87; refine (CIj.out _ HBD.out).mono ?_; rintro e w5 ⟨a5, k5, rfl, hb5, b5⟩; have cv5 := conv_bytes hb5.out; have cv6 := conv_bytes (HBQ.out.later (below_step HBD.out b5.out)); obtain ⟨x1, x2, x3⟩ := box_walk (blk_later NEWB.out (below_step (Below.refl _ _).drew b5.out)); have x4 := x1 0; have x5 := x1 1; simp only [List.getElem?_toArray, List.getElem?_cons_zero, List.getElem?_cons_succ] at x4 x5; clear x1; have BX := Lib.hid (below_step HBD.out b5.out))
        refine hK.out _ _ ?_ (fun hHeld => ?_)
        · (try dsimp only); (first | assumption | exact ⟨y4, y5, cv1⟩ | exact ⟨x4, x5, cv6⟩)
        clear hK K
        (try simp only [Act.put, List.setIfInBounds_toArray, List.set_cons_zero, List.set_cons_succ])
        refine wpAnyH_ready (rs := [10]) (by kernel_rfl) (by simp) ?_
        refine AllReadyH.cons (o := { dst := some 49, op := Op.convert 28 9 (Operand.tmp 48), type := 9, pos := "share.go:151", after := #[{ on := 9, ground := Ground.data }], guard := none }) rfl (fun K hK => ?_) AllReadyH.nil
        go_simp
        refine hK.out _ _ ?_ (fun hHeld => ?_)
        · (try dsimp only); (first | assumption | exact ⟨y4, y5, cv1⟩ | exact ⟨x4, x5, cv6⟩)
        clear hK K
        (try simp only [Act.put, List.setIfInBounds_toArray, List.set_cons_zero, List.set_cons_succ])
        refine wpAnyH_ready (rs := [14]) (by kernel_rfl) (by simp) ?_
        refine AllReadyH.cons (o := { dst := some 53, op := Op.binOp BinOp.neq 9 (Operand.tmp 49) (Operand.tmp 52) 9, type := 4, pos := "share.go:151", after := #[{ on := 10, ground := Ground.data }, { on := 13, ground := Ground.data }], guard := none }) rfl (fun K hK => ?_) AllReadyH.nil
        go_simp
        refine hK.out _ _ ?_ (fun hHeld => ?_)
        · (try dsimp only); (first | assumption | exact ⟨y4, y5, cv1⟩ | exact ⟨x4, x5, cv6⟩)
        clear hK K
        (try simp only [Act.put, List.setIfInBounds_toArray, List.set_cons_zero, List.set_cons_succ])
        refine wpAnyH_done (by kernel_rfl) ?_ _
        all_goals
          go_wp2
          go_roundw
          case rel => exact ⟨j + 1, by omega, by go_num, BX, HNX⟩
          case measure => simp [intOf] <;> omega
      · rw [decide_eq_false heq] at hbeq
        have HE := Lib.hid (HMBj.out heq)
        clear HNXT HMBj
        have heq := Lib.hid heq
        generalize interD lf p n0 = xs at *
        refine wp_region_held_drew (S := (fun w' => w'.cell? ⟨kb, 0, none⟩ = some (.int .u8 (p : Int)) ∧ w'.cell? ⟨kb, 1, none⟩ = some (.slice av n0 kv) ∧ (convert 28 9 (.slice av n0 kv)).run Tryz.prog w' = .ok (.string (strOfNums bs)) w')) (by kernel_rfl) ?_ (fun hHeld => ?_)
        · (try dsimp only); (first | assumption | exact ⟨y4, y5, cv1⟩ | exact ⟨x4, x5, cv6⟩)
        refine wpAnyH_take (i := 0) (oi := { dst := some 39, op := Op.move (Operand.tmp 6), type := 71, pos := "share.go:151", after := #[], guard := none }) (v := ?_) rfl (by kernel_rfl) (by kernel_rfl) (by kernel_rfl) (fun _ _ _ h => h) (Or.inl ⟨by rfl, ?_⟩) (by assumption) ?_
        rotate_left
        · intro w hSw; (try dsimp only at hSw); (go_simp <;> with_reducible rfl)
        (try simp only [Act.put, List.setIfInBounds_toArray, List.set_cons_zero, List.set_cons_succ])
        refine wpAnyH_take (i := 1) (oi := { dst := some 40, op := Op.move (Operand.tmp 1), type := 3, pos := "share.go:151", after := #[], guard := none }) (v := ?_) rfl (by kernel_rfl) (by kernel_rfl) (by kernel_rfl) (fun _ _ _ h => h) (Or.inl ⟨by rfl, ?_⟩) (by assumption) ?_
        rotate_left
        · intro w hSw; (try dsimp only at hSw); (go_simp <;> with_reducible rfl)
        (try simp only [Act.put, List.setIfInBounds_toArray, List.set_cons_zero, List.set_cons_succ])
        refine wpAnyH_take (i := 2) (oi := { dst := some 41, op := Op.slice 71 (Operand.tmp 39) none (some (Operand.tmp 40)) none, type := 71, pos := "share.go:151", after := #[{ on := 0, ground := Ground.data }, { on := 1, ground := Ground.data }], guard := none }) (v := ?_) rfl (by kernel_rfl) (by kernel_rfl) (by kernel_rfl) (fun _ _ _ h => h) (Or.inl ⟨by rfl, ?_⟩) (by assumption) ?_
        rotate_left
        · intro w hSw; (try dsimp only at hSw); (go_simp <;> with_reducible rfl)
        (try simp only [Act.put, List.setIfInBounds_toArray, List.set_cons_zero, List.set_cons_succ])
        refine wpAnyH_take (i := 3) (oi := { dst := some 42, op := Op.fieldAddr 81 (Operand.tmp 10) 0, type := 0, pos := "share.go:151", after := #[], guard := none }) (v := ?_) rfl (by kernel_rfl) (by kernel_rfl) (by kernel_rfl) (fun _ _ _ h => h) (Or.inl ⟨by rfl, ?_⟩) (by assumption) ?_
        rotate_left
        · intro w hSw; (try dsimp only at hSw); (go_simp <;> with_reducible rfl)
        (try simp only [Act.put, List.setIfInBounds_toArray, List.set_cons_zero, List.set_cons_succ])
        refine wpAnyH_take (i := 4) (oi := { dst := some 43, op := Op.load 5 (Operand.tmp 42), type := 5, pos := "share.go:151", after := #[{ on := 3, ground := Ground.data }], guard := none }) (v := ?_) rfl (by kernel_rfl) (by kernel_rfl) (by kernel_rfl) (fun _ _ _ h => h) (Or.inl ⟨by rfl, ?_⟩) (by assumption) ?_
        rotate_left
        · intro w hSw; (try dsimp only at hSw); (go_simp <;> with_reducible rfl)
        (try simp only [Act.put, List.setIfInBounds_toArray, List.set_cons_zero, List.set_cons_succ])
        refine wpAnyH_take (i := 5) (oi := { dst := some 44, op := Op.move (Operand.tmp 8), type := 133, pos := "share.go:151", after := #[], guard := none }) (v := ?_) rfl (by kernel_rfl) (by kernel_rfl) (by kernel_rfl) (fun _ _ _ h => h) (Or.inl ⟨by rfl, ?_⟩) (by assumption) ?_
        rotate_left
        · intro w hSw; (try dsimp only at hSw); (go_simp <;> with_reducible rfl)
        (try simp only [Act.put, List.setIfInBounds_toArray, List.set_cons_zero, List.set_cons_succ])
        refine wpAnyH_take (i := 6) (oi := { dst := some 45, op := Op.makeFunc (Fn.func 88) #[Operand.tmp 44] #[], type := 149, pos := "share.go:151", after := #[{ on := 5, ground := Ground.data }], guard := none }) (v := ?_) rfl (by kernel_rfl) (by kernel_rfl) (by kernel_rfl) (fun _ _ _ h => h) (Or.inl ⟨by rfl, ?_⟩) (by assumption) ?_
        rotate_left
        · intro w hSw; (try dsimp only at hSw); (go_simp <;> with_reducible rfl)
        (try simp only [Act.put, List.setIfInBounds_toArray, List.set_cons_zero, List.set_cons_succ])
        refine wpAnyH_take (i := 7) (oi := { dst := some 46, op := Op.move (Operand.tmp 8), type := 133, pos := "share.go:151", after := #[], guard := none }) (v := ?_) rfl (by kernel_rfl) (by kernel_rfl) (by kernel_rfl) (fun _ _ _ h => h) (Or.inl ⟨by rfl, ?_⟩) (by assumption) ?_
        rotate_left
        · intro w hSw; (try dsimp only at hSw); (go_simp <;> with_reducible rfl)
        (try simp only [Act.put, List.setIfInBounds_toArray, List.set_cons_zero, List.set_cons_succ])
        refine wpAnyH_take (i := 8) (oi := { dst := some 47, op := Op.makeFunc (Fn.func 89) #[Operand.tmp 46] #[], type := 149, pos := "share.go:151", after := #[{ on := 7, ground := Ground.data }], guard := none }) (v := ?_) rfl (by kernel_rfl) (by kernel_rfl) (by kernel_rfl) (fun _ _ _ h => h) (Or.inl ⟨by rfl, ?_⟩) (by assumption) ?_
        rotate_left
        · intro w hSw; (try dsimp only at hSw); (go_simp <;> with_reducible rfl)
        (try simp only [Act.put, List.setIfInBounds_toArray, List.set_cons_zero, List.set_cons_succ])
        refine wpAnyH_take (i := 11) (oi := { dst := some 50, op := Op.fieldAddr 81 (Operand.tmp 10) 1, type := 0, pos := "share.go:151", after := #[], guard := none }) (v := ?_) rfl (by kernel_rfl) (by kernel_rfl) (by kernel_rfl) (fun _ _ _ h => h) (Or.inl ⟨by rfl, ?_⟩) (by assumption) ?_
        rotate_left
        · intro w hSw; (try dsimp only at hSw); (go_simp <;> with_reducible rfl)
        (try simp only [Act.put, List.setIfInBounds_toArray, List.set_cons_zero, List.set_cons_succ])
        refine wpAnyH_take (i := 12) (oi := { dst := some 51, op := Op.load 28 (Operand.tmp 50), type := 28, pos := "share.go:151", after := #[{ on := 11, ground := Ground.data }], guard := none }) (v := ?_) rfl (by kernel_rfl) (by kernel_rfl) (by kernel_rfl) (fun _ _ _ h => h) (Or.inl ⟨by rfl, ?_⟩) (by assumption) ?_
        rotate_left
        · intro w hSw; (try dsimp only at hSw); (go_simp <;> with_reducible rfl)
        (try simp only [Act.put, List.setIfInBounds_toArray, List.set_cons_zero, List.set_cons_succ])
        refine wpAnyH_take (i := 13) (oi := { dst := some 52, op := Op.convert 28 9 (Operand.tmp 51), type := 9, pos := "share.go:151", after := #[{ on := 12, ground := Ground.data }], guard := none }) (v := ?_) rfl (by kernel_rfl) (by kernel_rfl) (by kernel_rfl) (fun _ _ _ h => h) (Or.inl ⟨by rfl, ?_⟩) (by assumption) ?_
        rotate_left
        · intro w hSw; (try dsimp only at hSw); (go_simp <;> with_reducible rfl)
        (try simp only [Act.put, List.setIfInBounds_toArray, List.set_cons_zero, List.set_cons_succ])
        refine wpAnyH_ready (rs := [9]) (by kernel_rfl) (by simp) ?_
        refine AllReadyH.cons (o := { dst := some 48, op := Op.call { callee := Callee.value (Operand.func 87), args := #[Operand.tmp 41, Operand.tmp 43, Operand.tmp 45, Operand.tmp 47], argTypes := #[71, 5, 149, 149] }, type := 28, pos := "share.go:151", after := #[{ on := 2, ground := Ground.data }, { on := 4, ground := Ground.data }, { on := 6, ground := Ground.data }, { on := 8, ground := Ground.data }], guard := none }) rfl (fun K hK => ?_) AllReadyH.nil
        go_wp2_with (go_at_call 87; refine (CIj.out _ HBD.out).mono ?_; rintro e w5 ⟨a5, k5, rfl, hb5, b5⟩; have cv5 := conv_bytes hb5.out; have cv6 := conv_bytes (HBQ.out.later (below_step HBD.out b5.out)); obtain ⟨x1, x2, x3⟩ := box_walk (blk_later NEWB.out (below_step (Below.refl _ _).drew b5.out)); have x4 := x1 0; have x5 := x1 1; simp only [List.getElem?_toArray, List.getElem?_cons_zero, List.getElem?_cons_succ] at x4 x5; clear x1; have BX := Lib.hid (below_step HBD.out b5.out))
        refine hK.out _ _ ?_ (fun hHeld => ?_)
        · (try dsimp only); (first | assumption | exact ⟨y4, y5, cv1⟩ | exact ⟨x4, x5, cv6⟩)
        clear hK K
        (try simp only [Act.put, List.setIfInBounds_toArray, List.set_cons_zero, List.set_cons_succ])
        refine wpAnyH_ready (rs := [10]) (by kernel_rfl) (by simp) ?_
        refine AllReadyH.cons (o := { dst := some 49, op := Op.convert 28 9 (Operand.tmp 48), type := 9, pos := "share.go:151", after := #[{ on := 9, ground := Ground.data }], guard := none }) rfl (fun K hK => ?_) AllReadyH.nil
        go_simp
        refine hK.out _ _ ?_ (fun hHeld => ?_)
        · (try dsimp only); (first | assumption | exact ⟨y4, y5, cv1⟩ | exact ⟨x4, x5, cv6⟩)
        clear hK K
        (try simp only [Act.put, List.setIfInBounds_toArray, List.set_cons_zero, List.set_cons_succ])
        refine wpAnyH_ready (rs := [14]) (by kernel_rfl) (by simp) ?_
        refine AllReadyH.cons (o := { dst := some 53, op := Op.binOp BinOp.neq 9 (Operand.tmp 49) (Operand.tmp 52) 9, type := 4, pos := "share.go:151", after := #[{ on := 10, ground := Ground.data }, { on := 13, ground := Ground.data }], guard := none }) rfl (fun K hK => ?_) AllReadyH.nil
        go_simp
        refine hK.out _ _ ?_ (fun hHeld => ?_)
        · (try dsimp only); (first | assumption | exact ⟨y4, y5, cv1⟩ | exact ⟨x4, x5, cv6⟩)
        clear hK K
        (try simp only [Act.put, List.setIfInBounds_toArray, List.set_cons_zero, List.set_cons_succ])
        refine wpAnyH_done (by kernel_rfl) ?_ _
        all_goals
          go_wp2
          go_ret2
          exact CombRet.bad HE.out (by decide) (below_step B2.out BX.out)
    · obtain rfl : j = r := by omega
      have HE := Lib.hid (HMM.out HM.out)
      have HDD := Lib.hid (HD0.out HE.out)
      have CI0 := Lib.hid (CI.out wr 0 HB.out (by decide))
      have BW := Lib.hid (below_step B2.out HB.out)
      have hd2 := HD2.out wr
      have HIL0 := Lib.hid (HIL.out 0)
      have HIB0 := Lib.hid (HIB.out 0)
      have R : Hid (∀ e w5, InterRet wr lf 0 n0 e w5 → ∃ v5, e = .returned v5 ∧ Hid (CombRet w l m (.returned (.tuple #[v5, .int .i64 0])) w5)) := fun e w5 h => by
        obtain ⟨v', rfl, ho, hb⟩ := h
        refine ⟨v', rfl, Lib.hid ⟨v', by rw [HE.out], ?_, below_step BW.out hb⟩⟩
        rw [HDD.out]
        exact ⟨by rw [HIL0.out]; exact RowR.of_owns ho, HIB0.out⟩
      go_wp2_with (go_at_call 87; refine CI0.out.mono ?_; intro e w5 h5; obtain ⟨v5, rfl, R5⟩ := R.out e w5 h5)
      go_ret2
      exact R5.out
end Go.Proofs.YtpbgipdkaaooeaaGreatDoor
