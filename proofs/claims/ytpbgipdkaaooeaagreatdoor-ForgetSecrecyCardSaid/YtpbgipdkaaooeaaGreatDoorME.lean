/- forget.GiveUp: the walk, one of its cases. -/
import Derived.Test.YtpbgipdkaaooeaaGreatDoorM
import Derived.Deep.DeepCutAuto
import Derived.BigQuiet
open Go Go.Proofs Go.RowKit Go.Sort
namespace Go.Proofs.YtpbgipdkaaooeaaGreatDoor
set_option linter.unusedSimpArgs false
set_option linter.unusedVariables false
attribute [local go_sem ↓] Go.wp_at_zero Go.wp_at_succ

set_option maxRecDepth 100000 in
set_option maxHeartbeats 4000000 in
theorem give_fff (w : World) (v : Value) (g : LedD) (o : Int) (t : ByteArray) (a : Int) (A : Nat) (hA : A ≤ w.heap.size) (hAt : LedAt A w v g) (hf : Fits g) (hb : giveBad g o = false) (hqa : (firstD t g.demands).isSome = false) (hqd : (firstD t g.dones).isSome = false) (hqf : forceB t a g.holds = false) :
    Calls Tryz.prog 17 #[v, .int .i64 o, .agg #[.string t, .int .i64 a]] w (LedErrA A w (giveD g o t a) (giveE g o t a)) := by
  have h := hAt.led
  have HAT := Lib.hid hAt
  clear hAt
  obtain ⟨v2, v3, v4, v5, rfl, hrest⟩ := id h
  obtain ⟨H2, -, H4, H5⟩ := hrest
  have F0 := ThreeBox.laid w #[.int .i64 g.owners, .int .i64 g.need, v2, v3, v4, v5] #[.string t, .int .i64 a] #[.int .i64 0, .int .i64 0, .slice none 0 0, .slice none 0 0, .slice none 0 0, .slice none 0 0] 26 46 26
  have AV : Hid (∀ wx, Below w.heap.size w wx → Calls Tryz.prog 41 #[.agg #[.int .i64 g.owners, .int .i64 g.need, v2, v3, v4, v5]] wx fun e w' => e = .returned (.bool (validB g)) ∧ Below wx.heap.size wx w') := fun wx hb => valid_41 wx _ g (h.later hb)
  have AD : Hid (∀ wx, Below w.heap.size w wx → Calls Tryz.prog 53 #[v4, .string t] wx fun e w' => e = .returned (.tuple #[firstV (firstD t g.demands), .bool (firstD t g.demands).isSome]) ∧ Below wx.heap.size wx w') := fun wx hb => dem_53 wx v4 g.demands t (H4.later hb) (by have := hf.d; omega)
  have AH : Hid (∀ wx, Below w.heap.size w wx → Calls Tryz.prog 42 #[v5, .string t] wx fun e w' => e = .returned (.bool (firstD t g.dones).isSome) ∧ Below wx.heap.size wx w') := fun wx hb => has_42 wx v5 g.dones t (H5.later hb) (by have := hf.e; omega)
  have AF : Hid (∀ wx, Below w.heap.size w wx → Calls Tryz.prog 51 #[.agg #[.int .i64 g.owners, .int .i64 g.need, v2, v3, v4, v5], .string t, .int .i64 a] wx fun e w' => e = .returned (.bool (forceB t a g.holds)) ∧ Below wx.heap.size wx w') := fun wx hb => force_51 wx _ g t a (h.later hb) (by have := hf.h; omega)
  have CC : Hid (∀ wx, Below w.heap.size w wx → Calls Tryz.prog 45 #[.agg #[.int .i64 g.owners, .int .i64 g.need, v2, v3, v4, v5]] wx (CloneRet A wx g)) := fun wx hb => hf.clone hb hA HAT.out
  have HLE := Lib.hid hf.e
  have FC : Hid (∀ i, Fits (giveCut g i t)) := fun i => giveCut_fits i t hf
  obtain ⟨i0, HI⟩ : ∃ i, Tryz.prog.info? 46 = some i ∧ i.zero = some (.agg #[.string ByteArray.empty, .int .i64 0]) ∧ i.size = 2 ∧ i.bytes = 24 := by
    have := info46
    cases hh : Tryz.prog.info? 46 with
    | none => rw [hh] at this; cases this
    | some i => rw [hh] at this; simp at this; exact ⟨i, rfl, this.1, this.2.1, this.2.2⟩
  replace HI := Lib.hid HI
  obtain ⟨x, y, hxy⟩ := firstV_form (firstD t g.demands)
  have hy : y = atD t g.demands := by
    unfold atD
    cases hh : firstD t g.demands with
    | none => rw [hh] at hxy; simp [firstV] at hxy; exact hxy.2.symm
    | some p => rw [hh] at hxy; simp [firstV] at hxy; exact hxy.2.symm
  rw [hxy] at AD
  clear hxy
  have HV : validB g = true := by
    cases hh : validB g with
    | true => rfl
    | false => simp [giveBad, hh] at hb
  have HO0 : 0 ≤ o := by
    by_cases h0 : o < 0
    · simp [giveBad, h0] at hb
    · omega
  have HO1 : o < g.owners := by
    by_cases h0 : g.owners ≤ o
    · simp [giveBad, h0] at hb
    · omega
  have HOL : (g.shares.length : Int) = g.owners := by
    have := HV; simp [validB] at this; exact this.2
  obtain ⟨i, rfl⟩ : ∃ i : Nat, o = i := ⟨o.toNat, by omega⟩
  replace FC := Lib.hid (FC.out i)
  obtain ⟨vs0, ⟨hlen, ao, cap, rfl, hle, hm, hcell⟩, hare⟩ := H2
  have hvl := hare.length
  have hiv : i < vs0.length := by omega
  obtain ⟨b, off, rfl, hbb, hcells⟩ := hcell (by omega)
  have cr0 : w.cell? ⟨b, off + i, none⟩ = some vs0[i] := by rw [hcells i (by omega), List.getElem?_eq_getElem hiv]
  have A55 : Hid (∀ wx c, Below w.heap.size w wx → wx.cell? ⟨c, 0, none⟩ = some (.string t) → c < wx.heap.size → Calls Tryz.prog 55 #[vs0[i], .func (.func 85) #[] #[.pointer (some ⟨c, 0, none⟩)]] wx fun e w' => e = .returned (.bool (hasRow t (g.shares.getD i []))) ∧ Below wx.heap.size wx w') := fun wx c hb h1 h2 => by
    have hi : i < g.shares.length := by omega
    have e : g.shares.getD i [] = g.shares[i] := by rw [List.getD_eq_getElem?_getD, List.getElem?_eq_getElem hi]; rfl
    rw [e]
    exact con_55 wx _ _ t c ((hare.at i hiv hi).later hb) h1 h2 (by have := hf.r _ (List.getElem_mem hi); omega)
  have SZ := Lib.hid hvl
  have HR : Hid (∀ (j : Nat) (h : j < g.shares.length), g.shares[j].length ≤ 4095) := fun j h => hf.r _ (List.getElem_mem h)
  rw [HV] at AV
  have HE : Hid (giveE g i t a = firstErr [(true, 4), (decide (a < y), 1), (false, 350)]) := by
    refine Lib.hid ?_
    unfold giveE
    rw [hb]
    simp only [Bool.false_eq_true, if_false, Int.toNat_natCast]
    unfold giveL
    rw [hqa, hqd, hqf, hy]
    simp
  have HD : Hid (giveD g i t a = if giveE g i t a = 0 then (if giveDone g i t then { giveCut g i t with dones := g.dones ++ [(t, a)] } else giveCut g i t) else zeroLed) := rfl
  have HN : Hid (giveDone g i t = (!false && decide ((leftD t (giveCut g i t).shares : Int) < g.need))) := by unfold giveDone; rw [hqd]; exact Lib.hid rfl
  rw [hqa] at AD
  rw [hqd] at AH
  rw [hqf] at AF
  generalize giveD g i t a = gd at *
  generalize giveE g i t a = fe at *
  generalize giveDone g i t = gn at *
  have HNE : Hid (fe ≠ 0) := by
    refine Lib.hid ?_
    rw [HE.out]
    unfold firstErr
    cases hasRow t (g.shares.getD i []) <;> cases decide (a < y) <;> simp [List.find?]
  have HY := Lib.hid hy
  clear HV hcells hcell hare hlen h hf HOL hvl hy hb H4 H5 hle hm hqa hqd hqf
  go_enter Tryz.func17, Tryz.ntmps17
  go_upto_region 6 with (first
    | (go_at_call 41; refine (AV.out _ F0.below).mono ?_; rintro e w1 ⟨rfl, b1⟩; have F1 := F0.later b1; obtain ⟨c1, c2, c3, c4, c5, c6, c7⟩ := F1.walk)
    | (go_at_call 53; refine (AD.out _ F1.below).mono ?_; rintro e w2 ⟨rfl, b2⟩; have F2 := F1.later b2; clear c1 c2 c3 c4 c5 c6 c7; obtain ⟨c1, c2, c3, c4, c5, c6, c7⟩ := F2.walk)
    | (go_at_call 54; refine (of_54 _ _).mono ?_; rintro e w3 ⟨rfl, rfl⟩; have T3 := TwoBox.laid w2 #[.string x, .int .i64 y] #[.string t] 46 9; have F3 := F2.later T3.below)
    | (go_at_call 42; refine (AH.out _ F3.below).mono ?_; rintro e w4 ⟨rfl, b4⟩; have F4 := F3.later b4; have T4 := T3.later b4))
  have c1 := class_cells F4.one
  have c2 := class_cells F4.two
  have c8 := class_cells T4.one
  have cr := class_cell ((F4.below.cell (p := ⟨b, off + i, none⟩) hbb).trans cr0)
  have c55 := class_call (W := w4) (fun wx hb => A55.out wx (w2.heap.size + 1) (below_step F4.below hb) ((blk_cells (blk_later T4.two hb)).1 0) (lt_of_blk (blk_later T4.two hb)))
  have cF := class_call (W := w4) (fun wx hb => AF.out wx (below_step F4.below hb))
  refine wp_region_quiet_tail (C := fun w' => ∃ p : Regrown, w' = grow (redrawn w4 p.d) p.os) 30 (by kernel_rfl) (by kernel_rfl) ⟨⟨w4.drawn + 1, #[]⟩, by rw [grow_empty]; rfl⟩ ?_
  dsimp only [List.take, List.drop]
  repeat (go_big_quiet_step (first | with_reducible exact c55 _ _ | with_reducible exact cF _ _))
  refine wpQuiet_nil ?_
  intro w5 hw5
  have b5 : Below w4.heap.size w4 w5 := by obtain ⟨⟨d, os⟩, rfl⟩ := hw5; exact below_regrown w4 d os
  clear hw5 c1 c2 c8 cr c55 cF A55 AF AV AD AH
  have F5 := F4.later b5
  have T5 := T4.later b5
  have CF := Lib.hid (first_40 (w5.alloc (.cells #[.bool (true), .int .i64 4, .bool (decide (a < y)), .int .i64 1, .bool (false), .int .i64 350] 95)) _ [(true, 4), (decide (a < y), 1), (false, 350)] (checks_r w5 _ 95 _ (by rfl) w5.heap.size 3 rfl rfl (by simp)) (by simp))
  rw [← HE.out] at CF
  clear HE
  have hfe : fe ≠ 0 := HNE.out
  rw [if_neg hfe] at HD
  go_wp2_with (go_at_call 40; refine CF.out.mono ?_; rintro e w6 ⟨rfl, b6⟩; have F6 := F5.later (((Below.refl _ _).alloc (Nat.le_refl _) _).trans (b6.mono (by simp))); have T6 := T5.later (((Below.refl _ _).alloc (Nat.le_refl _) _).trans (b6.mono (by simp))); obtain ⟨c1, c2, c3, c4, c5, c6, c7⟩ := F6.walk)
  refine bodyPost_ret (v := .tuple #[.agg #[.int .i64 0, .int .i64 0, .slice none 0 0, .slice none 0 0, .slice none 0 0, .slice none 0 0], .int .i64 fe]) (by simp [results, Tryz.results17, go_sem, c3]) rfl ?_
  rw [HD.out]
  refine LedErrA.zero hA _ ?_
  exact below_six F6.below (by omega) _ _ _ _ _ _

set_option maxRecDepth 100000 in
set_option maxHeartbeats 4000000 in
theorem give_fft (w : World) (v : Value) (g : LedD) (o : Int) (t : ByteArray) (a : Int) (A : Nat) (hA : A ≤ w.heap.size) (hAt : LedAt A w v g) (hf : Fits g) (hb : giveBad g o = false) (hqa : (firstD t g.demands).isSome = false) (hqd : (firstD t g.dones).isSome = false) (hqf : forceB t a g.holds = true) :
    Calls Tryz.prog 17 #[v, .int .i64 o, .agg #[.string t, .int .i64 a]] w (LedErrA A w (giveD g o t a) (giveE g o t a)) := by
  have h := hAt.led
  have HAT := Lib.hid hAt
  clear hAt
  obtain ⟨v2, v3, v4, v5, rfl, hrest⟩ := id h
  obtain ⟨H2, -, H4, H5⟩ := hrest
  have F0 := ThreeBox.laid w #[.int .i64 g.owners, .int .i64 g.need, v2, v3, v4, v5] #[.string t, .int .i64 a] #[.int .i64 0, .int .i64 0, .slice none 0 0, .slice none 0 0, .slice none 0 0, .slice none 0 0] 26 46 26
  have AV : Hid (∀ wx, Below w.heap.size w wx → Calls Tryz.prog 41 #[.agg #[.int .i64 g.owners, .int .i64 g.need, v2, v3, v4, v5]] wx fun e w' => e = .returned (.bool (validB g)) ∧ Below wx.heap.size wx w') := fun wx hb => valid_41 wx _ g (h.later hb)
  have AD : Hid (∀ wx, Below w.heap.size w wx → Calls Tryz.prog 53 #[v4, .string t] wx fun e w' => e = .returned (.tuple #[firstV (firstD t g.demands), .bool (firstD t g.demands).isSome]) ∧ Below wx.heap.size wx w') := fun wx hb => dem_53 wx v4 g.demands t (H4.later hb) (by have := hf.d; omega)
  have AH : Hid (∀ wx, Below w.heap.size w wx → Calls Tryz.prog 42 #[v5, .string t] wx fun e w' => e = .returned (.bool (firstD t g.dones).isSome) ∧ Below wx.heap.size wx w') := fun wx hb => has_42 wx v5 g.dones t (H5.later hb) (by have := hf.e; omega)
  have AF : Hid (∀ wx, Below w.heap.size w wx → Calls Tryz.prog 51 #[.agg #[.int .i64 g.owners, .int .i64 g.need, v2, v3, v4, v5], .string t, .int .i64 a] wx fun e w' => e = .returned (.bool (forceB t a g.holds)) ∧ Below wx.heap.size wx w') := fun wx hb => force_51 wx _ g t a (h.later hb) (by have := hf.h; omega)
  have CC : Hid (∀ wx, Below w.heap.size w wx → Calls Tryz.prog 45 #[.agg #[.int .i64 g.owners, .int .i64 g.need, v2, v3, v4, v5]] wx (CloneRet A wx g)) := fun wx hb => hf.clone hb hA HAT.out
  have HLE := Lib.hid hf.e
  have FC : Hid (∀ i, Fits (giveCut g i t)) := fun i => giveCut_fits i t hf
  obtain ⟨i0, HI⟩ : ∃ i, Tryz.prog.info? 46 = some i ∧ i.zero = some (.agg #[.string ByteArray.empty, .int .i64 0]) ∧ i.size = 2 ∧ i.bytes = 24 := by
    have := info46
    cases hh : Tryz.prog.info? 46 with
    | none => rw [hh] at this; cases this
    | some i => rw [hh] at this; simp at this; exact ⟨i, rfl, this.1, this.2.1, this.2.2⟩
  replace HI := Lib.hid HI
  obtain ⟨x, y, hxy⟩ := firstV_form (firstD t g.demands)
  have hy : y = atD t g.demands := by
    unfold atD
    cases hh : firstD t g.demands with
    | none => rw [hh] at hxy; simp [firstV] at hxy; exact hxy.2.symm
    | some p => rw [hh] at hxy; simp [firstV] at hxy; exact hxy.2.symm
  rw [hxy] at AD
  clear hxy
  have HV : validB g = true := by
    cases hh : validB g with
    | true => rfl
    | false => simp [giveBad, hh] at hb
  have HO0 : 0 ≤ o := by
    by_cases h0 : o < 0
    · simp [giveBad, h0] at hb
    · omega
  have HO1 : o < g.owners := by
    by_cases h0 : g.owners ≤ o
    · simp [giveBad, h0] at hb
    · omega
  have HOL : (g.shares.length : Int) = g.owners := by
    have := HV; simp [validB] at this; exact this.2
  obtain ⟨i, rfl⟩ : ∃ i : Nat, o = i := ⟨o.toNat, by omega⟩
  replace FC := Lib.hid (FC.out i)
  obtain ⟨vs0, ⟨hlen, ao, cap, rfl, hle, hm, hcell⟩, hare⟩ := H2
  have hvl := hare.length
  have hiv : i < vs0.length := by omega
  obtain ⟨b, off, rfl, hbb, hcells⟩ := hcell (by omega)
  have cr0 : w.cell? ⟨b, off + i, none⟩ = some vs0[i] := by rw [hcells i (by omega), List.getElem?_eq_getElem hiv]
  have A55 : Hid (∀ wx c, Below w.heap.size w wx → wx.cell? ⟨c, 0, none⟩ = some (.string t) → c < wx.heap.size → Calls Tryz.prog 55 #[vs0[i], .func (.func 85) #[] #[.pointer (some ⟨c, 0, none⟩)]] wx fun e w' => e = .returned (.bool (hasRow t (g.shares.getD i []))) ∧ Below wx.heap.size wx w') := fun wx c hb h1 h2 => by
    have hi : i < g.shares.length := by omega
    have e : g.shares.getD i [] = g.shares[i] := by rw [List.getD_eq_getElem?_getD, List.getElem?_eq_getElem hi]; rfl
    rw [e]
    exact con_55 wx _ _ t c ((hare.at i hiv hi).later hb) h1 h2 (by have := hf.r _ (List.getElem_mem hi); omega)
  have SZ := Lib.hid hvl
  have HR : Hid (∀ (j : Nat) (h : j < g.shares.length), g.shares[j].length ≤ 4095) := fun j h => hf.r _ (List.getElem_mem h)
  rw [HV] at AV
  have HE : Hid (giveE g i t a = firstErr [(true, 4), (decide (a < y), 1), (true, 350)]) := by
    refine Lib.hid ?_
    unfold giveE
    rw [hb]
    simp only [Bool.false_eq_true, if_false, Int.toNat_natCast]
    unfold giveL
    rw [hqa, hqd, hqf, hy]
    simp
  have HD : Hid (giveD g i t a = if giveE g i t a = 0 then (if giveDone g i t then { giveCut g i t with dones := g.dones ++ [(t, a)] } else giveCut g i t) else zeroLed) := rfl
  have HN : Hid (giveDone g i t = (!false && decide ((leftD t (giveCut g i t).shares : Int) < g.need))) := by unfold giveDone; rw [hqd]; exact Lib.hid rfl
  rw [hqa] at AD
  rw [hqd] at AH
  rw [hqf] at AF
  generalize giveD g i t a = gd at *
  generalize giveE g i t a = fe at *
  generalize giveDone g i t = gn at *
  have HNE : Hid (fe ≠ 0) := by
    refine Lib.hid ?_
    rw [HE.out]
    unfold firstErr
    cases hasRow t (g.shares.getD i []) <;> cases decide (a < y) <;> simp [List.find?]
  have HY := Lib.hid hy
  clear HV hcells hcell hare hlen h hf HOL hvl hy hb H4 H5 hle hm hqa hqd hqf
  go_enter Tryz.func17, Tryz.ntmps17
  go_upto_region 6 with (first
    | (go_at_call 41; refine (AV.out _ F0.below).mono ?_; rintro e w1 ⟨rfl, b1⟩; have F1 := F0.later b1; obtain ⟨c1, c2, c3, c4, c5, c6, c7⟩ := F1.walk)
    | (go_at_call 53; refine (AD.out _ F1.below).mono ?_; rintro e w2 ⟨rfl, b2⟩; have F2 := F1.later b2; clear c1 c2 c3 c4 c5 c6 c7; obtain ⟨c1, c2, c3, c4, c5, c6, c7⟩ := F2.walk)
    | (go_at_call 54; refine (of_54 _ _).mono ?_; rintro e w3 ⟨rfl, rfl⟩; have T3 := TwoBox.laid w2 #[.string x, .int .i64 y] #[.string t] 46 9; have F3 := F2.later T3.below)
    | (go_at_call 42; refine (AH.out _ F3.below).mono ?_; rintro e w4 ⟨rfl, b4⟩; have F4 := F3.later b4; have T4 := T3.later b4))
  have c1 := class_cells F4.one
  have c2 := class_cells F4.two
  have c8 := class_cells T4.one
  have cr := class_cell ((F4.below.cell (p := ⟨b, off + i, none⟩) hbb).trans cr0)
  have c55 := class_call (W := w4) (fun wx hb => A55.out wx (w2.heap.size + 1) (below_step F4.below hb) ((blk_cells (blk_later T4.two hb)).1 0) (lt_of_blk (blk_later T4.two hb)))
  have cF := class_call (W := w4) (fun wx hb => AF.out wx (below_step F4.below hb))
  refine wp_region_quiet_tail (C := fun w' => ∃ p : Regrown, w' = grow (redrawn w4 p.d) p.os) 30 (by kernel_rfl) (by kernel_rfl) ⟨⟨w4.drawn + 1, #[]⟩, by rw [grow_empty]; rfl⟩ ?_
  dsimp only [List.take, List.drop]
  repeat (go_big_quiet_step (first | with_reducible exact c55 _ _ | with_reducible exact cF _ _))
  refine wpQuiet_nil ?_
  intro w5 hw5
  have b5 : Below w4.heap.size w4 w5 := by obtain ⟨⟨d, os⟩, rfl⟩ := hw5; exact below_regrown w4 d os
  clear hw5 c1 c2 c8 cr c55 cF A55 AF AV AD AH
  have F5 := F4.later b5
  have T5 := T4.later b5
  have CF := Lib.hid (first_40 (w5.alloc (.cells #[.bool (true), .int .i64 4, .bool (decide (a < y)), .int .i64 1, .bool (true), .int .i64 350] 95)) _ [(true, 4), (decide (a < y), 1), (true, 350)] (checks_r w5 _ 95 _ (by rfl) w5.heap.size 3 rfl rfl (by simp)) (by simp))
  rw [← HE.out] at CF
  clear HE
  have hfe : fe ≠ 0 := HNE.out
  rw [if_neg hfe] at HD
  go_wp2_with (go_at_call 40; refine CF.out.mono ?_; rintro e w6 ⟨rfl, b6⟩; have F6 := F5.later (((Below.refl _ _).alloc (Nat.le_refl _) _).trans (b6.mono (by simp))); have T6 := T5.later (((Below.refl _ _).alloc (Nat.le_refl _) _).trans (b6.mono (by simp))); obtain ⟨c1, c2, c3, c4, c5, c6, c7⟩ := F6.walk)
  refine bodyPost_ret (v := .tuple #[.agg #[.int .i64 0, .int .i64 0, .slice none 0 0, .slice none 0 0, .slice none 0 0, .slice none 0 0], .int .i64 fe]) (by simp [results, Tryz.results17, go_sem, c3]) rfl ?_
  rw [HD.out]
  refine LedErrA.zero hA _ ?_
  exact below_six F6.below (by omega) _ _ _ _ _ _

end Go.Proofs.YtpbgipdkaaooeaaGreatDoor
