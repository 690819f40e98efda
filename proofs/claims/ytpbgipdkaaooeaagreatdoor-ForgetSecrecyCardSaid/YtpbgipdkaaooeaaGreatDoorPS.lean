/- ForgetSecrecy: the ledger after a key is forgotten, and the bytes with which another key would have left it. No program in sight. -/
import Derived.Test.YtpbgipdkaaooeaaGreatDoorPC
import Derived.Test.YtpbgipdkaaooeaaGreatDoorFI
open Go Go.Proofs Go.RowKit
namespace Go.Proofs.YtpbgipdkaaooeaaGreatDoor
set_option linter.unusedSimpArgs false
set_option linter.unusedVariables false

/-- Whether owner p is among the first i that gave up. -/
def giv (O f i p : Nat) : Bool := (List.range i).any fun j => (j + f) % O == p
theorem giv_mod (O f i p : Nat) : giv O f i p = giv O (f % O) i p := by
  unfold giv
  congr 1
  funext j
  rw [Nat.add_mod_mod]
theorem giv_succ (O f i p : Nat) : giv O f (i + 1) p = (giv O f i p || ((i + f) % O == p)) := by
  unfold giv
  rw [List.range_succ, List.any_append]
  simp
theorem giv_zero (O f p : Nat) : giv O f 0 p = false := rfl
def givAll : Bool := allB 6 fun O => allB 6 fun f => allB 6 fun i => !(Nat.ble i O && Nat.ble 1 O) || (Nat.beq ((List.range O).filter fun p => !giv O f i p).length (O - i) && (Nat.ble O i || !giv O f i ((i + f) % O)))
theorem giv_all : givAll = true := by decide +kernel
theorem giv_at {O f i : Nat} (hO : 1 ≤ O) (h5 : O ≤ 5) (hi : i ≤ O) : ((List.range O).filter fun p => !giv O f i p).length = O - i ∧ (i < O → giv O f i ((i + f) % O) = false) := by
  have hf : f % O < 6 := by have := Nat.mod_lt f (show 0 < O by omega); omega
  have h := allB_at (allB_at (allB_at giv_all O (by omega)) (f % O) hf) i (by omega)
  simp only [Nat.ble_eq_true_of_le hi, Nat.ble_eq_true_of_le hO, Bool.and_true, Bool.not_true, Bool.false_or, Bool.and_eq_true, Bool.or_eq_true] at h
  have e : (fun p => !giv O f i p) = fun p => !giv O (f % O) i p := by funext p; rw [giv_mod]
  refine ⟨by rw [e]; exact Nat.eq_of_beq_eq_true h.1, fun hlt => ?_⟩
  rcases h.2 with h2 | h2
  · exact absurd (Nat.le_of_ble_eq_true h2) (by omega)
  · rw [giv_mod, ← Nat.add_mod_mod i f O]
    simpa using h2
/-- The ledger after i owners gave up. -/
def rowsG (O T f : Nat) (kb r : List Int) (i : Nat) : List (List HeldD) := (List.range O).map fun p => if giv O f i p then [] else [enrHeld sT kb r (T - 1) p]
def gForm (O T f : Nat) (kb r : List Int) (i : Nat) : LedD := ⟨(O : Int), (T : Int), rowsG O T f kb r i, [], [(sT, 3)], if O - T + 1 ≤ i then [(sT, 4)] else []⟩
theorem rowsG_length (O T f : Nat) (kb r : List Int) (i : Nat) : (rowsG O T f kb r i).length = O := by simp [rowsG]
theorem rowsG_at (O T f : Nat) (kb r : List Int) (i p : Nat) (hp : p < O) : (rowsG O T f kb r i).getD p [] = if giv O f i p then [] else [enrHeld sT kb r (T - 1) p] := by
  unfold rowsG
  rw [List.getD_eq_getElem?_getD, List.getElem?_map, List.getElem?_range hp]; rfl
theorem rowsG_left (O T f : Nat) (kb r : List Int) (i : Nat) : leftD sT (rowsG O T f kb r i) = ((List.range O).filter fun p => !giv O f i p).length := by
  unfold leftD rowsG
  rw [List.filter_map, List.length_map]
  congr 1
  refine List.filter_congr fun p _ => ?_
  simp only [Function.comp]
  cases giv O f i p with
  | true => rfl
  | false => simp [hasRow, enrHeld, sEq_self]
theorem valid_gForm {O T f : Nat} {kb r : List Int} {i : Nat} (h1 : 1 ≤ T) (h2 : T ≤ O) (h5 : O ≤ 5) : validB (gForm O T f kb r i) = true := by
  unfold validB gForm
  simp only [Bool.and_eq_true, decide_eq_true_eq, rowsG_length]
  exact ⟨⟨⟨by omega, by omega⟩, by omega⟩, by first | trivial | omega⟩
theorem give_gForm {O T f : Nat} {kb r : List Int} {i : Nat} (h1 : 1 ≤ T) (h2 : T ≤ O) (h5 : O ≤ 5) (hi : i ≤ O - T) :
    giveE (gForm O T f kb r i) (((i + f) % O : Nat) : Int) sT 4 = 0 ∧ giveD (gForm O T f kb r i) (((i + f) % O : Nat) : Int) sT 4 = gForm O T f kb r (i + 1) := by
  have ho : (i + f) % O < O := Nat.mod_lt _ (by omega)
  obtain ⟨-, hg⟩ := giv_at (f := f) (show 1 ≤ O by omega) h5 (show i ≤ O by omega)
  have hg := hg (by omega)
  obtain ⟨hc, -⟩ := giv_at (f := f) (show 1 ≤ O by omega) h5 (show i + 1 ≤ O by omega)
  have hd : (gForm O T f kb r i).dones = [] := by unfold gForm; simp only; rw [if_neg (by omega)]
  have hrow : (gForm O T f kb r i).shares.getD ((i + f) % O) [] = [enrHeld sT kb r (T - 1) ((i + f) % O)] := by
    show (rowsG O T f kb r i).getD _ [] = _
    rw [rowsG_at _ _ _ _ _ _ _ ho, hg]; rfl
  have hbad : giveBad (gForm O T f kb r i) (((i + f) % O : Nat) : Int) = false := by
    unfold giveBad
    rw [valid_gForm h1 h2 h5]
    have e1 : decide ((((i + f) % O : Nat) : Int) < 0) = false := decide_eq_false (by omega)
    have e2 : decide ((gForm O T f kb r i).owners ≤ (((i + f) % O : Nat) : Int)) = false := decide_eq_false (by show ¬ (O : Int) ≤ _; omega)
    rw [e1, e2]; rfl
  have hE : giveE (gForm O T f kb r i) (((i + f) % O : Nat) : Int) sT 4 = 0 := by
    unfold giveE
    rw [hbad, if_neg (by decide), Int.toNat_natCast]
    unfold giveL
    rw [hrow, hd]
    simp [gForm, firstD, atD, sEq_self, hasRow, enrHeld, forceB, firstErr]
  refine ⟨hE, ?_⟩
  have hcut : (giveCut (gForm O T f kb r i) ((i + f) % O) sT).shares = rowsG O T f kb r (i + 1) := by
    unfold giveCut
    rw [hrow]
    show (rowsG O T f kb r i).set ((i + f) % O) (rowD sT [enrHeld sT kb r (T - 1) ((i + f) % O)]) = _
    rw [show rowD sT [enrHeld sT kb r (T - 1) ((i + f) % O)] = [] by simp [rowD, enrHeld, sEq_self]]
    refine List.ext_getElem (by simp [rowsG]) fun p q1 q2 => ?_
    have hp : p < O := by simpa [rowsG] using q2
    simp only [List.getElem_set, rowsG, List.getElem_map, List.getElem_range, giv_succ]
    by_cases e : (i + f) % O = p
    · rw [if_pos e, beq_iff_eq.2 e, Bool.or_true, if_pos rfl]
    · rw [if_neg e, beq_eq_false_iff_ne.2 e, Bool.or_false]
  have hdone : giveDone (gForm O T f kb r i) ((i + f) % O) sT = decide (O - T + 1 ≤ i + 1) := by
    unfold giveDone
    rw [hcut, rowsG_left, hc, hd]
    show (!(firstD sT []).isSome && decide (((O - (i + 1) : Nat) : Int) < (T : Int))) = _
    simp only [firstD, List.find?_nil, Option.isSome_none, Bool.not_false, Bool.true_and]
    rw [decide_eq_decide]
    omega
  unfold giveD
  rw [if_pos hE, Int.toNat_natCast, hdone]
  by_cases h : O - T + 1 ≤ i + 1
  · rw [decide_eq_true h, if_pos rfl]
    unfold gForm
    rw [if_pos h]
    unfold giveCut at hcut ⊢
    simp only [gForm] at hcut ⊢
    rw [hcut, if_neg (by omega)]
    rfl
  · rw [decide_eq_false h, if_neg (by decide)]
    unfold gForm
    rw [if_neg h]
    unfold giveCut at hcut ⊢
    simp only [gForm] at hcut ⊢
    rw [hcut, if_neg (by omega)]
def gO (a : Nat) : Nat := 1 + a % 5
def gT (a b : Nat) : Nat := 1 + b % (1 + a % 5)
theorem gOT (a b : Nat) : 1 ≤ gT a b ∧ gT a b ≤ gO a ∧ gO a ≤ 5 := by
  have h1 : a % 5 < 5 := Nat.mod_lt _ (by omega)
  have h2 : b % (1 + a % 5) < 1 + a % 5 := Nat.mod_lt _ (by omega)
  unfold gO gT
  generalize b % (1 + a % 5) = y at *
  omega
theorem enr_start (a b : Nat) (kb r : List Int) : enrollE (startD a b) sT = 0 ∧ enrollD (startD a b) sT kb r = ⟨(gO a : Int), (gT a b : Int), (List.range (gO a)).map fun p => [enrHeld sT kb r (gT a b - 1) p], [], [], []⟩ := by
  have hv := valid_start a b
  have hs : startD a b = ⟨(gO a : Int), (gT a b : Int), List.replicate (gO a) [], [], [], []⟩ := start_parts a b
  have hE : enrollE (startD a b) sT = 0 := by
    unfold enrollE
    rw [hv, hs]
    have hl : leftD sT (List.replicate (gO a) []) = 0 := by
      unfold leftD
      rw [List.filter_eq_nil_iff.2 (fun r hr => by rw [List.eq_of_mem_replicate hr]; decide)]; rfl
    have h1 : sEq sT ⟨#[]⟩ = false := by decide +kernel
    have h2 : decide ((200 : Int) < (sT.size : Int)) = false := by decide +kernel
    simp only [hl, h1, h2]
    rfl
  refine ⟨hE, ?_⟩
  unfold enrollD
  rw [if_pos hE, hs]
  unfold enrAt
  simp only [List.length_replicate, Int.toNat_natCast]
  congr 1
  refine List.ext_getElem (by simp) fun i h1 h2 => ?_
  have hi : i < gO a := by simpa using h2
  simp only [List.getElem_mapIdx, List.getElem_replicate, List.getElem_map, List.getElem_range]
  rw [if_pos hi]; rfl
theorem dem_start (a b f : Nat) (kb r : List Int) : demandE (enrollD (startD a b) sT kb r) sT 3 = 0 ∧ demandD (enrollD (startD a b) sT kb r) sT 3 = gForm (gO a) (gT a b) f kb r 0 := by
  obtain ⟨h1, h2, h5⟩ := gOT a b
  have hrows : ((List.range (gO a)).map fun p => [enrHeld sT kb r (gT a b - 1) p]) = rowsG (gO a) (gT a b) f kb r 0 := by
    unfold rowsG
    refine List.map_congr_left fun p _ => ?_
    rw [giv_zero]; rfl
  rw [(enr_start a b kb r).2, hrows]
  have hl : leftD sT (rowsG (gO a) (gT a b) f kb r 0) = gO a := by rw [rowsG_left, (giv_at (f := f) (show 1 ≤ gO a by omega) h5 (Nat.zero_le _)).1]; rfl
  have hE : demandE ⟨(gO a : Int), (gT a b : Int), rowsG (gO a) (gT a b) f kb r 0, [], [], []⟩ sT 3 = 0 := by
    unfold demandE
    have hv : validB ⟨(gO a : Int), (gT a b : Int), rowsG (gO a) (gT a b) f kb r 0, [], [], []⟩ = true := by
      unfold validB
      simp only [Bool.and_eq_true, decide_eq_true_eq, rowsG_length]
      exact ⟨⟨⟨by omega, by omega⟩, by omega⟩, by first | trivial | omega⟩
    have hz : (((gO a : Nat) : Int) == 0) = false := by simp; omega
    simp only [hv, hl, hz]
    rfl
  refine ⟨hE, ?_⟩
  unfold demandD
  rw [if_pos hE]
  unfold gForm
  rw [if_neg (show ¬ gO a - gT a b + 1 ≤ 0 by omega)]
  rfl
/-! ### What remains -/
def ptsG (O T f : Nat) : List Nat := ((List.range O).filter fun p => !giv O f (O - T + 1) p).map (· + 1)
def goneD (a b f : Nat) (kb r : List Int) : LedD := gForm (gO a) (gT a b) f kb r (gO a - gT a b + 1)
theorem ptsG_sub {O T f : Nat} (h5 : O ≤ 5) : List.Sublist (ptsG O T f) five := by
  have h : List.Sublist ((List.range O).map (· + 1)) five := by
    have : ∀ n : Fin 6, ((List.range n.1).map (· + 1)).isSublist five = true := by decide +kernel
    exact List.isSublist_iff_sublist.1 (this ⟨O, by omega⟩)
  exact (List.filter_sublist.map _).trans h
theorem ptsG_length {O T f : Nat} (h1 : 1 ≤ T) (h2 : T ≤ O) (h5 : O ≤ 5) : (ptsG O T f).length = T - 1 := by
  unfold ptsG
  rw [List.length_map, (giv_at (f := f) (show 1 ≤ O by omega) h5 (show O - T + 1 ≤ O by omega)).1]
  omega
theorem left_rowsG (O T f : Nat) (kb r : List Int) (i : Nat) : ∀ k, k ≤ O → leftAt sT (rowsG O T f kb r i) k = shL kb r (T - 1) (((List.range k).filter fun p => !giv O f i p).map (· + 1))
  | 0, _ => rfl
  | k + 1, hk => by
    rw [leftAt, left_rowsG O T f kb r i k (by omega), rowsG_at _ _ _ _ _ _ _ (by omega), List.range_succ, List.filter_append, List.map_append]
    unfold shL
    rw [List.map_append]
    congr 1
    cases h : giv O f i k with
    | true => simp [h, leftRow]
    | false => simp [h, leftRow, enrHeld, sEq_self]
theorem left_gone (a b f : Nat) (kb r : List Int) : leftL sT (goneD a b f kb r).shares = shL kb r (gT a b - 1) (ptsG (gO a) (gT a b) f) := by
  show leftAt sT (rowsG (gO a) (gT a b) f kb r (gO a - gT a b + 1)) (rowsG (gO a) (gT a b) f kb r (gO a - gT a b + 1)).length = _
  rw [rowsG_length, left_rowsG _ _ _ _ _ _ _ (Nat.le_refl _)]
  rfl
/-! ### The other key -/
theorem fitAt_at (kb : List Int) (l : ShareL) (nm : Nat) : ∀ n i k, i < n → k < nm → (fitAt kb l (nm + 1) n).getD (i * nm + k) 0 = ((cfD kb l (nm + 1) i (k + 1) : Nat) : Int)
  | 0, i, k, hi, _ => absurd hi (by omega)
  | n + 1, i, k, hi, hk => by
    have hl := fitAt_length kb l (nm + 1) n
    rw [Nat.add_sub_cancel] at hl
    rw [fitAt, List.getD_eq_getElem?_getD]
    by_cases h : i < n
    · have : i * nm + k < n * nm := by
        have := Nat.mul_le_mul_right nm (show i + 1 ≤ n by omega)
        rw [Nat.succ_mul] at this
        omega
      rw [List.getElem?_append_left (by omega), ← List.getD_eq_getElem?_getD, fitAt_at kb l nm n i k h hk]
    · obtain rfl : i = n := by omega
      rw [List.getElem?_append_right (by omega), hl, show i * nm + k - i * nm = k by omega, Nat.add_sub_cancel]
      unfold fitRow
      rw [List.getElem?_map, List.getElem?_range hk]; rfl
theorem poly_zero {c : Nat → Nat} (hc : c 0 < 256) (n : Nat) : polyD c (n + 1) 0 = c 0 := by
  unfold polyD
  rw [sumX_head, sumX_congr (g := fun _ => 0) (fun j _ => by rw [xpow_zero_succ, mulD_zero]), sumX_zero]
  simp [xpow, mulD_one hc]
theorem fit_masked {kb r ko : List Int} (hb : Bytes kb) (hr : Bytes r) (ho : Bytes ko) (hkb : kb.length = 32) (hko : ko.length = 32) {ps : List Nat} (hs : List.Sublist ps five) (hl : ps.length ≤ 4) {X : Nat} (hX : X ∈ ps) :
    maskedD ko (fitAt ko (shL kb r ps.length ps) (ps.length + 1) 32) ps.length X = maskedD kb r ps.length X := by
  have hX6 : X < 6 := by have := hs.mem hX; simp [five] at this; omega
  have hfb : Bytes (fitAt ko (shL kb r ps.length ps) (ps.length + 1) 32) := fitAt_bytes _ _ _ _
  obtain ⟨e, he, hXe⟩ := List.mem_iff_getElem.1 hX
  refine List.ext_getElem (by simp [maskedD, hkb, hko]) fun i h1 h2 => ?_
  have hi : i < 32 := by simpa [maskedD, hko] using h1
  simp only [maskedD, List.getElem_map, List.getElem_range]
  congr 1
  have hP : byteAt (ptsLst (shL kb r ps.length ps) (shL kb r ps.length ps).length) = fun j => (0 :: ps).getD j 0 := by
    funext j
    unfold byteAt ptsLst
    rw [List.take_length, show ((shL kb r ps.length ps).map fun s => (s.1 : Int)) = ps.map fun p : Nat => (p : Int) by simp [shL, Function.comp_def]]
    cases j with
    | zero => rfl
    | succ j =>
      rw [List.getD_cons_succ, List.getD_cons_succ, List.getD_eq_getElem?_getD, List.getD_eq_getElem?_getD, List.getElem?_map]
      cases ps[j]? <;> rfl
  have hV : byteAt (valLst ko (shL kb r ps.length ps) i (shL kb r ps.length ps).length) = fun j => match j with | 0 => byteAt ko i | j + 1 => if j < ps.length then maskB kb r ps.length (ps.getD j 0) i else 0 := by
    funext j
    unfold byteAt valLst
    rw [List.take_length]
    cases j with
    | zero => rfl
    | succ j =>
      simp only [List.getD_cons_succ]
      rw [List.getD_eq_getElem?_getD, List.getElem?_map, shL, List.getElem?_map]
      by_cases hj : j < ps.length
      · rw [List.getElem?_eq_getElem hj, if_pos hj, List.getD_eq_getElem?_getD (l := ps), List.getElem?_eq_getElem hj]
        simp only [Option.map_some, Option.getD_some]
        exact maskedD_at kb r ps.length ps[j] i (by omega)
      · rw [List.getElem?_eq_none (by omega), if_neg hj]; rfl
  have hVlt : ∀ j, (match j with | 0 => byteAt ko i | j + 1 => if j < ps.length then maskB kb r ps.length (ps.getD j 0) i else 0 : Nat) < 256 := fun j => by
    cases j with
    | zero => exact byteAt_lt ho i
    | succ j =>
      simp only
      split
      · rw [maskB_poly hb hr _ _ _ (by have := sub_lt hs j; omega)]; exact polyD_lt _ _ _
      · omega
  have hcf : ∀ k, cfD ko (shL kb r ps.length ps) (ps.length + 1) i k = outD (fun j => (0 :: ps).getD j 0) (fun j => match j with | 0 => byteAt ko i | j + 1 => if j < ps.length then maskB kb r ps.length (ps.getD j 0) i else 0) (ps.length + 1) (ps.length + 1) k := fun k => by
    unfold cfD
    rw [hP, hV]
  have h0 := through_value hs hl hVlt (show 0 < ps.length + 1 by omega)
  have hE := through_value hs hl hVlt (show e + 1 < ps.length + 1 by omega)
  rw [List.getD_cons_zero, poly_zero (outD_lt _ _ _ _ _)] at h0
  simp only at h0
  rw [List.getD_cons_succ, List.getD_eq_getElem?_getD, List.getElem?_eq_getElem he, Option.getD_some, hXe] at hE
  simp only at hE
  rw [if_pos he, List.getD_eq_getElem?_getD, List.getElem?_eq_getElem he, Option.getD_some, hXe] at hE
  rw [maskB_poly ho hfb _ _ _ (by omega), ← hE]
  refine sumX_congr fun j hj => ?_
  congr 1
  unfold coefD
  cases j with
  | zero => rw [if_pos rfl]; exact h0.symm
  | succ j =>
    rw [if_neg (by omega), Nat.add_sub_cancel]
    unfold byteAt
    rw [fitAt_at ko (shL kb r ps.length ps) ps.length 32 i j hi (by omega), Int.toNat_natCast]
    exact hcf (j + 1)
theorem secrecy_same (a b f : Nat) {kb r ko : List Int} (hb : Bytes kb) (hr : Bytes r) (ho : Bytes ko) (hkb : kb.length = 32) (hko : ko.length = 32) :
    goneD a b f ko (fitAt ko (leftL sT (goneD a b f kb r).shares) (gT a b) 32) = goneD a b f kb r := by
  obtain ⟨h1, h2, h5⟩ := gOT a b
  have hs := ptsG_sub (T := gT a b) (f := f) h5
  have hl := ptsG_length (f := f) h1 h2 h5
  rw [left_gone]
  unfold goneD gForm
  congr 1
  unfold rowsG
  refine List.map_congr_left fun p hp => ?_
  cases h : giv (gO a) f (gO a - gT a b + 1) p with
  | true => rfl
  | false =>
    have hm : p + 1 ∈ ptsG (gO a) (gT a b) f := List.mem_map.2 ⟨p, List.mem_filter.2 ⟨hp, by rw [h]; rfl⟩, rfl⟩
    have := fit_masked hb hr ho hkb hko hs (by omega) hm
    rw [hl, show gT a b - 1 + 1 = gT a b by omega] at this
    unfold enrHeld
    rw [this]
end Go.Proofs.YtpbgipdkaaooeaaGreatDoor
