/- Sharing over GF(2^8): the values of a polynomial at enough points among 1 to 5 give its values. No program in sight. -/
import Derived.Test.YtpbgipdkaaooeaaGreatDoorPA
import Derived.Test.YtpbgipdkaaooeaaGreatDoorZK
open Go Go.Proofs Go.RowKit
namespace Go.Proofs.YtpbgipdkaaooeaaGreatDoor
set_option linter.unusedSimpArgs false
set_option linter.unusedVariables false

def xpow (x : Nat) : Nat → Nat
  | 0 => 1
  | j + 1 => mulD (xpow x j) x
/-- The sum of n terms in GF(2^8). -/
def sumX (f : Nat → Nat) : Nat → Nat
  | 0 => 0
  | n + 1 => sumX f n ^^^ f n
theorem xpow_lt (x : Nat) : ∀ j, xpow x j < 256
  | 0 => by unfold xpow; omega
  | j + 1 => mulD_lt _ _
theorem sumX_lt {f : Nat → Nat} : ∀ {n : Nat}, (∀ j, j < n → f j < 256) → sumX f n < 256
  | 0, _ => by unfold sumX; omega
  | n + 1, h => xor_lt (sumX_lt fun j hj => h j (by omega)) (h n (by omega))
theorem sumX_congr {f g : Nat → Nat} : ∀ {n : Nat}, (∀ j, j < n → f j = g j) → sumX f n = sumX g n
  | 0, _ => rfl
  | n + 1, h => by unfold sumX; rw [sumX_congr fun j hj => h j (by omega), h n (by omega)]
theorem xor4 (a b c d : Nat) : (a ^^^ b) ^^^ (c ^^^ d) = (a ^^^ c) ^^^ (b ^^^ d) := by
  rw [Nat.xor_assoc, Nat.xor_assoc, ← Nat.xor_assoc b, Nat.xor_comm b c, Nat.xor_assoc c]
theorem sumX_xor (f g : Nat → Nat) : ∀ n, sumX (fun j => f j ^^^ g j) n = sumX f n ^^^ sumX g n
  | 0 => by simp [sumX]
  | n + 1 => by unfold sumX; rw [sumX_xor f g n, xor4]
theorem sumX_zero : ∀ n, sumX (fun _ => 0) n = 0
  | 0 => rfl
  | n + 1 => by unfold sumX; rw [sumX_zero n]; rfl
theorem mulD_sumX {c : Nat} (hc : c < 256) {f : Nat → Nat} : ∀ {n : Nat}, (∀ j, j < n → f j < 256) → mulD c (sumX f n) = sumX (fun j => mulD c (f j)) n
  | 0, _ => mulD_zero c
  | n + 1, h => by
    unfold sumX
    rw [mulD_xor (sumX_lt fun j hj => h j (by omega)) (h n (by omega)) hc, mulD_sumX hc fun j hj => h j (by omega)]
theorem sumX_swap (f : Nat → Nat → Nat) (m : Nat) : ∀ n, sumX (fun k => sumX (fun j => f k j) m) n = sumX (fun j => sumX (fun k => f k j) n) m
  | 0 => (sumX_zero m).symm
  | n + 1 => by
    rw [sumX, sumX_swap f m n, ← sumX_xor]
    rfl
theorem sumX_head (f : Nat → Nat) : ∀ n, sumX f (n + 1) = f 0 ^^^ sumX (fun j => f (j + 1)) n
  | 0 => by simp [sumX]
  | n + 1 => by
    rw [sumX, sumX_head f n, sumX, Nat.xor_assoc]
theorem horner_sum (c : Nat → Nat) (x : Nat) (hx : x < 256) (hc : ∀ j, c j < 256) : ∀ m out, out < 256 → horner c x m out = mulD out (xpow x m) ^^^ sumX (fun j => mulD (c j) (xpow x (j + 1))) m
  | 0, out, ho => by simp [horner, xpow, sumX, mulD_one ho]
  | m + 1, out, ho => by
    rw [horner, horner_sum c x hx hc m _ (mulD_lt _ _), mulD_assoc (xor_lt ho (hc m)) hx (xpow_lt x m), mulD_comm x, show mulD (xpow x m) x = xpow x (m + 1) from rfl,
      xor_mulD ho (hc m) (xpow_lt x _), sumX, Nat.xor_assoc, Nat.xor_comm (mulD (c m) (xpow x (m + 1)))]
/-- The value at x of the polynomial with n coefficients. -/
def polyD (c : Nat → Nat) (n x : Nat) : Nat := sumX (fun j => mulD (c j) (xpow x j)) n
theorem polyD_lt (c : Nat → Nat) (n x : Nat) : polyD c n x < 256 := sumX_lt fun _ _ => mulD_lt _ _
def coefD (bs r : List Int) (nm i : Nat) (j : Nat) : Nat := if j = 0 then byteAt bs i else byteAt r (i * nm + (j - 1))
/-- All bytes. -/
def Bytes (l : List Int) : Prop := ∀ x ∈ l, 0 ≤ x ∧ x ≤ 255
theorem byteAt_lt {l : List Int} (h : Bytes l) (j : Nat) : byteAt l j < 256 := by
  unfold byteAt
  rw [List.getD_eq_getElem?_getD]
  by_cases hj : j < l.length
  · have := h l[j] (List.getElem_mem hj)
    rw [List.getElem?_eq_getElem hj, Option.getD_some]; omega
  · rw [List.getElem?_eq_none (by omega)]; decide
theorem byteAt_get {l : List Int} (h : Bytes l) {j : Nat} (hj : j < l.length) : ((byteAt l j : Nat) : Int) = l[j] := by
  unfold byteAt
  have := h l[j] (List.getElem_mem hj)
  rw [List.getD_eq_getElem?_getD, List.getElem?_eq_getElem hj, Option.getD_some]; omega
theorem coefD_lt {bs r : List Int} (hb : Bytes bs) (hr : Bytes r) (nm i j : Nat) : coefD bs r nm i j < 256 := by
  unfold coefD; split
  · exact byteAt_lt hb _
  · exact byteAt_lt hr _
theorem maskB_poly {bs r : List Int} (hb : Bytes bs) (hr : Bytes r) (nm x i : Nat) (hx : x < 256) : maskB bs r nm x i = polyD (coefD bs r nm i) (nm + 1) x := by
  unfold maskB noiseD polyD
  rw [horner_sum _ x hx (fun j => byteAt_lt hr _) nm 0 (by omega), zero_mulD, Nat.zero_xor, sumX_head]
  congr 1
  simp [coefD, xpow, mulD_one (byteAt_lt hb i)]
theorem xpow_zero_succ (j : Nat) : xpow 0 (j + 1) = 0 := by unfold xpow; exact mulD_zero _
theorem maskB_zero {bs r : List Int} (hb : Bytes bs) (hr : Bytes r) (nm i : Nat) : maskB bs r nm 0 i = byteAt bs i := by
  rw [maskB_poly hb hr nm 0 i (by omega)]
  unfold polyD
  rw [sumX_head, sumX_congr (g := fun _ => 0) (fun j _ => by rw [xpow_zero_succ, mulD_zero]), sumX_zero]
  simp [coefD, xpow, mulD_one (byteAt_lt hb i)]
theorem maskedD_at (bs r : List Int) (nm x i : Nat) (h : i < bs.length) : byteAt (maskedD bs r nm x) i = maskB bs r nm x i := by
  unfold byteAt maskedD
  rw [List.getD_eq_getElem?_getD, List.getElem?_map, List.getElem?_range h]
  simp
theorem maskedD_zero {bs r : List Int} (hb : Bytes bs) (hr : Bytes r) (nm : Nat) : maskedD bs r nm 0 = bs := by
  refine List.ext_getElem (by simp [maskedD]) fun i h1 h2 => ?_
  simp only [maskedD, List.getElem_map, List.getElem_range, maskB_zero hb hr]
  exact byteAt_get hb h2

/-! ### Lagrange at points among 1 to 5 -/
def wgtP (ps : List Nat) (x k : Nat) : Nat → Nat
  | 0 => 1
  | j + 1 => if j = k then wgtP ps x k j else mulD (wgtP ps x k j) (divD (x ^^^ ps.getD j 0) (ps.getD k 0 ^^^ ps.getD j 0))
theorem wgtP_lt (ps : List Nat) (x k : Nat) : ∀ j, wgtP ps x k j < 256
  | 0 => by unfold wgtP; omega
  | j + 1 => by
    unfold wgtP
    split
    · exact wgtP_lt ps x k j
    · exact mulD_lt _ _
def lagB (ps : List Nat) (x : Nat) : Bool := allB ps.length fun j => Nat.beq (sumX (fun k => mulD (wgtP ps x k ps.length) (xpow (ps.getD k 0) j)) ps.length) (xpow x j)
def subs : List Nat → List (List Nat)
  | [] => [[]]
  | a :: l => subs l ++ (subs l).map (a :: ·)
theorem mem_subs {ps l : List Nat} (h : List.Sublist ps l) : ps ∈ subs l := by
  induction h with
  | slnil => simp [subs]
  | cons a h ih => exact List.mem_append.2 (Or.inl ih)
  | cons_cons a h ih => exact List.mem_append.2 (Or.inr (List.mem_map.2 ⟨_, ih, rfl⟩))
def five : List Nat := [1, 2, 3, 4, 5]
theorem subs_at {f : List Nat → Bool} (h : (subs five).all f = true) {ps : List Nat} (hs : List.Sublist ps five) : f ps = true := List.all_eq_true.1 h ps (mem_subs hs)
theorem lag_all : (subs five).all (fun ps => allB 6 (lagB ps)) = true := by decide +kernel
theorem lag {ps : List Nat} (hs : List.Sublist ps five) {x j : Nat} (hx : x < 6) (hj : j < ps.length) : sumX (fun k => mulD (wgtP ps x k ps.length) (xpow (ps.getD k 0) j)) ps.length = xpow x j :=
  Nat.eq_of_beq_eq_true (allB_at (allB_at (subs_at lag_all hs) x hx) j hj)
theorem lag_poly {ps : List Nat} (hs : List.Sublist ps five) {x n : Nat} (hx : x < 6) (hn : n ≤ ps.length) {c : Nat → Nat} (hc : ∀ j, c j < 256) :
    sumX (fun k => mulD (wgtP ps x k ps.length) (polyD c n (ps.getD k 0))) ps.length = polyD c n x := by
  have e : sumX (fun k => mulD (wgtP ps x k ps.length) (polyD c n (ps.getD k 0))) ps.length = sumX (fun k => sumX (fun j => mulD (c j) (mulD (wgtP ps x k ps.length) (xpow (ps.getD k 0) j))) n) ps.length :=
    sumX_congr fun k _ => by
      unfold polyD
      rw [mulD_sumX (wgtP_lt _ _ _ _) fun j _ => mulD_lt _ _]
      refine sumX_congr fun j _ => ?_
      rw [← mulD_assoc (wgtP_lt _ _ _ _) (hc j) (xpow_lt _ _), mulD_comm _ (c j), mulD_assoc (hc j) (wgtP_lt _ _ _ _) (xpow_lt _ _)]
  rw [e, sumX_swap]
  refine sumX_congr fun j hj => ?_
  rw [← mulD_sumX (hc j) fun k _ => mulD_lt _ _, lag hs hx (by omega)]

/-! ### The values of a share list -/
theorem ptD_map (l : ShareL) (j : Nat) : (l.map (·.1)).getD j 0 = ptD l j := by
  unfold ptD
  rw [List.getD_eq_getElem?_getD, List.getD_eq_getElem?_getD, List.getElem?_map]
  cases l[j]? <;> rfl
theorem wgtD_P (l : ShareL) (x k : Nat) : ∀ j, wgtD l x k j = wgtP (l.map (·.1)) x k j
  | 0 => rfl
  | j + 1 => by unfold wgtD wgtP; rw [wgtD_P l x k j, ptD_map, ptD_map]
theorem accD_sum (l : ShareL) (x i : Nat) : ∀ k, accD l x i k = sumX (fun k => mulD (wgtD l x k l.length) (byteAt (bsD l k) i)) k
  | 0 => rfl
  | k + 1 => by unfold accD sumX; rw [accD_sum l x i k]
/-- The shares of a secret at some points. -/
def shL (kb r : List Int) (nm : Nat) (ps : List Nat) : ShareL := ps.map fun p => (p, maskedD kb r nm p)
theorem shL_fst (kb r : List Int) (nm : Nat) (ps : List Nat) : (shL kb r nm ps).map (·.1) = ps := by simp [shL, Function.comp_def]
theorem shL_length (kb r : List Int) (nm : Nat) (ps : List Nat) : (shL kb r nm ps).length = ps.length := by simp [shL]
theorem shL_bs (kb r : List Int) (nm : Nat) (ps : List Nat) (k : Nat) (h : k < ps.length) : bsD (shL kb r nm ps) k = maskedD kb r nm (ps.getD k 0) := by
  unfold bsD shL
  rw [List.getD_eq_getElem?_getD, List.getElem?_map, List.getD_eq_getElem?_getD, List.getElem?_eq_getElem h]
  rfl
theorem sub_lt {ps : List Nat} (hs : List.Sublist ps five) (k : Nat) : ps.getD k 0 < 6 := by
  rw [List.getD_eq_getElem?_getD]
  by_cases h : k < ps.length
  · rw [List.getElem?_eq_getElem h, Option.getD_some]
    have := hs.mem (List.getElem_mem h)
    simp [five] at this
    omega
  · rw [List.getElem?_eq_none (by omega)]; decide
theorem inter_sh {kb r : List Int} (hb : Bytes kb) (hr : Bytes r) {nm : Nat} {ps : List Nat} (hs : List.Sublist ps five) (hn : nm + 1 ≤ ps.length) {x : Nat} (hx : x < 6) :
    interD (shL kb r nm ps) x kb.length = maskedD kb r nm x := by
  unfold interD maskedD
  refine List.map_congr_left fun i hi => ?_
  have hi' : i < kb.length := by simpa using hi
  rw [accD_sum, maskB_poly hb hr nm x i (by omega), ← lag_poly hs hx hn (coefD_lt hb hr nm i), shL_length]
  congr 1
  refine sumX_congr fun k hk => ?_
  rw [wgtD_P, shL_fst, shL_bs _ _ _ _ _ hk, maskedD_at _ _ _ _ _ hi', maskB_poly hb hr nm _ i (by have := sub_lt hs k; omega)]

/-! ### Shares by increasing points -/
def tabP (ps : List Nat) : Nat → List Nat
  | 0 => List.replicate 256 0
  | i + 1 => (tabP ps i).set (ps.getD i 0) (i + 1)
theorem tabL_P (l : ShareL) : ∀ i, tabL l i = tabP (l.map (·.1)) i
  | 0 => rfl
  | i + 1 => by unfold tabL tabP; rw [tabL_P l i, ptD_map]
def pickI (ps : List Nat) : Nat → List Nat
  | 0 => []
  | m + 1 => if 0 < (tabP ps ps.length).getD m 0 then pickI ps m ++ [(tabP ps ps.length).getD m 0 - 1] else pickI ps m
theorem pickD_I (l : ShareL) : ∀ m, pickD l m = (pickI (l.map (·.1)) m).map fun i => (ptD l i, bsD l i)
  | 0 => rfl
  | m + 1 => by
    unfold pickD pickI
    rw [tabL_P, pickD_I l m, List.length_map]
    split
    · rw [List.map_append]; rfl
    · rfl
theorem pick_all : (subs five).all (fun ps => pickI ps 256 == List.range ps.length) = true := by decide +kernel
theorem at_range (l : ShareL) : ((List.range l.length).map fun i => (ptD l i, bsD l i)) = l := by
  refine List.ext_getElem (by simp) fun i h1 h2 => ?_
  simp [ptD, bsD, List.getD_eq_getElem?_getD, List.getElem?_eq_getElem h2]
theorem order_sh (kb r : List Int) (nm : Nat) {ps : List Nat} (hs : List.Sublist ps five) : orderD (shL kb r nm ps) = shL kb r nm ps := by
  unfold orderD
  have h := subs_at pick_all hs
  have h := eq_of_beq h
  rw [pickD_I, shL_fst, h]
  have := at_range (shL kb r nm ps)
  rwa [shL_length] at this
def badP (ps : List Nat) (i : Nat) : Bool := decide (ps.getD i 0 = 0) || decide (0 < (tabP ps i).getD (ps.getD i 0) 0)
def okP (ps : List Nat) : Nat → Bool
  | 0 => true
  | i + 1 => okP ps i && !badP ps i
theorem ok_all : (subs five).all (fun ps => okP ps ps.length) = true := by decide +kernel
theorem okTo_P {l : ShareL} (h : ∀ i, i < l.length → (bsD l i).length = (bsD l 0).length) : ∀ i, i ≤ l.length → okTo l i = okP (l.map (·.1)) i
  | 0, _ => rfl
  | i + 1, hi => by
    unfold okTo okP badD badP
    rw [okTo_P h i (by omega), tabL_P, ptD_map, decide_eq_false (p := (bsD l i).length ≠ (bsD l 0).length) (by rw [h i (by omega)]; simp), Bool.or_false]
theorem ok_sh (kb r : List Int) (nm : Nat) {ps : List Nat} (hs : List.Sublist ps five) : okTo (shL kb r nm ps) (shL kb r nm ps).length = true := by
  rw [okTo_P (fun i hi => by
    rw [shL_length] at hi
    rw [shL_bs _ _ _ _ _ hi, shL_bs _ _ _ _ 0 (by omega), maskedD_length, maskedD_length]) _ (Nat.le_refl _), shL_fst, shL_length]
  exact subs_at ok_all hs
theorem comb_sh {kb r : List Int} (hb : Bytes kb) (hr : Bytes r) {nm : Nat} {ps : List Nat} (hs : List.Sublist ps five) (hnm : nm ≤ 254) :
    combE (shL kb r nm ps) ((nm + 1 : Nat) : Int) = (if nm + 1 ≤ ps.length then 0 else 40) ∧ (nm + 1 ≤ ps.length → combD (shL kb r nm ps) ((nm + 1 : Nat) : Int) = kb) := by
  have e : combE (shL kb r nm ps) ((nm + 1 : Nat) : Int) = (if nm + 1 ≤ ps.length then 0 else 40) := by
    unfold combE
    rw [if_neg (by omega), ok_sh kb r nm hs, order_sh kb r nm hs, shL_length]
    by_cases h : nm + 1 ≤ ps.length
    · rw [if_neg (by simp; omega), if_pos h, Int.toNat_natCast, if_pos]
      rw [List.all_eq_true]
      intro s hsm
      have hbs : (bsD (shL kb r nm ps) 0).length = kb.length := by rw [shL_bs _ _ _ _ 0 (by omega), maskedD_length]
      have htk : (shL kb r nm ps).take (nm + 1) = shL kb r nm (ps.take (nm + 1)) := by simp [shL, List.map_take]
      have hm : s ∈ shL kb r nm ps := List.mem_of_mem_drop hsm
      obtain ⟨p, hp, rfl⟩ := List.mem_map.1 hm
      have hp6 : p < 6 := by have := hs.mem hp; simp [five] at this; omega
      rw [hbs, htk, inter_sh hb hr ((List.take_sublist _ _).trans hs) (by simp; omega) hp6]
      simp
    · rw [if_pos (Or.inr (by omega)), if_neg h]
  refine ⟨e, fun h => ?_⟩
  unfold combD
  rw [e, if_pos h, if_pos rfl, order_sh kb r nm hs, Int.toNat_natCast, shL_bs _ _ _ _ 0 (by omega), maskedD_length,
    show (shL kb r nm ps).take (nm + 1) = shL kb r nm (ps.take (nm + 1)) by simp [shL, List.map_take],
    inter_sh hb hr ((List.take_sublist _ _).trans hs) (by simp; omega) (by omega), maskedD_zero hb hr]
end Go.Proofs.YtpbgipdkaaooeaaGreatDoor
