/- The polynomial through some values: R35.through in plain data, and that it goes through them. No program in sight. -/
import Derived.Test.YtpbgipdkaaooeaaGreatDoorPB
open Go Go.Proofs Go.RowKit
namespace Go.Proofs.YtpbgipdkaaooeaaGreatDoor
set_option linter.unusedSimpArgs false
set_option linter.unusedVariables false

/-- The product of a polynomial with (x - p), after k of its coefficients. -/
def nxtAt (b : List Nat) (p k : Nat) : List Nat := (List.range (b.length + 1)).map fun c => (if 1 ≤ c ∧ c ≤ k then b.getD (c - 1) 0 else 0) ^^^ (if c < k then mulD (b.getD c 0) p else 0)
def nxtD (b : List Nat) (p : Nat) : List Nat := nxtAt b p b.length
theorem nxtAt_length (b : List Nat) (p k : Nat) : (nxtAt b p k).length = b.length + 1 := by simp [nxtAt]
theorem nxtAt_zero (b : List Nat) (p : Nat) : nxtAt b p 0 = List.replicate (b.length + 1) 0 := by
  refine List.ext_getElem (by simp [nxtAt]) fun i h1 h2 => ?_
  simp only [nxtAt, List.getElem_map, List.getElem_range, List.getElem_replicate]
  rw [if_neg (by omega), if_neg (by omega)]; rfl
theorem nxtAt_at (b : List Nat) (p k c : Nat) (hc : c < b.length + 1) : (nxtAt b p k)[c]? = some ((if 1 ≤ c ∧ c ≤ k then b.getD (c - 1) 0 else 0) ^^^ (if c < k then mulD (b.getD c 0) p else 0)) := by
  unfold nxtAt
  rw [List.getElem?_map, List.getElem?_range hc]; rfl
/-- The two stores of one round. -/
theorem nxtAt_new (b : List Nat) (p k : Nat) (hk : k < b.length) : (nxtAt b p k)[k + 1]? = some 0 := by
  rw [nxtAt_at b p k (k + 1) (by omega), if_neg (by omega), if_neg (by omega)]; rfl
theorem nxtAt_old (b : List Nat) (p k : Nat) (hk : k < b.length) : ((nxtAt b p k).set (k + 1) (b.getD k 0))[k]? = some (if k = 0 then 0 else b.getD (k - 1) 0) := by
  rw [List.getElem?_set_ne (by omega), nxtAt_at b p k k (by omega), if_neg (by omega : ¬ k < k), Nat.xor_zero]
  by_cases h : k = 0
  · rw [if_neg (by omega), if_pos h]
  · rw [if_pos (by omega), if_neg h]
theorem nxtAt_step (b : List Nat) (p k : Nat) (hk : k < b.length) : ((nxtAt b p k).set (k + 1) (b.getD k 0)).set k ((if k = 0 then 0 else b.getD (k - 1) 0) ^^^ mulD (b.getD k 0) p) = nxtAt b p (k + 1) := by
  refine List.ext_getElem (by simp [nxtAt]) fun i h1 h2 => ?_
  have hi : i < b.length + 1 := by simpa [nxtAt] using h2
  simp only [List.getElem_set, nxtAt, List.getElem_map, List.getElem_range]
  by_cases e1 : k = i
  · subst e1
    rw [if_pos rfl, if_pos (show k < k + 1 by omega)]
    by_cases h : k = 0
    · subst h; rw [if_pos rfl, if_neg (by omega)]
    · rw [if_neg h, if_pos (by omega)]
  · rw [if_neg e1]
    by_cases e2 : k + 1 = i
    · subst e2
      rw [if_pos rfl, if_pos (by omega), if_neg (by omega), Nat.xor_zero]; rfl
    · rw [if_neg e2]
      by_cases h : i < k
      · rw [if_pos h, if_pos (show i < k + 1 by omega)]
        by_cases h0 : 1 ≤ i
        · rw [if_pos ⟨h0, by omega⟩, if_pos ⟨h0, by omega⟩]
        · rw [if_neg (by omega), if_neg (by omega)]
      · rw [if_neg (by omega), if_neg h, if_neg (by omega), if_neg (by omega)]
def basisD (p : Nat → Nat) (i : Nat) : Nat → List Nat
  | 0 => [1]
  | j + 1 => if j = i then basisD p i j else nxtD (basisD p i j) (p j)
def scaleD (p : Nat → Nat) (i : Nat) : Nat → Nat
  | 0 => 1
  | j + 1 => if j = i then scaleD p i j else mulD (scaleD p i j) (p i ^^^ p j)
theorem basisD_length (p : Nat → Nat) (i : Nat) : ∀ j, (basisD p i j).length = if i < j then j else j + 1
  | 0 => by simp [basisD]
  | j + 1 => by
    have ih := basisD_length p i j
    unfold basisD
    split
    · rename_i h
      subst h
      rw [ih, if_neg (by omega), if_pos (by omega)]
    · rw [nxtD, nxtAt_length, ih]
      by_cases h2 : i < j
      · rw [if_pos h2, if_pos (by omega)]
      · rw [if_neg h2, if_neg (by omega)]
def Small8 (l : List Nat) : Prop := ∀ x ∈ l, x < 256
theorem small8_getD {l : List Nat} (h : Small8 l) (k : Nat) : l.getD k 0 < 256 := by
  rw [List.getD_eq_getElem?_getD]
  by_cases hk : k < l.length
  · rw [List.getElem?_eq_getElem hk]; exact h _ (List.getElem_mem hk)
  · rw [List.getElem?_eq_none (by omega)]; decide
theorem nxtAt_small {b : List Nat} (h : Small8 b) (p k : Nat) : Small8 (nxtAt b p k) := fun x hx => by
  unfold nxtAt at hx
  obtain ⟨c, -, rfl⟩ := List.mem_map.1 hx
  refine xor_lt ?_ ?_
  · split
    · exact small8_getD h _
    · omega
  · split
    · exact mulD_lt _ _
    · omega
theorem basisD_small (p : Nat → Nat) (i : Nat) : ∀ j, Small8 (basisD p i j)
  | 0 => by intro x hx; simp [basisD] at hx; omega
  | j + 1 => by
    unfold basisD
    split
    · exact basisD_small p i j
    · exact nxtAt_small (basisD_small p i j) _ _
theorem scaleD_lt (p : Nat → Nat) (i : Nat) : ∀ j, scaleD p i j < 256
  | 0 => by unfold scaleD; omega
  | j + 1 => by
    unfold scaleD
    split
    · exact scaleD_lt p i j
    · exact mulD_lt _ _
theorem invD_lt (a : Nat) : invD a < 256 := divD_lt _ _
def cofD (p v : Nat → Nat) (n i : Nat) : Nat := mulD (v i) (invD (scaleD p i n))
/-- Coefficient c after i points. -/
def outD (p v : Nat → Nat) (n i c : Nat) : Nat := sumX (fun a => mulD (cofD p v n a) ((basisD p a n).getD c 0)) i
theorem outD_lt (p v : Nat → Nat) (n i c : Nat) : outD p v n i c < 256 := sumX_lt fun _ _ => mulD_lt _ _
theorem outD_succ (p v : Nat → Nat) (n i c : Nat) : outD p v n (i + 1) c = outD p v n i c ^^^ mulD (cofD p v n i) ((basisD p i n).getD c 0) := rfl
def thrB (ps : List Nat) : Bool := allB ps.length fun a => allB ps.length fun e => Nat.beq (mulD (invD (scaleD (fun j => ps.getD j 0) a ps.length)) (polyD (fun c => (basisD (fun j => ps.getD j 0) a ps.length).getD c 0) ps.length (ps.getD e 0))) (if a = e then 1 else 0)
theorem thr_all : (subs five).all (fun ps => !(Nat.ble ps.length 4) || thrB (0 :: ps)) = true := by decide +kernel
theorem thr_at {ps : List Nat} (hs : List.Sublist ps five) (hl : ps.length ≤ 4) {a e : Nat} (ha : a < ps.length + 1) (he : e < ps.length + 1) :
    mulD (invD (scaleD (fun j => (0 :: ps).getD j 0) a (ps.length + 1))) (polyD (fun c => (basisD (fun j => (0 :: ps).getD j 0) a (ps.length + 1)).getD c 0) (ps.length + 1) ((0 :: ps).getD e 0)) = if a = e then 1 else 0 := by
  have h := subs_at thr_all hs
  rw [show Nat.ble ps.length 4 = true from Nat.ble_eq_true_of_le hl, Bool.not_true, Bool.false_or] at h
  exact Nat.eq_of_beq_eq_true (allB_at (allB_at h a ha) e he)
theorem sumX_one (n e : Nat) (he : e < n) (x : Nat) : sumX (fun a => if a = e then x else 0) n = x := by
  induction n with
  | zero => omega
  | succ n ih =>
    unfold sumX
    by_cases h : n = e
    · subst h
      rw [if_pos rfl, sumX_congr (g := fun _ => 0) (fun j hj => if_neg (by omega)), sumX_zero, Nat.zero_xor]
    · rw [if_neg h, ih (by omega), Nat.xor_zero]
/-- The polynomial goes through the values. -/
theorem through_value {ps : List Nat} (hs : List.Sublist ps five) (hl : ps.length ≤ 4) {v : Nat → Nat} (hv : ∀ j, v j < 256) {e : Nat} (he : e < ps.length + 1) :
    polyD (outD (fun j => (0 :: ps).getD j 0) v (ps.length + 1) (ps.length + 1)) (ps.length + 1) ((0 :: ps).getD e 0) = v e := by
  generalize hP : (fun j => (0 :: ps).getD j 0) = P
  have e1 : polyD (outD P v (ps.length + 1) (ps.length + 1)) (ps.length + 1) ((0 :: ps).getD e 0) = sumX (fun k => sumX (fun a => mulD (cofD P v (ps.length + 1) a) (mulD ((basisD P a (ps.length + 1)).getD k 0) (xpow ((0 :: ps).getD e 0) k))) (ps.length + 1)) (ps.length + 1) := by
    unfold polyD
    refine sumX_congr fun k _ => ?_
    unfold outD
    rw [mulD_comm, mulD_sumX (xpow_lt _ _) (fun _ _ => mulD_lt _ _)]
    refine sumX_congr fun a _ => ?_
    rw [mulD_comm, mulD_assoc (show cofD P v (ps.length + 1) a < 256 from mulD_lt _ _) (small8_getD (basisD_small _ _ _) _) (xpow_lt _ _)]
  rw [e1, sumX_swap]
  rw [sumX_congr (g := fun a => if a = e then v e else 0) (fun a ha => ?_), sumX_one _ _ he]
  rw [← mulD_sumX (show cofD P v (ps.length + 1) a < 256 from mulD_lt _ _) (fun _ _ => mulD_lt _ _)]
  show mulD (mulD (v a) (invD (scaleD P a (ps.length + 1)))) (polyD (fun c => (basisD P a (ps.length + 1)).getD c 0) (ps.length + 1) ((0 :: ps).getD e 0)) = _
  rw [mulD_assoc (hv a) (invD_lt _) (polyD_lt _ _ _), ← hP, thr_at hs hl ha he]
  by_cases h : a = e
  · subst h; rw [if_pos rfl, if_pos rfl, mulD_one (hv a)]
  · rw [if_neg h, if_neg h, mulD_zero]
end Go.Proofs.YtpbgipdkaaooeaaGreatDoor
