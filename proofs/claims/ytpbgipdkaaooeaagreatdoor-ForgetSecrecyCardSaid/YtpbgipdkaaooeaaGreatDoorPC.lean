/- Histories of a ledger, seen from one subject. No program in sight. -/
import Derived.Test.YtpbgipdkaaooeaaGreatDoorZX
import Derived.Test.YtpbgipdkaaooeaaGreatDoorPB
open Go Go.Proofs Go.RowKit
namespace Go.Proofs.YtpbgipdkaaooeaaGreatDoor
set_option linter.unusedSimpArgs false
set_option linter.unusedVariables false

theorem ba_loop (b : ByteArray) : ∀ (n i : Nat) (r : List UInt8), b.size - i = n → ByteArray.toList.loop b i r = r.reverse ++ b.data.toList.drop i
  | 0, i, r, h => by
    unfold ByteArray.toList.loop
    have hs : b.size = b.data.toList.length := rfl
    rw [if_neg (by omega), List.drop_of_length_le (by omega), List.append_nil]
  | n + 1, i, r, h => by
    unfold ByteArray.toList.loop
    have hs : b.size = b.data.toList.length := rfl
    rw [if_pos (by omega), ba_loop b n (i + 1) _ (by omega), List.drop_eq_getElem_cons (by omega : i < b.data.toList.length)]
    have : b.get! i = b.data.toList[i]'(by omega) := by
      obtain ⟨d⟩ := b
      have hi : i < d.size := by have h0 : (ByteArray.mk d).size = d.size := rfl; omega
      simp only [ByteArray.get!]
      rw [getElem!_pos d i hi, Array.getElem_toList]
    simp [this]
theorem ba_toList (b : ByteArray) : b.toList = b.data.toList := by
  unfold ByteArray.toList
  rw [ba_loop b _ 0 [] rfl]; simp
theorem sEq_eq {s t : ByteArray} (h : sEq s t = true) : s = t := by
  unfold sEq at h
  have h := eq_of_beq h
  rw [ba_toList, ba_toList] at h
  cases s; cases t
  simp only [ByteArray.mk.injEq]
  exact Array.ext' h
theorem sEq_ne {s t : ByteArray} (h : s ≠ t) : sEq s t = false := by
  cases e : sEq s t with
  | false => rfl
  | true => exact absurd (sEq_eq e) h
/-- The shares of a subject in a row. -/
def rowT (t : ByteArray) (l : List HeldD) : List HeldD := l.filter fun h => sEq h.subj t
def prof (t : ByteArray) (ss : List (List HeldD)) : List (List HeldD) := ss.map (rowT t)
theorem prof_length (t : ByteArray) (ss : List (List HeldD)) : (prof t ss).length = ss.length := by simp [prof]
theorem hasRow_T (t : ByteArray) (r : List HeldD) : hasRow t r = !(rowT t r).isEmpty := by
  unfold hasRow rowT
  induction r with
  | nil => rfl
  | cons a r ih => cases h : sEq a.subj t <;> simp_all [List.filter_cons]
theorem leftD_prof (t : ByteArray) (ss : List (List HeldD)) : leftD t ss = ((prof t ss).filter fun r => !r.isEmpty).length := by
  unfold leftD prof
  rw [List.filter_map, List.length_map]
  congr 1
  refine List.filter_congr fun r _ => ?_
  exact hasRow_T t r
theorem leftD_zero {t : ByteArray} {ss : List (List HeldD)} (h : leftD t ss = 0) : ∀ r ∈ ss, rowT t r = [] := fun r hr => by
  unfold leftD at h
  have := List.length_eq_zero_iff.1 h
  have h2 := List.filter_eq_nil_iff.1 this r hr
  rw [hasRow_T] at h2
  simpa using h2
theorem rowT_append (t : ByteArray) (l m : List HeldD) : rowT t (l ++ m) = rowT t l ++ rowT t m := List.filter_append _ _
/-! ### One step -/
theorem prof_enr_other {t t' : ByteArray} (h : sEq t t' = false) (g : LedD) (kb r : List Int) (nm n : Nat) : prof t' (enrAt g t kb r nm n).shares = prof t' g.shares := by
  unfold prof enrAt
  refine List.ext_getElem (by simp) fun i h1 h2 => ?_
  simp only [List.getElem_map, List.getElem_mapIdx]
  split
  · rw [rowT_append]
    simp [rowT, enrHeld, h]
  · rfl
theorem prof_enr_same {t : ByteArray} (g : LedD) (kb r : List Int) (nm : Nat) (h : ∀ x ∈ g.shares, rowT t x = []) : prof t (enrAt g t kb r nm g.shares.length).shares = (List.range g.shares.length).map fun i => [enrHeld t kb r nm i] := by
  unfold prof enrAt
  refine List.ext_getElem (by simp) fun i h1 h2 => ?_
  simp only [List.getElem_map, List.getElem_mapIdx, List.getElem_range]
  have hi : i < g.shares.length := by simpa using h1
  rw [if_pos hi, rowT_append, h _ (List.getElem_mem hi)]
  simp [rowT, enrHeld, sEq_self]
theorem rowT_D_other {t t' : ByteArray} (h : sEq t t' = false) (r : List HeldD) : rowT t' (rowD t r) = rowT t' r := by
  unfold rowT rowD
  rw [List.filter_filter]
  refine List.filter_congr fun x _ => ?_
  cases e : sEq x.subj t' with
  | false => rfl
  | true =>
    have : sEq x.subj t = false := sEq_ne fun e2 => by
      have e3 : t = t' := e2.symm.trans (sEq_eq e)
      rw [e3, sEq_self] at h
      exact absurd h (by decide)
    simp [this]
theorem rowT_D_same (t : ByteArray) (r : List HeldD) : rowT t (rowD t r) = [] := by
  unfold rowT rowD
  rw [List.filter_filter]
  refine List.filter_eq_nil_iff.2 fun x _ => ?_
  cases sEq x.subj t <;> simp
theorem prof_cut_other {t t' : ByteArray} (h : sEq t t' = false) (g : LedD) (i : Nat) : prof t' (giveCut g i t).shares = prof t' g.shares := by
  unfold prof giveCut
  refine List.ext_getElem (by simp) fun j h1 h2 => ?_
  simp only [List.getElem_map, List.getElem_set]
  split
  · rename_i e
    subst e
    rw [rowT_D_other h, List.getD_eq_getElem?_getD, List.getElem?_eq_getElem (by simpa using h2)]
    rfl
  · rfl
theorem prof_cut_same (t : ByteArray) (g : LedD) (i : Nat) : prof t (giveCut g i t).shares = (prof t g.shares).set i [] := by
  unfold prof giveCut
  rw [List.map_set, rowT_D_same]
theorem first_snoc {t t' : ByteArray} (h : sEq t t' = false) (l : List (ByteArray × Int)) (a : Int) : firstD t' (l ++ [(t, a)]) = firstD t' l := by
  unfold firstD
  rw [List.find?_append]
  simp [h]
theorem first_snoc_same (t : ByteArray) (l : List (ByteArray × Int)) (a : Int) : (firstD t (l ++ [(t, a)])).isSome = true := by
  unfold firstD
  rw [List.find?_append]
  simp [sEq_self]
theorem firstErr2 {b1 b2 : Bool} {n1 n2 : Int} (h1 : n1 ≠ 0) (h2 : n2 ≠ 0) (h : firstErr [(b1, n1), (b2, n2)] = 0) : b1 = false ∧ b2 = false := by
  cases b1 <;> cases b2 <;> simp_all [firstErr]
theorem firstErr3 {b1 b2 b3 : Bool} {n1 n2 n3 : Int} (h1 : n1 ≠ 0) (h2 : n2 ≠ 0) (h3 : n3 ≠ 0) (h : firstErr [(b1, n1), (b2, n2), (b3, n3)] = 0) : b1 = false ∧ b2 = false ∧ b3 = false := by
  cases b1 <;> cases b2 <;> cases b3 <;> simp_all [firstErr]
/-- What one step does, seen from the ledger. -/
inductive StepIs (g : LedD) (x : ActD) : Prop
  | none (h : doD g x = g) (h2 : stepE g x ≠ 0 ∨ (x.kind % 4 ≠ 0 ∧ x.kind % 4 ≠ 3)) : StepIs g x
  | enr (h : stepE g x = 0) (hk : x.kind % 4 = 0) (hd : doD g x = enrAt g (subjD x.who) (key32D x.seed) x.seed (g.need.toNat - 1) g.shares.length)
      (hl : leftD (subjD x.who) g.shares = 0) (hn : firstD (subjD x.who) g.dones = Option.none) : StepIs g x
  | more (hk : x.kind % 4 = 1 ∨ x.kind % 4 = 2) (l m : List (ByteArray × Int)) (hd : doD g x = { g with holds := l, demands := m }) : StepIs g x
  | give (h : stepE g x = 0) (hk : x.kind % 4 = 3) (i : Nat) (hi : i < g.shares.length) (hr : hasRow (subjD x.who) (g.shares.getD i []) = true)
      (hd : doD g x = if giveDone g i (subjD x.who) then { giveCut g i (subjD x.who) with dones := g.dones ++ [(subjD x.who, x.at')] } else giveCut g i (subjD x.who)) : StepIs g x
theorem step_is (g : LedD) (hv : validB g = true) (x : ActD) : StepIs g x := by
  by_cases h0 : stepE g x = 0
  · have hd : doD g x = stepD g x := by unfold doD; rw [if_pos h0]
    have h4 : x.kind % 4 = 0 ∨ x.kind % 4 = 1 ∨ x.kind % 4 = 2 ∨ x.kind % 4 = 3 := by omega
    rcases h4 with hk | hk | hk | hk
    · have he : enrollE g (subjD x.who) = 0 := by rw [← h0]; unfold stepE; rw [if_pos hk]
      have h3 := firstErr3 (by decide) (by decide) (by decide) he
      refine .enr h0 hk ?_ ?_ ?_
      · rw [hd]; unfold stepD; rw [if_pos hk]; unfold enrollD; rw [if_pos he]
      · have := h3.2.2; simpa using this
      · have := h3.2.1; simp only [Bool.or_eq_false_iff] at this; simpa using this.1
    · refine .more (.inl hk) (g.holds ++ [(subjD x.who, x.at')]) g.demands ?_
      rw [hd]; unfold stepD; rw [if_neg (by omega), if_pos hk]; unfold holdD; rw [if_pos hv]
    · have he : demandE g (subjD x.who) x.at' = 0 := by rw [← h0]; unfold stepE; rw [if_neg (by omega), if_neg (by omega), if_pos hk]
      have e : doD g x = demandD g (subjD x.who) x.at' := by rw [hd]; unfold stepD; rw [if_neg (by omega), if_neg (by omega), if_pos hk]
      unfold demandD at e
      rw [if_pos he] at e
      by_cases hs : (firstD (subjD x.who) g.demands).isSome = true
      · rw [if_pos hs] at e
        exact .none e (.inr (by omega))
      · rw [if_neg hs] at e
        exact .more (.inr hk) g.holds _ e
    · have he : giveE g x.owner (subjD x.who) x.at' = 0 := by rw [← h0]; unfold stepE; rw [if_neg (by omega), if_neg (by omega), if_neg (by omega)]
      have e : doD g x = giveD g x.owner (subjD x.who) x.at' := by rw [hd]; unfold stepD; rw [if_neg (by omega), if_neg (by omega), if_neg (by omega)]
      unfold giveE at he
      have hb : giveBad g x.owner = false := by
        cases hb : giveBad g x.owner with
        | false => rfl
        | true => rw [hb, if_pos rfl] at he; exact absurd he (by decide)
      have hb' := hb
      rw [hb, if_neg (by decide)] at he
      have h3 := firstErr3 (by decide) (by decide) (by decide) he
      unfold giveBad at hb'
      simp only [Bool.or_eq_false_iff, decide_eq_false_iff_not] at hb'
      unfold validB at hv
      simp only [Bool.and_eq_true, decide_eq_true_eq] at hv
      refine .give h0 hk x.owner.toNat (by omega) (by have := h3.1; simp only [Bool.or_eq_false_iff] at this; simpa using this.2) ?_
      rw [e]; unfold giveD
      have he2 : giveE g x.owner (subjD x.who) x.at' = 0 := by unfold giveE; rw [hb, if_neg (by decide)]; exact he
      rw [if_pos he2]
  · exact .none (by unfold doD; rw [if_neg h0]) (.inl h0)
theorem valid_parts {g : LedD} (hv : validB g = true) : 1 ≤ g.need ∧ g.need ≤ g.owners ∧ g.owners ≤ 5 ∧ (g.shares.length : Int) = g.owners := by
  unfold validB at hv
  simp only [Bool.and_eq_true, decide_eq_true_eq] at hv
  omega
structure SameSize (g h : LedD) : Prop where
  need : h.need = g.need
  owners : h.owners = g.owners
  len : h.shares.length = g.shares.length
theorem SameSize.valid {g h : LedD} (e : SameSize g h) (hv : validB g = true) : validB h = true := by
  unfold validB at *
  rw [e.need, e.owners, e.len]; exact hv
theorem same_do {g : LedD} (hv : validB g = true) (x : ActD) : SameSize g (doD g x) := by
  rcases step_is g hv x with ⟨h, -⟩ | ⟨-, -, hd, -, -⟩ | ⟨-, l, m, hd⟩ | ⟨-, -, i, hi, -, hd⟩
  · rw [h]; exact ⟨rfl, rfl, rfl⟩
  · rw [hd]; exact ⟨rfl, rfl, enrAt_length _ _ _ _ _ _⟩
  · rw [hd]; exact ⟨rfl, rfl, rfl⟩
  · rw [hd]
    split
    · exact ⟨rfl, rfl, by simp [giveCut]⟩
    · exact ⟨rfl, rfl, by simp [giveCut]⟩
theorem start_parts (a b : Nat) : startD a b = ⟨((1 + a % 5 : Nat) : Int), ((1 + b % (1 + a % 5) : Nat) : Int), List.replicate (1 + a % 5) [], [], [], []⟩ := by
  have h1 : a % 5 < 5 := Nat.mod_lt _ (by omega)
  have h2 : b % (1 + a % 5) < 1 + a % 5 := Nat.mod_lt _ (by omega)
  unfold startD newD
  rw [if_pos]
  · rw [Int.toNat_natCast]
  · unfold newB
    simp only [Bool.and_eq_true, decide_eq_true_eq]
    omega
theorem valid_start (a b : Nat) : validB (startD a b) = true := by
  have h1 : a % 5 < 5 := Nat.mod_lt _ (by omega)
  have h2 : b % (1 + a % 5) < 1 + a % 5 := Nat.mod_lt _ (by omega)
  rw [start_parts]
  unfold validB
  simp only [Bool.and_eq_true, decide_eq_true_eq, List.length_replicate]
  generalize b % (1 + a % 5) = y at *
  generalize a % 5 = x at *
  refine ⟨⟨⟨?_, ?_⟩, ?_⟩, ?_⟩
  · show (1 : Int) ≤ ((1 + y : Nat) : Int); omega
  · show ((1 + y : Nat) : Int) ≤ ((1 + x : Nat) : Int); omega
  · show ((1 + x : Nat) : Int) ≤ 5; omega
  · trivial
theorem valid_hist (a b : Nat) (l : List ActD) : ∀ i, validB (histD (startD a b) l i) = true
  | 0 => valid_start a b
  | i + 1 => (same_do (valid_hist a b l i) _).valid (valid_hist a b l i)
theorem subj_mod (k : Nat) : subjD (k % 4) = subjD k := by unfold subjD; simp
theorem subj_ne {j k : Nat} (h : j % 4 ≠ k % 4) : sEq (subjD j) (subjD k) = false := by
  have : ∀ j k : Fin 4, j.1 ≠ k.1 → sEq (subjD j.1) (subjD k.1) = false := by decide +kernel
  have := this ⟨j % 4, by omega⟩ ⟨k % 4, by omega⟩ h
  simpa [subj_mod] using this
/-- Every owner has the share of a key, and the subject is not forgotten. -/
structure Whole (g : LedD) (t : ByteArray) (kb : List Int) : Prop where
  rows : ∃ r, Bytes r ∧ prof t g.shares = (List.range g.shares.length).map fun i => [enrHeld t kb r (g.need.toNat - 1) i]
  none : firstD t g.dones = Option.none
  bytes : Bytes kb
  len : kb.length = 32
theorem whole_new {g : LedD} (hv : validB g = true) {x : ActD} (hb : Bytes x.seed) (h : stepE g x = 0) (hk : x.kind % 4 = 0) : Whole (doD g x) (subjD x.who) (key32D x.seed) := by
  rcases step_is g hv x with ⟨-, h2⟩ | ⟨-, -, hd, hl, hn⟩ | ⟨hk2, -⟩ | ⟨-, hk2, -⟩
  · exact absurd h (by omega)
  · rw [hd]
    refine ⟨⟨x.seed, hb, ?_⟩, hn, key32D_bytes hb, key32D_length _⟩
    rw [prof_enr_same g _ _ _ (leftD_zero hl), enrAt_length]
    rfl
  · omega
  · omega
theorem whole_keep {g : LedD} (hv : validB g = true) {x : ActD} {k : Nat} {kb : List Int} (hw : Whole g (subjD k) kb) (h : ¬ (x.who % 4 = k % 4 ∧ stepE g x = 0 ∧ (x.kind % 4 = 0 ∨ x.kind % 4 = 3))) : Whole (doD g x) (subjD k) kb := by
  rcases step_is g hv x with ⟨e, -⟩ | ⟨h0, hk, hd, hl, hn⟩ | ⟨-, l, m, hd⟩ | ⟨h0, hk, i, hi, -, hd⟩
  · rw [e]; exact hw
  · have hs : sEq (subjD x.who) (subjD k) = false := subj_ne fun e => h ⟨e, h0, .inl hk⟩
    obtain ⟨⟨r, hr, hp⟩, hn2, hb, hl2⟩ := hw
    rw [hd]
    exact ⟨⟨r, hr, by rw [prof_enr_other hs, enrAt_length]; exact hp⟩, hn2, hb, hl2⟩
  · rw [hd]; obtain ⟨⟨r, hr, hp⟩, hn2, hb, hl2⟩ := hw; exact ⟨⟨r, hr, hp⟩, hn2, hb, hl2⟩
  · have hs : sEq (subjD x.who) (subjD k) = false := subj_ne fun e => h ⟨e, h0, .inr hk⟩
    obtain ⟨⟨r, hr, hp⟩, hn2, hb, hl2⟩ := hw
    have hp2 : prof (subjD k) (giveCut g i (subjD x.who)).shares = (List.range (giveCut g i (subjD x.who)).shares.length).map fun i => [enrHeld (subjD k) kb r (g.need.toNat - 1) i] := by
      rw [prof_cut_other hs, show (giveCut g i (subjD x.who)).shares.length = g.shares.length by simp [giveCut]]; exact hp
    rw [hd]
    split
    · exact ⟨⟨r, hr, hp2⟩, by simp only; rw [first_snoc hs]; exact hn2, hb, hl2⟩
    · exact ⟨⟨r, hr, hp2⟩, hn2, hb, hl2⟩
/-! ### The key -/
theorem row_first {α : Type} [Inhabited α] {p : α → Bool} : ∀ {l : List α} {h : α}, l.filter p = [h] → l.findIdx p < l.length ∧ l.getD (l.findIdx p) default = h
  | [], h, e => by simp at e
  | a :: l, h, e => by
    cases hp : p a with
    | true =>
      rw [List.filter_cons_of_pos hp] at e
      simp only [List.cons.injEq] at e
      rw [List.findIdx_cons, hp]
      exact ⟨by simp, by simp [e.1]⟩
    | false =>
      rw [List.filter_cons_of_neg (by simp [hp])] at e
      obtain ⟨h1, h2⟩ := row_first e
      rw [List.findIdx_cons, hp]
      exact ⟨by simpa using h1, by simpa using h2⟩
/-- The points of the first n owners that are not down. -/
def ptsD (down : List Bool) : Nat → List Nat
  | 0 => []
  | i + 1 => if down.length ≤ i ∨ down.getD i false = false then ptsD down i ++ [i + 1] else ptsD down i
def upN : Nat → List Nat
  | 0 => []
  | n + 1 => upN n ++ [n + 1]
theorem ptsD_up (down : List Bool) : ∀ n, List.Sublist (ptsD down n) (upN n)
  | 0 => List.Sublist.refl _
  | n + 1 => by
    unfold ptsD upN
    split
    · exact (ptsD_up down n).append (List.Sublist.refl _)
    · exact (ptsD_up down n).trans (List.sublist_append_left _ _)
theorem upN_five {n : Nat} (h : n ≤ 5) : List.Sublist (upN n) five := by
  have : ∀ n : Fin 6, (upN n.1).isSublist five = true := by decide +kernel
  exact List.isSublist_iff_sublist.1 (this ⟨n, by omega⟩)
theorem ptsD_sub (down : List Bool) {n : Nat} (h : n ≤ 5) : List.Sublist (ptsD down n) five := (ptsD_up down n).trans (upN_five h)
theorem keyAt_sh {t : ByteArray} {kb r : List Int} {nm : Nat} {ss : List (List HeldD)} (h : prof t ss = (List.range ss.length).map fun i => [enrHeld t kb r nm i]) (down : List Bool) : ∀ n, n ≤ ss.length → keyAt t down ss n = shL kb r nm (ptsD down n)
  | 0, _ => rfl
  | i + 1, hi => by
    have hr : rowT t (ss.getD i []) = [enrHeld t kb r nm i] := by
      have := congrArg (fun l => l[i]?) h
      simp only [prof, List.getElem?_map, List.getElem?_range (show i < ss.length by omega), List.getElem?_eq_getElem (show i < ss.length by omega), Option.map_some, Option.some.injEq] at this
      rw [List.getD_eq_getElem?_getD, List.getElem?_eq_getElem (by omega)]
      exact this
    obtain ⟨h1, h2⟩ := row_first hr
    have e : idxD (fun h : HeldD => sEq h.subj t) (ss.getD i []) = (((ss.getD i []).findIdx fun h : HeldD => sEq h.subj t : Nat) : Int) := by unfold idxD; rw [if_pos h1]
    unfold keyAt ptsD
    rw [keyAt_sh h down i (by omega), e, Int.toNat_natCast, h2]
    by_cases hd : down.length ≤ i ∨ down.getD i false = false
    · rw [if_pos ⟨by omega, hd⟩, if_pos hd]
      simp [shL, enrHeld]
    · rw [if_neg (fun h => hd h.2), if_neg hd]
theorem key_law {g : LedD} (hv : validB g = true) {t : ByteArray} {kb : List Int} (hw : Whole g t kb) (down : List Bool) :
    keyE g t down = (if g.need ≤ ((ptsD down g.shares.length).length : Int) then 0 else 40) ∧ (g.need ≤ ((ptsD down g.shares.length).length : Int) → keyD g t down = kb) := by
  obtain ⟨⟨r, hr, hp⟩, hn, hb, hl⟩ := hw
  obtain ⟨v1, v2, v3, v4⟩ := valid_parts hv
  have hs := ptsD_sub down (n := g.shares.length) (by omega)
  have hL : keyL g t down = shL kb r (g.need.toNat - 1) (ptsD down g.shares.length) := keyAt_sh hp down _ (Nat.le_refl _)
  obtain ⟨c1, c2⟩ := comb_sh hb hr hs (show g.need.toNat - 1 ≤ 254 by omega)
  rw [show ((g.need.toNat - 1 + 1 : Nat) : Int) = g.need by omega] at c1 c2
  have hne : leftD t g.shares ≠ 0 := fun h => by
    have h0 := leftD_zero h
    have := congrArg (fun l => l[0]?) hp
    simp only [prof, List.getElem?_map, List.getElem?_range (show 0 < g.shares.length by omega), List.getElem?_eq_getElem (show 0 < g.shares.length by omega), Option.map_some, Option.some.injEq] at this
    rw [h0 _ (List.getElem_mem _)] at this
    exact absurd this (by simp)
  have hc : keyC g t = 0 := by
    unfold keyC
    rw [hv, hn]
    simp [firstErr, hne]
  have hE : keyE g t down = (if g.need ≤ ((ptsD down g.shares.length).length : Int) then 0 else 40) := by
    unfold keyE
    rw [hc, if_neg (by simp), hL, c1]
    by_cases h : g.need ≤ ((ptsD down g.shares.length).length : Int)
    · rw [if_pos (by omega : g.need.toNat - 1 + 1 ≤ _), if_pos ⟨rfl, by rw [c2 (by omega)]; exact hl⟩, if_pos h]
    · rw [if_neg (by omega : ¬ g.need.toNat - 1 + 1 ≤ _), if_neg (fun h => absurd h.1 (by decide)), if_neg h]
  refine ⟨hE, fun h => ?_⟩
  unfold keyD
  rw [hE, if_pos h, if_pos rfl, hL, c2 (by omega)]
end Go.Proofs.YtpbgipdkaaooeaaGreatDoor
