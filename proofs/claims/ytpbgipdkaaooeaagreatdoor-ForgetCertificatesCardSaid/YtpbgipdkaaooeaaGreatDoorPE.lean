/- ForgetCertificates: certificates along a history. No program in sight. -/
import Derived.Test.YtpbgipdkaaooeaaGreatDoorPD
import Derived.Test.YtpbgipdkaaooeaaGreatDoorLA
open Go Go.Proofs Go.RowKit
namespace Go.Proofs.YtpbgipdkaaooeaaGreatDoor
set_option linter.unusedSimpArgs false
set_option linter.unusedVariables false

/-- What a ledger says of a subject that was enrolled or not. -/
structure Cert (g : LedD) (t : ByteArray) (kn : Bool) : Prop where
  one : ∀ r ∈ prof t g.shares, r.length ≤ 1
  is : (firstD t g.dones).isSome = (kn && decide ((leftD t g.shares : Int) < g.need))
  no : kn = false → leftD t g.shares = 0
theorem prof_nil {t : ByteArray} {ss : List (List HeldD)} (h : leftD t ss = 0) : ∀ r ∈ prof t ss, r = [] := fun r hr => by
  obtain ⟨x, hx, rfl⟩ := List.mem_map.1 hr
  exact leftD_zero h x hx
theorem filter_set_le {α : Type} (p : α → Bool) (x : α) (hx : p x = false) : ∀ (l : List α) (i : Nat), ((l.set i x).filter p).length ≤ (l.filter p).length
  | [], i => by simp
  | a :: l, 0 => by
    rw [List.set_cons_zero, List.filter_cons_of_neg (by simp [hx])]
    exact List.Sublist.length_le ((List.sublist_cons_self a l).filter p)
  | a :: l, i + 1 => by
    have := filter_set_le p x hx l i
    rw [List.set_cons_succ]
    cases h : p a with
    | true => rw [List.filter_cons_of_pos h, List.filter_cons_of_pos h]; simpa using this
    | false => rw [List.filter_cons_of_neg (by simp [h]), List.filter_cons_of_neg (by simp [h])]; exact this
theorem cert_step {g : LedD} (hv : validB g = true) (x : ActD) {k : Nat} {kn : Bool} (hc : Cert g (subjD k) kn) :
    Cert (doD g x) (subjD k) (kn || (decide (stepE g x = 0) && decide (x.kind % 4 = 0) && decide (x.who % 4 = k % 4))) := by
  obtain ⟨v1, v2, v3, v4⟩ := valid_parts hv
  obtain ⟨h1, h2, h3⟩ := hc
  have same : ∀ g', prof (subjD k) g'.shares = prof (subjD k) g.shares → (firstD (subjD k) g'.dones).isSome = (firstD (subjD k) g.dones).isSome → g'.need = g.need → Cert g' (subjD k) kn := fun g' e1 e2 e3 =>
    ⟨by rw [e1]; exact h1, by rw [e2, e3, leftD_prof, e1, ← leftD_prof]; exact h2, by rw [leftD_prof, e1, ← leftD_prof]; exact h3⟩
  rcases step_is g hv x with ⟨e, h0⟩ | ⟨h0, hk, hd, hl, hn⟩ | ⟨hk, l, m, hd⟩ | ⟨h0, hk, i, hi, hr, hd⟩
  · have hb : (decide (stepE g x = 0) && decide (x.kind % 4 = 0) && decide (x.who % 4 = k % 4)) = false := by
      rcases h0 with h0 | h0
      · simp [h0]
      · simp [h0.1]
    rw [e, hb, Bool.or_false]
    exact ⟨h1, h2, h3⟩
  · by_cases e : x.who % 4 = k % 4
    · have es : subjD x.who = subjD k := by rw [← subj_mod x.who, e, subj_mod]
      rw [es] at hl hn hd
      have hp := prof_enr_same (t := subjD k) g (key32D x.seed) x.seed (g.need.toNat - 1) (leftD_zero hl)
      have hL : leftD (subjD k) (doD g x).shares = g.shares.length := by
        rw [hd, leftD_prof, hp, List.filter_eq_self.2 (by simp), List.length_map, List.length_range]
      rw [show (kn || (decide (stepE g x = 0) && decide (x.kind % 4 = 0) && decide (x.who % 4 = k % 4))) = true by simp [h0, hk, e]]
      refine ⟨?_, ?_, fun h => by cases h⟩
      · rw [hd, hp]
        intro r hr
        obtain ⟨j, -, rfl⟩ := List.mem_map.1 hr
        simp
      · rw [hL, hd]
        have : ¬ ((g.shares.length : Int) < g.need) := by omega
        show (firstD (subjD k) g.dones).isSome = (true && decide ((g.shares.length : Int) < g.need))
        rw [hn]
        simp
        omega
    · have hs := subj_ne e
      rw [show (kn || (decide (stepE g x = 0) && decide (x.kind % 4 = 0) && decide (x.who % 4 = k % 4))) = kn by simp [e]]
      rw [hd]
      exact same _ (prof_enr_other hs _ _ _ _ _) rfl rfl
  · rw [show (kn || (decide (stepE g x = 0) && decide (x.kind % 4 = 0) && decide (x.who % 4 = k % 4))) = kn by
      have : x.kind % 4 ≠ 0 := by omega
      simp [this]]
    rw [hd]
    exact ⟨h1, h2, h3⟩
  · rw [show (kn || (decide (stepE g x = 0) && decide (x.kind % 4 = 0) && decide (x.who % 4 = k % 4))) = kn by
      have : x.kind % 4 ≠ 0 := by omega
      simp [this]]
    by_cases e : x.who % 4 = k % 4
    · have es : subjD x.who = subjD k := by rw [← subj_mod x.who, e, subj_mod]
      rw [es] at hr hd
      have hkn : kn = true := by
        cases kn with
        | true => rfl
        | false =>
          have h0 := leftD_zero (h3 rfl) (g.shares.getD i []) (by rw [List.getD_eq_getElem?_getD, List.getElem?_eq_getElem hi]; exact List.getElem_mem hi)
          rw [hasRow_T, h0] at hr
          exact absurd hr (by decide)
      subst hkn
      have hp := prof_cut_same (subjD k) g i
      have hle : leftD (subjD k) (giveCut g i (subjD k)).shares ≤ leftD (subjD k) g.shares := by
        rw [leftD_prof, leftD_prof, hp]
        exact filter_set_le _ _ (by rfl) _ _
      have hone : ∀ r ∈ prof (subjD k) (giveCut g i (subjD k)).shares, r.length ≤ 1 := fun r hr => by
        rw [hp] at hr
        rcases List.mem_or_eq_of_mem_set hr with hr | rfl
        · exact h1 r hr
        · simp
      have hG : giveDone g i (subjD k) = (!(firstD (subjD k) g.dones).isSome && decide ((leftD (subjD k) (giveCut g i (subjD k)).shares : Int) < g.need)) := rfl
      rw [hd]
      rw [Bool.true_and] at h2
      cases hq : (firstD (subjD k) g.dones).isSome with
      | true =>
        rw [hq] at h2 hG
        have h2 := of_decide_eq_true h2.symm
        rw [if_neg (by rw [hG]; simp)]
        refine ⟨hone, ?_, fun h => by cases h⟩
        show (firstD (subjD k) g.dones).isSome = (true && decide ((leftD (subjD k) (giveCut g i (subjD k)).shares : Int) < g.need))
        rw [hq, decide_eq_true (by omega)]; rfl
      | false =>
        rw [hq] at hG
        rw [Bool.not_false, Bool.true_and] at hG
        by_cases hlt : (leftD (subjD k) (giveCut g i (subjD k)).shares : Int) < g.need
        · rw [if_pos (by rw [hG]; exact decide_eq_true hlt)]
          refine ⟨hone, ?_, fun h => by cases h⟩
          show (firstD (subjD k) (g.dones ++ [(subjD k, x.at')])).isSome = (true && decide ((leftD (subjD k) (giveCut g i (subjD k)).shares : Int) < g.need))
          rw [first_snoc_same, decide_eq_true hlt]; rfl
        · rw [if_neg (by rw [hG, decide_eq_false hlt]; decide)]
          refine ⟨hone, ?_, fun h => by cases h⟩
          show (firstD (subjD k) g.dones).isSome = (true && decide ((leftD (subjD k) (giveCut g i (subjD k)).shares : Int) < g.need))
          rw [hq, decide_eq_false hlt]; rfl
    · have hs := subj_ne e
      rw [hd]
      split
      · exact same _ (prof_cut_other hs _ _) (by simp only; rw [first_snoc hs]) rfl
      · exact same _ (prof_cut_other hs _ _) rfl rfl
theorem cert_start (a b k : Nat) : Cert (startD a b) (subjD k) false := by
  rw [start_parts]
  have hp : ∀ n, prof (subjD k) (List.replicate n []) = List.replicate n [] := fun n => by simp [prof, rowT]
  refine ⟨?_, rfl, fun _ => ?_⟩
  · rw [hp]
    intro r hr
    rw [List.eq_of_mem_replicate hr]; simp
  · rw [leftD_prof, hp, List.filter_eq_nil_iff.2 (fun r hr => by rw [List.eq_of_mem_replicate hr]; simp)]; rfl
/-- Which of the four subjects were enrolled. -/
def knAt (g : LedD) (l : List ActD) : Nat → List Bool
  | 0 => List.replicate 4 false
  | i + 1 => if stepE (histD g l i) (l.getD i default) = 0 ∧ (l.getD i default).kind % 4 = 0 then (knAt g l i).set ((l.getD i default).who % 4) true else knAt g l i
theorem knAt_length (g : LedD) (l : List ActD) : ∀ i, (knAt g l i).length = 4
  | 0 => by simp [knAt]
  | i + 1 => by
    unfold knAt
    split
    · rw [List.length_set]; exact knAt_length g l i
    · exact knAt_length g l i
theorem cert_at (a b : Nat) (l : List ActD) : ∀ i k, k < 4 → Cert (histD (startD a b) l i) (subjD k) ((knAt (startD a b) l i).getD k false)
  | 0, k, hk => by
    have : ∀ k : Fin 4, (List.replicate 4 false).getD k.1 false = false := by decide
    rw [knAt, this ⟨k, hk⟩]
    exact cert_start a b k
  | i + 1, k, hk => by
    have ih := cert_step (valid_hist a b l i) (l.getD i default) (cert_at a b l i k hk)
    rw [histD]
    have hl := knAt_length (startD a b) l i
    rw [show (knAt (startD a b) l (i + 1)).getD k false = ((knAt (startD a b) l i).getD k false || (decide (stepE (histD (startD a b) l i) (l.getD i default) = 0) && decide ((l.getD i default).kind % 4 = 0) && decide ((l.getD i default).who % 4 = k % 4))) by
      rw [knAt]
      by_cases h1 : stepE (histD (startD a b) l i) (l.getD i default) = 0 ∧ (l.getD i default).kind % 4 = 0
      · rw [if_pos h1]
        by_cases e : (l.getD i default).who % 4 = k
        · rw [← e, getD_set_self _ _ _ _ (by omega), h1.1, h1.2]
          simp
        · have : ¬ (l.getD i default).who % 4 = k % 4 := by omega
          rw [getD_set_ne _ _ _ _ _ e, decide_eq_false this, Bool.and_false, Bool.or_false]
      · rw [if_neg h1]
        have : (decide (stepE (histD (startD a b) l i) (l.getD i default) = 0) && decide ((l.getD i default).kind % 4 = 0)) = false := by
          rw [← Bool.decide_and]; exact decide_eq_false h1
        rw [this, Bool.false_and, Bool.or_false]]
    exact ih
/-! ### The shares that remain -/
theorem leftRow_filter (t : ByteArray) (r : List HeldD) : ∀ k, k ≤ r.length → leftRow t r k = (rowT t (r.take k)).map fun h => (h.x.toNat, h.b)
  | 0, _ => by simp [leftRow, rowT]
  | k + 1, hk => by
    have e : r.getD k default = r[k] := by rw [List.getD_eq_getElem?_getD, List.getElem?_eq_getElem (by omega)]; rfl
    rw [leftRow, leftRow_filter t r k (by omega), e, List.take_succ_eq_append_getElem (by omega), rowT_append, List.map_append]
    cases h : sEq r[k].subj t with
    | true => simp [rowT, h]
    | false => simp [rowT, h]
theorem leftAt_count {t : ByteArray} {ss : List (List HeldD)} (h : ∀ r ∈ prof t ss, r.length ≤ 1) : ∀ i, i ≤ ss.length → (leftAt t ss i).length = leftD t (ss.take i)
  | 0, _ => by simp [leftAt, leftD]
  | i + 1, hi => by
    have e : ss.getD i [] = ss[i] := by rw [List.getD_eq_getElem?_getD, List.getElem?_eq_getElem (by omega)]; rfl
    rw [leftAt, List.length_append, leftAt_count h i (by omega), e, leftD_take t ss i (by omega), leftRow_filter t _ _ (Nat.le_refl _), List.take_length, List.length_map, hasRow_T]
    congr 1
    have := h (rowT t ss[i]) (List.mem_map.2 ⟨_, List.getElem_mem (by omega), rfl⟩)
    cases hq : rowT t ss[i] with
    | nil => rfl
    | cons a l =>
      rw [hq] at this
      have h0 : l = [] := List.length_eq_zero_iff.1 (by simp at this; simpa using this)
      subst h0
      rfl
theorem leftL_count {g : LedD} {t : ByteArray} {kn : Bool} (h : Cert g t kn) : (leftL t g.shares).length = leftD t g.shares := by
  unfold leftL
  rw [leftAt_count h.one _ (Nat.le_refl _), List.take_length]
theorem first_subj {t : ByteArray} {l : List (ByteArray × Int)} {p : ByteArray × Int} (h : firstD t l = some p) : p.1 = t := sEq_eq (List.find?_some (p := fun q : ByteArray × Int => sEq q.1 t) h)
def enrollC (t : ByteArray) : Bool := !(sEq t ⟨#[]⟩) && !(decide (200 < (t.size : Int)))
theorem subj_size (k : Nat) : enrollC (subjD k) = true := by
  have : ∀ k : Fin 4, enrollC (subjD k.1) = true := by decide +kernel
  have := this ⟨k % 4, Nat.mod_lt _ (by omega)⟩
  rwa [subj_mod] at this
theorem cert_enroll {g : LedD} (hv : validB g = true) {k : Nat} (h : (firstD (subjD k) g.dones).isSome = true) : enrollE g (subjD k) = 351 := by
  have := subj_size k
  unfold enrollC at this
  unfold enrollE
  rw [hv, h]
  simp at this
  simp [firstErr, this]
theorem cert_key {g : LedD} (hv : validB g = true) {t : ByteArray} (h : (firstD t g.dones).isSome = true) (down : List Bool) : keyE g t down = 351 := by
  have : keyC g t = 351 := by
    unfold keyC
    rw [hv, h]
    simp [firstErr]
  unfold keyE
  rw [this]; rfl
end Go.Proofs.YtpbgipdkaaooeaaGreatDoor
