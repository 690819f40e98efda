/- ForgetKeys: its keys and flags along a history; what lies in memory for them. -/
import Derived.Test.YtpbgipdkaaooeaaGreatDoorPC
open Go Go.Proofs Go.RowKit
namespace Go.Proofs.YtpbgipdkaaooeaaGreatDoor
set_option linter.unusedSimpArgs false
set_option linter.unusedVariables false

/-- The keys and the flags after a step. -/
def kstep (p : List (List Int) × List Bool) (x : ActD) (e : Int) : List (List Int) × List Bool :=
  if e = 0 ∧ x.kind % 4 = 0 then (p.1.set (x.who % 4) (key32D x.seed), p.2.set (x.who % 4) true)
  else if e = 0 ∧ x.kind % 4 = 3 then (p.1, p.2.set (x.who % 4) false) else p
def kAt (g : LedD) (l : List ActD) : Nat → List (List Int) × List Bool
  | 0 => (List.replicate 4 (List.replicate 32 0), List.replicate 4 false)
  | i + 1 => kstep (kAt g l i) (l.getD i default) (stepE (histD g l i) (l.getD i default))
structure Keys4 (p : List (List Int) × List Bool) : Prop where
  len : p.1.length = 4
  each : ∀ k ∈ p.1, k.length = 32
  flags : p.2.length = 4
theorem keys4_at (g : LedD) (l : List ActD) : ∀ i, Keys4 (kAt g l i)
  | 0 => ⟨by simp [kAt], fun k hk => by rw [kAt] at hk; rw [List.eq_of_mem_replicate hk]; simp, by simp [kAt]⟩
  | i + 1 => by
    obtain ⟨h1, h2, h3⟩ := keys4_at g l i
    unfold kAt kstep
    split
    · refine ⟨by simpa using h1, fun k hk => ?_, by simpa using h3⟩
      rcases List.mem_or_eq_of_mem_set hk with hk | rfl
      · exact h2 k hk
      · exact key32D_length _
    · split
      · exact ⟨h1, h2, by simpa using h3⟩
      · exact ⟨h1, h2, h3⟩
theorem getD_set_self {α : Type} (l : List α) (i : Nat) (x d : α) (h : i < l.length) : (l.set i x).getD i d = x := by
  rw [List.getD_eq_getElem?_getD, List.getElem?_set_self h]; rfl
theorem getD_set_ne {α : Type} (l : List α) (i j : Nat) (x d : α) (h : i ≠ j) : (l.set i x).getD j d = l.getD j d := by
  rw [List.getD_eq_getElem?_getD, List.getElem?_set_ne h, ← List.getD_eq_getElem?_getD]
theorem whole_at (a b : Nat) (l : List ActD) (hb : ∀ x ∈ l, Bytes x.seed) : ∀ i, i ≤ l.length → ∀ k, k < 4 → (kAt (startD a b) l i).2.getD k false = true → Whole (histD (startD a b) l i) (subjD k) ((kAt (startD a b) l i).1.getD k [])
  | 0, _, k, hk, h => by
    rw [kAt] at h
    have : ∀ k : Fin 4, (List.replicate 4 false).getD k.1 false = false := by decide
    rw [this ⟨k, hk⟩] at h
    exact absurd h (by decide)
  | i + 1, hi, k, hk, h => by
    have ih := whole_at a b l hb i (by omega) k hk
    have hx : l.getD i default ∈ l := by rw [List.getD_eq_getElem?_getD, List.getElem?_eq_getElem (by omega)]; exact List.getElem_mem _
    have hv := valid_hist a b l i
    have hbx := hb _ hx
    obtain ⟨h1, h2, h3⟩ := keys4_at (startD a b) l i
    rw [kAt] at h ⊢
    rw [histD]
    generalize l.getD i default = x at *
    generalize histD (startD a b) l i = g at *
    generalize kAt (startD a b) l i = p at *
    unfold kstep at h ⊢
    by_cases he : stepE g x = 0 ∧ x.kind % 4 = 0
    · rw [if_pos he] at h ⊢
      simp only at h ⊢
      by_cases e : x.who % 4 = k
      · subst e
        rw [getD_set_self _ _ _ _ (by omega), subj_mod]
        exact whole_new hv hbx he.1 he.2
      · rw [getD_set_ne _ _ _ _ _ e] at h ⊢
        exact whole_keep hv (ih h) (fun h => e (by have := h.1; omega))
    · rw [if_neg he] at h ⊢
      by_cases he2 : stepE g x = 0 ∧ x.kind % 4 = 3
      · rw [if_pos he2] at h ⊢
        simp only at h ⊢
        by_cases e : x.who % 4 = k
        · subst e
          rw [getD_set_self _ _ _ _ (by omega)] at h
          exact absurd h (by decide)
        · rw [getD_set_ne _ _ _ _ _ e] at h
          exact whole_keep hv (ih h) (fun h => e (by have := h.1; omega))
      · rw [if_neg he2] at h ⊢
        refine whole_keep hv (ih h) (fun h => ?_)
        rcases h.2.2 with h3 | h3
        · exact he ⟨h.2.1, h3⟩
        · exact he2 ⟨h.2.1, h3⟩

/-- No share is long. -/
def ByLe (g : LedD) : Prop := ∀ r ∈ g.shares, ∀ s ∈ r, s.b.length ≤ 4096
theorem by_do {g : LedD} (hv : validB g = true) (h : ByLe g) (x : ActD) : ByLe (doD g x) := by
  rcases step_is g hv x with ⟨e, -⟩ | ⟨h0, hk, hd, hl, hn⟩ | ⟨-, l, m, hd⟩ | ⟨h0, hk, i, hi, -, hd⟩
  · rw [e]; exact h
  · rw [hd]
    intro r hr s hs
    unfold enrAt at hr
    simp only [List.mem_mapIdx] at hr
    obtain ⟨j, hj, rfl⟩ := hr
    rw [if_pos hj] at hs
    rcases List.mem_append.1 hs with hs | hs
    · exact h _ (List.getElem_mem hj) s hs
    · rw [List.mem_singleton] at hs
      subst hs
      simp only [enrHeld, maskedD_length, key32D_length]
      omega
  · rw [hd]; exact h
  · have hc : ByLe (giveCut g i (subjD x.who)) := fun r hr s hs => by
      unfold giveCut at hr
      rcases List.mem_or_eq_of_mem_set hr with hr | rfl
      · exact h r hr s hs
      · have hs := (List.mem_filter.1 hs).1
        rw [List.getD_eq_getElem?_getD, List.getElem?_eq_getElem hi] at hs
        exact h _ (List.getElem_mem hi) s hs
    rw [hd]
    split
    · exact hc
    · exact hc
theorem by_hist (a b : Nat) (l : List ActD) : ∀ i, ByLe (histD (startD a b) l i)
  | 0 => by
    rw [histD, start_parts]
    intro r hr s hs
    rw [List.eq_of_mem_replicate hr] at hs
    simp at hs
  | i + 1 => by_do (valid_hist a b l i) (by_hist a b l i) _
theorem bools5 {w : World} {k : Nat} {d0 d1 d2 d3 d4 : Bool} (hk : k < w.heap.size) (h : ∀ i, w.cell? ⟨k, i, none⟩ = #[.bool d0, .bool d1, .bool d2, .bool d3, .bool d4][i]?) : BoolsR w (.slice (some ⟨k, 0, none⟩) 5 5) [d0, d1, d2, d3, d4] :=
  ⟨by simp, _, _, rfl, Nat.le_refl _, by unfold maxLen; omega, fun _ => ⟨k, 0, rfl, hk, fun j hj => by rw [Nat.zero_add, h]; simp⟩⟩
/-! ### In memory -/
def keysC (ks : List (List Int)) : Array Value := (ks.flatMap fun k => k.map (Value.int .u8)).toArray
def whC (wh : List Bool) : Array Value := (wh.map Value.bool).toArray
theorem keysC_at : ∀ (ks : List (List Int)), (∀ k ∈ ks, k.length = 32) → ∀ (k j : Nat), k < ks.length → j < 32 → (ks.flatMap fun k => k.map (Value.int .u8))[k * 32 + j]? = ((ks.getD k []).map (Value.int .u8))[j]?
  | [], _, k, j, hk, _ => by simp at hk
  | a :: ks, h, 0, j, _, hj => by
    have ha := h a (by simp)
    rw [List.flatMap_cons, List.getElem?_append_left (by simp; omega)]
    simp
  | a :: ks, h, k + 1, j, hk, hj => by
    have ha := h a (by simp)
    rw [List.flatMap_cons, List.getElem?_append_right (by simp; omega)]
    have ih := keysC_at ks (fun x hx => h x (by simp [hx])) k j (by simpa using hk) hj
    rw [show (k + 1) * 32 + j - (a.map (Value.int .u8)).length = k * 32 + j by simp; omega, ih]
    simp
theorem keysC_len : ∀ (ks : List (List Int)), (∀ k ∈ ks, k.length = 32) → (ks.flatMap fun k => k.map (Value.int .u8)).length = ks.length * 32
  | [], _ => rfl
  | a :: ks, h => by
    have ha := h a (by simp)
    rw [List.flatMap_cons, List.length_append, keysC_len ks (fun x hx => h x (by simp [hx])), List.length_map, ha, List.length_cons]
    omega
theorem keysC_set : ∀ (ks : List (List Int)), (∀ k ∈ ks, k.length = 32) → ∀ (k : Nat) (kb : List Int), k < ks.length → kb.length = 32 →
    ((ks.set k kb).flatMap fun k => k.map (Value.int .u8)) = (ks.flatMap fun k => k.map (Value.int .u8)).take (k * 32) ++ (kb.map (Value.int .u8) ++ (ks.flatMap fun k => k.map (Value.int .u8)).drop (k * 32 + 32))
  | [], _, k, kb, hk, _ => by simp at hk
  | a :: ks, h, 0, kb, _, hl => by
    have ha := h a (by simp)
    rw [List.set_cons_zero, List.flatMap_cons, List.flatMap_cons, Nat.zero_mul, List.take_zero, List.nil_append, Nat.zero_add, List.drop_append, List.drop_of_length_le (by simp [ha])]
    simp [ha]
  | a :: ks, h, k + 1, kb, hk, hl => by
    have ha := h a (by simp)
    have ih := keysC_set ks (fun x hx => h x (by simp [hx])) k kb (by simpa using hk) hl
    rw [List.set_cons_succ, List.flatMap_cons, List.flatMap_cons, ih]
    have hA : (a.map (Value.int .u8)).length = 32 := by simp [ha]
    generalize a.map (Value.int .u8) = A at *
    generalize (ks.flatMap fun k => k.map (Value.int .u8)) = R at *
    have e1 : (A ++ R).take ((k + 1) * 32) = A ++ R.take (k * 32) := by
      rw [List.take_append, List.take_of_length_le (l := A) (by omega), show (k + 1) * 32 - A.length = k * 32 by omega]
    have e2 : (A ++ R).drop ((k + 1) * 32 + 32) = R.drop (k * 32 + 32) := by
      rw [List.drop_append, List.drop_of_length_le (l := A) (by omega), show (k + 1) * 32 + 32 - A.length = k * 32 + 32 by omega, List.nil_append]
    rw [e1, e2, List.append_assoc]
theorem sets_cells {g : Nat} {e : TypeId} : ∀ (vs : List Value) (o : Nat) (W : World) (cur : Array Value), W.heap[g]? = some (.cells cur e (0, 0)) → o + vs.length ≤ cur.size →
    (W.setCells g o vs).heap[g]? = some (.cells (cur.toList.take o ++ (vs ++ cur.toList.drop (o + vs.length))).toArray e (0, 0))
  | [], o, W, cur, h, _ => by
    show W.heap[g]? = _
    rw [h]; simp
  | u :: r, o, W, cur, h, hl => by
    have := sets_cells r (o + 1) (W.setCell ⟨g, o, none⟩ u) _ (blk_set h o u) (by simp at hl ⊢; omega)
    refine this.trans ?_
    simp only [List.length_cons] at hl
    congr 3
    simp only [Array.toList_setIfInBounds, List.length_cons]
    rw [List.take_set, List.take_succ_eq_append_getElem (by simp; omega), List.set_append_right _ _ (by simp; omega)]
    rw [List.drop_set_of_lt (by omega)]
    simp only [List.length_take, Array.length_toList, show min o cur.size = o by omega, Nat.sub_self, List.set_cons_zero, List.append_assoc, List.singleton_append, List.cons_append]
    rw [show o + 1 + r.length = o + (r.length + 1) by omega, List.nil_append]
theorem below_sets {w wr : World} {k g : Nat} (h : Below k w wr) (hg : k ≤ g) : ∀ (vs : List Value) (o : Nat) (W : World), Below k w W → Below k w (W.setCells g o vs)
  | [], _, W, hW => hW
  | u :: r, o, W, hW => below_sets h hg r (o + 1) _ (hW.setCell hg u)
theorem sets_other {g k : Nat} (hne : k ≠ g) : ∀ (vs : List Value) (o : Nat) (W : World), (W.setCells g o vs).heap[k]? = W.heap[k]?
  | [], _, _ => rfl
  | u :: r, o, W => (sets_other hne r (o + 1) _).trans (Below.heap_setCell W ⟨g, o, none⟩ u k hne)
end Go.Proofs.YtpbgipdkaaooeaaGreatDoor
