/- forget.Enroll: what it computes, and the laws of its worlds. -/
import Derived.Test.YtpbgipdkaaooeaaGreatDoorV
open Go Go.Proofs Go.RowKit
namespace Go.Proofs.YtpbgipdkaaooeaaGreatDoor
set_option linter.unusedSimpArgs false
set_option linter.unusedVariables false

/-- The share of owner i. -/
def enrHeld (t : ByteArray) (kb r : List Int) (nm i : Nat) : HeldD := ⟨t, ((i + 1 : Nat) : Int), maskedD kb r nm (i + 1)⟩
/-- The ledger after j owners have got theirs. -/
def enrAt (g : LedD) (t : ByteArray) (kb r : List Int) (nm j : Nat) : LedD := { g with shares := g.shares.mapIdx fun i row => if i < j then row ++ [enrHeld t kb r nm i] else row }
def enrollE (g : LedD) (t : ByteArray) : Int := firstErr [(!validB g || (sEq t ⟨#[]⟩ || decide (200 < (t.size : Int))), 1), ((firstD t g.dones).isSome || (firstD t g.demands).isSome, 351), (decide (0 < leftD t g.shares), 240)]
def enrollD (g : LedD) (t : ByteArray) (kb r : List Int) : LedD := if enrollE g t = 0 then enrAt g t kb r (g.need.toNat - 1) g.shares.length else zeroLed

theorem sEq_empty (t : ByteArray) : t.toList.isEmpty = sEq t ⟨#[]⟩ := by
  have h : (⟨#[]⟩ : ByteArray).toList = [] := by decide +kernel
  unfold sEq
  rw [h]
  cases t.toList <;> rfl
theorem enrAt_zero (g : LedD) (t : ByteArray) (kb r : List Int) (nm : Nat) : enrAt g t kb r nm 0 = g := by
  unfold enrAt
  have : (g.shares.mapIdx fun i row => if i < 0 then row ++ [enrHeld t kb r nm i] else row) = g.shares := by
    apply List.ext_getElem
    · simp
    · intro i h1 h2; simp
  rw [this]
theorem enrAt_length (g : LedD) (t : ByteArray) (kb r : List Int) (nm j : Nat) : (enrAt g t kb r nm j).shares.length = g.shares.length := by simp [enrAt]
theorem enrAt_at (g : LedD) (t : ByteArray) (kb r : List Int) (nm j i : Nat) (h : i < g.shares.length) : (enrAt g t kb r nm j).shares[i]'(by rw [enrAt_length]; exact h) = if i < j then g.shares[i] ++ [enrHeld t kb r nm i] else g.shares[i] := by
  simp [enrAt, List.getElem_mapIdx]
theorem enrAt_step (g : LedD) (t : ByteArray) (kb r : List Int) (nm j : Nat) (h : j < g.shares.length) : enrAt g t kb r nm (j + 1) = { enrAt g t kb r nm j with shares := (enrAt g t kb r nm j).shares.set j ((enrAt g t kb r nm j).shares[j]'(by rw [enrAt_length]; exact h) ++ [enrHeld t kb r nm j]) } := by
  have e : (enrAt g t kb r nm (j + 1)).shares = (enrAt g t kb r nm j).shares.set j ((enrAt g t kb r nm j).shares[j]'(by rw [enrAt_length]; exact h) ++ [enrHeld t kb r nm j]) := by
    apply List.ext_getElem
    · simp [enrAt]
    · intro i h1 h2
      rw [enrAt_length] at h1
      rw [enrAt_at _ _ _ _ _ _ _ h1, List.getElem_set]
      by_cases hij : j = i
      · subst hij
        rw [if_pos (by omega), if_pos rfl, enrAt_at _ _ _ _ _ _ _ h1, if_neg (by omega)]
      · rw [if_neg hij, enrAt_at _ _ _ _ _ _ _ h1]
        have : (i < j + 1) ↔ (i < j) := by omega
        simp only [this]
  exact congrArg (fun s => ({ g with shares := s } : LedD)) e

theorem heldsAre_snoc {w : World} {ps : List (ByteArray × Int × Value)} {l : List HeldD} (h : HeldsAre w ps l) {p : ByteArray × Int × Value} {x : HeldD} (hx : HeldIs w p x) : HeldsAre w (ps ++ [p]) (l ++ [x]) := by
  induction h with
  | nil => exact .cons hx .nil
  | cons h1 _ ih => exact .cons h1 ih
theorem heldCells_snoc (ps : List (ByteArray × Int × Value)) (p : ByteArray × Int × Value) : heldCells (ps ++ [p]) = heldCells ps ++ [.string p.1, .int .u8 p.2.1, p.2.2] := by simp [heldCells]

/-- One owner's row grew by one share, and the slice was put back. -/
theorem OwnLed.grow {w w' : World} {A B : Nat} {v3 v4 v5 v' : Value} {vs : List Value} {pss : List (List (ByteArray × Int × Value))} {g : LedD} {g2 k2 : Nat} {i : Nat} (h : OwnLed w A B (.slice (some ⟨g2, 0, none⟩) vs.length k2) v3 v4 v5 vs pss g) (hi : i < vs.length) (hi2 : i < g.shares.length)
    {p : ByteArray × Int × Value} {x : HeldD} (hp : ∀ w2, Keeps5 w w2 → HeldIs w2 p x)
    (ho : w'.ownsRow B 90 3 v' ((pss.getD i []).length + 1) (heldCells (pss.getD i []) ++ [.string p.1, .int .u8 p.2.1, p.2.2])) (hg : w.grownBy w' vs[i].ownBlock) (hb : v'.ownBlock = vs[i].ownBlock ∨ v'.ownBlock = some w.heap.size) :
    ∃ pss', OwnLed (w'.setCell ⟨g2, i, none⟩ v') A B (.slice (some ⟨g2, 0, none⟩) vs.length k2) v3 v4 v5 (vs.set i v') pss' { g with shares := g.shares.set i (g.shares[i] ++ [x]) } := by
  have o2 := (h.o2.kept hg (apart_types h.o2 (h.rows i hi) (by decide)))
  have h2 : ∃ cur, w'.heap[g2]? = some (.cells cur 88 (0, 0)) ∧ B ≤ g2 := by
    rcases o2.2 with ⟨h0, _⟩ | ⟨g', cap', cur, hv, hbg, hh, _⟩
    · simp at h0
    · simp only [Value.slice.injEq, Option.some.injEq, Addr.mk.injEq, and_true, true_and] at hv
      obtain ⟨rfl, rfl⟩ := hv
      exact ⟨_, hh, hbg⟩
  obtain ⟨cur2, hblk, hB2⟩ := h2
  have S := o2.stored i v'
  have O3 := h.o3.kept hg (apart_types h.o3 (h.rows i hi) (by decide))
  have O4 := h.o4.kept hg (apart_types h.o4 (h.rows i hi) (by decide))
  have O5 := h.o5.kept hg (apart_types h.o5 (h.rows i hi) (by decide))
  refine ⟨(List.range vs.length).map fun j => if j = i then pss.getD i [] ++ [p] else pss.getD j [], ?_⟩
  have hpss : ∀ j, j < vs.length → ((List.range vs.length).map fun j => if j = i then pss.getD i [] ++ [p] else pss.getD j []).getD j [] = if j = i then pss.getD i [] ++ [p] else pss.getD j [] := by
    intro j hj
    rw [List.getD_eq_getElem?_getD, List.getElem?_map, List.getElem?_range hj]
    rfl
  have hbel : Below A w (w'.setCell ⟨g2, i, none⟩ v') := (Below.grown (Below.refl _ _) hg (Nat.le_trans h.low h.base) fun k hk => Nat.le_trans h.low ((h.rows i hi).lt k hk).1).setCell (Nat.le_trans h.low hB2) _
  have hk5 : Keeps5 w (w'.setCell ⟨g2, i, none⟩ v') := (Keeps5.grown (h.rows i hi) hg (by decide)).trans (Keeps5.set hblk (by decide) i v')
  have hll := h.len
  refine ⟨?_, ownsRow_setCell_other O3 (owns_ne_type O3 hblk (by decide)) _, ownsRow_setCell_other O4 (owns_ne_type O4 hblk (by decide)) _, ownsRow_setCell_other O5 (owns_ne_type O5 hblk (by decide)) _, h.ap, by simpa using h.len, ?_, by simpa using Nat.le_trans h.base hg.size, h.low, ?_, ?_⟩
  · rw [List.length_set]; exact S.1
  · intro j hj
    have hj' : j < vs.length := by simpa using hj
    rw [hpss j hj']
    by_cases hji : i = j
    · subst hji
      simp only [List.getElem_set_self, if_true]
      rw [heldCells_snoc, List.length_append, List.length_singleton]
      exact ownsRow_setCell_other ho (owns_ne_type ho hblk (by decide)) _
    · rw [List.getElem_set_ne hji, if_neg (fun h => hji h.symm)]
      have hr := (h.rows j hj').kept hg (h.apart j i hj' hi (fun h => hji h.symm))
      exact ownsRow_setCell_other hr (owns_ne_type hr hblk (by decide)) _
  · intro w2 hw2 kw2 j hj
    have hj' : j < g.shares.length := by simpa using hj
    have hjv : j < vs.length := by omega
    rw [hpss j hjv]
    by_cases hji : i = j
    · subst hji
      simp only [List.getElem_set_self, if_true]
      exact heldsAre_snoc (h.are w2 (hbel.trans hw2) (hk5.trans kw2) i hj') (hp w2 (hk5.trans kw2))
    · simp only [List.getElem_set_ne hji]
      rw [if_neg (fun h => hji h.symm)]
      exact h.are w2 (hbel.trans hw2) (hk5.trans kw2) j hj'
  · intro a b ha hb' hab
    have ha' : a < vs.length := by simpa using ha
    have hb2 : b < vs.length := by simpa using hb'
    have hap := h.apart a b ha' hb2 hab
    by_cases h1 : i = a
    · subst h1
      have h2 : i ≠ b := hab
      rw [List.getElem_set_ne h2]
      simp only [List.getElem_set_self]
      rcases hb with e | e
      · unfold Apart; rw [e]; exact hap
      · refine .inr ?_
        rw [e]; intro hh
        have := ((h.rows b hb2).lt _ hh.symm).2
        omega
    · rw [List.getElem_set_ne h1]
      by_cases h2 : i = b
      · subst h2
        simp only [List.getElem_set_self]
        rcases hb with e | e
        · unfold Apart; rw [e]; exact hap
        · unfold Apart
          cases hv : vs[a].ownBlock with
          | none => exact .inl rfl
          | some q =>
            refine .inr fun hh => ?_
            rw [e] at hh
            have := ((h.rows a ha').lt q hv).2
            cases hh
            omega
      · rw [List.getElem_set_ne h2]; exact hap

/-- Split's shares stand where only other rows and new memory turned. -/
theorem SplitInv.keep {w wr w' : World} {k K : Nat} {bs r : List Int} {nm n j : Nat} {qs : List (Int × Value)} (h : SplitInv w k K bs r nm n j qs wr) (hb : Below w.heap.size w w')
    (hk : ∀ (q : Nat) (c : Array Value) (t : TypeId), wr.heap[q]? = some (Obj.cells c t (0, 0)) → t = 176 ∨ t = 81 ∨ t = 5 → w'.heap[q]? = some (Obj.cells c t (0, 0))) : SplitInv w k K bs r nm n j qs w' := by
  have own : ∀ {base e sz m : Nat} {v : Value} {xs : List Value}, wr.ownsRow base e sz v m xs → e = 176 ∨ e = 81 ∨ e = 5 → w'.ownsRow base e sz v m xs := by
    intro base e sz m v xs ho he
    refine ⟨ho.1, ?_⟩
    rcases ho.2 with h0 | ⟨g, cap, cur, hv, hg, hh, r⟩
    · exact .inl h0
    · exact .inr ⟨g, cap, cur, hv, hg, hk g cur e hh he, r⟩
  exact ⟨hb, hk k _ 176 h.tab (.inl rfl), own h.own (.inr (.inl rfl)), h.len, fun i hi hij => ⟨(h.made i hi hij).1, own (h.made i hi hij).2 (.inr (.inr rfl))⟩⟩

/-- Enroll's loop after j owners. -/
structure EnrInv (A : Nat) (w wS : World) (c1 c2 c3 full : Array Value) (B k K k12 g2 n2 k2 : Nat) (v3 v4 v5 : Value) (g : LedD) (t : ByteArray) (kb r : List Int) (nm n : Nat) (qs : List (Int × Value)) (j : Nat) (vs : List Value) (pss : List (List (ByteArray × Int × Value))) (wr : World) : Prop where
  three : ThreeBox w c1 c2 c3 26 39 26 wr
  split : SplitInv wS k K kb r nm n n qs wr
  box : wr.heap[k12]? = some (.cells full 26 (0, 0))
  len : vs.length = n2
  led : OwnLed wr A B (.slice (some ⟨g2, 0, none⟩) vs.length k2) v3 v4 v5 vs pss (enrAt g t kb r nm j)

theorem EnrInv.later {A : Nat} {w wS wr w' : World} {c1 c2 c3 full : Array Value} {B k K k12 g2 n2 k2 : Nat} {v3 v4 v5 : Value} {g : LedD} {t : ByteArray} {kb r : List Int} {nm n : Nat} {qs : List (Int × Value)} {j : Nat} {vs : List Value} {pss : List (List (ByteArray × Int × Value))}
    (h : EnrInv A w wS c1 c2 c3 full B k K k12 g2 n2 k2 v3 v4 v5 g t kb r nm n qs j vs pss wr) (hb : Below wr.heap.size wr w') : EnrInv A w wS c1 c2 c3 full B k K k12 g2 n2 k2 v3 v4 v5 g t kb r nm n qs j vs pss w' :=
  ⟨h.three.later hb, h.split.keep (below_step h.split.below hb) (fun q c t hq _ => blk_later hq hb), blk_later h.box hb, h.len, h.led.later hb⟩

theorem EnrInv.step {A : Nat} {w wS wr w' : World} {c1 c2 c3 full : Array Value} {B k K k12 g2 n2 k2 : Nat} {v3 v4 v5 v' : Value} {g : LedD} {t : ByteArray} {kb r : List Int} {nm n : Nat} {qs : List (Int × Value)} {j : Nat} {vs : List Value} {pss : List (List (ByteArray × Int × Value))}
    (h : EnrInv A w wS c1 c2 c3 full B k K k12 g2 n2 k2 v3 v4 v5 g t kb r nm n qs j vs pss wr) (hkl : kb.length = 32) (hby : ∀ x ∈ maskedD kb r nm (j + 1), 0 ≤ x ∧ x ≤ 255) (hw : w.heap.size + 1 + 1 < B) (hwS : wS.heap.size ≤ B) (hj : j < vs.length) (hj2 : j < g.shares.length) (hjq : j < qs.length) (hjn : j < n) (hn : n ≤ 255)
    (ho : w'.ownsRow B 90 3 v' ((pss.getD j []).length + 1) (heldCells (pss.getD j []) ++ [.string t, .int .u8 ((j : Int) + 1), qs[j].2])) (hg : wr.grownBy w' vs[j].ownBlock) (hb : v'.ownBlock = vs[j].ownBlock ∨ v'.ownBlock = some wr.heap.size) :
    (w'.cell? ⟨g2, j, none⟩ = some vs[j] ∧ w'.frozen? ⟨g2, j, none⟩ = false) ∧ (∀ (q : Nat) (c : Array Value) (ty : TypeId), wr.heap[q]? = some (Obj.cells c ty (0, 0)) → ty ≠ 90 → w'.heap[q]? = some (Obj.cells c ty (0, 0))) ∧
    ∃ pss', EnrInv A w wS c1 c2 c3 full B k K k12 g2 n2 k2 v3 v4 v5 g t kb r nm n qs (j + 1) (vs.set j v') pss' (w'.setCell ⟨g2, j, none⟩ v') := by
  have ecast : ((j + 1 : Nat) : Int) = (j : Int) + 1 := by omega
  rw [← ecast] at ho
  have hrow := h.led.rows j hj
  have o2 := h.led.o2.kept hg (apart_types h.led.o2 hrow (by decide))
  have hB2 : B ≤ g2 := (h.led.o2.lt g2 rfl).1
  obtain ⟨cur2, hcur2⟩ : ∃ cur, w'.heap[g2]? = some (.cells cur 88 (0, 0)) := by
    rcases o2.2 with ⟨h0, _⟩ | ⟨g', cap', cur, hv, hbg, hh, _⟩
    · simp at h0
    · simp only [Value.slice.injEq, Option.some.injEq, Addr.mk.injEq, and_true, true_and] at hv
      obtain ⟨rfl, rfl⟩ := hv
      exact ⟨_, hh⟩
  have hgrow : ∀ (q : Nat) (c : Array Value) (ty : TypeId), wr.heap[q]? = some (.cells c ty (0, 0)) → ty ≠ 90 → w'.heap[q]? = some (.cells c ty (0, 0)) := fun q c ty hq hne => by
    refine (hg.block q (lt_of_blk hq) ?_).trans hq
    intro hh
    exact owns_ne_type hrow hq (Ne.symm hne) hh.symm
  have hset : ∀ (q : Nat) (c : Array Value) (ty : TypeId), wr.heap[q]? = some (.cells c ty (0, 0)) → ty ≠ 90 → ty ≠ 88 → (w'.setCell ⟨g2, j, none⟩ v').heap[q]? = some (.cells c ty (0, 0)) := fun q c ty hq h1 h2 => by
    have h3 := hgrow q c ty hq h1
    refine (Below.heap_setCell _ _ _ _ ?_).trans h3
    rintro rfl
    rw [hcur2] at h3
    simp at h3
    exact h2 h3.2.symm
  have hm := h.split.made j hjq hjn
  obtain ⟨pss', hO⟩ := h.led.grow hj (by rw [enrAt_length]; exact hj2) (p := (t, ((j + 1 : Nat) : Int), qs[j].2)) (x := enrHeld t kb r nm j) (fun w2 k2 => by
    refine ⟨rfl, rfl, ⟨by simp [enrHeld]; omega, by simp [enrHeld]; omega⟩, ?_, hby⟩
    have hr : w2.ownsRow wS.heap.size 5 1 qs[j].2 kb.length ((maskedD kb r nm (j + 1)).map (Value.int .u8)) := by
      refine ⟨hm.2.1, ?_⟩
      rcases hm.2.2 with h0 | ⟨g', cap, cur, hv, hbg, hh, rr⟩
      · exact .inl h0
      · exact .inr ⟨g', cap, cur, hv, hbg, k2 g' cur hh, rr⟩
    show RowR w2 qs[j].2 1 _ (maskedD kb r nm (j + 1)).length
    rw [maskedD_length]
    exact RowR.of_owns hr) ho hg hb
  refine ⟨⟨by rw [o2.cellAt j (by omega), List.getElem?_eq_getElem hj], o2.frozenAt j⟩, hgrow, pss', ?_⟩
  refine ⟨(h.three.kept hg (fun q hq => by have := (hrow.lt q hq).1; omega)).setOther (by omega) _ _, h.split.keep ?_ (fun q c ty hq hty => hset q c ty hq (by rcases hty with rfl | rfl | rfl <;> decide) (by rcases hty with rfl | rfl | rfl <;> decide)), hset k12 full 26 h.box (by decide) (by decide), by simpa using h.len, ?_⟩
  · exact (Below.grown h.split.below hg h.split.below.size (fun q hq => Nat.le_trans hwS (hrow.lt q hq).1)).setCell (Nat.le_trans hwS hB2) _
  · rw [enrAt_step _ _ _ _ _ _ hj2, List.length_set]
    exact hO
/-- The share that append hands over lies in a new box. -/
theorem triple_laid (w : World) (a b c : Value) (t : TypeId) (k : Nat) (hk : k = w.heap.size) : ∀ j u, [a, b, c][j]? = some u → (w.alloc (.cells #[a, b, c] t)).cell? ((⟨k, 0, none⟩ : Addr).add j) = some u := by
  subst hk
  intro j u hj
  match j, hj with
  | 0, hj => simp at hj; subst hj; simp [Addr.add]
  | 1, hj => simp at hj; subst hj; simp [Addr.add]
  | 2, hj => simp at hj; subst hj; simp [Addr.add]
end Go.Proofs.YtpbgipdkaaooeaaGreatDoor
