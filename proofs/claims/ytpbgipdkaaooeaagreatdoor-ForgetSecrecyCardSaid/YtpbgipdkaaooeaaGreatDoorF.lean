/- forget.clone: a ledger's copy, all in new memory. -/
import Derived.Test.YtpbgipdkaaooeaaGreatDoorE
import Derived.Deep.DeepCutAuto
import Derived.Deep.RegionWith
import Derived.Deep.RegionHeld3
import Derived.Deep.RegionLaw
import Derived.Deep.DrawnRows
open Go Go.Proofs Go.RowKit
namespace Go.Proofs.YtpbgipdkaaooeaaGreatDoor
set_option linter.unusedSimpArgs false
set_option linter.unusedVariables false
attribute [local go_sem ↓] Go.wp_at_zero Go.wp_at_succ

theorem pair_one (l : List (ByteArray × Int)) : ∀ u ∈ pairCells l, u.oneCell' = true := by
  unfold pairCells
  intro u hu
  obtain ⟨p, _, hp⟩ := List.mem_flatMap.1 hu
  simp at hp
  rcases hp with rfl | rfl <;> rfl

theorem slice_of_owns {w : World} {base e sz n : Nat} {v : Value} {xs : List Value} (h : w.ownsRow base e sz v n xs) : ∃ ao cap, v = .slice ao n cap := by
  rcases h.2 with ⟨rfl, rfl⟩ | ⟨g, cap, cur, rfl, _⟩
  · exact ⟨_, _, rfl⟩
  · exact ⟨_, _, rfl⟩
theorem owns_later {w w' : World} {base e sz n : Nat} {v : Value} {xs : List Value} (h : w.ownsRow base e sz v n xs) (hb : Below w.heap.size w w') : w'.ownsRow base e sz v n xs := by
  refine ⟨h.1, ?_⟩
  rcases h.2 with h2 | ⟨g, cap, cur, hv, hg, hh, r⟩
  · exact .inl h2
  · exact .inr ⟨g, cap, cur, hv, hg, (hb.block g (Array.getElem?_eq_some_iff.1 hh).1).trans hh, r⟩
theorem owns_base {w : World} {base base' e sz n : Nat} {v : Value} {xs : List Value} (h : w.ownsRow base e sz v n xs) (hb : base' ≤ base) : w.ownsRow base' e sz v n xs := by
  refine ⟨h.1, ?_⟩
  rcases h.2 with h2 | ⟨g, cap, cur, hv, hg, r⟩
  · exact .inl h2
  · exact .inr ⟨g, cap, cur, hv, Nat.le_trans hb hg, r⟩
/-- Two slices that share no block. -/
def Apart (v v' : Value) : Prop := v.ownBlock = none ∨ v.ownBlock ≠ v'.ownBlock
theorem apart_old_new {w w' : World} {b e sz n : Nat} {v : Value} {xs : List Value} {e' sz' n' : Nat} {v' : Value} {xs' : List Value}
    (h : w.ownsRow b e sz v n xs) (h' : w'.ownsRow w.heap.size e' sz' v' n' xs') : Apart v v' := by
  unfold Apart
  cases hv : v.ownBlock with
  | none => exact .inl rfl
  | some k =>
    refine .inr fun hh => ?_
    have h1 := (h.lt k hv).2
    have h2 := (h'.lt k hh.symm).1
    omega
theorem apart_new_old {w w' : World} {b e sz n : Nat} {v : Value} {xs : List Value} {e' sz' n' : Nat} {v' : Value} {xs' : List Value}
    (h : w.ownsRow b e sz v n xs) (h' : w'.ownsRow w.heap.size e' sz' v' n' xs') : Apart v' v := by
  unfold Apart
  cases hv : v'.ownBlock with
  | none => exact .inl rfl
  | some k =>
    refine .inr fun hh => ?_
    have h1 := (h.lt k hh.symm).2
    have h2 := (h'.lt k hv).1
    omega

/-- Two boxes that a call has laid first stand as they were laid, and nothing old has turned. -/
structure TwoBox (w : World) (c1 c2 : Array Value) (t1 t2 : TypeId) (wx : World) : Prop where
  below : Below w.heap.size w wx
  one : wx.heap[w.heap.size]? = some (.cells c1 t1 (0, 0))
  two : wx.heap[w.heap.size + 1]? = some (.cells c2 t2 (0, 0))
theorem lt_of_blk {w : World} {k : Nat} {o : Obj} (h : w.heap[k]? = some o) : k < w.heap.size := (Array.getElem?_eq_some_iff.1 h).1
theorem blk_later {w w' : World} {k : Nat} {o : Obj} (h : w.heap[k]? = some o) (hb : Below w.heap.size w w') : w'.heap[k]? = some o := (hb.block k (lt_of_blk h)).trans h
theorem blk_cells {w : World} {k : Nat} {c : Array Value} {t : TypeId} (h : w.heap[k]? = some (.cells c t (0, 0))) :
    (∀ i, w.cell? ⟨k, i, none⟩ = c[i]?) ∧ (∀ i, w.frozen? ⟨k, i, none⟩ = false) := by
  constructor <;> intro i <;> simp [World.cell?, World.frozen?, h]
theorem blk_set {w : World} {k : Nat} {c : Array Value} {t : TypeId} {fr : Nat × Nat} (h : w.heap[k]? = some (.cells c t fr)) (i : Nat) (v : Value) :
    (w.setCell ⟨k, i, none⟩ v).heap[k]? = some (.cells (c.setIfInBounds i v) t fr) := by
  simp [World.setCell, Array.getElem?_modify, h]
theorem below_step {w wx w' : World} (h0 : Below w.heap.size w wx) (h : Below wx.heap.size wx w') : Below w.heap.size w w' := h0.trans (h.mono h0.size)
theorem TwoBox.later {w wx w' : World} {c1 c2 : Array Value} {t1 t2 : TypeId} (h : TwoBox w c1 c2 t1 t2 wx) (hb : Below wx.heap.size wx w') : TwoBox w c1 c2 t1 t2 w' :=
  ⟨below_step h.below hb, blk_later h.one hb, blk_later h.two hb⟩
theorem TwoBox.set1 {w wx : World} {c1 c2 : Array Value} {t1 t2 : TypeId} (h : TwoBox w c1 c2 t1 t2 wx) (i : Nat) (v : Value) : TwoBox w (c1.setIfInBounds i v) c2 t1 t2 (wx.setCell ⟨w.heap.size, i, none⟩ v) :=
  ⟨h.below.setCell (Nat.le_refl _) _, blk_set h.one i v, (Below.heap_setCell _ _ _ _ (by simp)).trans h.two⟩
theorem TwoBox.set2 {w wx : World} {c1 c2 : Array Value} {t1 t2 : TypeId} (h : TwoBox w c1 c2 t1 t2 wx) (i : Nat) (v : Value) : TwoBox w c1 (c2.setIfInBounds i v) t1 t2 (wx.setCell ⟨w.heap.size + 1, i, none⟩ v) :=
  ⟨h.below.setCell (Nat.le_succ _) _, (Below.heap_setCell _ _ _ _ (by simp)).trans h.one, blk_set h.two i v⟩
theorem TwoBox.drew {w wx : World} {c1 c2 : Array Value} {t1 t2 : TypeId} (h : TwoBox w c1 c2 t1 t2 wx) : TwoBox w c1 c2 t1 t2 wx.drew := ⟨h.below.drew, h.one, h.two⟩
theorem TwoBox.laid (w : World) (c1 c2 : Array Value) (t1 t2 : TypeId) : TwoBox w c1 c2 t1 t2 ((w.alloc (.cells c1 t1)).alloc (.cells c2 t2)) :=
  ⟨((Below.refl _ _).alloc (Nat.le_refl _) _).alloc (by simp) _, by
    show ((w.heap.push _).push _)[_]? = _
    rw [Array.getElem?_push, Array.getElem?_push]; simp, by
    show ((w.heap.push _).push _)[_]? = _
    rw [Array.getElem?_push]; simp⟩
theorem TwoBox.walk {w wx : World} {c1 c2 : Array Value} {t1 t2 : TypeId} (h : TwoBox w c1 c2 t1 t2 wx) :
    (∀ i, wx.cell? ⟨w.heap.size, i, none⟩ = c1[i]?) ∧ (∀ i, wx.frozen? ⟨w.heap.size, i, none⟩ = false) ∧ (∀ i, wx.cell? ⟨w.heap.size + 1, i, none⟩ = c2[i]?) ∧ (∀ i, wx.frozen? ⟨w.heap.size + 1, i, none⟩ = false) ∧ w.heap.size + 1 < wx.heap.size :=
  ⟨(blk_cells h.one).1, (blk_cells h.one).2, (blk_cells h.two).1, (blk_cells h.two).2, lt_of_blk h.two⟩

/-- What stands behind the first statement of clone: three lists copied. -/
structure Cloned3 (w : World) (o nd : Int) (v2 : Value) (lh ld le : List (ByteArray × Int)) (a3 a4 a5 : Option Addr) (k3 k4 k5 : Nat) (wx : World) : Prop where
  box : TwoBox w #[.int .i64 o, .int .i64 nd, v2, .slice a3 lh.length k3, .slice a4 ld.length k4, .slice a5 le.length k5] #[.int .i64 0, .int .i64 0, .slice none 0 0, .slice none 0 0, .slice none 0 0, .slice none 0 0] 26 26 wx
  o3 : wx.ownsRow (w.heap.size + 2) 56 2 (.slice a3 lh.length k3) lh.length (pairCells lh)
  o4 : wx.ownsRow (w.heap.size + 2) 46 2 (.slice a4 ld.length k4) ld.length (pairCells ld)
  o5 : wx.ownsRow (w.heap.size + 2) 46 2 (.slice a5 le.length k5) le.length (pairCells le)
  ap : Apart (.slice a4 ld.length k4) (.slice a5 le.length k5)
theorem cloned3_close {w wz : World} {o nd : Int} {v2 v3 v4 v5 : Value} {lh ld le : List (ByteArray × Int)} {a3 a4 a5 : Option Addr} {k3 k4 k5 : Nat}
    (hb : TwoBox w #[.int .i64 o, .int .i64 nd, v2, v3, v4, v5] #[.int .i64 0, .int .i64 0, .slice none 0 0, .slice none 0 0, .slice none 0 0, .slice none 0 0] 26 26 wz)
    (o3 : wz.ownsRow (w.heap.size + 2) 56 2 (.slice a3 lh.length k3) lh.length (pairCells lh))
    (o4 : wz.ownsRow (w.heap.size + 2) 46 2 (.slice a4 ld.length k4) ld.length (pairCells ld))
    (o5 : wz.ownsRow (w.heap.size + 2) 46 2 (.slice a5 le.length k5) le.length (pairCells le))
    (ap : Apart (.slice a4 ld.length k4) (.slice a5 le.length k5)) :
    Cloned3 w o nd v2 lh ld le a3 a4 a5 k3 k4 k5 (((wz.setCell ⟨w.heap.size, 3, none⟩ (.slice a3 lh.length k3)).setCell ⟨w.heap.size, 4, none⟩ (.slice a4 ld.length k4)).setCell ⟨w.heap.size, 5, none⟩ (.slice a5 le.length k5)) :=
  ⟨((hb.set1 3 _).set1 4 _).set1 5 _, ownsRow_setCell_below (ownsRow_setCell_below (ownsRow_setCell_below o3 (by simp) _) (by simp) _) (by simp) _,
    ownsRow_setCell_below (ownsRow_setCell_below (ownsRow_setCell_below o4 (by simp) _) (by simp) _) (by simp) _,
    ownsRow_setCell_below (ownsRow_setCell_below (ownsRow_setCell_below o5 (by simp) _) (by simp) _) (by simp) _, ap⟩

/-- The rows of bytes stand. -/
def Keeps5 (w w' : World) : Prop := ∀ (k : Nat) (c : Array Value), w.heap[k]? = some (Obj.cells c 5 (0, 0)) → w'.heap[k]? = some (Obj.cells c 5 (0, 0))
theorem Keeps5.refl (w : World) : Keeps5 w w := fun _ _ h => h
theorem Keeps5.trans {a b c : World} (h : Keeps5 a b) (k : Keeps5 b c) : Keeps5 a c := fun i x hx => k i x (h i x hx)
theorem Keeps5.later {w w' : World} (hb : Below w.heap.size w w') : Keeps5 w w' := fun k _ hk => (hb.block k (Array.getElem?_eq_some_iff.1 hk).1).trans hk
theorem Keeps5.set {w : World} {k : Nat} {c : Array Value} {t : TypeId} {fr : Nat × Nat} (hk : w.heap[k]? = some (.cells c t fr)) (hne : t ≠ 5) (i : Nat) (u : Value) : Keeps5 w (w.setCell ⟨k, i, none⟩ u) := by
  intro j x hx
  refine (Below.heap_setCell _ _ _ _ ?_).trans hx
  rintro rfl
  rw [hk] at hx
  simp at hx
  exact hne hx.2.1
theorem Keeps5.grown {w w' : World} {base e sz n : Nat} {v : Value} {xs : List Value} (h : w.ownsRow base e sz v n xs) (hg : w.grownBy w' v.ownBlock) (hne : e ≠ 5) : Keeps5 w w' := by
  intro j x hx
  refine (hg.block j (Array.getElem?_eq_some_iff.1 hx).1 ?_).trans hx
  intro hh
  rcases h.2 with ⟨rfl, _⟩ | ⟨g, cap, cur, rfl, _, hg', _⟩
  · simp [Value.ownBlock] at hh
  · simp only [Value.ownBlock, Option.some.injEq] at hh
    subst hh
    rw [hx] at hg'
    simp at hg'
    exact hne hg'.2.symm

/-- A ledger in memory of the call's own. -/
structure OwnLed (w : World) (A B : Nat) (v2 v3 v4 v5 : Value) (vs : List Value) (pss : List (List (ByteArray × Int × Value))) (g : LedD) : Prop where
  o2 : w.ownsRow B 88 1 v2 vs.length vs
  o3 : w.ownsRow B 56 2 v3 g.holds.length (pairCells g.holds)
  o4 : w.ownsRow B 46 2 v4 g.demands.length (pairCells g.demands)
  o5 : w.ownsRow B 46 2 v5 g.dones.length (pairCells g.dones)
  ap : Apart v4 v5
  len : vs.length = g.shares.length
  rows : ∀ i (h : i < vs.length), w.ownsRow B 90 3 vs[i] (pss.getD i []).length (heldCells (pss.getD i []))
  base : B ≤ w.heap.size
  low : A ≤ B
  are : ∀ w', Below A w w' → Keeps5 w w' → ∀ i (h : i < g.shares.length), HeldsAre w' (pss.getD i []) g.shares[i]
  apart : ∀ i j (hi : i < vs.length) (hj : j < vs.length), i ≠ j → Apart vs[i] vs[j]
theorem apart_types {w : World} {b e sz n : Nat} {v : Value} {xs : List Value} {b' e' sz' n' : Nat} {v' : Value} {xs' : List Value}
    (h : w.ownsRow b e sz v n xs) (h' : w.ownsRow b' e' sz' v' n' xs') (hne : e ≠ e') : Apart v v' := by
  unfold Apart
  rcases h.2 with ⟨rfl, _⟩ | ⟨g, cap, cur, rfl, _, hh, _⟩
  · exact .inl rfl
  · refine .inr fun hb => ?_
    rcases h'.2 with ⟨rfl, _⟩ | ⟨g', cap', cur', rfl, _, hh', _⟩
    · simp [Value.ownBlock] at hb
    · simp only [Value.ownBlock, Option.some.injEq] at hb
      subst hb
      rw [hh] at hh'
      simp at hh'
      exact hne hh'.2
theorem owns_store {w : World} {base e sz n : Nat} {v : Value} {xs : List Value} (h : w.ownsRow base e sz v n xs) {g n' k' : Nat} (ha : Apart v (.slice (some ⟨g, 0, none⟩) n' k')) (i : Nat) (u : Value) : (w.setCell ⟨g, i, none⟩ u).ownsRow base e sz v n xs := by
  refine ownsRow_setCell_other h ?_ u
  rcases ha with ha | ha
  · rw [ha]; simp
  · simpa [Value.ownBlock] using ha
/-- The rows of shares as lists of cells. -/
theorem rows_cells {w : World} {vs : List Value} {l : List (List HeldD)} (h : RowsAre w vs l) : ∃ pss : List (List (ByteArray × Int × Value)),
    ∀ i (h1 : i < vs.length) (h2 : i < l.length), RowR w vs[i] 3 (heldCells (pss.getD i [])) (pss.getD i []).length ∧ HeldsAre w (pss.getD i []) l[i] := by
  induction h with
  | nil => exact ⟨[], fun i h1 => by simp at h1⟩
  | cons h0 _ ih =>
    obtain ⟨ps, hp1, hp2⟩ := h0
    obtain ⟨pss, hps⟩ := ih
    refine ⟨ps :: pss, fun i h1 h2 => ?_⟩
    cases i with
    | zero => exact ⟨hp1, hp2⟩
    | succ i => simpa using hps i (by simpa using h1) (by simpa using h2)
/-- Reading depends only on cells: HeldsAre passes to any world in which the bytes read the same. -/
theorem bytes_store {w : World} {W : World} {v : Value} {l : List Int} (h : BytesR W v l) (hb : Below W.heap.size W w) : BytesR w v l := h.later hb

/-- The loop of clone, after k rounds. -/
structure CloneInv (w : World) (o nd : Int) (lh ld le : List (ByteArray × Int)) (a2 a3 a4 a5 : Option Addr) (k2 k3 k4 k5 : Nat) (vs : List Value) (pss : List (List (ByteArray × Int × Value))) (k : Nat) (news : List Value) (wr : World) : Prop where
  box : TwoBox w #[.int .i64 o, .int .i64 nd, .slice a2 vs.length k2, .slice a3 lh.length k3, .slice a4 ld.length k4, .slice a5 le.length k5] #[.int .i64 0, .int .i64 0, .slice none 0 0, .slice none 0 0, .slice none 0 0, .slice none 0 0] 26 26 wr
  o3 : wr.ownsRow (w.heap.size + 2) 56 2 (.slice a3 lh.length k3) lh.length (pairCells lh)
  o4 : wr.ownsRow (w.heap.size + 2) 46 2 (.slice a4 ld.length k4) ld.length (pairCells ld)
  o5 : wr.ownsRow (w.heap.size + 2) 46 2 (.slice a5 le.length k5) le.length (pairCells le)
  ap : Apart (.slice a4 ld.length k4) (.slice a5 le.length k5)
  o2 : wr.ownsRow (w.heap.size + 2) 88 1 (.slice a2 vs.length k2) vs.length (news ++ vs.drop k)
  len : news.length = k
  rows : ∀ i (h : i < news.length), wr.ownsRow (w.heap.size + 2) 90 3 news[i] (pss.getD i []).length (heldCells (pss.getD i []))
  apart : ∀ i j (hi : i < news.length) (hj : j < news.length), i ≠ j → Apart news[i] news[j]

/-- What a round reads and may write. -/
theorem CloneInv.cells {w : World} {o nd : Int} {lh ld le : List (ByteArray × Int)} {a2 a3 a4 a5 : Option Addr} {k2 k3 k4 k5 : Nat} {vs : List Value} {pss : List (List (ByteArray × Int × Value))} {k : Nat} {news : List Value} {wr : World}
    (h : CloneInv w o nd lh ld le a2 a3 a4 a5 k2 k3 k4 k5 vs pss k news wr) (hk : k < vs.length) :
    ∃ g, a2 = some ⟨g, 0, none⟩ ∧ wr.cell? ⟨g, k, none⟩ = some vs[k] ∧ w.heap.size + 1 < g ∧ g < wr.heap.size ∧ (∀ w1, Below wr.heap.size wr w1 → w1.cell? ⟨g, k, none⟩ = some vs[k] ∧ w1.frozen? ⟨g, k, none⟩ = false) := by
  have h2 := h.o2
  rcases h2.2 with ⟨h0, h1⟩ | ⟨g, cap, cur, hv, hg, hh, r⟩
  · omega
  · simp only [Value.slice.injEq] at hv
    obtain ⟨rfl, -, rfl⟩ := hv
    have hc : ∀ w1, Below wr.heap.size wr w1 → w1.cell? ⟨g, k, none⟩ = some vs[k] ∧ w1.frozen? ⟨g, k, none⟩ = false := by
      intro w1 hb
      have h3 := owns_later h2 hb
      refine ⟨?_, h3.frozenAt k⟩
      rw [h3.cellAt k (by omega), List.getElem?_append_right (by rw [h.len]; exact Nat.le_refl _), h.len, Nat.sub_self, List.getElem?_drop, Nat.add_zero, List.getElem?_eq_getElem hk]
    exact ⟨g, rfl, (hc wr (Below.refl _ _)).1, by omega, lt_of_blk hh, hc⟩

theorem CloneInv.step {w : World} {o nd : Int} {lh ld le : List (ByteArray × Int)} {g : Nat} {a3 a4 a5 : Option Addr} {k2 k3 k4 k5 : Nat} {vs : List Value} {pss : List (List (ByteArray × Int × Value))} {k : Nat} {news : List Value} {wr w1 : World}
    (h : CloneInv w o nd lh ld le (some ⟨g, 0, none⟩) a3 a4 a5 k2 k3 k4 k5 vs pss k news wr) (hk : k < vs.length) (hg : w.heap.size + 1 < g) {u : Value}
    (hu : w1.ownsRow wr.heap.size 90 3 u (pss.getD k []).length (heldCells (pss.getD k []))) (hb : Below wr.heap.size wr w1) :
    CloneInv w o nd lh ld le (some ⟨g, 0, none⟩) a3 a4 a5 k2 k3 k4 k5 vs pss (k + 1) (news ++ [u]) (w1.setCell ⟨g, k, none⟩ u) := by
  have hz : w.heap.size + 2 ≤ wr.heap.size := lt_of_blk h.box.two
  have h2 := owns_later h.o2 hb
  have hset := (h2.stored k u).1
  have e : (news ++ vs.drop k).set k u = (news ++ [u]) ++ vs.drop (k + 1) := by
    rw [List.set_append_right _ _ (by rw [h.len]; exact Nat.le_refl _), h.len, Nat.sub_self, List.drop_eq_getElem_cons hk, List.set_cons_zero]
    simp
  rw [e] at hset
  have hub := owns_base hu hz
  refine ⟨?_, ?_, ?_, ?_, h.ap, hset, by simp [h.len], ?_, ?_⟩
  · have hb' := h.box.later hb
    exact ⟨hb'.below.setCell (by simp; omega) _, (Below.heap_setCell _ _ _ _ (by simp; omega)).trans hb'.one, (Below.heap_setCell _ _ _ _ (by simp; omega)).trans hb'.two⟩
  · exact owns_store (owns_later h.o3 hb) (apart_types (owns_later h.o3 hb) h2 (by decide)) _ _
  · exact owns_store (owns_later h.o4 hb) (apart_types (owns_later h.o4 hb) h2 (by decide)) _ _
  · exact owns_store (owns_later h.o5 hb) (apart_types (owns_later h.o5 hb) h2 (by decide)) _ _
  · intro i hi
    by_cases hik : i < news.length
    · rw [List.getElem_append_left hik]
      have := owns_later (h.rows i hik) hb
      exact owns_store this (apart_types this h2 (by decide)) _ _
    · have : i = news.length := by simp at hi; omega
      subst this
      rw [List.getElem_append_right (Nat.le_refl _)]
      simp only [Nat.sub_self, List.getElem_cons_zero, h.len]
      exact owns_store hub (apart_types hub h2 (by decide)) _ _
  · intro i j hi hj hij
    by_cases hin : i < news.length
    · rw [List.getElem_append_left hin]
      by_cases hjn : j < news.length
      · rw [List.getElem_append_left hjn]; exact h.apart i j hin hjn hij
      · have : j = news.length := by simp at hj; omega
        subst this
        rw [List.getElem_append_right (Nat.le_refl _)]
        simp only [Nat.sub_self, List.getElem_cons_zero]
        exact apart_old_new (h.rows i hin) hu
    · have : i = news.length := by simp at hi; omega
      subst this
      rw [List.getElem_append_right (Nat.le_refl _)]
      simp only [Nat.sub_self, List.getElem_cons_zero]
      by_cases hjn : j < news.length
      · rw [List.getElem_append_left hjn]; exact apart_new_old (h.rows j hjn) hu
      · have : j = news.length := by simp at hj; omega
        omega

theorem CloneInv.start {w wr w1 : World} {o nd : Int} {lh ld le : List (ByteArray × Int)} {v2 : Value} {a2 a3 a4 a5 : Option Addr} {k2 k3 k4 k5 : Nat} {vs : List Value} {pss : List (List (ByteArray × Int × Value))}
    (h : Cloned3 w o nd v2 lh ld le a3 a4 a5 k3 k4 k5 wr) (hu : w1.ownsRow wr.heap.size 88 1 (.slice a2 vs.length k2) vs.length vs) (hb : Below wr.heap.size wr w1) :
    CloneInv w o nd lh ld le a2 a3 a4 a5 k2 k3 k4 k5 vs pss 0 [] (w1.setCell ⟨w.heap.size, 2, none⟩ (.slice a2 vs.length k2)) := by
  have hz : w.heap.size + 2 ≤ wr.heap.size := lt_of_blk h.box.two
  exact ⟨(h.box.later hb).set1 2 _, ownsRow_setCell_below (owns_later h.o3 hb) (by simp) _, ownsRow_setCell_below (owns_later h.o4 hb) (by simp) _, ownsRow_setCell_below (owns_later h.o5 hb) (by simp) _, h.ap,
    by simpa using ownsRow_setCell_below (owns_base hu hz) (by simp) _, rfl, fun i hi => by simp at hi, fun i j hi => by simp at hi⟩

theorem held_one {w : World} {v : Value} {ps : List (ByteArray × Int × Value)} {l : List HeldD} (h : HeldsAre w ps l) : ∀ u ∈ heldCells ps, u.oneCell' = true := by
  unfold heldCells
  induction h with
  | nil => intro u hu; simp at hu
  | cons h0 _ ih =>
    intro u hu
    simp only [List.flatMap_cons, List.mem_append, List.mem_cons, List.not_mem_nil, or_false] at hu
    rcases hu with (rfl | rfl | rfl) | hu
    · rfl
    · rfl
    · obtain ⟨-, -, -, ⟨-, ao, cap, e, -⟩, -⟩ := h0; rw [e]; rfl
    · exact ih u hu
theorem rows_one {w : World} {vs : List Value} {l : List (List HeldD)} (h : RowsAre w vs l) : ∀ u ∈ vs, u.oneCell' = true := by
  induction h with
  | nil => intro u hu; simp at hu
  | cons h0 _ ih =>
    intro u hu
    rcases List.mem_cons.1 hu with rfl | hu
    · obtain ⟨ps, ⟨-, ao, cap, e, -⟩, -⟩ := h0; rw [e]; rfl
    · exact ih u hu

/-- What clone hands back. -/
def CloneRet (A : Nat) (w : World) (g : LedD) (e : Ending) (w' : World) : Prop :=
  ∃ v2 v3 v4 v5 vs pss, e = .returned (.agg #[.int .i64 g.owners, .int .i64 g.need, v2, v3, v4, v5]) ∧ OwnLed w' A w.heap.size v2 v3 v4 v5 vs pss g ∧ Below w.heap.size w w'

theorem cloneRet_mk {w : World} {A : Nat} {g : LedD} {a2 a3 a4 a5 : Option Addr} {k2 k3 k4 k5 : Nat} {vs : List Value} {pss : List (List (ByteArray × Int × Value))} {news : List Value} {wr : World}
    (h : CloneInv w g.owners g.need g.holds g.demands g.dones a2 a3 a4 a5 k2 k3 k4 k5 vs pss vs.length news wr) (hl : vs.length = g.shares.length)
    (hA : A ≤ w.heap.size) (hare : ∀ w', Below A w w' → Keeps5 w w' → ∀ i (h : i < g.shares.length), HeldsAre w' (pss.getD i []) g.shares[i]) (f : World → World) (hf : ∀ x, f x = (((((x.setCell ⟨w.heap.size + 1, 0, none⟩ (.int .i64 g.owners)).setCell ⟨w.heap.size + 1, 1, none⟩ (.int .i64 g.need)).setCell ⟨w.heap.size + 1, 2, none⟩ (.slice a2 vs.length k2)).setCell ⟨w.heap.size + 1, 3, none⟩ (.slice a3 g.holds.length k3)).setCell ⟨w.heap.size + 1, 4, none⟩ (.slice a4 g.demands.length k4)).setCell ⟨w.heap.size + 1, 5, none⟩ (.slice a5 g.dones.length k5)) :
    CloneRet A w g (.returned (.agg #[.int .i64 g.owners, .int .i64 g.need, .slice a2 vs.length k2, .slice a3 g.holds.length k3, .slice a4 g.demands.length k4, .slice a5 g.dones.length k5])) (f wr) := by
  have hn : news.length = vs.length := h.len
  have O : ∀ {e sz n v xs}, wr.ownsRow (w.heap.size + 2) e sz v n xs → (f wr).ownsRow w.heap.size e sz v n xs := by
    intro e sz n v xs ho
    rw [hf]
    refine owns_base (base := w.heap.size + 2) ?_ (by omega)
    exact ownsRow_setCell_below (ownsRow_setCell_below (ownsRow_setCell_below (ownsRow_setCell_below (ownsRow_setCell_below (ownsRow_setCell_below ho (by simp) _) (by simp) _) (by simp) _) (by simp) _) (by simp) _) (by simp) _
  have hB : Below w.heap.size w (f wr) := by
    rw [hf]
    exact (((((h.box.below.setCell (by simp) _).setCell (by simp) _).setCell (by simp) _).setCell (by simp) _).setCell (by simp) _).setCell (by simp) _
  refine ⟨_, _, _, _, news, pss, rfl, ⟨?_, O h.o3, O h.o4, O h.o5, h.ap, by omega, fun i hi => O (h.rows i hi), hB.size, hA, fun w' hb hk i hi => hare w' ((hB.mono hA).trans hb) ((Keeps5.later hB).trans hk) i hi, h.apart⟩, hB⟩
  have := O h.o2
  rw [List.drop_length, List.append_nil] at this
  rw [hn]; exact this

/-- A ledger by value whose shares' bytes stay where the memory below A and all blocks of bytes stay. -/
def LedAt (A : Nat) (w : World) (v : Value) (g : LedD) : Prop := ∃ (v2 v3 v4 v5 : Value) (vs : List Value) (pss : List (List (ByteArray × Int × Value))), v = .agg #[.int .i64 g.owners, .int .i64 g.need, v2, v3, v4, v5] ∧ RowR w v2 1 vs vs.length ∧ vs.length = g.shares.length ∧
  (∀ i (h : i < vs.length), RowR w vs[i] 3 (heldCells (pss.getD i [])) (pss.getD i []).length) ∧ PairsR w v3 g.holds ∧ PairsR w v4 g.demands ∧ PairsR w v5 g.dones ∧
  ∀ w', Below A w w' → Keeps5 w w' → ∀ i (h : i < g.shares.length), HeldsAre w' (pss.getD i []) g.shares[i]
theorem rowsAre_mk {w : World} : ∀ (vs : List Value) (l : List (List HeldD)), vs.length = l.length → (∀ i (h : i < vs.length) (h2 : i < l.length), HeldsR w vs[i] l[i]) → RowsAre w vs l
  | [], [], _, _ => .nil
  | v :: vs, h :: hs, hl, ha => .cons (ha 0 (by simp) (by simp)) (rowsAre_mk vs hs (by simpa using hl) fun i h1 h2 => ha (i + 1) (Nat.succ_lt_succ h1) (Nat.succ_lt_succ h2))
theorem LedAt.led {A : Nat} {w : World} {v : Value} {g : LedD} (h : LedAt A w v g) : LedR w v g := by
  obtain ⟨v2, v3, v4, v5, vs, pss, rfl, h2, hl, hr, h3, h4, h5, ha⟩ := h
  exact ⟨v2, v3, v4, v5, rfl, ⟨vs, h2, rowsAre_mk vs _ hl fun i h1 h2 => ⟨_, hr i h1, ha w (Below.refl _ _) (Keeps5.refl _) i h2⟩⟩, h3, h4, h5⟩
theorem LedAt.later {A : Nat} {w w' : World} {v : Value} {g : LedD} (h : LedAt A w v g) (hA : A ≤ w.heap.size) (hb : Below w.heap.size w w') : LedAt A w' v g := by
  obtain ⟨v2, v3, v4, v5, vs, pss, rfl, h2, hl, hr, h3, h4, h5, ha⟩ := h
  exact ⟨v2, v3, v4, v5, vs, pss, rfl, h2.later hb, hl, fun i hi => (hr i hi).later hb, h3.later hb, h4.later hb, h5.later hb, fun w2 h6 h7 => ha w2 ((hb.mono hA).trans h6) ((Keeps5.later hb).trans h7)⟩
theorem LedR.at {w : World} {v : Value} {g : LedD} (h : LedR w v g) : LedAt w.heap.size w v g := by
  obtain ⟨v2, v3, v4, v5, rfl, ⟨vs, h2, hare⟩, h3, h4, h5⟩ := h
  obtain ⟨pss, hps⟩ := rows_cells hare
  have hlen := hare.length
  exact ⟨v2, v3, v4, v5, vs, pss, rfl, h2, hlen, fun i hi => (hps i hi (by omega)).1, h3, h4, h5, fun w' hb _ i hi => (hps i (by omega) hi).2.later hb⟩
set_option maxRecDepth 100000 in
set_option maxHeartbeats 2000000 in
theorem clone_45A (w : World) (A : Nat) (hA : A ≤ w.heap.size) (v : Value) (g : LedD) (h : LedAt A w v g) (n2 : g.shares.length ≤ 4096) (nr : ∀ r ∈ g.shares, r.length ≤ 4096) (n3 : g.holds.length ≤ 4096) (n4 : g.demands.length ≤ 4096) (n5 : g.dones.length ≤ 4096) :
    Calls Tryz.prog 45 #[v] w (CloneRet A w g) := by
  have hLR := h.led
  obtain ⟨v2, v3, v4, v5, vs, pss, rfl, h2, hlen, hrows, h3, h4, h5, hat⟩ := h
  have HOo : ∀ u ∈ vs, u.oneCell' = true := by
    obtain ⟨_, _, _, _, he, ⟨vs', h2', hare⟩, -⟩ := hLR
    intro u hu
    obtain ⟨i, hi, rfl⟩ := List.mem_iff_getElem.1 hu
    obtain ⟨-, ao, cp, hv, -⟩ := hrows i hi
    rw [hv]; rfl
  have n2' : vs.length ≤ 4096 := by rw [hlen]; exact n2
  have FIN : Hid (∀ {a2 a3 a4 a5 : Option Addr} {k2 k3 k4 k5 : Nat} {news : List Value} {wr : World} (h : CloneInv w g.owners g.need g.holds g.demands g.dones a2 a3 a4 a5 k2 k3 k4 k5 vs pss vs.length news wr),
    CloneRet A w g (.returned (.agg #[.int .i64 g.owners, .int .i64 g.need, .slice a2 vs.length k2, .slice a3 g.holds.length k3, .slice a4 g.demands.length k4, .slice a5 g.dones.length k5])) ((((((wr.setCell ⟨w.heap.size + 1, 0, none⟩ (.int .i64 g.owners)).setCell ⟨w.heap.size + 1, 1, none⟩ (.int .i64 g.need)).setCell ⟨w.heap.size + 1, 2, none⟩ (.slice a2 vs.length k2)).setCell ⟨w.heap.size + 1, 3, none⟩ (.slice a3 g.holds.length k3)).setCell ⟨w.heap.size + 1, 4, none⟩ (.slice a4 g.demands.length k4)).setCell ⟨w.heap.size + 1, 5, none⟩ (.slice a5 g.dones.length k5))) :=
    fun h => cloneRet_mk h hlen hA hat _ (fun _ => rfl)
  have HPS : Hid (∀ i (h1 : i < vs.length), RowR w vs[i] 3 (heldCells (pss.getD i [])) (pss.getD i []).length ∧ (∀ u ∈ heldCells (pss.getD i []), u.oneCell' = true) ∧ (pss.getD i []).length ≤ 4096) :=
    fun i h1 => ⟨hrows i h1, held_one (v := vs[i]) (hat w (Below.refl _ _) (Keeps5.refl _) i (by omega)), by rw [(hat w (Below.refl _ _) (Keeps5.refl _) i (by omega)).length]; exact nr _ (List.getElem_mem _)⟩
  have H2 := Lib.hid h2; clear h2
  have HO := Lib.hid HOo
  clear hLR hlen n2 nr HOo hrows hat
  have HB0 := Lib.hid hA
  clear hA
  generalize g.holds = lh at *
  generalize g.demands = ld at *
  generalize g.dones = le at *
  generalize g.owners = o at *
  generalize g.need = nd at *
  have H3 := Lib.hid h3; clear h3
  have H4 := Lib.hid h4; clear h4
  have H5 := Lib.hid h5; clear h5
  have F0 := (TwoBox.laid w #[.int .i64 o, .int .i64 nd, v2, v3, v4, v5] #[.int .i64 0, .int .i64 0, .slice none 0 0, .slice none 0 0, .slice none 0 0, .slice none 0 0] 26 26).drew
  have ST : Hid (∀ wx w', TwoBox w #[.int .i64 o, .int .i64 nd, v2, v3, v4, v5] #[.int .i64 0, .int .i64 0, .slice none 0 0, .slice none 0 0, .slice none 0 0, .slice none 0 0] 26 26 wx → Below wx.heap.size wx w' → TwoBox w #[.int .i64 o, .int .i64 nd, v2, v3, v4, v5] #[.int .i64 0, .int .i64 0, .slice none 0 0, .slice none 0 0, .slice none 0 0, .slice none 0 0] 26 26 w') := fun _ _ h h' => h.later h'
  have BT : Hid (∀ wx, TwoBox w #[.int .i64 o, .int .i64 nd, v2, v3, v4, v5] #[.int .i64 0, .int .i64 0, .slice none 0 0, .slice none 0 0, .slice none 0 0, .slice none 0 0] 26 26 wx → Below w.heap.size w wx) := fun _ h => h.below
  have ZT : Hid (∀ wx, TwoBox w #[.int .i64 o, .int .i64 nd, v2, v3, v4, v5] #[.int .i64 0, .int .i64 0, .slice none 0 0, .slice none 0 0, .slice none 0 0, .slice none 0 0] 26 26 wx → w.heap.size + 2 ≤ wx.heap.size) := fun _ h => lt_of_blk h.two
  go_enter Tryz.func45, Tryz.ntmps45
  go_upto_region 1 with fail
  go_cut [] (fun wx => ∃ a3 a4 a5 k3 k4 k5, Cloned3 w o nd v2 lh ld le a3 a4 a5 k3 k4 k5 wx)
  case first =>
    go_region_with (first | (go_at_call_of 75 v3; refine (clone75 _ v3 _ _ (RowR.later H3.out (BT.out _ ?_)) (pair_one _) n3).mono ?_; assumption; rintro e w3 ⟨x3, rfl, o3, b3⟩; obtain ⟨a3, k3, rfl⟩ := slice_of_owns o3; (try replace o4 := owns_later o4 b3); (try replace o5 := owns_later o5 b3); replace o3 := owns_base o3 (ZT.out _ (by assumption)); have F3 := ST.out _ _ (by assumption) b3; obtain ⟨c31, c32, c33, c34, c35⟩ := F3.walk) | (go_at_call_of 76 v4; refine (clone76 _ v4 _ _ (RowR.later H4.out (BT.out _ ?_)) (pair_one _) n4).mono ?_; assumption; rintro e w4 ⟨x4, rfl, o4, b4⟩; obtain ⟨a4, k4, rfl⟩ := slice_of_owns o4; (try have ap := apart_new_old o5 o4); (try replace o3 := owns_later o3 b4); (try replace o5 := owns_later o5 b4); replace o4 := owns_base o4 (ZT.out _ (by assumption)); have F4 := ST.out _ _ (by assumption) b4; obtain ⟨c41, c42, c43, c44, c45⟩ := F4.walk) | (go_at_call_of 76 v5; refine (clone76 _ v5 _ _ (RowR.later H5.out (BT.out _ ?_)) (pair_one _) n5).mono ?_; assumption; rintro e w5 ⟨x5, rfl, o5, b5⟩; obtain ⟨a5, k5, rfl⟩ := slice_of_owns o5; (try have ap := apart_old_new o4 o5); (try replace o3 := owns_later o3 b5); (try replace o4 := owns_later o4 b5); replace o5 := owns_base o5 (ZT.out _ (by assumption)); have F5 := ST.out _ _ (by assumption) b5; obtain ⟨c51, c52, c53, c54, c55⟩ := F5.walk))
    all_goals
      go_wp2_with fail
      go_meet
      exact ⟨a3, a4, a5, k3, k4, k5, cloned3_close (by assumption) o3 o4 o5 ap⟩
  case rest =>
    obtain ⟨a3, a4, a5, k3, k4, k5, hcl⟩ := hcut
    obtain ⟨c1, c2, c3, c4, c5⟩ := hcl.box.walk
    have HB2 := Lib.hid hcl.box.below
    clear ST BT ZT F0 H3 H4 H5
    go_wp2_with (go_at_call 77; refine (clone77 _ v2 _ _ (RowR.later H2.out HB2.out) HO.out n2').mono ?_; rintro e w2 ⟨x2, rfl, o2, b2⟩; obtain ⟨a2, k2, rfl⟩ := slice_of_owns o2; obtain ⟨d1, d2, d3, d4, d5⟩ := (hcl.box.later b2).walk)
    have I0 := CloneInv.start (pss := pss) hcl o2 b2
    clear hcl c1 c2 c3 c4 c5 d1 d2 d3 d4 d5 o2 b2 H2 HB2
    go_loopw [24] (fun i wr => ∃ k : Nat, k ≤ vs.length ∧ i = .int .i64 k ∧ ∃ news, CloneInv w o nd lh ld le a2 a3 a4 a5 k2 k3 k4 k5 vs pss k news wr) (fun i _ => vs.length - (intOf i).toNat)
    case atStart => exact ⟨0, Nat.zero_le _, rfl, [], I0⟩
    case round =>
      clear I0
      obtain ⟨k, hk, rfl, news, hI⟩ := hrel
      obtain ⟨c1, c2, c3, c4, c5⟩ := hI.box.walk
      by_cases hlt : k < vs.length
      · obtain ⟨g, rfl, hgc, hg1, hg2, hgl⟩ := hI.cells hlt
        obtain ⟨p1, p2, p3⟩ := HPS.out k hlt
        have HGL := Lib.hid hgl; clear hgl
        have P2 := Lib.hid p2; clear p2
        have HI := Lib.hid hI; clear hI
        have KB : Hid (Below w.heap.size w wr.drew) := HI.out.box.below.drew
        have KEY : Hid (∀ w1 u, Below wr.heap.size wr w1 → w1.ownsRow wr.heap.size 90 3 u (pss.getD k []).length (heldCells (pss.getD k [])) →
          CloneInv w o nd lh ld le (some ⟨g, 0, none⟩) a3 a4 a5 k2 k3 k4 k5 vs pss (k + 1) (news ++ [u]) (w1.setCell ⟨g, k, none⟩ u)) := fun w1 u hb hu => HI.out.step hlt hg1 hu hb
        have BX : Hid (∀ w1, Below wr.heap.size wr w1 → _) := fun w1 hb => (HI.out.box.later hb).walk
        generalize vs[k] = vk at *
        generalize (heldCells (pss.getD k [])) = cs at *
        generalize (pss.getD k []).length = m at *
        go_wp2_with fail
        go_region_with (go_at_call 78; refine (clone78 _ vk _ _ (RowR.later p1 KB.out) P2.out p3).mono ?_; rintro e w1 ⟨x, rfl, ou, bu⟩; obtain ⟨au, ku, rfl⟩ := slice_of_owns ou; have bu' : Below wr.heap.size wr w1 := ⟨bu.os, bu.tape, bu.output, bu.size, bu.block⟩; obtain ⟨d1, d2, d3, d4, d5⟩ := BX.out w1 bu'; obtain ⟨q1, q2⟩ := HGL.out w1 bu')
        all_goals
          go_wp2_with fail
          go_roundw
          case rel => exact ⟨k + 1, by omega, by go_num, _, KEY.out w1 _ bu' ou⟩
          case measure => simp [intOf]; omega
      · obtain rfl : k = vs.length := by omega
        have R := Lib.hid (FIN.out hI)
        clear hI FIN
        go_wp2
        refine bodyPost_ret (v := .agg #[.int .i64 o, .int .i64 nd, .slice a2 vs.length k2, .slice a3 lh.length k3, .slice a4 ld.length k4, .slice a5 le.length k5]) (by simp [results, Tryz.results45, go_sem, c3]) rfl R.out
theorem clone_45 (w w0 : World) (hb0 : Below w0.heap.size w0 w) (v : Value) (g : LedD) (h : LedR w0 v g) (n2 : g.shares.length ≤ 4096) (nr : ∀ r ∈ g.shares, r.length ≤ 4096) (n3 : g.holds.length ≤ 4096) (n4 : g.demands.length ≤ 4096) (n5 : g.dones.length ≤ 4096) :
    Calls Tryz.prog 45 #[v] w (CloneRet w0.heap.size w g) := clone_45A w w0.heap.size hb0.size v g (h.at.later (Nat.le_refl _) hb0) n2 nr n3 n4 n5
end Go.Proofs.YtpbgipdkaaooeaaGreatDoor
