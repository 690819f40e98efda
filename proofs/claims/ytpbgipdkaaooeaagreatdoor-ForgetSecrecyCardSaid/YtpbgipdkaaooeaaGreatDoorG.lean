/- A ledger in memory of the call's own: what stores and appends leave of it; forget.Hold. -/
import Derived.Test.YtpbgipdkaaooeaaGreatDoorF
import Derived.Test.YtpbgipdkaaooeaaGreatDoorT
open Go Go.Proofs Go.RowKit
namespace Go.Proofs.YtpbgipdkaaooeaaGreatDoor
set_option linter.unusedSimpArgs false
set_option linter.unusedVariables false
attribute [local go_sem ↓] Go.wp_at_zero Go.wp_at_succ

theorem owns_ne_type {w : World} {base e sz n k : Nat} {v : Value} {xs : List Value} {c : Array Value} {t : TypeId} {fr : Nat × Nat} (h : w.ownsRow base e sz v n xs) (hk : w.heap[k]? = some (.cells c t fr)) (hne : e ≠ t) : v.ownBlock ≠ some k := by
  intro hh
  rcases h.2 with ⟨rfl, _⟩ | ⟨g, cap, cur, rfl, _, hg, _⟩
  · simp [Value.ownBlock] at hh
  · simp only [Value.ownBlock, Option.some.injEq] at hh
    subst hh
    rw [hk] at hg
    simp at hg
    exact hne hg.2.1.symm

theorem rowsAre_of {w : World} : ∀ (vs : List Value) (l : List (List HeldD)), vs.length = l.length → (∀ i (h : i < vs.length) (h2 : i < l.length), HeldsR w vs[i] l[i]) → RowsAre w vs l
  | [], [], _, _ => .nil
  | v :: vs, h :: hs, hl, ha => .cons (ha 0 (by simp) (by simp)) (rowsAre_of vs hs (by simpa using hl) fun i h1 h2 => ha (i + 1) (Nat.succ_lt_succ h1) (Nat.succ_lt_succ h2))

section
variable {w w' : World} {A B : Nat} {v2 v3 v4 v5 : Value} {vs : List Value} {pss : List (List (ByteArray × Int × Value))} {g : LedD}

theorem OwnLed.led (h : OwnLed w A B v2 v3 v4 v5 vs pss g) : LedR w (.agg #[.int .i64 g.owners, .int .i64 g.need, v2, v3, v4, v5]) g :=
  ⟨v2, v3, v4, v5, rfl, ⟨vs, RowR.of_owns h.o2, rowsAre_of vs g.shares h.len fun i h1 h2 => ⟨pss.getD i [], RowR.of_owns (h.rows i h1), h.are w (Below.refl _ _) (Keeps5.refl _) i h2⟩⟩, RowR.of_owns h.o3, RowR.of_owns h.o4, RowR.of_owns h.o5⟩

theorem OwnLed.later (h : OwnLed w A B v2 v3 v4 v5 vs pss g) (hb : Below w.heap.size w w') : OwnLed w' A B v2 v3 v4 v5 vs pss g :=
  ⟨owns_later h.o2 hb, owns_later h.o3 hb, owns_later h.o4 hb, owns_later h.o5 hb, h.ap, h.len, fun i hi => owns_later (h.rows i hi) hb, Nat.le_trans h.base hb.size, h.low, fun w2 h2 k2 => h.are w2 ((hb.mono (Nat.le_trans h.low h.base)).trans h2) ((Keeps5.later hb).trans k2), h.apart⟩

/-- A store into a box of ledgers. -/
theorem OwnLed.box (h : OwnLed w A B v2 v3 v4 v5 vs pss g) {k : Nat} {c : Array Value} (hk : w.heap[k]? = some (.cells c 26 (0, 0))) (hB : A ≤ k) (i : Nat) (u : Value) : OwnLed (w.setCell ⟨k, i, none⟩ u) A B v2 v3 v4 v5 vs pss g :=
  ⟨ownsRow_setCell_other h.o2 (owns_ne_type h.o2 hk (by decide)) u, ownsRow_setCell_other h.o3 (owns_ne_type h.o3 hk (by decide)) u, ownsRow_setCell_other h.o4 (owns_ne_type h.o4 hk (by decide)) u, ownsRow_setCell_other h.o5 (owns_ne_type h.o5 hk (by decide)) u,
   h.ap, h.len, fun i hi => ownsRow_setCell_other (h.rows i hi) (owns_ne_type (h.rows i hi) hk (by decide)) u, by simpa using h.base, h.low, fun w2 h2 k2 => h.are w2 (((Below.refl _ _).setCell hB u).trans h2) ((Keeps5.set hk (by decide) i u).trans k2), h.apart⟩

/-- append onto the holds. -/
theorem OwnLed.push3 (h : OwnLed w A B v2 v3 v4 v5 vs pss g) {v3' : Value} {p : ByteArray × Int} (ho : w'.ownsRow B 56 2 v3' (g.holds.length + 1) (pairCells g.holds ++ [.string p.1, .int .i64 p.2])) (hg : w.grownBy w' v3.ownBlock) :
    OwnLed w' A B v2 v3' v4 v5 vs pss { g with holds := g.holds ++ [p] } := by
  refine ⟨h.o2.kept hg (apart_types h.o2 h.o3 (by decide)), ?_, h.o4.kept hg (apart_types h.o4 h.o3 (by decide)), h.o5.kept hg (apart_types h.o5 h.o3 (by decide)), h.ap, h.len, fun i hi => (h.rows i hi).kept hg (apart_types (h.rows i hi) h.o3 (by decide)), Nat.le_trans h.base hg.size, h.low,
    fun w2 h2 k2 => h.are w2 ((Below.grown (Below.refl _ _) hg (Nat.le_trans h.low h.base) fun k hk => Nat.le_trans h.low (h.o3.lt k hk).1).trans h2) ((Keeps5.grown h.o3 hg (by decide)).trans k2), h.apart⟩
  simpa [pairCells] using ho
/-- append onto the demands. -/
theorem OwnLed.push4 (h : OwnLed w A B v2 v3 v4 v5 vs pss g) {v4' : Value} {p : ByteArray × Int} (ho : w'.ownsRow B 46 2 v4' (g.demands.length + 1) (pairCells g.demands ++ [.string p.1, .int .i64 p.2])) (hg : w.grownBy w' v4.ownBlock)
    (hat : v4'.ownBlock = v4.ownBlock ∨ v4'.ownBlock = some w.heap.size) : OwnLed w' A B v2 v3 v4' v5 vs pss { g with demands := g.demands ++ [p] } := by
  refine ⟨h.o2.kept hg (apart_types h.o2 h.o4 (by decide)), h.o3.kept hg (apart_types h.o3 h.o4 (by decide)), ?_, h.o5.kept hg ?_, ?_, h.len, fun i hi => (h.rows i hi).kept hg (apart_types (h.rows i hi) h.o4 (by decide)), Nat.le_trans h.base hg.size, h.low,
    fun w2 h2 k2 => h.are w2 ((Below.grown (Below.refl _ _) hg (Nat.le_trans h.low h.base) fun k hk => Nat.le_trans h.low (h.o4.lt k hk).1).trans h2) ((Keeps5.grown h.o4 hg (by decide)).trans k2), h.apart⟩
  · simpa [pairCells] using ho
  · rcases h.ap with ha | ha
    · cases h5 : v5.ownBlock with
      | none => exact .inl rfl
      | some k => rw [ha]; exact .inr (by simp)
    · exact .inr (Ne.symm ha)
  · rcases hat with e | e
    · unfold Apart; rw [e]; exact h.ap
    · refine .inr ?_
      rw [e]; intro hh
      have := (h.o5.lt _ hh.symm).2
      omega
/-- append onto the certificates. -/
theorem OwnLed.push5 (h : OwnLed w A B v2 v3 v4 v5 vs pss g) {v5' : Value} {p : ByteArray × Int} (ho : w'.ownsRow B 46 2 v5' (g.dones.length + 1) (pairCells g.dones ++ [.string p.1, .int .i64 p.2])) (hg : w.grownBy w' v5.ownBlock)
    (hat : v5'.ownBlock = v5.ownBlock ∨ v5'.ownBlock = some w.heap.size) : OwnLed w' A B v2 v3 v4 v5' vs pss { g with dones := g.dones ++ [p] } := by
  refine ⟨h.o2.kept hg (apart_types h.o2 h.o5 (by decide)), h.o3.kept hg (apart_types h.o3 h.o5 (by decide)), h.o4.kept hg h.ap, ?_, ?_, h.len, fun i hi => (h.rows i hi).kept hg (apart_types (h.rows i hi) h.o5 (by decide)), Nat.le_trans h.base hg.size, h.low,
    fun w2 h2 k2 => h.are w2 ((Below.grown (Below.refl _ _) hg (Nat.le_trans h.low h.base) fun k hk => Nat.le_trans h.low (h.o5.lt k hk).1).trans h2) ((Keeps5.grown h.o5 hg (by decide)).trans k2), h.apart⟩
  · simpa [pairCells] using ho
  · rcases hat with e | e
    · unfold Apart; rw [e]; exact h.ap
    · refine .inr ?_
      rw [e]; intro hh
      have := (h.o4.lt _ hh).2
      omega
end

/-- Three boxes that a call has laid first. -/
structure ThreeBox (w : World) (c1 c2 c3 : Array Value) (t1 t2 t3 : TypeId) (wx : World) : Prop where
  below : Below w.heap.size w wx
  one : wx.heap[w.heap.size]? = some (.cells c1 t1 (0, 0))
  two : wx.heap[w.heap.size + 1]? = some (.cells c2 t2 (0, 0))
  three : wx.heap[w.heap.size + 1 + 1]? = some (.cells c3 t3 (0, 0))
section
variable {w wx w' : World} {c1 c2 c3 : Array Value} {t1 t2 t3 : TypeId}
theorem ThreeBox.later (h : ThreeBox w c1 c2 c3 t1 t2 t3 wx) (hb : Below wx.heap.size wx w') : ThreeBox w c1 c2 c3 t1 t2 t3 w' :=
  ⟨below_step h.below hb, blk_later h.one hb, blk_later h.two hb, blk_later h.three hb⟩
theorem ThreeBox.drew (h : ThreeBox w c1 c2 c3 t1 t2 t3 wx) : ThreeBox w c1 c2 c3 t1 t2 t3 wx.drew := ⟨h.below.drew, h.one, h.two, h.three⟩
theorem ThreeBox.laid (w : World) (c1 c2 c3 : Array Value) (t1 t2 t3 : TypeId) : ThreeBox w c1 c2 c3 t1 t2 t3 (((w.alloc (.cells c1 t1)).alloc (.cells c2 t2)).alloc (.cells c3 t3)) :=
  ⟨(((Below.refl _ _).alloc (Nat.le_refl _) _).alloc (by simp) _).alloc (by simp; omega) _, by
    show (((w.heap.push _).push _).push _)[_]? = _
    rw [Array.getElem?_push, Array.getElem?_push, Array.getElem?_push]; simp
    intro h; omega, by
    show (((w.heap.push _).push _).push _)[_]? = _
    rw [Array.getElem?_push, Array.getElem?_push]; simp, by
    show (((w.heap.push _).push _).push _)[_]? = _
    rw [Array.getElem?_push]; simp⟩
theorem ThreeBox.walk (h : ThreeBox w c1 c2 c3 t1 t2 t3 wx) :
    (∀ i, wx.cell? ⟨w.heap.size, i, none⟩ = c1[i]?) ∧ (∀ i, wx.cell? ⟨w.heap.size + 1, i, none⟩ = c2[i]?) ∧ (∀ i, wx.cell? ⟨w.heap.size + 1 + 1, i, none⟩ = c3[i]?) ∧ (∀ i, wx.frozen? ⟨w.heap.size + 1 + 1, i, none⟩ = false) ∧ w.heap.size < wx.heap.size ∧ w.heap.size + 1 < wx.heap.size ∧ w.heap.size + 1 + 1 < wx.heap.size :=
  ⟨(blk_cells h.one).1, (blk_cells h.two).1, (blk_cells h.three).1, (blk_cells h.three).2, lt_of_blk h.one, lt_of_blk h.two, lt_of_blk h.three⟩
end

/-- Within the bounds of the walks. -/
structure Fits (g : LedD) : Prop where
  s : g.shares.length ≤ 4095
  r : ∀ x ∈ g.shares, x.length ≤ 4095
  h : g.holds.length ≤ 4095
  d : g.demands.length ≤ 4095
  e : g.dones.length ≤ 4095
theorem Fits.clone {g : LedD} (h : Fits g) {w w0 : World} (hb : Below w0.heap.size w0 w) {v : Value} {A : Nat} (hA : A ≤ w0.heap.size) (hr : LedAt A w0 v g) : Calls Tryz.prog 45 #[v] w (CloneRet A w g) :=
  clone_45A w A (Nat.le_trans hA hb.size) v g (hr.later hA hb) (by have := h.s; omega) (fun x hx => by have := h.r x hx; omega) (by have := h.h; omega) (by have := h.d; omega) (by have := h.e; omega)
def zeroLed : LedD := ⟨0, 0, [], [], [], []⟩
/-- A ledger comes back. -/
def LedRet (w : World) (g : LedD) (e : Ending) (w' : World) : Prop := ∃ v', e = .returned v' ∧ LedR w' v' g ∧ Below w.heap.size w w'
/-- A ledger and an error come back. -/
def LedErr (w : World) (g : LedD) (n : Int) (e : Ending) (w' : World) : Prop := ∃ v', e = .returned (.tuple #[v', .int .i64 n]) ∧ LedR w' v' g ∧ Below w.heap.size w w'
/-- A ledger in memory whose blocks are of their own kinds. -/
def LedO (A : Nat) (w : World) (v : Value) (g : LedD) : Prop := ∃ (v2 v3 v4 v5 : Value) (B : Nat) (vs : List Value) (pss : List (List (ByteArray × Int × Value))), v = .agg #[.int .i64 g.owners, .int .i64 g.need, v2, v3, v4, v5] ∧ OwnLed w A B v2 v3 v4 v5 vs pss g
theorem OwnLed.o {w : World} {A B : Nat} {v2 v3 v4 v5 : Value} {vs : List Value} {pss : List (List (ByteArray × Int × Value))} {g : LedD} (h : OwnLed w A B v2 v3 v4 v5 vs pss g) : LedO A w (.agg #[.int .i64 g.owners, .int .i64 g.need, v2, v3, v4, v5]) g := ⟨_, _, _, _, _, _, _, rfl, h⟩
theorem LedO.led {A : Nat} {w : World} {v : Value} {g : LedD} (h : LedO A w v g) : LedR w v g := by
  obtain ⟨v2, v3, v4, v5, B, vs, pss, rfl, h⟩ := h
  exact h.led
theorem LedO.at {A : Nat} {w : World} {v : Value} {g : LedD} (h : LedO A w v g) : LedAt A w v g := by
  obtain ⟨v2, v3, v4, v5, B, vs, pss, rfl, h⟩ := h
  exact ⟨v2, v3, v4, v5, vs, pss, rfl, RowR.of_owns h.o2, h.len, fun i hi => RowR.of_owns (h.rows i hi), RowR.of_owns h.o3, RowR.of_owns h.o4, RowR.of_owns h.o5, h.are⟩
theorem LedO.later {A : Nat} {w w' : World} {v : Value} {g : LedD} (h : LedO A w v g) (hb : Below w.heap.size w w') : LedO A w' v g := by
  obtain ⟨v2, v3, v4, v5, B, vs, pss, rfl, h⟩ := h
  exact (h.later hb).o
/-- A ledger comes back, in blocks of their own kinds. -/
def LedRetA (A : Nat) (w : World) (g : LedD) (e : Ending) (w' : World) : Prop := ∃ v', e = .returned v' ∧ LedO A w' v' g ∧ Below w.heap.size w w'
def LedErrA (A : Nat) (w : World) (g : LedD) (n : Int) (e : Ending) (w' : World) : Prop := ∃ v', e = .returned (.tuple #[v', .int .i64 n]) ∧ LedO A w' v' g ∧ Below w.heap.size w w'
theorem LedRetA.old {A : Nat} {w w' : World} {g : LedD} {e : Ending} (h : LedRetA A w g e w') : LedRet w g e w' := let ⟨v, h1, h2, h3⟩ := h; ⟨v, h1, h2.led, h3⟩
theorem LedErrA.old {A : Nat} {w w' : World} {g : LedD} {n : Int} {e : Ending} (h : LedErrA A w g n e w') : LedErr w g n e w' := let ⟨v, h1, h2, h3⟩ := h; ⟨v, h1, h2.led, h3⟩
theorem owns_nil (w : World) (B : Nat) (e : TypeId) (sz : Nat) : w.ownsRow B e sz (.slice none 0 0) 0 [] := ⟨by simp, .inl ⟨rfl, rfl⟩⟩
theorem zeroLed_o {A : Nat} {w : World} (hA : A ≤ w.heap.size) : LedO A w (.agg #[.int .i64 0, .int .i64 0, .slice none 0 0, .slice none 0 0, .slice none 0 0, .slice none 0 0]) zeroLed :=
  ⟨_, _, _, _, A, [], [], rfl, owns_nil w A 88 1, owns_nil w A 56 2, owns_nil w A 46 2, owns_nil w A 46 2, .inl rfl, rfl, fun i h => absurd h (by simp), hA, Nat.le_refl _, fun _ _ _ i h => absurd h (by simp [zeroLed]), fun i j h => absurd h (by simp)⟩
theorem LedErrA.zero {A : Nat} {w w' : World} (hA : A ≤ w.heap.size) (n : Int) (hb : Below w.heap.size w w') : LedErrA A w zeroLed n (.returned (.tuple #[.agg #[.int .i64 0, .int .i64 0, .slice none 0 0, .slice none 0 0, .slice none 0 0, .slice none 0 0], .int .i64 n])) w' := ⟨_, rfl, zeroLed_o (Nat.le_trans hA hb.size), hb⟩
theorem zeroLed_r (w : World) : LedR w (.agg #[.int .i64 0, .int .i64 0, .slice none 0 0, .slice none 0 0, .slice none 0 0, .slice none 0 0]) zeroLed :=
  ⟨_, _, _, _, rfl, ⟨[], RowR.nil w 1, .nil⟩, RowR.nil w 2, RowR.nil w 2, RowR.nil w 2⟩

theorem OwnLed.box6 {w : World} {A B : Nat} {v2 v3 v4 v5 : Value} {vs : List Value} {pss : List (List (ByteArray × Int × Value))} {g : LedD} (h : OwnLed w A B v2 v3 v4 v5 vs pss g) {k : Nat} {c : Array Value} (hk : w.heap[k]? = some (.cells c 26 (0, 0))) (hB : A ≤ k) (u0 u1 u2 u3 u4 u5 : Value) :
    OwnLed ((((((w.setCell ⟨k, 0, none⟩ u0).setCell ⟨k, 1, none⟩ u1).setCell ⟨k, 2, none⟩ u2).setCell ⟨k, 3, none⟩ u3).setCell ⟨k, 4, none⟩ u4).setCell ⟨k, 5, none⟩ u5) A B v2 v3 v4 v5 vs pss g :=
  (((((h.box hk hB 0 u0).box (blk_set hk _ _) hB 1 u1).box (blk_set (blk_set hk _ _) _ _) hB 2 u2).box (blk_set (blk_set (blk_set hk _ _) _ _) _ _) hB 3 u3).box (blk_set (blk_set (blk_set (blk_set hk _ _) _ _) _ _) _ _) hB 4 u4).box (blk_set (blk_set (blk_set (blk_set (blk_set hk _ _) _ _) _ _) _ _) _ _) hB 5 u5
theorem blk_six {w : World} {k j : Nat} {o : Obj} (h : w.heap[j]? = some o) (hne : j ≠ k) (u0 u1 u2 u3 u4 u5 : Value) :
    ((((((w.setCell ⟨k, 0, none⟩ u0).setCell ⟨k, 1, none⟩ u1).setCell ⟨k, 2, none⟩ u2).setCell ⟨k, 3, none⟩ u3).setCell ⟨k, 4, none⟩ u4).setCell ⟨k, 5, none⟩ u5).heap[j]? = some o := by
  rw [Below.heap_setCell _ _ _ _ hne, Below.heap_setCell _ _ _ _ hne, Below.heap_setCell _ _ _ _ hne, Below.heap_setCell _ _ _ _ hne, Below.heap_setCell _ _ _ _ hne, Below.heap_setCell _ _ _ _ hne]
  exact h
theorem below_six {A : Nat} {a w : World} (h : Below A a w) {k : Nat} (hk : A ≤ k) (u0 u1 u2 u3 u4 u5 : Value) :
    Below A a ((((((w.setCell ⟨k, 0, none⟩ u0).setCell ⟨k, 1, none⟩ u1).setCell ⟨k, 2, none⟩ u2).setCell ⟨k, 3, none⟩ u3).setCell ⟨k, 4, none⟩ u4).setCell ⟨k, 5, none⟩ u5) :=
  (((((h.setCell hk _).setCell hk _).setCell hk _).setCell hk _).setCell hk _).setCell hk _

/-- A box that was laid ahead of what the call owns stands where one of the owned rows grows. -/
theorem ThreeBox.kept {w wx w' : World} {c1 c2 c3 : Array Value} {t1 t2 t3 : TypeId} (h : ThreeBox w c1 c2 c3 t1 t2 t3 wx) {r : Option Nat} (hg : wx.grownBy w' r) (hr : ∀ k, r = some k → w.heap.size + 3 ≤ k) : ThreeBox w c1 c2 c3 t1 t2 t3 w' := by
  refine ⟨Below.grown h.below hg h.below.size fun k hk => by have := hr k hk; omega, ?_, ?_, ?_⟩
  · exact (hg.block _ (lt_of_blk h.one) (fun hh => by have := hr _ hh.symm; omega)).trans h.one
  · exact (hg.block _ (lt_of_blk h.two) (fun hh => by have := hr _ hh.symm; omega)).trans h.two
  · exact (hg.block _ (lt_of_blk h.three) (fun hh => by have := hr _ hh.symm; omega)).trans h.three
theorem grown_blk {w w' : World} {v : Value} {base e sz n : Nat} {xs : List Value} (ho : w.ownsRow base e sz v n xs) (hg : w.grownBy w' v.ownBlock) {k : Nat} {c : Array Value} {t : TypeId} {fr : Nat × Nat} (hk : w.heap[k]? = some (.cells c t fr)) (hne : e ≠ t) : w'.heap[k]? = some (.cells c t fr) :=
  (hg.block k (lt_of_blk hk) (fun h => owns_ne_type ho hk hne h.symm)).trans hk

theorem ThreeBox.setOther {w wx : World} {c1 c2 c3 : Array Value} {t1 t2 t3 : TypeId} (h : ThreeBox w c1 c2 c3 t1 t2 t3 wx) {k : Nat} (hk : w.heap.size + 1 + 1 < k) (i : Nat) (u : Value) : ThreeBox w c1 c2 c3 t1 t2 t3 (wx.setCell ⟨k, i, none⟩ u) :=
  ⟨h.below.setCell (by simp; omega) _, (Below.heap_setCell _ _ _ _ (by simp; omega)).trans h.one, (Below.heap_setCell _ _ _ _ (by simp; omega)).trans h.two, (Below.heap_setCell _ _ _ _ (by simp; omega)).trans h.three⟩
/-- The ledger that is handed back through the third box. -/
theorem ledErr_fin {A : Nat} {w w5 : World} {c1 c2 c3 : Array Value} {t1 t2 : TypeId} {B : Nat} {v2 v3 v4 v5 : Value} {vs : List Value} {pss : List (List (ByteArray × Int × Value))} {g : LedD} (hA : A ≤ w.heap.size) (hF : ThreeBox w c1 c2 c3 t1 t2 26 w5) (hO : OwnLed w5 A B v2 v3 v4 v5 vs pss g) (n : Int) :
    LedErrA A w g n (.returned (.tuple #[.agg #[.int .i64 g.owners, .int .i64 g.need, v2, v3, v4, v5], .int .i64 n])) ((((((w5.setCell ⟨w.heap.size + 1 + 1, 0, none⟩ (.int .i64 g.owners)).setCell ⟨w.heap.size + 1 + 1, 1, none⟩ (.int .i64 g.need)).setCell ⟨w.heap.size + 1 + 1, 2, none⟩ v2).setCell ⟨w.heap.size + 1 + 1, 3, none⟩ v3).setCell ⟨w.heap.size + 1 + 1, 4, none⟩ v4).setCell ⟨w.heap.size + 1 + 1, 5, none⟩ v5) :=
  ⟨_, rfl, (hO.box6 hF.three (by omega) _ _ _ _ _ _).o, below_six hF.below (by omega) _ _ _ _ _ _⟩

/-- The pair that append hands over lies in a new box. -/
theorem pair_laid (w : World) (p1 : ByteArray) (p2 : Int) (t : TypeId) (k : Nat) (hk : k = w.heap.size) : ∀ j u, [Value.string p1, .int .i64 p2][j]? = some u → (w.alloc (.cells #[.string p1, .int .i64 p2] t)).cell? ((⟨k, 0, none⟩ : Addr).add j) = some u := by
  subst hk
  intro j u hj
  match j, hj with
  | 0, hj => simp at hj; subst hj; simp [Addr.add]
  | 1, hj => simp at hj; subst hj; simp [Addr.add]
end Go.Proofs.YtpbgipdkaaooeaaGreatDoor
