/- forget.GiveUp: what it computes, and the laws of its worlds. -/
import Derived.Test.YtpbgipdkaaooeaaGreatDoorK
open Go Go.Proofs Go.RowKit
namespace Go.Proofs.YtpbgipdkaaooeaaGreatDoor
set_option linter.unusedSimpArgs false
set_option linter.unusedVariables false

def atD (t : ByteArray) (l : List (ByteArray × Int)) : Int := match firstD t l with | some p => p.2 | none => 0
def rowD (t : ByteArray) (r : List HeldD) : List HeldD := r.filter fun h => !sEq h.subj t
/-- The arguments are wrong. -/
def giveBad (g : LedD) (o : Int) : Bool := !validB g || decide (o < 0) || decide (g.owners ≤ o)
def giveL (g : LedD) (i : Nat) (t : ByteArray) (a : Int) : List (Bool × Int) :=
  [(!(firstD t g.demands).isSome || !hasRow t (g.shares.getD i []), 4), (decide (a < atD t g.demands), 1), (forceB t a g.holds && !(firstD t g.dones).isSome, 350)]
def giveE (g : LedD) (o : Int) (t : ByteArray) (a : Int) : Int := if giveBad g o then 1 else firstErr (giveL g o.toNat t a)
def giveCut (g : LedD) (i : Nat) (t : ByteArray) : LedD := { g with shares := g.shares.set i (rowD t (g.shares.getD i [])) }
def giveDone (g : LedD) (i : Nat) (t : ByteArray) : Bool := !(firstD t g.dones).isSome && decide ((leftD t (giveCut g i t).shares : Int) < g.need)
def giveD (g : LedD) (o : Int) (t : ByteArray) (a : Int) : LedD :=
  if giveE g o t a = 0 then (if giveDone g o.toNat t then { giveCut g o.toNat t with dones := g.dones ++ [(t, a)] } else giveCut g o.toNat t) else zeroLed

theorem heldsAre_filter {w : World} {ps : List (ByteArray × Int × Value)} {l : List HeldD} (h : HeldsAre w ps l) (t : ByteArray) : HeldsAre w (ps.filter (keepP t)) (rowD t l) := by
  induction h with
  | nil => exact .nil
  | cons h1 _ ih =>
    rename_i p x ps hs _
    have e : keepP t p = !sEq x.subj t := by unfold keepP; rw [h1.1]
    unfold rowD at *
    rw [List.filter_cons, List.filter_cons, e]
    split
    · exact .cons h1 ih
    · exact ih

/-- One owner's row was thinned out in place, and the slice was put back. -/
theorem OwnLed.thin {w w' : World} {A B : Nat} {v3 v4 v5 v' : Value} {vs : List Value} {pss : List (List (ByteArray × Int × Value))} {g : LedD} {g2 k2 : Nat} {t : ByteArray} {i : Nat} (h : OwnLed w A B (.slice (some ⟨g2, 0, none⟩) vs.length k2) v3 v4 v5 vs pss g) (hi : i < vs.length)
    (ho : w'.ownsRow B 90 3 v' ((pss.getD i []).filter (keepP t)).length (heldCells ((pss.getD i []).filter (keepP t)))) (hg : w.grownBy w' vs[i].ownBlock) (hb : v'.ownBlock = vs[i].ownBlock) :
    ∃ pss', OwnLed (w'.setCell ⟨g2, i, none⟩ v') A B (.slice (some ⟨g2, 0, none⟩) vs.length k2) v3 v4 v5 (vs.set i v') pss' (giveCut g i t) := by
  have o2 := (h.o2.kept hg (apart_types h.o2 (h.rows i hi) (by decide)))
  have h2 : ∃ cur, w'.heap[g2]? = some (.cells cur 88 (0, 0)) ∧ B ≤ g2 := by
    rcases o2.2 with ⟨h0, _⟩ | ⟨g', cap', cur, hv, hbg, hh, _⟩
    · simp at h0
    · simp only [Value.slice.injEq, Option.some.injEq, Addr.mk.injEq, and_true, true_and] at hv
      obtain ⟨rfl, rfl⟩ := hv
      exact ⟨_, hh, hbg⟩
  obtain ⟨cur2, hblk, hB2⟩ := h2
  have S := o2.stored i v'
  have O3 := h.o3.kept hg (apart_types h.o3 (h.rows i hi) (by decide))
  have O4 := h.o4.kept hg (apart_types h.o4 (h.rows i hi) (by decide))
  have O5 := h.o5.kept hg (apart_types h.o5 (h.rows i hi) (by decide))
  refine ⟨(List.range vs.length).map fun j => if j = i then (pss.getD i []).filter (keepP t) else pss.getD j [], ?_⟩
  have hpss : ∀ j, j < vs.length → ((List.range vs.length).map fun j => if j = i then (pss.getD i []).filter (keepP t) else pss.getD j []).getD j [] = if j = i then (pss.getD i []).filter (keepP t) else pss.getD j [] := by
    intro j hj
    rw [List.getD_eq_getElem?_getD, List.getElem?_map, List.getElem?_range hj]
    rfl
  have hbel : Below A w (w'.setCell ⟨g2, i, none⟩ v') := (Below.grown (Below.refl _ _) hg (Nat.le_trans h.low h.base) fun k hk => Nat.le_trans h.low ((h.rows i hi).lt k hk).1).setCell (Nat.le_trans h.low hB2) _
  have hk5 : Keeps5 w (w'.setCell ⟨g2, i, none⟩ v') := (Keeps5.grown (h.rows i hi) hg (by decide)).trans (Keeps5.set hblk (by decide) i v')
  have hll := h.len
  have hown : ∀ j (hj : j < (vs.set i v').length), ((vs.set i v')[j]).ownBlock = (vs[j]'(by simpa using hj)).ownBlock := by
    intro j hj
    by_cases hji : i = j
    · subst hji; simp only [List.getElem_set_self]; exact hb
    · rw [List.getElem_set_ne hji]
  refine ⟨?_, ownsRow_setCell_other O3 (owns_ne_type O3 hblk (by decide)) _, ownsRow_setCell_other O4 (owns_ne_type O4 hblk (by decide)) _, ownsRow_setCell_other O5 (owns_ne_type O5 hblk (by decide)) _, h.ap, by simpa [giveCut] using h.len, ?_, by simpa using Nat.le_trans h.base hg.size, h.low, ?_, ?_⟩
  · rw [List.length_set]; exact S.1
  · intro j hj
    have hj' : j < vs.length := by simpa using hj
    rw [hpss j hj']
    by_cases hji : i = j
    · subst hji
      simp only [List.getElem_set_self, if_true]
      exact ownsRow_setCell_other ho (owns_ne_type ho hblk (by decide)) _
    · rw [List.getElem_set_ne hji, if_neg (fun h => hji h.symm)]
      have hr := (h.rows j hj').kept hg (h.apart j i hj' hi (fun h => hji h.symm))
      exact ownsRow_setCell_other hr (owns_ne_type hr hblk (by decide)) _
  · intro w2 hw2 kw2 j hj
    have hj' : j < g.shares.length := by simpa [giveCut] using hj
    have hjv : j < vs.length := by omega
    rw [hpss j hjv]
    by_cases hji : i = j
    · subst hji
      simp only [giveCut, List.getElem_set_self, if_true]
      have := heldsAre_filter (h.are w2 (hbel.trans hw2) (hk5.trans kw2) i hj') t
      have e : g.shares.getD i [] = g.shares[i] := by rw [List.getD_eq_getElem?_getD, List.getElem?_eq_getElem hj']; rfl
      rw [e]
      exact this
    · simp only [giveCut, List.getElem_set_ne hji]
      rw [if_neg (fun h => hji h.symm)]
      exact h.are w2 (hbel.trans hw2) (hk5.trans kw2) j hj'
  · intro a b ha hb' hab
    have := h.apart a b (by simpa using ha) (by simpa using hb') hab
    unfold Apart at *
    rw [hown a ha, hown b hb']
    exact this
end Go.Proofs.YtpbgipdkaaooeaaGreatDoor
