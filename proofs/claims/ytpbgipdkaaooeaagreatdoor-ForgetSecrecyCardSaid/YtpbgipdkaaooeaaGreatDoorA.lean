/- The plain data of package forget's ledgers, and what it means that a value in memory reads as such data. No program in sight. -/
import Derived.WalkKit
import Derived.WalkLawsBesides
import Derived.WalkSpells
import Derived.Handy
import Derived.Lib.Hide
import Derived.Maps.AppendAt
import Derived.Deep.AppendLies
open Go Go.RowKit
namespace Go.Proofs.YtpbgipdkaaooeaaGreatDoor
set_option linter.unusedSimpArgs false
set_option linter.unusedVariables false

/-- Equality of two strings, as the walk decides it. -/
def sEq (s t : ByteArray) : Bool := s.toList == t.toList
theorem sEq_def (s t : ByteArray) : (s.toList == t.toList) = sEq s t := rfl

/-- A share of a subject. -/
structure HeldD where
  subj : ByteArray
  x : Int
  b : List Int
instance : Inhabited HeldD := ⟨⟨ByteArray.empty, 0, []⟩⟩

/-- A ledger. -/
structure LedD where
  owners : Int
  need : Int
  shares : List (List HeldD)
  holds : List (ByteArray × Int)
  demands : List (ByteArray × Int)
  dones : List (ByteArray × Int)

/-- A slice value of n elements of sz cells each reads as the cells cs. -/
def RowR (w : World) (v : Value) (sz : Nat) (cs : List Value) (n : Nat) : Prop :=
  cs.length = n * sz ∧ ∃ ao cap, v = .slice ao n cap ∧ n ≤ cap ∧ cap ≤ maxLen ∧
    (0 < n → ∃ b off, ao = some ⟨b, off, none⟩ ∧ b < w.heap.size ∧ ∀ j, j < n * sz → w.cell? ⟨b, off + j, none⟩ = cs[j]?)

theorem RowR.later {w w' : World} {v : Value} {sz n : Nat} {cs : List Value} (h : RowR w v sz cs n) (hb : Below w.heap.size w w') : RowR w' v sz cs n := by
  obtain ⟨h1, ao, cap, h2, h3, h4, h5⟩ := h
  refine ⟨h1, ao, cap, h2, h3, h4, fun hn => ?_⟩
  obtain ⟨b, off, e, hlt, hc⟩ := h5 hn
  exact ⟨b, off, e, Nat.lt_of_lt_of_le hlt hb.size, fun j hj => by rw [hb.cell (p := ⟨b, off + j, none⟩) hlt]; exact hc j hj⟩

theorem RowR.nil (w : World) (sz : Nat) : RowR w (.slice none 0 0) sz [] 0 :=
  ⟨by simp, none, 0, rfl, Nat.le_refl _, by unfold maxLen; omega, fun h => absurd h (by omega)⟩

/-- What the call owns reads as its cells. -/
theorem RowR.of_owns {w : World} {base e sz n : Nat} {v : Value} {xs : List Value} (h : w.ownsRow base e sz v n xs) : RowR w v sz xs n := by
  obtain ⟨h1, h2⟩ := h
  refine ⟨h1, ?_⟩
  rcases h2 with ⟨rfl, rfl⟩ | ⟨g, cap, cur, rfl, hg, hh, hn, hm, hs, ht⟩
  · exact ⟨none, 0, rfl, Nat.le_refl _, by unfold maxLen; omega, fun h => absurd h (by omega)⟩
  · refine ⟨_, cap, rfl, hn, hm, fun _ => ⟨g, 0, rfl, (Array.getElem?_eq_some_iff.1 hh).1, fun j hj => ?_⟩⟩
    have : w.cell? ⟨g, 0 + j, none⟩ = cur[j]? := by
      simp [World.cell?, hh]
    rw [this, ← ht, List.getElem?_take, if_pos hj]
    simp

/-- The cells of a list of pairs of a text and a number (holds, demands). -/
def pairCells (l : List (ByteArray × Int)) : List Value := l.flatMap fun p => [.string p.1, .int .i64 p.2]
/-- The cells of shares whose bytes lie behind the values. -/
def heldCells (l : List (ByteArray × Int × Value)) : List Value := l.flatMap fun p => [.string p.1, .int .u8 p.2.1, p.2.2]

theorem pairCells_length (l : List (ByteArray × Int)) : (pairCells l).length = l.length * 2 := by
  unfold pairCells; induction l with
  | nil => rfl
  | cons a l ih => simp only [List.flatMap_cons, List.length_append, List.length_cons, List.length_nil, ih]; omega
theorem heldCells_length (l : List (ByteArray × Int × Value)) : (heldCells l).length = l.length * 3 := by
  unfold heldCells; induction l with
  | nil => rfl
  | cons a l ih => simp only [List.flatMap_cons, List.length_append, List.length_cons, List.length_nil, ih]; omega

theorem pairCells_at (l : List (ByteArray × Int)) : ∀ (k : Nat) (h : k < l.length), (pairCells l)[k * 2]? = some (.string (l[k]).1) ∧ (pairCells l)[k * 2 + 1]? = some (.int .i64 (l[k]).2) := by
  induction l with
  | nil => intro k h; simp at h
  | cons a l ih =>
    intro k h
    cases k with
    | zero => simp [pairCells]
    | succ k =>
      have := ih k (by simpa using h)
      have e : pairCells (a :: l) = .string a.1 :: .int .i64 a.2 :: pairCells l := by simp [pairCells]
      rw [e, show (k + 1) * 2 = k * 2 + 1 + 1 by omega]
      simpa using this
theorem heldCells_at (l : List (ByteArray × Int × Value)) : ∀ (k : Nat) (h : k < l.length), (heldCells l)[k * 3]? = some (.string (l[k]).1) ∧ (heldCells l)[k * 3 + 1]? = some (.int .u8 (l[k]).2.1) ∧ (heldCells l)[k * 3 + 2]? = some (l[k]).2.2 := by
  induction l with
  | nil => intro k h; simp at h
  | cons a l ih =>
    intro k h
    cases k with
    | zero => simp [heldCells]
    | succ k =>
      have := ih k (by simpa using h)
      have e : heldCells (a :: l) = .string a.1 :: .int .u8 a.2.1 :: a.2.2 :: heldCells l := by simp [heldCells]
      rw [e, show (k + 1) * 3 = k * 3 + 1 + 1 + 1 by omega]
      simpa using this

/-- A slice of bytes. -/
def BytesR (w : World) (v : Value) (l : List Int) : Prop := RowR w v 1 (l.map (Value.int .u8)) l.length ∧ ∀ x ∈ l, 0 ≤ x ∧ x ≤ 255
/-- A slice of holds or of demands. -/
def PairsR (w : World) (v : Value) (l : List (ByteArray × Int)) : Prop := RowR w v 2 (pairCells l) l.length
/-- One share: its cells against its datum. -/
def HeldIs (w : World) (p : ByteArray × Int × Value) (h : HeldD) : Prop := p.1 = h.subj ∧ p.2.1 = h.x ∧ (0 ≤ h.x ∧ h.x ≤ 255) ∧ BytesR w p.2.2 h.b
inductive HeldsAre (w : World) : List (ByteArray × Int × Value) → List HeldD → Prop
  | nil : HeldsAre w [] []
  | cons {p h ps hs} : HeldIs w p h → HeldsAre w ps hs → HeldsAre w (p :: ps) (h :: hs)
/-- A slice of shares with their subjects. -/
def HeldsR (w : World) (v : Value) (l : List HeldD) : Prop := ∃ ps, RowR w v 3 (heldCells ps) ps.length ∧ HeldsAre w ps l
inductive RowsAre (w : World) : List Value → List (List HeldD) → Prop
  | nil : RowsAre w [] []
  | cons {v h vs hs} : HeldsR w v h → RowsAre w vs hs → RowsAre w (v :: vs) (h :: hs)
/-- The shares of all owners. -/
def SharesR (w : World) (v : Value) (l : List (List HeldD)) : Prop := ∃ vs, RowR w v 1 vs vs.length ∧ RowsAre w vs l
/-- A ledger by value. -/
def LedR (w : World) (v : Value) (g : LedD) : Prop := ∃ v2 v3 v4 v5, v = .agg #[.int .i64 g.owners, .int .i64 g.need, v2, v3, v4, v5] ∧
  SharesR w v2 g.shares ∧ PairsR w v3 g.holds ∧ PairsR w v4 g.demands ∧ PairsR w v5 g.dones

theorem BytesR.later {w w' : World} {v : Value} {l : List Int} (h : BytesR w v l) (hb : Below w.heap.size w w') : BytesR w' v l := ⟨h.1.later hb, h.2⟩
theorem PairsR.later {w w' : World} {v : Value} {l : List (ByteArray × Int)} (h : PairsR w v l) (hb : Below w.heap.size w w') : PairsR w' v l := RowR.later h hb
theorem HeldsAre.later {w w' : World} {ps : List (ByteArray × Int × Value)} {l : List HeldD} (h : HeldsAre w ps l) (hb : Below w.heap.size w w') : HeldsAre w' ps l := by
  induction h with
  | nil => exact .nil
  | cons h1 _ ih => exact .cons ⟨h1.1, h1.2.1, h1.2.2.1, h1.2.2.2.later hb⟩ ih
theorem HeldsR.later {w w' : World} {v : Value} {l : List HeldD} (h : HeldsR w v l) (hb : Below w.heap.size w w') : HeldsR w' v l :=
  let ⟨ps, h1, h2⟩ := h; ⟨ps, h1.later hb, h2.later hb⟩
theorem RowsAre.later {w w' : World} {vs : List Value} {l : List (List HeldD)} (h : RowsAre w vs l) (hb : Below w.heap.size w w') : RowsAre w' vs l := by
  induction h with
  | nil => exact .nil
  | cons h1 _ ih => exact .cons (h1.later hb) ih
theorem SharesR.later {w w' : World} {v : Value} {l : List (List HeldD)} (h : SharesR w v l) (hb : Below w.heap.size w w') : SharesR w' v l :=
  let ⟨vs, h1, h2⟩ := h; ⟨vs, h1.later hb, h2.later hb⟩
theorem LedR.later {w w' : World} {v : Value} {g : LedD} (h : LedR w v g) (hb : Below w.heap.size w w') : LedR w' v g :=
  let ⟨v2, v3, v4, v5, e, h2, h3, h4, h5⟩ := h; ⟨v2, v3, v4, v5, e, h2.later hb, h3.later hb, h4.later hb, h5.later hb⟩

theorem HeldsAre.length {w : World} {ps : List (ByteArray × Int × Value)} {l : List HeldD} (h : HeldsAre w ps l) : ps.length = l.length := by
  induction h with
  | nil => rfl
  | cons _ _ ih => simp [ih]
theorem RowsAre.length {w : World} {vs : List Value} {l : List (List HeldD)} (h : RowsAre w vs l) : vs.length = l.length := by
  induction h with
  | nil => rfl
  | cons _ _ ih => simp [ih]
theorem HeldsAre.at {w : World} {ps : List (ByteArray × Int × Value)} {l : List HeldD} (h : HeldsAre w ps l) : ∀ (k : Nat) (h1 : k < ps.length) (h2 : k < l.length), HeldIs w ps[k] l[k] := by
  induction h with
  | nil => intro k h1; simp at h1
  | cons h0 _ ih =>
    intro k h1 h2
    cases k with
    | zero => exact h0
    | succ k => exact ih k (by simpa using h1) (by simpa using h2)
theorem RowsAre.at {w : World} {vs : List Value} {l : List (List HeldD)} (h : RowsAre w vs l) : ∀ (k : Nat) (h1 : k < vs.length) (h2 : k < l.length), HeldsR w vs[k] l[k] := by
  induction h with
  | nil => intro k h1; simp at h1
  | cons h0 _ ih =>
    intro k h1 h2
    cases k with
    | zero => exact h0
    | succ k => exact ih k (by simpa using h1) (by simpa using h2)

/-- What a contract's 'Below' gives the walk: old cells and marks read as before. -/
theorem bcell {W w1 : World} (hb : Below W.heap.size W w1) : (∀ b o, b < W.heap.size → w1.cell? ⟨b, o, none⟩ = W.cell? ⟨b, o, none⟩) ∧ (∀ b o, b < W.heap.size → w1.frozen? ⟨b, o, none⟩ = W.frozen? ⟨b, o, none⟩) :=
  ⟨fun b o h => hb.cell (p := ⟨b, o, none⟩) h, fun b o h => hb.frozen (p := ⟨b, o, none⟩) h⟩

end Go.Proofs.YtpbgipdkaaooeaaGreatDoor
