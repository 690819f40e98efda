/- Contracts of forget.demanded, has, left, inForce, valid and first. -/
import Derived.Test.YtpbgipdkaaooeaaGreatDoorC
open Go Go.Proofs Go.RowKit
namespace Go.Proofs.YtpbgipdkaaooeaaGreatDoor
set_option linter.unusedSimpArgs false
set_option linter.unusedVariables false

/-- The first pair of a subject. -/
def firstD (t : ByteArray) (l : List (ByteArray × Int)) : Option (ByteArray × Int) := l.find? fun p => sEq p.1 t
def firstV (o : Option (ByteArray × Int)) : Value := match o with | some p => .agg #[.string p.1, .int .i64 p.2] | none => .agg #[.string ⟨#[]⟩, .int .i64 0]

theorem idxD_cases {α : Type} (p : α → Bool) (l : List α) :
    (∃ (k : Nat) (hk : k < l.length), idxD p l = k ∧ l.find? p = some l[k]) ∨ (idxD p l = -1 ∧ l.find? p = none) := by
  unfold idxD
  by_cases h : l.findIdx p < l.length
  · refine .inl ⟨_, h, by rw [if_pos h], ?_⟩
    rw [List.find?_eq_some_iff_getElem]
    refine ⟨List.findIdx_getElem (w := h), _, h, rfl, fun j hj => ?_⟩
    have := List.not_of_lt_findIdx hj
    simpa using this
  · refine .inr ⟨by rw [if_neg h], ?_⟩
    rw [List.find?_eq_none]
    intro x hx hp
    exact h (List.findIdx_lt_length.2 ⟨x, hx, hp⟩)

theorem blk2 {w : World} {b : Nat} {x y : Value} {t : TypeId} (h : w.heap[b]? = some (.cells #[x, y] t (0, 0))) :
    w.cell? ⟨b, 0, none⟩ = some x ∧ w.cell? ⟨b, 1, none⟩ = some y ∧ w.frozen? ⟨b, 0, none⟩ = false ∧ w.frozen? ⟨b, 1, none⟩ = false := by
  simp [World.cell?, World.frozen?, h]

theorem dem_53_world (w : World) (t : ByteArray) : Below w.heap.size w ((w.alloc (.cells #[.string t] 9)).alloc (.cells #[.string ⟨#[]⟩, .int .i64 0] 46)) := ((Below.refl _ _).alloc (Nat.le_refl _) _).alloc (by simp) _

set_option maxRecDepth 100000 in
theorem dem_53 (w : World) (v : Value) (l : List (ByteArray × Int)) (t : ByteArray) (h : PairsR w v l) (hl : l.length ≤ 4096) :
    Calls Tryz.prog 53 #[v, .string t] w fun e w' => e = .returned (.tuple #[firstV (firstD t l), .bool (firstD t l).isSome]) ∧ Below w.heap.size w w' := by
  have HB := Lib.hid (dem_53_world w t)
  have C := Lib.hid (idx_83 ((w.alloc (.cells #[.string t] 9)).alloc (.cells #[.string ⟨#[]⟩, .int .i64 0] 46)) v l t w.heap.size (h.later HB.out) (by simp [World.cell?_alloc_past]) (by simp; omega) hl)
  obtain ⟨hlen, ao, cap, rfl, hle, hm, hcell⟩ := h
  have KEY : Hid (∀ w', Below ((w.alloc (.cells #[.string t] 9)).alloc (.cells #[.string ⟨#[]⟩, .int .i64 0] 46)).heap.size ((w.alloc (.cells #[.string t] 9)).alloc (.cells #[.string ⟨#[]⟩, .int .i64 0] 46)) w' →
      (w'.cell? ⟨w.heap.size + 1, 0, none⟩ = some (.string ⟨#[]⟩) ∧ w'.cell? ⟨w.heap.size + 1, 1, none⟩ = some (.int .i64 0) ∧ w'.frozen? ⟨w.heap.size + 1, 0, none⟩ = false ∧ w'.frozen? ⟨w.heap.size + 1, 1, none⟩ = false) ∧ Below w.heap.size w w') :=
    fun w' hB => ⟨blk2 ((hB.block (w.heap.size + 1) (by simp)).trans (by rw [show w.heap.size + 1 = (w.alloc (.cells #[.string t] 9)).heap.size by simp]; exact heap_alloc_new _ _)), HB.out.trans (hB.mono (by simp; omega))⟩
  clear HB
  rcases idxD_cases (fun p : ByteArray × Int => sEq p.1 t) l with ⟨k, hk, e1, e2⟩ | ⟨e1, e2⟩
  · rw [e1] at C
    have e2' : firstD t l = some l[k] := e2
    rw [e2']
    obtain ⟨b, off, rfl, hbb, hcells⟩ := hcell (by omega)
    have hat := pairCells_at l k hk
    have h1 := hcells (k * 2) (by omega)
    have h2 := hcells (k * 2 + 1) (by omega)
    rw [hat.1] at h1
    rw [hat.2, ← Nat.add_assoc] at h2
    clear hat hcells hcell hlen e1 e2 e2' hm
    generalize l[k] = p at h1 h2 ⊢
    obtain ⟨p1, p2⟩ := p
    simp only at h1 h2
    generalize l.length = n at *
    go_enter Tryz.func53, Tryz.ntmps53
    go_wp2_with (go_at_call 83; refine C.out.mono ?_; rintro e w' ⟨rfl, hB'⟩; obtain ⟨⟨q0, q1, q2, q3⟩, hBw⟩ := KEY.out w' hB'; rw [← hBw.cell (p := ⟨b, off + k * 2, none⟩) hbb] at h1; rw [← hBw.cell (p := ⟨b, off + k * 2 + 1, none⟩) hbb] at h2; clear hB' C KEY)
    refine bodyPost_ret (v := .tuple #[.agg #[.string p1, .int .i64 p2], .bool true]) (by simp [results, Tryz.results53, go_sem, q0, q1, q2, q3]) rfl ⟨rfl, ?_⟩
    exact (hBw.setCell (by simp) _).setCell (by simp) _
  · rw [e1] at C
    have e2' : firstD t l = none := e2
    rw [e2']
    clear e1 e2 e2' hm hcell hlen
    generalize l.length = n at *
    go_enter Tryz.func53, Tryz.ntmps53
    go_wp2_with (go_at_call 83; refine C.out.mono ?_; rintro e w' ⟨rfl, hB'⟩; obtain ⟨⟨q0, q1, q2, q3⟩, hBw⟩ := KEY.out w' hB'; clear hB' C KEY)
    refine bodyPost_ret (v := .tuple #[.agg #[.string ⟨#[]⟩, .int .i64 0], .bool false]) (by simp [results, Tryz.results53, go_sem, q0, q1, q2, q3]) rfl ⟨rfl, ?_⟩
    exact (hBw.setCell (by simp) _).setCell (by simp) _

theorem firstV_form (o : Option (ByteArray × Int)) : ∃ a b, firstV o = .agg #[.string a, .int .i64 b] := by
  cases o with
  | none => exact ⟨_, _, rfl⟩
  | some p => exact ⟨_, _, rfl⟩

set_option maxRecDepth 100000 in
/-- forget.has -/
theorem has_42 (w : World) (v : Value) (l : List (ByteArray × Int)) (t : ByteArray) (h : PairsR w v l) (hl : l.length ≤ 4096) :
    Calls Tryz.prog 42 #[v, .string t] w fun e w' => e = .returned (.bool (firstD t l).isSome) ∧ Below w.heap.size w w' := by
  have C := Lib.hid (dem_53 w v l t h hl)
  obtain ⟨a, b, hf⟩ := firstV_form (firstD t l)
  rw [hf] at C
  generalize (firstD t l).isSome = q at *
  clear hf h hl
  go_enter Tryz.func42, Tryz.ntmps42
  go_wp2_with (go_at_call 53; refine C.out.mono ?_; rintro e w' ⟨rfl, hB'⟩)
  go_ret
  exact ⟨rfl, hB'.alloc hB'.size _⟩

/-- Is a ledger valid? -/
def validB (g : LedD) : Bool := decide (1 ≤ g.need) && decide (g.need ≤ g.owners) && decide (g.owners ≤ 5) && decide ((g.shares.length : Int) = g.owners)

set_option maxRecDepth 100000 in
/-- forget.valid -/
theorem valid_41 (w : World) (v : Value) (g : LedD) (h : LedR w v g) :
    Calls Tryz.prog 41 #[v] w fun e w' => e = .returned (.bool (validB g)) ∧ Below w.heap.size w w' := by
  obtain ⟨v2, v3, v4, v5, rfl, ⟨vs, ⟨hlen, ao, cap, rfl, hle, hm, hcell⟩, hare⟩, h3, h4, h5⟩ := h
  have hl := hare.length
  have hV : validB g = (decide (1 ≤ g.need) && decide (g.need ≤ g.owners) && decide (g.owners ≤ 5) && decide ((vs.length : Int) = g.owners)) := by rw [hl]; rfl
  rw [hV]
  clear hV hl hlen hcell hare h3 h4 h5 hm
  generalize g.need = n
  generalize g.owners = o
  generalize vs.length = k at *
  by_cases h1 : 1 ≤ n
  · by_cases h2 : n ≤ o
    · by_cases h3 : o ≤ 5
      · by_cases h4 : (k : Int) = o
        all_goals
          go_enter Tryz.func41, Tryz.ntmps41
          go_wp2
          go_ret
          exact ⟨ret_bool (by first | (simp; omega) | (simp [*]; done) | omega | rfl), (Below.refl _ _).alloc (Nat.le_refl _) _⟩
      · go_enter Tryz.func41, Tryz.ntmps41
        go_wp2
        go_ret
        exact ⟨ret_bool (by first | (simp; omega) | (simp [*]; done) | omega | rfl), (Below.refl _ _).alloc (Nat.le_refl _) _⟩
    · go_enter Tryz.func41, Tryz.ntmps41
      go_wp2
      go_ret
      exact ⟨ret_bool (by first | (simp; omega) | (simp [*]; done) | omega | rfl), (Below.refl _ _).alloc (Nat.le_refl _) _⟩
  · go_enter Tryz.func41, Tryz.ntmps41
    go_wp2
    go_ret
    exact ⟨ret_bool (by first | (simp; omega) | (simp [*]; done) | omega | rfl), (Below.refl _ _).alloc (Nat.le_refl _) _⟩
end Go.Proofs.YtpbgipdkaaooeaaGreatDoor
