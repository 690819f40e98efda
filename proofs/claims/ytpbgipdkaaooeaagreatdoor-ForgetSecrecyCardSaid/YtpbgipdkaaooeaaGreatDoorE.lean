/- Contracts of forget.first, left and inForce. -/
import Derived.Test.YtpbgipdkaaooeaaGreatDoorD
open Go Go.Proofs Go.RowKit
namespace Go.Proofs.YtpbgipdkaaooeaaGreatDoor
set_option linter.unusedSimpArgs false
set_option linter.unusedVariables false

/-- The error of the first condition that holds. -/
def firstErr (l : List (Bool × Int)) : Int := match l.find? (·.1) with | some c => c.2 | none => 0
def checkCells (l : List (Bool × Int)) : List Value := l.flatMap fun p => [.bool p.1, .int .i64 p.2]
theorem checkCells_at (l : List (Bool × Int)) : ∀ (k : Nat) (h : k < l.length), (checkCells l)[k * 2]? = some (.bool (l[k]).1) ∧ (checkCells l)[k * 2 + 1]? = some (.int .i64 (l[k]).2) := by
  induction l with
  | nil => intro k h; simp at h
  | cons a l ih =>
    intro k h
    cases k with
    | zero => simp [checkCells]
    | succ k =>
      have := ih k (by simpa using h)
      have e : checkCells (a :: l) = .bool a.1 :: .int .i64 a.2 :: checkCells l := by simp [checkCells]
      rw [e, show (k + 1) * 2 = k * 2 + 1 + 1 by omega]
      simpa using this
theorem firstErr_hit {l : List (Bool × Int)} {k : Nat} (hk : k < l.length) (hp : l[k].1 = true) (hn : ∀ (j : Nat) (h : j < l.length), j < k → l[j].1 = false) : l[k].2 = firstErr l := by
  have : l.find? (·.1) = some l[k] := by
    rw [List.find?_eq_some_iff_getElem]
    exact ⟨hp, k, hk, rfl, fun j hj => by simp [hn j (by omega) hj]⟩
  unfold firstErr; rw [this]
theorem firstErr_miss {l : List (Bool × Int)} (hn : ∀ (j : Nat) (h : j < l.length), l[j].1 = false) : 0 = firstErr l := by
  have : l.find? (·.1) = none := by
    rw [List.find?_eq_none]; intro x hx
    obtain ⟨j, hj, rfl⟩ := List.mem_iff_getElem.1 hx
    simp [hn j hj]
  unfold firstErr; rw [this]

set_option maxRecDepth 100000 in
/-- forget.first -/
theorem first_40 (w : World) (v : Value) (l : List (Bool × Int)) (h : RowR w v 2 (checkCells l) l.length) (hl : l.length ≤ 4096) :
    Calls Tryz.prog 40 #[v] w fun e w' => e = .returned (.int .i64 (firstErr l)) ∧ Below w.heap.size w w' := by
  obtain ⟨hlen, ao, cap, rfl, hle, hm, hcell⟩ := h
  obtain ⟨n, hN⟩ : ∃ n, n = l.length := ⟨_, rfl⟩
  rw [← hN] at hlen hle hcell hl ⊢
  have HN := Lib.hid hN; clear hN
  have HLE := Lib.hid hlen; clear hlen
  have HM := Lib.hid hm; clear hm
  have HC := Lib.hid hcell; clear hcell
  go_enter Tryz.func40, Tryz.ntmps40
  go_wp2
  go_loopw [7] (fun i wr => ∃ k : Nat, k ≤ n ∧ i = .int .i64 k ∧ Below w.heap.size w wr ∧ Hid (∀ (j : Nat) (h : j < l.length), j < k → l[j].1 = false)) (fun i _ => n - (intOf i).toNat)
  case atStart => exact ⟨0, Nat.zero_le _, rfl, Below.refl _ _, fun j h hj => absurd hj (by omega)⟩
  case round =>
    obtain ⟨k, hk, rfl, hB, HNo⟩ := hrel
    by_cases hlt : k < n
    · obtain ⟨b, off, rfl, hbb, hcells⟩ := HC.out (by omega)
      have hkl : k < l.length := by rw [← HN.out]; exact hlt
      have hat := checkCells_at l k hkl
      have h1 := hcells (k * 2) (by omega)
      have h2 := hcells (k * 2 + 1) (by omega)
      rw [hat.1, ← hB.cell (p := ⟨b, off + k * 2, none⟩) hbb] at h1
      rw [hat.2, ← Nat.add_assoc, ← hB.cell (p := ⟨b, off + k * 2 + 1, none⟩) hbb] at h2
      have hbr : b < wr.heap.size := Nat.lt_of_lt_of_le hbb hB.size
      clear hat hcells
      rcases hq : l[k].1 with _ | _
      all_goals
        have HQ := Lib.hid hq
        rw [hq] at h1
        clear hq
        have HH := Lib.hid (firstErr_hit (l := l) hkl)
        generalize l[k].2 = u at h2 HH
        go_wp2
      · go_roundw
        case rel => exact ⟨k + 1, by omega, by go_num, hB.alloc hB.size _, fun j h hj => by
          rcases Nat.lt_succ_iff_lt_or_eq.1 hj with h1 | rfl
          · exact HNo.out j h h1
          · exact HQ.out⟩
        case measure => simp [intOf]; omega
      · go_ret
        exact ⟨ret_int (HH.out HQ.out HNo.out), hB.alloc hB.size _⟩
    · go_wp2
      go_ret
      exact ⟨ret_int (firstErr_miss fun j hj => HNo.out j hj (by have := HN.out; omega)), hB⟩

/-- Does an owner have a share of the subject? -/
def hasRow (t : ByteArray) (r : List HeldD) : Bool := r.any fun h => sEq h.subj t
/-- How many owners have a share of the subject? -/
def leftD (t : ByteArray) (l : List (List HeldD)) : Nat := (l.filter (hasRow t)).length
theorem leftD_take (t : ByteArray) (l : List (List HeldD)) (k : Nat) (h : k < l.length) : leftD t (l.take (k + 1)) = leftD t (l.take k) + if hasRow t l[k] then 1 else 0 := by
  unfold leftD
  rw [List.take_succ_eq_append_getElem h, List.filter_append, List.length_append]
  by_cases hh : hasRow t l[k] <;> simp [hh]
theorem leftD_le (t : ByteArray) (l : List (List HeldD)) (k : Nat) : leftD t (l.take k) ≤ k := by
  unfold leftD
  exact Nat.le_trans (List.length_filter_le _ _) (List.length_take_le _ _)

set_option maxRecDepth 100000 in
/-- forget.left -/
theorem left_43 (w : World) (v : Value) (g : LedD) (t : ByteArray) (h : LedR w v g) (hs : g.shares.length ≤ 4096) (hr : ∀ r ∈ g.shares, r.length ≤ 4096) :
    Calls Tryz.prog 43 #[v, .string t] w fun e w' => e = .returned (.int .i64 (leftD t g.shares)) ∧ Below w.heap.size w w' := by
  obtain ⟨v2, v3, v4, v5, rfl, ⟨vs, ⟨hlen, ao, cap, rfl, hle, hm, hcell⟩, hare⟩, -, -, -⟩ := h
  generalize g.owners = o
  generalize g.need = nd
  have HLP := Lib.hid hare.length
  have hn : vs.length ≤ 4096 := by rw [HLP.out]; exact hs
  obtain ⟨n, hN⟩ : ∃ n, n = vs.length := ⟨_, rfl⟩
  rw [← hN] at hlen hle hcell hn ⊢
  have HN := Lib.hid hN; clear hN
  have HLE := Lib.hid hlen; clear hlen
  have HM := Lib.hid hm; clear hm
  have HC := Lib.hid hcell; clear hcell
  have HA := Lib.hid hare; clear hare
  have HR := Lib.hid hr; clear hr hs
  go_enter Tryz.func43, Tryz.ntmps43
  go_wp2
  go_loopw [5, 11] (fun c i wr => ∃ k : Nat, k ≤ n ∧ i = .int .i64 k ∧ c = .int .i64 (leftD t (g.shares.take k)) ∧ Below w.heap.size w wr) (fun _ i _ => n - (intOf i).toNat)
  case atStart => exact ⟨0, Nat.zero_le _, rfl, by simp [leftD], (Below.refl _ _).alloc (Nat.le_refl _) _⟩
  case round =>
    obtain ⟨k, hk, rfl, rfl, hB⟩ := hrel
    have hle2 := leftD_le t g.shares k
    by_cases hlt : k < n
    · obtain ⟨b, off, rfl, hbb, hcells⟩ := HC.out (by omega)
      have hkp : k < vs.length := by rw [← HN.out]; exact hlt
      have hkl : k < g.shares.length := by rw [← HLP.out]; exact hkp
      have h1 := hcells k (by omega)
      rw [List.getElem?_eq_getElem hkp, ← hB.cell (p := ⟨b, off + k, none⟩) hbb] at h1
      have hH := HA.out.at k hkp hkl
      have ht := leftD_take t g.shares k hkl
      have HT := Lib.hid ht; clear ht
      have hrl := HR.out _ (List.getElem_mem hkl)
      clear hcells
      generalize vs[k] = vk at h1 hH
      have hHr : HeldsR (wr.alloc (.cells #[.string t] 9)) vk g.shares[k] := hH.later (hB.alloc hB.size _)
      have CON := Lib.hid (con_55 (wr.alloc (.cells #[.string t] 9)) vk g.shares[k] t wr.heap.size hHr (by simp) (by simp) hrl)
      clear hH hHr hrl
      have HBW := Lib.hid (hB.alloc hB.size (.cells #[.string t] 9))
      have HBS := Lib.hid hB.size
      generalize hc : leftD t (g.shares.take k) = c at hle2 HT ⊢
      clear hc
      rcases hq : hasRow t g.shares[k] with _ | _
      all_goals
        have hq' : (g.shares[k].any fun h => sEq h.subj t) = _ := hq
        rw [hq'] at CON
        have HQ := Lib.hid hq; clear hq hq'
        go_wp2_with (first | (go_at_call 54; refine (of_54 _ _).mono ?_; rintro e w' ⟨rfl, rfl⟩) | (go_at_call 55; refine CON.out.mono ?_; rintro e w' ⟨rfl, hB'⟩))
        go_roundw
        case rel => exact ⟨k + 1, by omega, by go_num, by rw [HT.out, HQ.out]; go_num, HBW.out.trans (hB'.mono HBW.out.size)⟩
        case measure => simp [intOf]; omega
    · go_wp2
      go_ret
      exact ⟨ret_int (by rw [List.take_of_length_le (by have := HLP.out; have := HN.out; omega)]), hB⟩

/-- Is a hold in force? -/
def forceB (t : ByteArray) (a : Int) (l : List (ByteArray × Int)) : Bool := l.any fun p => sEq p.1 t && decide (a < p.2)
set_option maxRecDepth 100000 in
/-- forget.inForce -/
theorem force_51 (w : World) (v : Value) (g : LedD) (t : ByteArray) (a : Int) (h : LedR w v g) (hl : g.holds.length ≤ 4096) :
    Calls Tryz.prog 51 #[v, .string t, .int .i64 a] w fun e w' => e = .returned (.bool (forceB t a g.holds)) ∧ Below w.heap.size w w' := by
  obtain ⟨v2, v3, v4, v5, rfl, -, h3, -, -⟩ := h
  generalize g.owners = o
  generalize g.need = nd
  have HB : Below w.heap.size w (((w.alloc (.cells #[.int .i64 o, .int .i64 nd, v2, v3, v4, v5] 26)).alloc (.cells #[.string t] 9)).alloc (.cells #[.int .i64 a] 2)) :=
    (((Below.refl _ _).alloc (Nat.le_refl _) _).alloc (by simp) _).alloc (by simp; omega) _
  have CON := Lib.hid (con_81 _ v3 g.holds t a (w.heap.size + 1) (w.heap.size + 2) (h3.later HB) (by simp [World.cell?_alloc_past, World.cell?_alloc_at]) (by simp) (by simp [World.cell?_alloc_at]) (by simp) hl)
  have HBW := Lib.hid HB
  clear HB h3
  go_enter Tryz.func51, Tryz.ntmps51
  go_wp2_with (go_at_call 81; refine CON.out.mono ?_; rintro e w' ⟨rfl, hB'⟩)
  go_ret
  exact ⟨rfl, HBW.out.trans (hB'.mono HBW.out.size)⟩
end Go.Proofs.YtpbgipdkaaooeaaGreatDoor
