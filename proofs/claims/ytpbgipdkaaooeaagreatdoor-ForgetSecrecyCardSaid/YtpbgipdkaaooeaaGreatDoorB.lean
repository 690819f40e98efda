/- Contracts of the generic functions of package slices at the types of package forget (Clone, IndexFunc, ContainsFunc) and of the closures handed to them. -/
import Derived.Test.YtpbgipdkaaooeaaGreatDoorProg
import Derived.Test.YtpbgipdkaaooeaaGreatDoorA
open Go Go.Proofs Go.RowKit
namespace Go.Proofs.YtpbgipdkaaooeaaGreatDoor
set_option linter.unusedSimpArgs false
set_option linter.unusedVariables false

/-- The index of the first element with a property, or -1. -/
def idxD {α : Type} (p : α → Bool) (l : List α) : Int := if l.findIdx p < l.length then (l.findIdx p : Int) else -1
theorem idxD_hit {α : Type} {p : α → Bool} {l : List α} {k : Nat} (hk : k < l.length) (hp : p l[k] = true) (hn : ∀ (j : Nat) (h : j < l.length), j < k → p l[j] = false) : (k : Int) = idxD p l := by
  have : l.findIdx p = k := (List.findIdx_eq hk).2 ⟨hp, fun j hj => by have := hn j (by omega) hj; simpa using this⟩
  unfold idxD; rw [this, if_pos hk]
theorem idxD_miss {α : Type} {p : α → Bool} {l : List α} (hn : ∀ (j : Nat) (h : j < l.length), p l[j] = false) : (-1 : Int) = idxD p l := by
  have : ¬ l.findIdx p < l.length := by
    intro h
    have h1 := List.findIdx_getElem (w := h)
    rw [hn _ h] at h1; cases h1
  unfold idxD; rw [if_neg this]
theorem idxD_any {α : Type} (p : α → Bool) (l : List α) : decide (0 ≤ idxD p l) = l.any p := by
  unfold idxD
  by_cases h : l.findIdx p < l.length
  · rw [if_pos h]
    have h2 : l.any p = true := List.any_eq_true.2 (by simpa using List.findIdx_lt_length.1 h)
    rw [h2]; simp
  · rw [if_neg h]
    have h2 : l.any p = false := by
      rw [Bool.eq_false_iff]; intro h3
      exact h (List.findIdx_lt_length.2 (by simpa using List.any_eq_true.1 h3))
    rw [h2]; rfl
theorem ret_int {k : IntKind} {a b : Int} (h : a = b) : Ending.returned (.int k a) = .returned (.int k b) := by rw [h]

/-- What a function hands back that makes one new row. -/
def OwnRet (w : World) (t sz n : Nat) (cs : List Value) (e : Ending) (w' : World) : Prop :=
  ∃ v', e = .returned v' ∧ w'.ownsRow w.heap.size t sz v' n cs ∧ Below w.heap.size w w'

theorem und23 : Tryz.prog.underlying 23 = some (.slice 56) := by kernel_rfl
theorem info56 : (Tryz.prog.info? 56).map (fun i => (i.zero, i.size, i.bytes)) = some (some (.agg #[.string ByteArray.empty, .int .i64 0]), 2, 24) := by kernel_rfl
set_option maxRecDepth 100000 in
theorem clone75 (w : World) (v : Value) (n : Nat) (cs : List Value) (h : RowR w v 2 cs n) (h1 : ∀ u ∈ cs, u.oneCell' = true) (hn : n ≤ 4096) :
    Calls Tryz.prog 75 #[v] w (OwnRet w 56 2 n cs) := by
  obtain ⟨hl, ao, cap, rfl, hle, hm, hc⟩ := h
  have HL := Lib.hid hl; clear hl
  have H1 := Lib.hid h1; clear h1
  have HC := Lib.hid hc; clear hc
  have HM := Lib.hid hm; clear hm
  cases ao with
  | none =>
    obtain rfl : n = 0 := by
      rcases Nat.eq_zero_or_pos n with h | h
      · exact h
      · obtain ⟨b, off, hh, _⟩ := HC.out h; cases hh
    have hnil := Lib.run_eql_slice_nil (P := Tryz.prog) w 23 56 none 0 cap 0 0 und23
    go_enter Tryz.func75, Tryz.ntmps75
    go_wp2
    go_ret
    refine ⟨_, rfl, ?_, Below.refl _ _⟩
    have : cs = [] := by simpa using HL.out
    subst this
    exact World.ownsRow_nil _ _ _ _
  | some ad =>
    have hnil := Lib.run_eql_slice_nil (P := Tryz.prog) w 23 56 (some ad) n cap 0 0 und23
    have e0 : (some ad : Option Addr).isNone = false := rfl
    rw [e0] at hnil
    obtain ⟨i0, hi, hz0, hz1, hz2⟩ := info_parts info56
    have HI := Lib.hid (And.intro hi (And.intro hz0 (And.intro hz1 hz2))); clear hi hz0 hz1 hz2
    have hcs : ∀ j u, cs[j]? = some u → (w.alloc (.cells #[] 56)).cell? (ad.add j) = some u := by
      intro j u hj
      have hjl : j < n * 2 := by rw [← HL.out]; exact (List.getElem?_eq_some_iff.1 hj).1
      obtain ⟨b, off, hh, hlt, hcell⟩ := HC.out (by omega)
      obtain rfl := Option.some.inj hh
      have := hcell j hjl
      rw [Addr.add_lit, World.cell?_alloc_past _ _ _ hlt, this, hj]
    have HCS := Lib.hid hcs; clear hcs
    go_enter Tryz.func75, Tryz.ntmps75
    go_wp2_with (at_builtin; refine wpList_append_own_at _ rfl _ _ 23 rfl w.heap.size 56 i0 _ 2 24 und23 HI.out.1 HI.out.2.1 HI.out.2.2.1 HI.out.2.2.2 rfl (by decide) _ 0 [] rfl (World.ownsRow_made _ _ _ (Nat.le_refl _) (by unfold maxLen; omega) rfl) ad n cap cs rfl HL.out HCS.out H1.out (by unfold maxLen; omega) (by omega) (by simp) ?_)
    intro v' w' hown hg hz hb
    clear hnil hb hz
    go_wp2
    go_ret
    refine ⟨_, rfl, hown, ?_⟩
    exact ((Below.refl _ _).alloc (Nat.le_refl _) _).grown hg (by simp) (by intro k hk; simp [Value.ownBlock] at hk; omega)

theorem und24 : Tryz.prog.underlying 24 = some (.slice 46) := by kernel_rfl
theorem info46 : (Tryz.prog.info? 46).map (fun i => (i.zero, i.size, i.bytes)) = some (some (.agg #[.string ByteArray.empty, .int .i64 0]), 2, 24) := by kernel_rfl
set_option maxRecDepth 100000 in
theorem clone76 (w : World) (v : Value) (n : Nat) (cs : List Value) (h : RowR w v 2 cs n) (h1 : ∀ u ∈ cs, u.oneCell' = true) (hn : n ≤ 4096) :
    Calls Tryz.prog 76 #[v] w (OwnRet w 46 2 n cs) := by
  obtain ⟨hl, ao, cap, rfl, hle, hm, hc⟩ := h
  have HL := Lib.hid hl; clear hl
  have H1 := Lib.hid h1; clear h1
  have HC := Lib.hid hc; clear hc
  have HM := Lib.hid hm; clear hm
  cases ao with
  | none =>
    obtain rfl : n = 0 := by
      rcases Nat.eq_zero_or_pos n with h | h
      · exact h
      · obtain ⟨b, off, hh, _⟩ := HC.out h; cases hh
    have hnil := Lib.run_eql_slice_nil (P := Tryz.prog) w 24 46 none 0 cap 0 0 und24
    go_enter Tryz.func76, Tryz.ntmps76
    go_wp2
    go_ret
    refine ⟨_, rfl, ?_, Below.refl _ _⟩
    have : cs = [] := by simpa using HL.out
    subst this
    exact World.ownsRow_nil _ _ _ _
  | some ad =>
    have hnil := Lib.run_eql_slice_nil (P := Tryz.prog) w 24 46 (some ad) n cap 0 0 und24
    have e0 : (some ad : Option Addr).isNone = false := rfl
    rw [e0] at hnil
    obtain ⟨i0, hi, hz0, hz1, hz2⟩ := info_parts info46
    have HI := Lib.hid (And.intro hi (And.intro hz0 (And.intro hz1 hz2))); clear hi hz0 hz1 hz2
    have hcs : ∀ j u, cs[j]? = some u → (w.alloc (.cells #[] 46)).cell? (ad.add j) = some u := by
      intro j u hj
      have hjl : j < n * 2 := by rw [← HL.out]; exact (List.getElem?_eq_some_iff.1 hj).1
      obtain ⟨b, off, hh, hlt, hcell⟩ := HC.out (by omega)
      obtain rfl := Option.some.inj hh
      have := hcell j hjl
      rw [Addr.add_lit, World.cell?_alloc_past _ _ _ hlt, this, hj]
    have HCS := Lib.hid hcs; clear hcs
    go_enter Tryz.func76, Tryz.ntmps76
    go_wp2_with (at_builtin; refine wpList_append_own_at _ rfl _ _ 24 rfl w.heap.size 46 i0 _ 2 24 und24 HI.out.1 HI.out.2.1 HI.out.2.2.1 HI.out.2.2.2 rfl (by decide) _ 0 [] rfl (World.ownsRow_made _ _ _ (Nat.le_refl _) (by unfold maxLen; omega) rfl) ad n cap cs rfl HL.out HCS.out H1.out (by unfold maxLen; omega) (by omega) (by simp) ?_)
    intro v' w' hown hg hz hb
    clear hnil hb hz
    go_wp2
    go_ret
    refine ⟨_, rfl, hown, ?_⟩
    exact ((Below.refl _ _).alloc (Nat.le_refl _) _).grown hg (by simp) (by intro k hk; simp [Value.ownBlock] at hk; omega)

theorem und22 : Tryz.prog.underlying 22 = some (.slice 88) := by kernel_rfl
theorem info88 : (Tryz.prog.info? 88).map (fun i => (i.zero, i.size, i.bytes)) = some (some (.slice none 0 0), 1, 24) := by kernel_rfl
set_option maxRecDepth 100000 in
theorem clone77 (w : World) (v : Value) (n : Nat) (cs : List Value) (h : RowR w v 1 cs n) (h1 : ∀ u ∈ cs, u.oneCell' = true) (hn : n ≤ 4096) :
    Calls Tryz.prog 77 #[v] w (OwnRet w 88 1 n cs) := by
  obtain ⟨hl, ao, cap, rfl, hle, hm, hc⟩ := h
  have HL := Lib.hid hl; clear hl
  have H1 := Lib.hid h1; clear h1
  have HC := Lib.hid hc; clear hc
  have HM := Lib.hid hm; clear hm
  cases ao with
  | none =>
    obtain rfl : n = 0 := by
      rcases Nat.eq_zero_or_pos n with h | h
      · exact h
      · obtain ⟨b, off, hh, _⟩ := HC.out h; cases hh
    have hnil := Lib.run_eql_slice_nil (P := Tryz.prog) w 22 88 none 0 cap 0 0 und22
    go_enter Tryz.func77, Tryz.ntmps77
    go_wp2
    go_ret
    refine ⟨_, rfl, ?_, Below.refl _ _⟩
    have : cs = [] := by simpa using HL.out
    subst this
    exact World.ownsRow_nil _ _ _ _
  | some ad =>
    have hnil := Lib.run_eql_slice_nil (P := Tryz.prog) w 22 88 (some ad) n cap 0 0 und22
    have e0 : (some ad : Option Addr).isNone = false := rfl
    rw [e0] at hnil
    obtain ⟨i0, hi, hz0, hz1, hz2⟩ := info_parts info88
    have HI := Lib.hid (And.intro hi (And.intro hz0 (And.intro hz1 hz2))); clear hi hz0 hz1 hz2
    have hcs : ∀ j u, cs[j]? = some u → (w.alloc (.cells #[] 88)).cell? (ad.add j) = some u := by
      intro j u hj
      have hjl : j < n * 1 := by rw [← HL.out]; exact (List.getElem?_eq_some_iff.1 hj).1
      obtain ⟨b, off, hh, hlt, hcell⟩ := HC.out (by omega)
      obtain rfl := Option.some.inj hh
      have := hcell j hjl
      rw [Addr.add_lit, World.cell?_alloc_past _ _ _ hlt, this, hj]
    have HCS := Lib.hid hcs; clear hcs
    go_enter Tryz.func77, Tryz.ntmps77
    go_wp2_with (at_builtin; refine wpList_append_own_at _ rfl _ _ 22 rfl w.heap.size 88 i0 _ 1 24 und22 HI.out.1 HI.out.2.1 HI.out.2.2.1 HI.out.2.2.2 rfl (by decide) _ 0 [] rfl (World.ownsRow_made _ _ _ (Nat.le_refl _) (by unfold maxLen; omega) rfl) ad n cap cs rfl HL.out HCS.out H1.out (by unfold maxLen; omega) (by omega) (by simp) ?_)
    intro v' w' hown hg hz hb
    clear hnil hb hz
    go_wp2
    go_ret
    refine ⟨_, rfl, hown, ?_⟩
    exact ((Below.refl _ _).alloc (Nat.le_refl _) _).grown hg (by simp) (by intro k hk; simp [Value.ownBlock] at hk; omega)

theorem und88 : Tryz.prog.underlying 88 = some (.slice 90) := by kernel_rfl
theorem info90 : (Tryz.prog.info? 90).map (fun i => (i.zero, i.size, i.bytes)) = some (some (.agg #[.string ByteArray.empty, .int .u8 0, .slice none 0 0]), 3, 48) := by kernel_rfl
set_option maxRecDepth 100000 in
theorem clone78 (w : World) (v : Value) (n : Nat) (cs : List Value) (h : RowR w v 3 cs n) (h1 : ∀ u ∈ cs, u.oneCell' = true) (hn : n ≤ 4096) :
    Calls Tryz.prog 78 #[v] w (OwnRet w 90 3 n cs) := by
  obtain ⟨hl, ao, cap, rfl, hle, hm, hc⟩ := h
  have HL := Lib.hid hl; clear hl
  have H1 := Lib.hid h1; clear h1
  have HC := Lib.hid hc; clear hc
  have HM := Lib.hid hm; clear hm
  cases ao with
  | none =>
    obtain rfl : n = 0 := by
      rcases Nat.eq_zero_or_pos n with h | h
      · exact h
      · obtain ⟨b, off, hh, _⟩ := HC.out h; cases hh
    have hnil := Lib.run_eql_slice_nil (P := Tryz.prog) w 88 90 none 0 cap 0 0 und88
    go_enter Tryz.func78, Tryz.ntmps78
    go_wp2
    go_ret
    refine ⟨_, rfl, ?_, Below.refl _ _⟩
    have : cs = [] := by simpa using HL.out
    subst this
    exact World.ownsRow_nil _ _ _ _
  | some ad =>
    have hnil := Lib.run_eql_slice_nil (P := Tryz.prog) w 88 90 (some ad) n cap 0 0 und88
    have e0 : (some ad : Option Addr).isNone = false := rfl
    rw [e0] at hnil
    obtain ⟨i0, hi, hz0, hz1, hz2⟩ := info_parts info90
    have HI := Lib.hid (And.intro hi (And.intro hz0 (And.intro hz1 hz2))); clear hi hz0 hz1 hz2
    have hcs : ∀ j u, cs[j]? = some u → (w.alloc (.cells #[] 90)).cell? (ad.add j) = some u := by
      intro j u hj
      have hjl : j < n * 3 := by rw [← HL.out]; exact (List.getElem?_eq_some_iff.1 hj).1
      obtain ⟨b, off, hh, hlt, hcell⟩ := HC.out (by omega)
      obtain rfl := Option.some.inj hh
      have := hcell j hjl
      rw [Addr.add_lit, World.cell?_alloc_past _ _ _ hlt, this, hj]
    have HCS := Lib.hid hcs; clear hcs
    go_enter Tryz.func78, Tryz.ntmps78
    go_wp2_with (at_builtin; refine wpList_append_own_at _ rfl _ _ 88 rfl w.heap.size 90 i0 _ 3 48 und88 HI.out.1 HI.out.2.1 HI.out.2.2.1 HI.out.2.2.2 rfl (by decide) _ 0 [] rfl (World.ownsRow_made _ _ _ (Nat.le_refl _) (by unfold maxLen; omega) rfl) ad n cap cs rfl HL.out HCS.out H1.out (by unfold maxLen; omega) (by omega) (by simp) ?_)
    intro v' w' hown hg hz hb
    clear hnil hb hz
    go_wp2
    go_ret
    refine ⟨_, rfl, hown, ?_⟩
    exact ((Below.refl _ _).alloc (Nat.le_refl _) _).grown hg (by simp) (by intro k hk; simp [Value.ownBlock] at hk; omega)


/-- forget.of$1: is it the subject's share? -/
theorem of1_85 (s : ByteArray) (b : Nat) (t : ByteArray) (w : World) (hs : w.cell? ⟨b, 0, none⟩ = some (.string t)) (hb : b < w.heap.size) (x : Value) (v : Value) :
    Calls Tryz.prog 85 #[.agg #[.string s, x, v], .pointer (some ⟨b, 0, none⟩)] w fun e w' => e = .returned (.bool (sEq s t)) ∧ Below w.heap.size w w' := by
  go_enter Tryz.func85, Tryz.ntmps85
  go_wp2
  go_ret
  exact ⟨rfl, (Below.refl _ _).alloc (Nat.le_refl _) _⟩
/-- forget.demanded$1: is it a demand for the subject? -/
theorem dem1_84 (s : ByteArray) (b : Nat) (t : ByteArray) (w : World) (hs : w.cell? ⟨b, 0, none⟩ = some (.string t)) (hb : b < w.heap.size) (x : Value) :
    Calls Tryz.prog 84 #[.agg #[.string s, x], .pointer (some ⟨b, 0, none⟩)] w fun e w' => e = .returned (.bool (sEq s t)) ∧ Below w.heap.size w w' := by
  go_enter Tryz.func84, Tryz.ntmps84
  go_wp2
  go_ret
  exact ⟨rfl, (Below.refl _ _).alloc (Nat.le_refl _) _⟩
/-- forget.inForce$1: is it a hold in force for the subject? -/
theorem inf1_82 (s : ByteArray) (u : Int) (b c : Nat) (t : ByteArray) (a : Int) (w : World) (hs : w.cell? ⟨b, 0, none⟩ = some (.string t)) (ha : w.cell? ⟨c, 0, none⟩ = some (.int .i64 a)) (hb : b < w.heap.size) (hc : c < w.heap.size) :
    Calls Tryz.prog 82 #[.agg #[.string s, .int .i64 u], .pointer (some ⟨b, 0, none⟩), .pointer (some ⟨c, 0, none⟩)] w fun e w' => e = .returned (.bool (sEq s t && decide (a < u))) ∧ Below w.heap.size w w' := by
  rcases Bool.eq_false_or_eq_true (sEq s t) with h | h
  all_goals
    have h' := h
    unfold sEq at h'
    rw [h]
    have H := Lib.hid h; clear h
    go_enter Tryz.func82, Tryz.ntmps82
    go_wp2
    go_ret
    exact ⟨by simp, (Below.refl _ _).alloc (Nat.le_refl _) _⟩
/-- forget.of -/
theorem of_54 (s : ByteArray) (w : World) :
    Calls Tryz.prog 54 #[.string s] w fun e w' => e = .returned (.func (.func 85) #[] #[.pointer (some ⟨w.heap.size, 0, none⟩)]) ∧ w' = w.alloc (.cells #[.string s] 9) := by
  go_enter Tryz.func54, Tryz.ntmps54
  go_wp2
  go_ret
  exact ⟨rfl, rfl⟩


/-- slices.IndexFunc over shares. -/
theorem idx_58 (w : World) (v : Value) (l : List HeldD) (t : ByteArray) (c : Nat) (h : HeldsR w v l) (ht : w.cell? ⟨c, 0, none⟩ = some (.string t)) (hc : c < w.heap.size) (hl : l.length ≤ 4096) :
    Calls Tryz.prog 58 #[v, .func (.func 85) #[] #[.pointer (some ⟨c, 0, none⟩)]] w fun e w' => e = .returned (.int .i64 (idxD (fun h => sEq h.subj t) l)) ∧ Below w.heap.size w w' := by
  obtain ⟨ps, ⟨hlen, ao, cap, rfl, hle, hm, hcell⟩, hare⟩ := h
  have HLP := Lib.hid hare.length
  have hn : ps.length ≤ 4096 := by rw [HLP.out]; exact hl
  clear hl
  obtain ⟨n, hN⟩ : ∃ n, n = ps.length := ⟨_, rfl⟩
  rw [← hN] at hlen hle hcell hn ⊢
  have HN := Lib.hid hN; clear hN
  have HLE := Lib.hid hlen; clear hlen
  have HM := Lib.hid hm; clear hm
  have HC := Lib.hid hcell; clear hcell
  have HA := Lib.hid hare; clear hare
  go_enter Tryz.func58, Tryz.ntmps58
  go_wp2
  go_loopw [5, 8] (fun _ i wr => ∃ k : Nat, k ≤ n ∧ i = .int .i64 k ∧ Below w.heap.size w wr ∧ Hid (∀ (j : Nat) (h : j < l.length), j < k → sEq l[j].subj t = false)) (fun _ i _ => n - (intOf i).toNat)
  case atStart => exact ⟨0, Nat.zero_le _, rfl, Below.refl _ _, fun j h hj => absurd hj (by omega)⟩
  case round =>
    obtain ⟨k, hk, rfl, hB, HNo⟩ := hrel
    have ht' : wr.cell? ⟨c, 0, none⟩ = some (.string t) := by rw [hB.cell (p := ⟨c, 0, none⟩) hc]; exact ht
    have hc' : c < wr.heap.size := Nat.lt_of_lt_of_le hc hB.size
    clear ht
    by_cases hlt : k < n
    · obtain ⟨b, off, rfl, hbb, hcells⟩ := HC.out (by omega)
      have hkp : k < ps.length := by rw [← HN.out]; exact hlt
      have hkl : k < l.length := by rw [← HLP.out]; exact hkp
      have hat := heldCells_at ps k hkp
      have hhi := HA.out.at k hkp hkl
      rw [hhi.1] at hat
      have h1 := hcells (k * 3) (by omega)
      have h2 := hcells (k * 3 + 1) (by omega)
      have h3 := hcells (k * 3 + 2) (by omega)
      rw [hat.1, ← hB.cell (p := ⟨b, off + k * 3, none⟩) hbb] at h1
      rw [hat.2.1, ← Nat.add_assoc, ← hB.cell (p := ⟨b, off + k * 3 + 1, none⟩) hbb] at h2
      rw [hat.2.2, ← Nat.add_assoc, ← hB.cell (p := ⟨b, off + k * 3 + 2, none⟩) hbb] at h3
      have HP : Hid ((fun h : HeldD => sEq h.subj t) l[k] = sEq l[k].subj t) := Lib.hid rfl
      generalize ps[k].2.1 = x at h2
      generalize ps[k].2.2 = y at h3
      clear hat hhi hcells
      rcases hq : sEq l[k].subj t with _ | _
      · have HQ := Lib.hid hq
        generalize hS : l[k].subj = s at h1 hq
        have HS := Lib.hid hS; clear hS
        have c85 := of1_85 s c t wr ht' hc' (.int .u8 x) y
        rw [hq] at c85
        clear hq
        have C85 := Lib.hid c85; clear c85
        go_wp2_with (go_at_call 85; refine C85.out.mono ?_; rintro e w' ⟨rfl, hB'⟩)
        go_roundw
        case rel => exact ⟨k + 1, by omega, by go_num, hB.trans (hB'.mono hB.size), fun j h hj => by
          rcases Nat.lt_succ_iff_lt_or_eq.1 hj with h1 | rfl
          · exact HNo.out j h h1
          · exact HQ.out⟩
        case measure => simp [intOf]; omega
      · have HQ := Lib.hid hq
        generalize hS : l[k].subj = s at h1 hq
        have HS := Lib.hid hS; clear hS
        have c85 := of1_85 s c t wr ht' hc' (.int .u8 x) y
        rw [hq] at c85
        clear hq
        have C85 := Lib.hid c85; clear c85
        go_wp2_with (go_at_call 85; refine C85.out.mono ?_; rintro e w' ⟨rfl, hB'⟩)
        go_ret
        exact ⟨ret_int (idxD_hit hkl HQ.out HNo.out), hB.trans (hB'.mono hB.size)⟩
    · go_wp2
      go_ret
      exact ⟨ret_int (idxD_miss fun j hj => HNo.out j hj (by have := HLP.out; have := HN.out; omega)), hB⟩

end Go.Proofs.YtpbgipdkaaooeaaGreatDoor