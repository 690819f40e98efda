/- Contracts of IndexFunc, ContainsFunc over demands and holds, and of forget.demanded, has, left, inForce, valid. -/
import Derived.Test.YtpbgipdkaaooeaaGreatDoorB
open Go Go.Proofs Go.RowKit
namespace Go.Proofs.YtpbgipdkaaooeaaGreatDoor
set_option linter.unusedSimpArgs false
set_option linter.unusedVariables false


/-- slices.IndexFunc over demands. -/
theorem idx_83 (w : World) (v : Value) (l : List (ByteArray × Int)) (t : ByteArray) (c : Nat) (h : PairsR w v l) (ht : w.cell? ⟨c, 0, none⟩ = some (.string t)) (hc : c < w.heap.size) (hl : l.length ≤ 4096) :
    Calls Tryz.prog 83 #[v, .func (.func 84) #[] #[.pointer (some ⟨c, 0, none⟩)]] w fun e w' => e = .returned (.int .i64 (idxD (fun p => sEq p.1 t) l)) ∧ Below w.heap.size w w' := by
  obtain ⟨hlen, ao, cap, rfl, hle, hm, hcell⟩ := h
  obtain ⟨n, hN⟩ : ∃ n, n = l.length := ⟨_, rfl⟩
  rw [← hN] at hlen hle hcell hl ⊢
  have HN := Lib.hid hN; clear hN
  have HLE := Lib.hid hlen; clear hlen
  have HM := Lib.hid hm; clear hm
  have HC := Lib.hid hcell; clear hcell
  go_enter Tryz.func83, Tryz.ntmps83
  go_wp2
  go_loopw [5, 8] (fun _ i wr => ∃ k : Nat, k ≤ n ∧ i = .int .i64 k ∧ Below w.heap.size w wr ∧ Hid (∀ (j : Nat) (h : j < l.length), j < k → (sEq l[j].1 t) = false)) (fun _ i _ => n - (intOf i).toNat)
  case atStart => exact ⟨0, Nat.zero_le _, rfl, Below.refl _ _, fun j h hj => absurd hj (by omega)⟩
  case round =>
    obtain ⟨k, hk, rfl, hB, HNo⟩ := hrel
    have ht' : wr.cell? ⟨c, 0, none⟩ = some (.string t) := by rw [hB.cell (p := ⟨c, 0, none⟩) hc]; exact ht
    have hc' : c < wr.heap.size := Nat.lt_of_lt_of_le hc hB.size
    clear ht
    by_cases hlt : k < n
    · obtain ⟨b, off, rfl, hbb, hcells⟩ := HC.out (by omega)
      have hkl : k < l.length := by rw [← HN.out]; exact hlt
      have hat := pairCells_at l k hkl
      have h1 := hcells (k * 2) (by omega)
      have h2 := hcells (k * 2 + 1) (by omega)
      rw [hat.1, ← hB.cell (p := ⟨b, off + k * 2, none⟩) hbb] at h1
      rw [hat.2, ← Nat.add_assoc, ← hB.cell (p := ⟨b, off + k * 2 + 1, none⟩) hbb] at h2
      clear hat hcells
      rcases hq : (sEq l[k].1 t) with _ | _
      all_goals
        have HQ := Lib.hid hq
        generalize hS : l[k].1 = s at h1 hq
        generalize hU : l[k].2 = u at h2 hq
        have HS := Lib.hid (And.intro hS hU); clear hS hU
        have cc := dem1_84 s c t wr ht' hc' (.int .i64 u)
        rw [hq] at cc
        clear hq
        have CC := Lib.hid cc; clear cc
        go_wp2_with (go_at_call 84; refine CC.out.mono ?_; rintro e w' ⟨rfl, hB'⟩)
      · go_roundw
        case rel => exact ⟨k + 1, by omega, by go_num, hB.trans (hB'.mono hB.size), fun j h hj => by
          rcases Nat.lt_succ_iff_lt_or_eq.1 hj with h1 | rfl
          · exact HNo.out j h h1
          · exact HQ.out⟩
        case measure => simp [intOf]; omega
      · go_ret
        exact ⟨ret_int (idxD_hit hkl HQ.out HNo.out), hB.trans (hB'.mono hB.size)⟩
    · go_wp2
      go_ret
      exact ⟨ret_int (idxD_miss fun j hj => HNo.out j hj (by have := HN.out; omega)), hB⟩


/-- slices.IndexFunc over holds. -/
theorem idx_106 (w : World) (v : Value) (l : List (ByteArray × Int)) (t : ByteArray) (a : Int) (c d : Nat) (h : PairsR w v l) (ht : w.cell? ⟨c, 0, none⟩ = some (.string t)) (hc : c < w.heap.size) (ha : w.cell? ⟨d, 0, none⟩ = some (.int .i64 a)) (hd : d < w.heap.size) (hl : l.length ≤ 4096) :
    Calls Tryz.prog 106 #[v, .func (.func 82) #[] #[.pointer (some ⟨c, 0, none⟩), .pointer (some ⟨d, 0, none⟩)]] w fun e w' => e = .returned (.int .i64 (idxD (fun p => sEq p.1 t && decide (a < p.2)) l)) ∧ Below w.heap.size w w' := by
  obtain ⟨hlen, ao, cap, rfl, hle, hm, hcell⟩ := h
  obtain ⟨n, hN⟩ : ∃ n, n = l.length := ⟨_, rfl⟩
  rw [← hN] at hlen hle hcell hl ⊢
  have HN := Lib.hid hN; clear hN
  have HLE := Lib.hid hlen; clear hlen
  have HM := Lib.hid hm; clear hm
  have HC := Lib.hid hcell; clear hcell
  go_enter Tryz.func106, Tryz.ntmps106
  go_wp2
  go_loopw [5, 8] (fun _ i wr => ∃ k : Nat, k ≤ n ∧ i = .int .i64 k ∧ Below w.heap.size w wr ∧ Hid (∀ (j : Nat) (h : j < l.length), j < k → (sEq l[j].1 t && decide (a < l[j].2)) = false)) (fun _ i _ => n - (intOf i).toNat)
  case atStart => exact ⟨0, Nat.zero_le _, rfl, Below.refl _ _, fun j h hj => absurd hj (by omega)⟩
  case round =>
    obtain ⟨k, hk, rfl, hB, HNo⟩ := hrel
    have ht' : wr.cell? ⟨c, 0, none⟩ = some (.string t) := by rw [hB.cell (p := ⟨c, 0, none⟩) hc]; exact ht
    have ha' : wr.cell? ⟨d, 0, none⟩ = some (.int .i64 a) := by rw [hB.cell (p := ⟨d, 0, none⟩) hd]; exact ha
    have hc' : c < wr.heap.size := Nat.lt_of_lt_of_le hc hB.size
    have hd' : d < wr.heap.size := Nat.lt_of_lt_of_le hd hB.size
    clear ht ha
    by_cases hlt : k < n
    · obtain ⟨b, off, rfl, hbb, hcells⟩ := HC.out (by omega)
      have hkl : k < l.length := by rw [← HN.out]; exact hlt
      have hat := pairCells_at l k hkl
      have h1 := hcells (k * 2) (by omega)
      have h2 := hcells (k * 2 + 1) (by omega)
      rw [hat.1, ← hB.cell (p := ⟨b, off + k * 2, none⟩) hbb] at h1
      rw [hat.2, ← Nat.add_assoc, ← hB.cell (p := ⟨b, off + k * 2 + 1, none⟩) hbb] at h2
      clear hat hcells
      rcases hq : (sEq l[k].1 t && decide (a < l[k].2)) with _ | _
      all_goals
        have HQ := Lib.hid hq
        generalize hS : l[k].1 = s at h1 hq
        generalize hU : l[k].2 = u at h2 hq
        have HS := Lib.hid (And.intro hS hU); clear hS hU
        have cc := inf1_82 s u c d t a wr ht' ha' hc' hd'
        rw [hq] at cc
        clear hq
        have CC := Lib.hid cc; clear cc
        go_wp2_with (go_at_call 82; refine CC.out.mono ?_; rintro e w' ⟨rfl, hB'⟩)
      · go_roundw
        case rel => exact ⟨k + 1, by omega, by go_num, hB.trans (hB'.mono hB.size), fun j h hj => by
          rcases Nat.lt_succ_iff_lt_or_eq.1 hj with h1 | rfl
          · exact HNo.out j h h1
          · exact HQ.out⟩
        case measure => simp [intOf]; omega
      · go_ret
        exact ⟨ret_int (idxD_hit hkl HQ.out HNo.out), hB.trans (hB'.mono hB.size)⟩
    · go_wp2
      go_ret
      exact ⟨ret_int (idxD_miss fun j hj => HNo.out j hj (by have := HN.out; omega)), hB⟩


theorem ret_bool {a b : Bool} (h : a = b) : Ending.returned (.bool a) = .returned (.bool b) := by rw [h]
/-- slices.ContainsFunc over shares. -/
theorem con_55 (w : World) (v : Value) (l : List HeldD) (t : ByteArray) (c : Nat) (h : HeldsR w v l) (ht : w.cell? ⟨c, 0, none⟩ = some (.string t)) (hc : c < w.heap.size) (hl : l.length ≤ 4096) :
    Calls Tryz.prog 55 #[v, .func (.func 85) #[] #[.pointer (some ⟨c, 0, none⟩)]] w fun e w' => e = .returned (.bool (l.any fun h => sEq h.subj t)) ∧ Below w.heap.size w w' := by
  have C := Lib.hid (idx_58 w v l t c h ht hc hl)
  have HA := Lib.hid (idxD_any (fun h : HeldD => sEq h.subj t) l)
  clear ht hc hl h
  generalize idxD (fun h : HeldD => sEq h.subj t) l = r at C HA
  generalize l.any (fun h => sEq h.subj t) = q at HA ⊢
  go_enter Tryz.func55, Tryz.ntmps55
  go_wp2_with (go_at_call 58; refine C.out.mono ?_; rintro e w' ⟨rfl, hB'⟩)
  go_ret
  exact ⟨ret_bool HA.out, hB'⟩
/-- slices.ContainsFunc over holds. -/
theorem con_81 (w : World) (v : Value) (l : List (ByteArray × Int)) (t : ByteArray) (a : Int) (c d : Nat) (h : PairsR w v l) (ht : w.cell? ⟨c, 0, none⟩ = some (.string t)) (hc : c < w.heap.size) (ha : w.cell? ⟨d, 0, none⟩ = some (.int .i64 a)) (hd : d < w.heap.size) (hl : l.length ≤ 4096) :
    Calls Tryz.prog 81 #[v, .func (.func 82) #[] #[.pointer (some ⟨c, 0, none⟩), .pointer (some ⟨d, 0, none⟩)]] w fun e w' => e = .returned (.bool (l.any fun p => sEq p.1 t && decide (a < p.2))) ∧ Below w.heap.size w w' := by
  have C := Lib.hid (idx_106 w v l t a c d h ht hc ha hd hl)
  have HA := Lib.hid (idxD_any (fun p : ByteArray × Int => sEq p.1 t && decide (a < p.2)) l)
  clear ht hc hl h ha hd
  generalize idxD (fun p : ByteArray × Int => sEq p.1 t && decide (a < p.2)) l = r at C HA
  generalize l.any (fun p => sEq p.1 t && decide (a < p.2)) = q at HA ⊢
  go_enter Tryz.func81, Tryz.ntmps81
  go_wp2_with (go_at_call 106; refine C.out.mono ?_; rintro e w' ⟨rfl, hB'⟩)
  go_ret
  exact ⟨ret_bool HA.out, hB'⟩

end Go.Proofs.YtpbgipdkaaooeaaGreatDoor