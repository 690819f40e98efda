/- R4.Same, R35.Shares, R35.Demands, R35.Same: what reads as the same data is the same. -/
import Derived.Test.YtpbgipdkaaooeaaGreatDoorLA
import Derived.Test.YtpbgipdkaaooeaaGreatDoorKQ
open Go Go.Proofs Go.RowKit
namespace Go.Proofs.YtpbgipdkaaooeaaGreatDoor
set_option linter.unusedSimpArgs false
set_option linter.unusedVariables false
attribute [local go_sem ↓] Go.wp_at_zero Go.wp_at_succ

theorem below_drewN (w : World) (n : Nat) : Below w.heap.size w (w.drewN n) := ⟨rfl, rfl, rfl, Nat.le_refl _, fun _ _ => rfl⟩
theorem bytes_here {w : World} {v : Value} {l : List Int} (h : BytesR w v l) : ∃ ao n cap, v = .slice ao n cap ∧ n = l.length ∧ ∀ j, j < n → ∃ b off, ao = some ⟨b, off, none⟩ ∧ b < w.heap.size ∧ ∀ wx, Below w.heap.size w wx → wx.cell? ⟨b, off + j, none⟩ = some (.int .u8 (l.getD j 0)) := by
  obtain ⟨⟨hl, ao, cap, rfl, hle, hm, hc⟩, hb⟩ := h
  refine ⟨ao, l.length, cap, rfl, rfl, fun j hj => ?_⟩
  obtain ⟨b, off, rfl, hbb, hcell⟩ := hc (by omega)
  refine ⟨b, off, rfl, hbb, fun wx hx => ?_⟩
  rw [hx.cell (p := ⟨b, off + j, none⟩) hbb, hcell j (by omega), List.getElem?_map, List.getElem?_eq_getElem hj, List.getD_eq_getElem?_getD, List.getElem?_eq_getElem hj]
  rfl
set_option maxRecDepth 100000 in
set_option maxHeartbeats 1000000 in
/-- R4.Same -/
theorem same_64 (w : World) (v v' : Value) (l : List Int) (h : BytesR w v l) (h' : BytesR w v' l) : Calls Tryz.prog 64 #[v, v'] w fun e w' => e = .returned (.bool true) ∧ ∃ m, w' = w.drewN m := by
  obtain ⟨a1, n, c1, rfl, hn, H1⟩ := bytes_here h
  obtain ⟨a2, n2, c2, rfl, hn2, H2⟩ := bytes_here h'
  obtain rfl : n2 = n := by omega
  replace H1 := Lib.hid H1
  replace H2 := Lib.hid H2
  have hn63 : n2 ≤ maxLen := by
    obtain ⟨⟨-, ao, cap, hv, hle, hm, -⟩, -⟩ := h
    injection hv with _ h1 h2
    omega
  clear h h' hn hn2
  unfold maxLen at hn63
  go_enter Tryz.func64, Tryz.ntmps64
  go_upto_region 4 with fail
  go_loopw [5] (fun c wr => ∃ k m : Nat, k ≤ n2 ∧ c = .int .i64 ((k : Nat) : Int) ∧ wr = w.drewN m) (fun c _ => n2 - (intOf c).toNat)
  case atStart => exact ⟨0, 0, Nat.zero_le _, rfl, rfl⟩
  case round =>
    obtain ⟨k, m, hk, rfl, hwr⟩ := hrel
    have HWR := Lib.hid hwr
    by_cases hlt : k < n2
    · obtain ⟨b1, o1, rfl, hb1, hc1⟩ := H1.out k hlt
      obtain ⟨b2, o2, rfl, hb2, hc2⟩ := H2.out k hlt
      have x1 := hc1 wr (by rw [hwr]; exact below_drewN w m)
      have x2 := hc2 wr (by rw [hwr]; exact below_drewN w m)
      have y1 : b1 < wr.heap.size := by rw [hwr]; exact hb1
      have y2 : b2 < wr.heap.size := by rw [hwr]; exact hb2
      clear hc1 hc2 hwr
      generalize l.getD k 0 = u at *
      go_upto_region 6 with fail
      go_quiet (fail)
      go_wp2
      go_roundw
      case rel => exact ⟨k + 1, m + nq, by omega, by go_num, by rw [HWR.out, World.drewN_drewN]⟩
      case measure => simp [intOf] <;> omega
    · obtain rfl : k = n2 := by omega
      clear hwr
      go_wp2
      go_ret
      exact ⟨rfl, m, HWR.out⟩
set_option maxRecDepth 100000 in
set_option maxHeartbeats 1000000 in
/-- R35.Shares -/
theorem shares_60 (w : World) (v v' : Value) (l : List HeldD) (h : HeldsR w v l) (h' : HeldsR w v' l) (hl : l.length ≤ 1000000) : Calls Tryz.prog 60 #[v, v'] w fun e w' => e = .returned (.bool true) ∧ ∃ m, w' = w.drewN m := by
  obtain ⟨a1, n, c1, rfl, hn, H1⟩ := helds_at3 h
  obtain ⟨a2, n2, c2, rfl, hn2, H2⟩ := helds_at3 h'
  obtain rfl : n2 = n := by omega
  replace H1 := Lib.hid H1
  replace H2 := Lib.hid H2
  have hn63 : n2 ≤ 1000000 := by omega
  have HN := Lib.hid hn
  clear h h' hn hn2 hl
  go_enter Tryz.func60, Tryz.ntmps60
  go_upto_region 4 with fail
  go_loopw [5] (fun c wr => ∃ k m : Nat, k ≤ n2 ∧ c = .int .i64 ((k : Nat) : Int) ∧ wr = w.drewN m) (fun c _ => n2 - (intOf c).toNat)
  case atStart => exact ⟨0, 0, Nat.zero_le _, rfl, rfl⟩
  case round =>
    obtain ⟨k, m, hk, rfl, hwr⟩ := hrel
    have HWR := Lib.hid hwr
    by_cases hlt : k < n2
    · have hkl : k < l.length := by rw [← HN.out]; exact hlt
      obtain ⟨b1, o1, av1, kv1, rfl, hb1, hby1, hx1, hc1⟩ := H1.out k hkl
      obtain ⟨b2, o2, av2, kv2, rfl, hb2, hby2, hx2, hc2⟩ := H2.out k hkl
      have hbw : Below w.heap.size w wr := by rw [hwr]; exact below_drewN w m
      obtain ⟨x1, x2, x3⟩ := hc1 wr hbw
      obtain ⟨z1, z2, z3⟩ := hc2 wr hbw
      have y1 : b1 < wr.heap.size := by rw [hwr]; exact hb1
      have y2 : b2 < wr.heap.size := by rw [hwr]; exact hb2
      have C : Hid (∀ n, Calls Tryz.prog 64 #[.slice av1 l[k].b.length kv1, .slice av2 l[k].b.length kv2] (wr.drewN n) fun e w' => e = .returned (.bool true) ∧ ∃ m, w' = (wr.drewN n).drewN m) := fun n => same_64 _ _ _ l[k].b ((hby1.later hbw).later (below_drewN wr n)) ((hby2.later hbw).later (below_drewN wr n))
      clear hc1 hc2 hwr hby1 hby2 hx1 hx2 hbw
      generalize l[k].b.length = lb at *
      generalize l[k].subj = sj at *
      generalize l[k].x = px at *
      go_upto_region 6 with fail
      go_quiet ((go_at_call 64; exact Calls.quiet_of (C.out _)))
      go_wp2
      go_roundw
      case rel => exact ⟨k + 1, m + nq, by omega, by go_num, by rw [HWR.out, World.drewN_drewN]⟩
      case measure => simp [intOf] <;> omega
    · obtain rfl : k = n2 := by omega
      clear hwr
      go_wp2
      go_ret
      exact ⟨rfl, m, HWR.out⟩
theorem pairs_here {w : World} {v : Value} {l : List (ByteArray × Int)} (h : PairsR w v l) : ∃ ao n cap, v = .slice ao n cap ∧ n = l.length ∧ n ≤ maxLen ∧ ∀ j, (hj : j < l.length) → ∃ b off, ao = some ⟨b, off, none⟩ ∧ b < w.heap.size ∧ ∀ wx, Below w.heap.size w wx → wx.cell? ⟨b, off + j * 2, none⟩ = some (.string l[j].1) ∧ wx.cell? ⟨b, off + j * 2 + 1, none⟩ = some (.int .i64 l[j].2) := by
  obtain ⟨hl, ao, cap, rfl, hle, hm, hc⟩ := h
  refine ⟨ao, l.length, cap, rfl, rfl, by omega, fun j hj => ?_⟩
  obtain ⟨b, off, rfl, hbb, hcell⟩ := hc (by omega)
  refine ⟨b, off, rfl, hbb, fun wx hx => ?_⟩
  obtain ⟨p1, p2⟩ := pairCells_at l j hj
  have h1 := hcell (j * 2) (by omega)
  have h2 := hcell (j * 2 + 1) (by omega)
  rw [p1] at h1
  rw [p2, ← Nat.add_assoc] at h2
  exact ⟨by rw [hx.cell (p := ⟨b, off + j * 2, none⟩) hbb]; exact h1, by rw [hx.cell (p := ⟨b, off + j * 2 + 1, none⟩) hbb]; exact h2⟩
set_option maxRecDepth 100000 in
set_option maxHeartbeats 1000000 in
/-- R35.Demands -/
theorem demands_61 (w : World) (v v' : Value) (l : List (ByteArray × Int)) (h : PairsR w v l) (h' : PairsR w v' l) (hl : l.length ≤ 1000000) : Calls Tryz.prog 61 #[v, v'] w fun e w' => e = .returned (.bool true) ∧ ∃ m, w' = w.drewN m := by
  obtain ⟨a1, n, c1, rfl, hn, -, H1⟩ := pairs_here h
  obtain ⟨a2, n2, c2, rfl, hn2, -, H2⟩ := pairs_here h'
  obtain rfl : n2 = n := by omega
  replace H1 := Lib.hid H1
  replace H2 := Lib.hid H2
  have hn63 : n2 ≤ 1000000 := by omega
  have HN := Lib.hid hn
  clear h h' hn hn2 hl
  go_enter Tryz.func61, Tryz.ntmps61
  go_upto_region 4 with fail
  go_loopw [5] (fun c wr => ∃ k m : Nat, k ≤ n2 ∧ c = .int .i64 ((k : Nat) : Int) ∧ wr = w.drewN m) (fun c _ => n2 - (intOf c).toNat)
  case atStart => exact ⟨0, 0, Nat.zero_le _, rfl, rfl⟩
  case round =>
    obtain ⟨k, m, hk, rfl, hwr⟩ := hrel
    have HWR := Lib.hid hwr
    by_cases hlt : k < n2
    · have hkl : k < l.length := by rw [← HN.out]; exact hlt
      obtain ⟨b1, o1, rfl, hb1, hc1⟩ := H1.out k hkl
      obtain ⟨b2, o2, rfl, hb2, hc2⟩ := H2.out k hkl
      have hbw : Below w.heap.size w wr := by rw [hwr]; exact below_drewN w m
      obtain ⟨x1, x2⟩ := hc1 wr hbw
      obtain ⟨z1, z2⟩ := hc2 wr hbw
      have y1 : b1 < wr.heap.size := by rw [hwr]; exact hb1
      have y2 : b2 < wr.heap.size := by rw [hwr]; exact hb2
      clear hc1 hc2 hwr hbw
      generalize l[k].1 = sj at *
      generalize l[k].2 = px at *
      go_upto_region 6 with fail
      go_quiet (fail)
      go_wp2
      go_roundw
      case rel => exact ⟨k + 1, m + nq, by omega, by go_num, by rw [HWR.out, World.drewN_drewN]⟩
      case measure => simp [intOf] <;> omega
    · obtain rfl : k = n2 := by omega
      clear hwr
      go_wp2
      go_ret
      exact ⟨rfl, m, HWR.out⟩
set_option maxRecDepth 100000 in
set_option maxHeartbeats 2000000 in
/-- R35.Same, of two readings of one ledger -/
theorem same_25 (w : World) (v v' : Value) (g : LedD) (h : LedR w v g) (h' : LedR w v' g) (hf : Fits g) : Calls Tryz.prog 25 #[v, v'] w fun e w' => e = .returned (.bool true) ∧ Below w.heap.size w w' := by
  obtain ⟨v2, v3, v4, v5, rfl, H2, H3, H4, H5⟩ := h
  obtain ⟨u2, u3, u4, u5, rfl, G2, G3, G4, G5⟩ := h'
  obtain ⟨a2, n2, c2, rfl, hn2, hr2⟩ := rows_at H2
  obtain ⟨b2, m2, d2, rfl, hm2, hs2⟩ := rows_at G2
  obtain rfl : m2 = n2 := by omega
  obtain ⟨a3, n3, c3, rfl, hn3, -, hr3⟩ := pairs_here H3
  obtain ⟨b3, m3, d3, rfl, hm3, -, hs3⟩ := pairs_here G3
  obtain rfl : m3 = n3 := by omega
  have F0 := TwoBox.laid w #[.int .i64 g.owners, .int .i64 g.need, .slice a2 m2 c2, .slice a3 m3 c3, v4, v5] #[.int .i64 g.owners, .int .i64 g.need, .slice b2 m2 d2, .slice b3 m3 d3, u4, u5] 26 26
  have HN2 := Lib.hid hn2
  have HN3 := Lib.hid hn3
  have R2 := Lib.hid hr2
  have S2 := Lib.hid hs2
  have R3 := Lib.hid hr3
  have S3 := Lib.hid hs3
  have k2 : m2 ≤ 4095 := by have := hf.s; omega
  have k3 : m3 ≤ 4095 := by have := hf.h; omega
  have HR := Lib.hid hf.r
  have K61 : Hid (∀ wx, Hid (Below w.heap.size w wx) → Calls Tryz.prog 61 #[v4, u4] wx fun e w' => e = .returned (.bool true) ∧ Hid (Below wx.heap.size wx w')) := fun wx hx => (demands_61 wx v4 u4 g.demands (H4.later hx.out) (G4.later hx.out) (by have := hf.d; omega)).mono fun e w' ⟨h1, m, h2⟩ => ⟨h1, by rw [h2]; exact below_drewN wx m⟩
  have K61' : Hid (∀ wx, Hid (Below w.heap.size w wx) → Calls Tryz.prog 61 #[v5, u5] wx fun e w' => e = .returned (.bool true) ∧ Hid (Below wx.heap.size wx w')) := fun wx hx => (demands_61 wx v5 u5 g.dones (H5.later hx.out) (G5.later hx.out) (by have := hf.e; omega)).mono fun e w' ⟨h1, m, h2⟩ => ⟨h1, by rw [h2]; exact below_drewN wx m⟩
  clear H2 H3 H4 H5 G2 G3 G4 G5 hn2 hm2 hn3 hm3 hr2 hs2 hr3 hs3 hf
  obtain ⟨q1, q2, q3, q4, q5⟩ := F0.walk
  have F0 := Lib.hid F0
  go_enter Tryz.func25, Tryz.ntmps25
  go_upto_region 4 with fail
  clear q1 q2 q3 q4 q5
  generalize (w.alloc (.cells #[.int .i64 g.owners, .int .i64 g.need, .slice a2 m2 c2, .slice a3 m3 c3, v4, v5] 26)).alloc (.cells #[.int .i64 g.owners, .int .i64 g.need, .slice b2 m2 d2, .slice b3 m3 d3, u4, u5] 26) = W0 at *
  go_loopw [5] (fun c wr => ∃ k : Nat, k ≤ m2 ∧ c = .int .i64 ((k : Nat) : Int) ∧ Hid (Below W0.heap.size W0 wr)) (fun c _ => m2 - (intOf c).toNat)
  case atStart => exact ⟨0, Nat.zero_le _, rfl, Lib.hid (Below.refl _ _)⟩
  case round =>
    obtain ⟨k, hk, rfl, HB⟩ := hrel
    have F1 := F0.out.later HB.out
    obtain ⟨q1, q2, q3, q4, q5⟩ := F1.walk
    have HBW := Lib.hid F1.below
    clear F1
    by_cases hlt : k < m2
    · have hkl : k < g.shares.length := by rw [← HN2.out]; exact hlt
      obtain ⟨b1, o1, vi, rfl, hb1, hvi, hc1⟩ := R2.out k hkl
      obtain ⟨b4, o4, ui, rfl, hb4, hui, hc4⟩ := S2.out k hkl
      have x1 := hc1 wr HBW.out
      have x4 := hc4 wr HBW.out
      have y1 : b1 < wr.heap.size := Nat.lt_of_lt_of_le hb1 HBW.out.size
      have y4 : b4 < wr.heap.size := Nat.lt_of_lt_of_le hb4 HBW.out.size
      have C : Hid (∀ n, Calls Tryz.prog 60 #[vi, ui] (wr.drewN n) fun e w' => e = .returned (.bool true) ∧ ∃ m, w' = (wr.drewN n).drewN m) := fun n => shares_60 _ _ _ g.shares[k] ((hvi.later HBW.out).later (below_drewN wr n)) ((hui.later HBW.out).later (below_drewN wr n)) (by have := HR.out _ (List.getElem_mem hkl); omega)
      clear hc1 hc4 hvi hui
      go_upto_region 6 with fail
      go_quiet ((go_at_call 60; exact Calls.quiet_of (C.out _)))
      go_wp2
      go_roundw
      case rel => exact ⟨k + 1, by omega, by go_num, Lib.hid (below_step HB.out (below_drewN wr nq))⟩
      case measure => simp [intOf] <;> omega
    · obtain rfl : k = m2 := by omega
      clear R2 S2
      go_upto_region 9 with fail
      clear q1 q2 q3 q4 q5
      generalize wr = W1 at *
      go_loopw [6] (fun c wr => ∃ j : Nat, j ≤ m3 ∧ c = .int .i64 ((j : Nat) : Int) ∧ Hid (Below W0.heap.size W0 wr)) (fun c _ => m3 - (intOf c).toNat)
      case atStart => exact ⟨0, Nat.zero_le _, rfl, HB⟩
      case round =>
        clear HB HBW
        obtain ⟨j, hj, rfl, HB⟩ := hrel
        have F1 := F0.out.later HB.out
        obtain ⟨q1, q2, q3, q4, q5⟩ := F1.walk
        have HBW := Lib.hid F1.below
        clear F1
        by_cases hltj : j < m3
        · have hjl : j < g.holds.length := by rw [← HN3.out]; exact hltj
          obtain ⟨b1, o1, rfl, hb1, hc1⟩ := R3.out j hjl
          obtain ⟨b4, o4, rfl, hb4, hc4⟩ := S3.out j hjl
          obtain ⟨x1, x2⟩ := hc1 wr HBW.out
          obtain ⟨x4, x5⟩ := hc4 wr HBW.out
          have y1 : b1 < wr.heap.size := Nat.lt_of_lt_of_le hb1 HBW.out.size
          have y4 : b4 < wr.heap.size := Nat.lt_of_lt_of_le hb4 HBW.out.size
          clear hc1 hc4
          generalize g.holds[j].1 = sj at *
          generalize g.holds[j].2 = px at *
          go_upto_region 11 with fail
          go_quiet (fail)
          go_wp2
          go_roundw
          case rel => exact ⟨j + 1, by omega, by go_num, Lib.hid (below_step HB.out (below_drewN wr nq))⟩
          case measure => simp [intOf] <;> omega
        · obtain rfl : j = m3 := by omega
          clear R3 S3
          go_wp2_with (first
            | (go_at_call_of 61 v4; (with_reducible refine (K61.out _ HBW).mono ?_); rintro e w2 ⟨rfl, HC⟩; have HB2 : Hid (Below w.heap.size w w2) := Lib.hid (below_step HBW.out HC.out); obtain ⟨p1, p2, p3, p4, p5⟩ := ((F0.out.later HB.out).later HC.out).walk)
            | (go_at_call_of 61 v5; (with_reducible refine (K61'.out _ HB2).mono ?_); rintro e w3 ⟨rfl, HC2⟩))
          go_ret
          exact ⟨rfl, below_step HB2.out HC2.out⟩
end Go.Proofs.YtpbgipdkaaooeaaGreatDoor
