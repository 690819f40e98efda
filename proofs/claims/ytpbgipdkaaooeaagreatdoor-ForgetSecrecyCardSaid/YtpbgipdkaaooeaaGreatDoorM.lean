/- forget.GiveUp: the walk. -/
import Derived.Test.YtpbgipdkaaooeaaGreatDoorL
import Derived.Deep.DeepCutAuto
import Derived.BigQuiet
open Go Go.Proofs Go.RowKit Go.Sort
namespace Go.Proofs.YtpbgipdkaaooeaaGreatDoor
set_option linter.unusedSimpArgs false
set_option linter.unusedVariables false
attribute [local go_sem ↓] Go.wp_at_zero Go.wp_at_succ

theorem class_cell {W : World} {p : Addr} {v : Value} (h : W.cell? p = some v) (d : Nat) (os : Array Obj) : (grow (redrawn W d) os).cell? p = some v := cell_regrown h d os

theorem regrown_below {W w' : World} (h : ∃ p : Regrown, w' = grow (redrawn W p.d) p.os) : Below W.heap.size W w' := by
  obtain ⟨⟨d, os⟩, rfl⟩ := h
  exact below_regrown W d os
theorem rowD_le (t : ByteArray) (l : List HeldD) : (rowD t l).length ≤ l.length := List.length_filter_le _ _
theorem giveCut_fits {g : LedD} (i : Nat) (t : ByteArray) (h : Fits g) : Fits (giveCut g i t) := by
  refine ⟨by simpa [giveCut] using h.s, fun x hx => ?_, h.h, h.d, h.e⟩
  rcases List.mem_or_eq_of_mem_set hx with hx | rfl
  · exact h.r x hx
  · refine Nat.le_trans (rowD_le t _) ?_
    rw [List.getD_eq_getElem?_getD]
    cases hh : g.shares[i]? with
    | none => simp
    | some r => exact h.r r (List.mem_of_getElem? hh)
theorem own_some {w : World} {base e sz n : Nat} {a : Option Addr} {k : Nat} {xs : List Value} (h : w.ownsRow base e sz (.slice a n k) n xs) (hn : 0 < n) : ∃ g, a = some ⟨g, 0, none⟩ := by
  rcases h.2 with ⟨_, h0⟩ | ⟨g, cap', cur, hv, _⟩
  · omega
  · simp only [Value.slice.injEq] at hv; exact ⟨g, hv.1⟩
theorem own_blk {w : World} {base e sz n g : Nat} {k : Nat} {xs : List Value} (h : w.ownsRow base e sz (.slice (some ⟨g, 0, none⟩) n k) n xs) : ∃ cur, w.heap[g]? = some (.cells cur e (0, 0)) := by
  rcases h.2 with ⟨h0, _⟩ | ⟨g', cap', cur, hv, _, hh, _⟩
  · simp at h0
  · simp only [Value.slice.injEq, Option.some.injEq, Addr.mk.injEq, and_true, true_and] at hv
    obtain ⟨rfl, rfl⟩ := hv
    exact ⟨_, hh⟩

set_option maxRecDepth 100000 in
set_option maxHeartbeats 1000000 in
theorem give_bad (w : World) (v : Value) (g : LedD) (o : Int) (t : ByteArray) (a : Int) (A : Nat) (hA : A ≤ w.heap.size) (hAt : LedAt A w v g) (hb : giveBad g o = true) :
    Calls Tryz.prog 17 #[v, .int .i64 o, .agg #[.string t, .int .i64 a]] w (LedErrA A w zeroLed 1) := by
  have h := hAt.led
  have HAT := Lib.hid hAt
  clear hAt
  obtain ⟨v2, v3, v4, v5, rfl, hrest⟩ := id h
  obtain ⟨H2, -, H4, H5⟩ := hrest
  have F0 := ThreeBox.laid w #[.int .i64 g.owners, .int .i64 g.need, v2, v3, v4, v5] #[.string t, .int .i64 a] #[.int .i64 0, .int .i64 0, .slice none 0 0, .slice none 0 0, .slice none 0 0, .slice none 0 0] 26 46 26
  have AV : Hid (∀ wx, Below w.heap.size w wx → Calls Tryz.prog 41 #[.agg #[.int .i64 g.owners, .int .i64 g.need, v2, v3, v4, v5]] wx fun e w' => e = .returned (.bool (validB g)) ∧ Below wx.heap.size wx w') := fun wx hb => valid_41 wx _ g (h.later hb)
  have F0 := Lib.hid F0
  clear h H2 H4 H5
  unfold giveBad at hb
  rcases hv : validB g with _ | _
  · rw [hv] at AV
    clear hb hv
    generalize g.owners = ow at *
    generalize g.need = nd at *
    go_enter Tryz.func17, Tryz.ntmps17
    go_wp2_with (go_at_call 41; refine (AV.out _ F0.out.below).mono ?_; rintro e w1 ⟨rfl, b1⟩; have F1 := F0.out.later b1; obtain ⟨c1, c2, c3, c4, c5, c6, c7⟩ := F1.walk)
    refine bodyPost_ret (v := .tuple #[.agg #[.int .i64 0, .int .i64 0, .slice none 0 0, .slice none 0 0, .slice none 0 0, .slice none 0 0], .int .i64 1]) (by simp [results, Tryz.results17, go_sem, c3]) rfl ?_
    refine LedErrA.zero hA _ ?_
    exact below_six F1.below (by omega) _ _ _ _ _ _
  · rw [hv] at AV hb
    clear hv
    by_cases ho : o < 0
    · clear hb
      generalize g.owners = ow at *
      generalize g.need = nd at *
      go_enter Tryz.func17, Tryz.ntmps17
      go_wp2_with (go_at_call 41; refine (AV.out _ F0.out.below).mono ?_; rintro e w1 ⟨rfl, b1⟩; have F1 := F0.out.later b1; obtain ⟨c1, c2, c3, c4, c5, c6, c7⟩ := F1.walk)
      refine bodyPost_ret (v := .tuple #[.agg #[.int .i64 0, .int .i64 0, .slice none 0 0, .slice none 0 0, .slice none 0 0, .slice none 0 0], .int .i64 1]) (by simp [results, Tryz.results17, go_sem, c3]) rfl ?_
      refine LedErrA.zero hA _ ?_
      exact below_six F1.below (by omega) _ _ _ _ _ _
    · have hoo : g.owners ≤ o := by simpa [ho] using hb
      clear hb
      generalize g.owners = ow at *
      generalize g.need = nd at *
      go_enter Tryz.func17, Tryz.ntmps17
      go_wp2_with (go_at_call 41; refine (AV.out _ F0.out.below).mono ?_; rintro e w1 ⟨rfl, b1⟩; have F1 := F0.out.later b1; obtain ⟨c1, c2, c3, c4, c5, c6, c7⟩ := F1.walk)
      refine bodyPost_ret (v := .tuple #[.agg #[.int .i64 0, .int .i64 0, .slice none 0 0, .slice none 0 0, .slice none 0 0, .slice none 0 0], .int .i64 1]) (by simp [results, Tryz.results17, go_sem, c3]) rfl ?_
      refine LedErrA.zero hA _ ?_
      exact below_six F1.below (by omega) _ _ _ _ _ _

end Go.Proofs.YtpbgipdkaaooeaaGreatDoor
