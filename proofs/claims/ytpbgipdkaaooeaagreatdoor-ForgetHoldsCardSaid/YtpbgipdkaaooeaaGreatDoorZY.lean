/- law35.ForgetHolds: the walk. -/
import Derived.Test.YtpbgipdkaaooeaaGreatDoorZX
import Derived.Test.YtpbgipdkaaooeaaGreatDoorZT
import Derived.BigQuiet
import Derived.Deep.RegionHeld3
import Derived.Deep.DeepCutAuto
open Go Go.Proofs Go.RowKit
namespace Go.Proofs.YtpbgipdkaaooeaaGreatDoor
set_option linter.unusedSimpArgs false
set_option linter.unusedVariables false
attribute [local go_sem ↓] Go.wp_at_zero Go.wp_at_succ

theorem useIt {p q : Prop} (h : p) (f : p → q) : q := f h
theorem useIt2 {p p2 q : Prop} (h : p ∧ p2) (f : p → p2 → q) : q := f h.1 h.2
theorem useIt4 {p p2 p3 p4 q : Prop} (h : p ∧ p2 ∧ p3 ∧ p4) (f : p → p2 → p3 → p4 → q) : q := f h.1 h.2.1 h.2.2.1 h.2.2.2
theorem h_aa {W9 wB : World} {o1 n1 o2 n2 : Int} {a1 b1 c1 d1 a2 b2 c2 d2 : Value} {g1 g2 : LedD} (hP : Below W9.heap.size W9 wB) (h1 : LedO 0 wB (.agg #[.int .i64 o1, .int .i64 n1, a1, b1, c1, d1]) g1) (h2 : LedO 0 wB (.agg #[.int .i64 o2, .int .i64 n2, a2, b2, c2, d2]) g2) :
    Hid (Below W9.heap.size W9 ((wB.alloc (.cells #[.int .i64 o1, .int .i64 n1, a1, b1, c1, d1] 26)).alloc (.cells #[.int .i64 o2, .int .i64 n2, a2, b2, c2, d2] 26))) ∧ Hid (LedBoxO wB.heap.size o1 n1 a1 b1 c1 d1 g1 ((wB.alloc (.cells #[.int .i64 o1, .int .i64 n1, a1, b1, c1, d1] 26)).alloc (.cells #[.int .i64 o2, .int .i64 n2, a2, b2, c2, d2] 26))) ∧ Hid (LedBoxO (wB.heap.size + 1) o2 n2 a2 b2 c2 d2 g2 ((wB.alloc (.cells #[.int .i64 o1, .int .i64 n1, a1, b1, c1, d1] 26)).alloc (.cells #[.int .i64 o2, .int .i64 n2, a2, b2, c2, d2] 26))) := by
  refine ⟨Lib.hid ((hP.alloc hP.size _).alloc (by have := hP.size; simp; omega) _), Lib.hid ((LedBoxO.fresh h1).later ((Below.refl _ _).alloc (Nat.le_refl _) _)), Lib.hid ?_⟩
  have := LedBoxO.fresh (h2.later ((Below.refl wB.heap.size wB).alloc (Nat.le_refl _) (.cells #[.int .i64 o1, .int .i64 n1, a1, b1, c1, d1] 26)))
  rw [show (wB.alloc (.cells #[.int .i64 o1, .int .i64 n1, a1, b1, c1, d1] 26)).heap.size = wB.heap.size + 1 by simp] at this
  exact this
theorem h_sa {W9 wB : World} {o1 n1 o2 n2 : Int} {a1 b1 c1 d1 a2 b2 c2 d2 : Value} {g1 g2 : LedD} {k1 : Nat} (hP : Below W9.heap.size W9 wB) (h1 : LedO 0 wB (.agg #[.int .i64 o1, .int .i64 n1, a1, b1, c1, d1]) g1) (h2 : LedO 0 wB (.agg #[.int .i64 o2, .int .i64 n2, a2, b2, c2, d2]) g2) (hk : wB.heap[k1]? = some (.cells zLed 26 (0, 0))) (hk9 : W9.heap.size ≤ k1) :
    Hid (Below W9.heap.size W9 (((((((wB.setCell ⟨k1, 0, none⟩ (.int .i64 o1)).setCell ⟨k1, 1, none⟩ (.int .i64 n1)).setCell ⟨k1, 2, none⟩ a1).setCell ⟨k1, 3, none⟩ b1).setCell ⟨k1, 4, none⟩ c1).setCell ⟨k1, 5, none⟩ d1).alloc (.cells #[.int .i64 o2, .int .i64 n2, a2, b2, c2, d2] 26))) ∧ Hid (LedBoxO k1 o1 n1 a1 b1 c1 d1 g1 (((((((wB.setCell ⟨k1, 0, none⟩ (.int .i64 o1)).setCell ⟨k1, 1, none⟩ (.int .i64 n1)).setCell ⟨k1, 2, none⟩ a1).setCell ⟨k1, 3, none⟩ b1).setCell ⟨k1, 4, none⟩ c1).setCell ⟨k1, 5, none⟩ d1).alloc (.cells #[.int .i64 o2, .int .i64 n2, a2, b2, c2, d2] 26))) ∧ Hid (LedBoxO wB.heap.size o2 n2 a2 b2 c2 d2 g2 (((((((wB.setCell ⟨k1, 0, none⟩ (.int .i64 o1)).setCell ⟨k1, 1, none⟩ (.int .i64 n1)).setCell ⟨k1, 2, none⟩ a1).setCell ⟨k1, 3, none⟩ b1).setCell ⟨k1, 4, none⟩ c1).setCell ⟨k1, 5, none⟩ d1).alloc (.cells #[.int .i64 o2, .int .i64 n2, a2, b2, c2, d2] 26))) := by
  have hb := below_six hP hk9 (.int .i64 o1) (.int .i64 n1) a1 b1 c1 d1
  have hs : ((((((wB.setCell ⟨k1, 0, none⟩ (.int .i64 o1)).setCell ⟨k1, 1, none⟩ (.int .i64 n1)).setCell ⟨k1, 2, none⟩ a1).setCell ⟨k1, 3, none⟩ b1).setCell ⟨k1, 4, none⟩ c1).setCell ⟨k1, 5, none⟩ d1).heap.size = wB.heap.size := by simp
  refine ⟨Lib.hid (hb.alloc hb.size _), Lib.hid ((LedBoxO.stored hk h1).later ((Below.refl _ _).alloc (Nat.le_refl _) _)), Lib.hid ?_⟩
  have := LedBoxO.fresh (h2.six hk (Nat.zero_le _) (.int .i64 o1) (.int .i64 n1) a1 b1 c1 d1)
  rw [hs] at this
  exact this
theorem h_ss {W9 wB : World} {o1 n1 o2 n2 : Int} {a1 b1 c1 d1 a2 b2 c2 d2 : Value} {g1 g2 : LedD} {k1 k2 : Nat} (hP : Below W9.heap.size W9 wB) (h1 : LedO 0 wB (.agg #[.int .i64 o1, .int .i64 n1, a1, b1, c1, d1]) g1) (h2 : LedO 0 wB (.agg #[.int .i64 o2, .int .i64 n2, a2, b2, c2, d2]) g2) (hk : wB.heap[k1]? = some (.cells zLed 26 (0, 0))) (hk9 : W9.heap.size ≤ k1) (hl : wB.heap[k2]? = some (.cells zLed 26 (0, 0))) (hl9 : W9.heap.size ≤ k2) (hne : k1 ≠ k2) :
    Hid (Below W9.heap.size W9 (((((((((((((wB.setCell ⟨k1, 0, none⟩ (.int .i64 o1)).setCell ⟨k1, 1, none⟩ (.int .i64 n1)).setCell ⟨k1, 2, none⟩ a1).setCell ⟨k1, 3, none⟩ b1).setCell ⟨k1, 4, none⟩ c1).setCell ⟨k1, 5, none⟩ d1).setCell ⟨k2, 0, none⟩ (.int .i64 o2)).setCell ⟨k2, 1, none⟩ (.int .i64 n2)).setCell ⟨k2, 2, none⟩ a2).setCell ⟨k2, 3, none⟩ b2).setCell ⟨k2, 4, none⟩ c2).setCell ⟨k2, 5, none⟩ d2))) ∧ Hid (LedBoxO k1 o1 n1 a1 b1 c1 d1 g1 (((((((((((((wB.setCell ⟨k1, 0, none⟩ (.int .i64 o1)).setCell ⟨k1, 1, none⟩ (.int .i64 n1)).setCell ⟨k1, 2, none⟩ a1).setCell ⟨k1, 3, none⟩ b1).setCell ⟨k1, 4, none⟩ c1).setCell ⟨k1, 5, none⟩ d1).setCell ⟨k2, 0, none⟩ (.int .i64 o2)).setCell ⟨k2, 1, none⟩ (.int .i64 n2)).setCell ⟨k2, 2, none⟩ a2).setCell ⟨k2, 3, none⟩ b2).setCell ⟨k2, 4, none⟩ c2).setCell ⟨k2, 5, none⟩ d2))) ∧ Hid (LedBoxO k2 o2 n2 a2 b2 c2 d2 g2 (((((((((((((wB.setCell ⟨k1, 0, none⟩ (.int .i64 o1)).setCell ⟨k1, 1, none⟩ (.int .i64 n1)).setCell ⟨k1, 2, none⟩ a1).setCell ⟨k1, 3, none⟩ b1).setCell ⟨k1, 4, none⟩ c1).setCell ⟨k1, 5, none⟩ d1).setCell ⟨k2, 0, none⟩ (.int .i64 o2)).setCell ⟨k2, 1, none⟩ (.int .i64 n2)).setCell ⟨k2, 2, none⟩ a2).setCell ⟨k2, 3, none⟩ b2).setCell ⟨k2, 4, none⟩ c2).setCell ⟨k2, 5, none⟩ d2))) := by
  have hl2 := blk_six hl (Ne.symm hne) (.int .i64 o1) (.int .i64 n1) a1 b1 c1 d1
  have hs := LedBoxO.stored hk h1
  exact ⟨Lib.hid (below_six (below_six hP hk9 _ _ _ _ _ _) hl9 _ _ _ _ _ _), Lib.hid ⟨blk_six hs.box hne _ _ _ _ _ _, hs.led.six hl2 (Nat.zero_le _) _ _ _ _ _ _⟩, Lib.hid (LedBoxO.stored hl2 (h2.six hk (Nat.zero_le _) _ _ _ _ _ _))⟩
theorem fits_hold {n : Nat} {g : LedD} (h : Small n g) (hn : n ≤ 4094) (p : ByteArray × Int) : Fits (holdD g p) := by
  unfold holdD
  split
  · exact ⟨Nat.le_trans h.s (by omega), fun x hx => Nat.le_trans (h.r x hx) (by omega), by have := h.h; simp; omega, Nat.le_trans h.d (by omega), Nat.le_trans h.e (by omega)⟩
  · exact (Small.zero 0).fits (by omega)
theorem ActsAre.later {w w' : World} {ps : List (ActD × Value)} {l : List ActD} (h : ActsAre w ps l) (hb : Below w.heap.size w w') : ActsAre w' ps l := by
  induction h with
  | nil => exact .nil
  | cons h1 h2 h3 _ ih => exact .cons h1 h2 (h3.later hb) ih
theorem ActsR.later {w w' : World} {v : Value} {l : List ActD} (h : ActsR w v l) (hb : Below w.heap.size w w') : ActsR w' v l := let ⟨ps, h1, h2⟩ := h; ⟨ps, h1.later hb, h2.later hb⟩
set_option maxRecDepth 100000 in
set_option maxHeartbeats 4000000 in
theorem holds_6 (w : World) (a b : Nat) (vl va : Value) (l : List ActD) (x : ActD) (ha : a < 256) (hb : b < 256) (hl : ActsR w vl l) (hx : ActR w va x) :
    Calls Tryz.prog 6 #[.agg #[.int .u8 a, .int .u8 b], vl, va] w fun e w' => e = .returned (.bool true) ∧ Below w.heap.size w w' := by
  obtain ⟨ok, vs, rfl, hbs⟩ := hx
  obtain ⟨-, sa, sc, rfl, -⟩ := id hbs.1
  obtain ⟨sl, hsl⟩ : ∃ sl, sl = x.seed.length := ⟨_, rfl⟩
  rw [← hsl] at hbs ⊢
  clear hsl
  have HLR := Lib.hid hl
  obtain ⟨al, nl, cl, rfl, hnl, hcl, hat⟩ := acts_at hl
  have HAT := Lib.hid hat
  have HNL := Lib.hid hnl
  clear hl hat hnl hbs
  have hw := ok.who
  obtain ⟨ho1, ho2⟩ := ok.owner
  obtain ⟨ht1, ht2⟩ := ok.at'
  clear ok
  have F0 := Lib.hid (TwoBox.laid w #[.int .u8 (a : Int), .int .u8 (b : Int)] #[.int .u8 x.kind, .int .u8 x.who, .int .i8 x.owner, .int .i8 x.at', .slice sa sl sc] 58 30)
  have C9 : Hid (∀ wx, Calls Tryz.prog 9 #[] wx fun e w' => e = .returned (.bool true) ∧ Hid (Below wx.heap.size wx w')) := fun wx => sanity_9 wx
  have C28 : Hid (∀ wx, Below w.heap.size w wx → Calls Tryz.prog 28 #[.slice al nl cl] wx fun e w' => e = .returned (.bool (longD l)) ∧ Hid (Below wx.heap.size wx w')) := fun wx hbx => long_28 wx _ l (ActsR.later HLR.out hbx)
  have C29 : Hid (∀ wx, Calls Tryz.prog 29 #[.agg #[.int .u8 (a : Int), .int .u8 (b : Int)]] wx (LedQA 0 wx (startD a b))) := fun wx => led_partsA1 (start_29 wx a b ha hb)
  have C11 : Hid (∀ wx, Calls Tryz.prog 11 #[.int .u8 ((x.who : Nat) : Int)] wx fun e w' => e = .returned (.string (subjD x.who)) ∧ Hid (Below wx.heap.size wx w')) := fun wx => subject_11 wx x.who hw
  have TL : Hid (∀ wx w', Hid (TwoBox w #[.int .u8 (a : Int), .int .u8 (b : Int)] #[.int .u8 x.kind, .int .u8 x.who, .int .i8 x.owner, .int .i8 x.at', .slice sa sl sc] 58 30 wx) → Hid (Below wx.heap.size wx w') → Hid (TwoBox w #[.int .u8 (a : Int), .int .u8 (b : Int)] #[.int .u8 x.kind, .int .u8 x.who, .int .i8 x.owner, .int .i8 x.at', .slice sa sl sc] 58 30 w')) := fun wx w' h hb => Lib.hid (h.out.later hb.out)
  have TA : Hid (∀ wx ob, Hid (TwoBox w #[.int .u8 (a : Int), .int .u8 (b : Int)] #[.int .u8 x.kind, .int .u8 x.who, .int .i8 x.owner, .int .i8 x.at', .slice sa sl sc] 58 30 wx) → Hid (TwoBox w #[.int .u8 (a : Int), .int .u8 (b : Int)] #[.int .u8 x.kind, .int .u8 x.who, .int .i8 x.owner, .int .i8 x.at', .slice sa sl sc] 58 30 (wx.alloc ob))) := fun wx ob h => Lib.hid (h.out.later ((Below.refl _ _).alloc (Nat.le_refl _) _))
  have KS : Hid (∀ wx, Hid (TwoBox w #[.int .u8 (a : Int), .int .u8 (b : Int)] #[.int .u8 x.kind, .int .u8 x.who, .int .i8 x.owner, .int .i8 x.at', .slice sa sl sc] 58 30 wx) → (∀ i, wx.cell? ⟨w.heap.size, i, none⟩ = #[.int .u8 (a : Int), .int .u8 (b : Int)][i]?) ∧ (∀ i, wx.cell? ⟨w.heap.size + 1, i, none⟩ = #[.int .u8 x.kind, .int .u8 x.who, .int .i8 x.owner, .int .i8 x.at', .slice sa sl sc][i]?)) := fun wx h => ⟨h.out.walk.1, h.out.walk.2.2.1⟩
  have BN : Hid (∀ Y w', Hid (TwoBox w #[.int .u8 (a : Int), .int .u8 (b : Int)] #[.int .u8 x.kind, .int .u8 x.who, .int .i8 x.owner, .int .i8 x.at', .slice sa sl sc] 58 30 Y) → Hid (Below (Y.alloc (.cells zLed 26)).heap.size (Y.alloc (.cells zLed 26)) w') → Hid (w'.heap[Y.heap.size]? = some (.cells zLed 26 (0, 0))) ∧ w.heap.size + 1 < Y.heap.size) := fun Y w' h hb => ⟨Lib.hid (blk_later (heap_alloc_new _ _) hb.out), h.out.walk.2.2.2.2⟩
  have BD : Hid (∀ Y w', Hid (TwoBox w #[.int .u8 (a : Int), .int .u8 (b : Int)] #[.int .u8 x.kind, .int .u8 x.who, .int .i8 x.owner, .int .i8 x.at', .slice sa sl sc] 58 30 Y) → Hid (Below (Y.alloc (.cells zLed 26)).drew.heap.size (Y.alloc (.cells zLed 26)).drew w') → Hid (w'.heap[Y.heap.size]? = some (.cells zLed 26 (0, 0))) ∧ w.heap.size + 1 < Y.heap.size) := fun Y w' h hb => ⟨Lib.hid (blk_later (show (Y.alloc (.cells zLed 26)).drew.heap[Y.heap.size]? = _ from heap_alloc_new _ _) hb.out), h.out.walk.2.2.2.2⟩
  have BL : Hid (∀ (k : Nat) (wx w' : World), Hid (wx.heap[k]? = some (.cells zLed 26 (0, 0))) → Hid (Below wx.heap.size wx w') → Hid (w'.heap[k]? = some (.cells zLed 26 (0, 0)))) := fun k wx w' h hb => Lib.hid (blk_later h.out hb.out)
  have LL : Hid (∀ (wx w' : World) (v : Value), Hid (LedO 0 wx v (startD a b)) → Hid (Below wx.heap.size wx w') → Hid (LedO 0 w' v (startD a b))) := fun wx w' v h hb => Lib.hid (h.out.later hb.out)
  have LA : Hid (∀ (wx w' : World) (v : Value), Hid (LedO 0 wx v (startD a b)) → Hid (Below (wx.alloc (.cells zLed 26)).heap.size (wx.alloc (.cells zLed 26)) w') → Hid (LedO 0 w' v (startD a b))) := fun wx w' v h hb => Lib.hid ((h.out.later ((Below.refl _ _).alloc (Nat.le_refl _) _)).later hb.out)
  have TS : Hid (∀ wx k i u, Hid (TwoBox w #[.int .u8 (a : Int), .int .u8 (b : Int)] #[.int .u8 x.kind, .int .u8 x.who, .int .i8 x.owner, .int .i8 x.at', .slice sa sl sc] 58 30 wx) → w.heap.size + 1 < k → Hid (TwoBox w #[.int .u8 (a : Int), .int .u8 (b : Int)] #[.int .u8 x.kind, .int .u8 x.who, .int .i8 x.owner, .int .i8 x.at', .slice sa sl sc] 58 30 (wx.setCell ⟨k, i, none⟩ u))) := fun wx k i u h hk => Lib.hid ⟨h.out.below.setCell (by simp; omega) _, (Below.heap_setCell _ _ _ _ (by simp; omega)).trans h.out.one, (Below.heap_setCell _ _ _ _ (by simp; omega)).trans h.out.two⟩
  clear ha hb hw
  have HSM := Lib.hid (fun i => small_hist a b l i)
  have HLONG : Hid (longD l = false → l.length ≤ 30) := fun h => by
    unfold longD at h
    simp only [Bool.or_eq_false_iff, decide_eq_false_iff_not] at h
    omega
  go_enter Tryz.func6, Tryz.ntmps6
  rcases hq : longD l with _ | _
  · rw [hq] at C28
    have hl30 : nl ≤ 30 := by rw [HNL.out]; exact HLONG.out hq
    have HLEN := Lib.hid (HLONG.out hq)
    clear hq HLONG
    go_upto_region 4 with (first
      | (go_at_call 9; refine (C9.out _).mono ?_; rintro e w1 ⟨rfl, b1⟩; have F1 := TL.out _ _ F0 b1)
      | (go_at_call 28; refine (C28.out _ F1.out.below).mono ?_; rintro e w2 ⟨rfl, b2⟩; have F2 := TL.out _ _ F1 b2))
    clear F0 F1 b1 b2 C9 C28 HLR
    have F2d := Lib.hid F2.out.drew
    have F2a := Lib.hid (TA.out w2 (.cells zLed 26) F2).out.drew
    go_cut [8, 9] (fun p s wx => ∃ (m : Nat) (o nd : Int) (r2 : Option Addr) (s2 t2 : Nat) (r3 : Option Addr) (s3 t3 : Nat) (r4 : Option Addr) (s4 t4 : Nat) (r5 : Option Addr) (s5 t5 : Nat), p = .pointer (some ⟨m, 0, none⟩) ∧ s = .string (subjD x.who) ∧ w.heap.size + 1 < m ∧ Hid (TwoBox w #[.int .u8 (a : Int), .int .u8 (b : Int)] #[.int .u8 x.kind, .int .u8 x.who, .int .i8 x.owner, .int .i8 x.at', .slice sa sl sc] 58 30 wx) ∧ Hid (LedBoxO m o nd (.slice r2 s2 t2) (.slice r3 s3 t3) (.slice r4 s4 t4) (.slice r5 s5 t5) (startD a b) wx))
    case first =>
      go_region_held3 (fun w' => (∀ i, w'.cell? ⟨w.heap.size, i, none⟩ = #[.int .u8 (a : Int), .int .u8 (b : Int)][i]?) ∧ (∀ i, w'.cell? ⟨w.heap.size + 1, i, none⟩ = #[.int .u8 x.kind, .int .u8 x.who, .int .i8 x.owner, .int .i8 x.at', .slice sa sl sc][i]?)) (exact KS.out _ (by repeat (first | with_reducible assumption | with_reducible apply TA.out | (with_reducible refine TS.out _ _ _ _ ?_ (by first | assumption | (have := (KS.out _ (by with_reducible assumption)); omega)))))) (first | (go_at_call 29; refine (C29.out _).mono ?_; rintro e wS ⟨o, nd, r2, s2, t2, r3, s3, t3, r4, s4, t4, r5, s5, t5, rfl, HL, HC⟩; have FS : Hid (TwoBox w #[.int .u8 (a : Int), .int .u8 (b : Int)] #[.int .u8 x.kind, .int .u8 x.who, .int .i8 x.owner, .int .i8 x.at', .slice sa sl sc] 58 30 wS) := TL.out _ _ (by repeat (first | with_reducible assumption | with_reducible apply TA.out)) HC; (first | (with_reducible refine useIt2 (BN.out _ _ (by repeat (first | with_reducible assumption | with_reducible apply TA.out)) HC) (fun MB hMB => ?_); obtain ⟨m1, m2, m3⟩ := box_walk MB.out) | (with_reducible refine useIt2 (BD.out _ _ (by repeat (first | with_reducible assumption | with_reducible apply TA.out)) HC) (fun MB hMB => ?_); obtain ⟨m1, m2, m3⟩ := box_walk MB.out) | (with_reducible refine useIt (BL.out _ _ _ MB HC) (fun MB => ?_); obtain ⟨m1, m2, m3⟩ := box_walk MB.out) | skip)) | (go_at_call 11; refine (C11.out _).mono ?_; rintro e wJ ⟨rfl, HC⟩; have FJ : Hid (TwoBox w #[.int .u8 (a : Int), .int .u8 (b : Int)] #[.int .u8 x.kind, .int .u8 x.who, .int .i8 x.owner, .int .i8 x.at', .slice sa sl sc] 58 30 wJ) := TL.out _ _ (by repeat (first | with_reducible assumption | with_reducible apply TA.out)) HC; (first | (with_reducible refine useIt (LL.out _ _ _ HL HC) (fun HL => ?_)) | (with_reducible refine useIt (LA.out _ _ _ HL HC) (fun HL => ?_)) | skip); (first | (with_reducible refine useIt2 (BN.out _ _ (by repeat (first | with_reducible assumption | with_reducible apply TA.out)) HC) (fun MB hMB => ?_); obtain ⟨m1, m2, m3⟩ := box_walk MB.out) | (with_reducible refine useIt2 (BD.out _ _ (by repeat (first | with_reducible assumption | with_reducible apply TA.out)) HC) (fun MB hMB => ?_); obtain ⟨m1, m2, m3⟩ := box_walk MB.out) | (with_reducible refine useIt (BL.out _ _ _ MB HC) (fun MB => ?_); obtain ⟨m1, m2, m3⟩ := box_walk MB.out) | skip)))
      · go_wp2_with fail
        go_meet
        exact ⟨wJ.heap.size, o, nd, r2, s2, t2, r3, s3, t3, r4, s4, t4, r5, s5, t5, rfl, rfl, FJ.out.walk.2.2.2.2, TA.out _ _ FJ, LedBoxO.fresh HL.out⟩
      · go_wp2_with fail
        go_meet
        exact ⟨wS.heap.size, o, nd, r2, s2, t2, r3, s3, t3, r4, s4, t4, r5, s5, t5, rfl, rfl, hMB, TS.out _ _ _ _ (TS.out _ _ _ _ (TS.out _ _ _ _ (TS.out _ _ _ _ (TS.out _ _ _ _ (TS.out _ _ _ _ FJ hMB) hMB) hMB) hMB) hMB) hMB, LedBoxO.stored MB.out HL.out⟩
      · go_wp2_with fail
        go_meet
        exact ⟨w2.heap.size, o, nd, r2, s2, t2, r3, s3, t3, r4, s4, t4, r5, s5, t5, rfl, rfl, hMB, TS.out _ _ _ _ (TS.out _ _ _ _ (TS.out _ _ _ _ (TS.out _ _ _ _ (TS.out _ _ _ _ (TS.out _ _ _ _ FJ hMB) hMB) hMB) hMB) hMB) hMB, LedBoxO.stored MB.out HL.out⟩
    case rest =>
      obtain ⟨m, o0, nd0, r20, s20, t20, r30, s30, t30, r40, s40, t40, r50, s50, t50, rfl, rfl, hm, F1, L1⟩ := hcut
      clear F2 F2d F2a C29 C11 BN BD BL LL LA KS
      have C32 : Hid (∀ wx i, i < l.length → Hid (Below w.heap.size w wx) → ∀ vg av kv, Hid (LedO 0 wx vg (histD (startD a b) l i)) → (hi : i < l.length) → BytesR wx (.slice av l[i].seed.length kv) l[i].seed → ActOk l[i] → Calls Tryz.prog 32 #[vg, .agg #[.int .u8 l[i].kind, .int .u8 l[i].who, .int .i8 l[i].owner, .int .i8 l[i].at', .slice av l[i].seed.length kv]] wx (LedPA 0 wx (histD (startD a b) l (i + 1)) (stepE (histD (startD a b) l i) l[i]))) := fun wx i hi hbx vg av kv hg hi2 hbs hok => by
        have := do_32 wx vg _ (histD (startD a b) l i) l[i] hg.out ((HSM.out i).fits (by have := HLEN.out; omega)) ⟨hok, _, rfl, hbs⟩
        have e : l.getD i default = l[i] := by rw [List.getD_eq_getElem?_getD, List.getElem?_eq_getElem hi]; rfl
        have hd : histD (startD a b) l (i + 1) = doD (histD (startD a b) l i) l[i] := by rw [histD, e]
        rw [hd]
        exact led_partsA this
      go_upto_region 6 with fail
      go_loopw [10] (fun c wr => ∃ (i : Nat) (o nd : Int) (r2 : Option Addr) (s2 t2 : Nat) (r3 : Option Addr) (s3 t3 : Nat) (r4 : Option Addr) (s4 t4 : Nat) (r5 : Option Addr) (s5 t5 : Nat), i ≤ nl ∧ c = .int .i64 ((i : Nat) : Int) ∧ Hid (TwoBox w #[.int .u8 (a : Int), .int .u8 (b : Int)] #[.int .u8 x.kind, .int .u8 x.who, .int .i8 x.owner, .int .i8 x.at', .slice sa sl sc] 58 30 wr) ∧ Hid (LedBoxO m o nd (.slice r2 s2 t2) (.slice r3 s3 t3) (.slice r4 s4 t4) (.slice r5 s5 t5) (histD (startD a b) l i) wr)) (fun c _ => nl - (intOf c).toNat)
      case atStart => exact ⟨0, o0, nd0, r20, s20, t20, r30, s30, t30, r40, s40, t40, r50, s50, t50, Nat.zero_le _, rfl, F1, L1⟩
      case round =>
        clear F1 L1
        obtain ⟨i, o, nd, r2, s2, t2, r3, s3, t3, r4, s4, t4, r5, s5, t5, hi, rfl, F1, L1⟩ := hrel
        by_cases hlt : i < nl
        · have hil : i < l.length := by rw [← HNL.out]; exact hlt
          obtain ⟨bk, off, av, kv, rfl, hbb, hok, hbs, hc⟩ := HAT.out i hil
          have HB1 := Lib.hid F1.out.below
          have C := Lib.hid (fun hb => C32.out wr.drew i hil (Lib.hid HB1.out.drew) (.agg #[.int .i64 o, .int .i64 nd, .slice r2 s2 t2, .slice r3 s3 t3, .slice r4 s4 t4, .slice r5 s5 t5]) av kv (Lib.hid (L1.out.led.later (Below.refl _ _).drew)) hil hb hok)
          replace C := Lib.hid (C.out (hbs.later HB1.out.drew))
          obtain ⟨c0, c1, c2, c3, c4⟩ := hc wr.drew HB1.out.drew
          have hbr : bk < wr.heap.size := Nat.lt_of_lt_of_le hbb HB1.out.size
          have HLD := Lib.hid L1
          obtain ⟨d1, d2, d3⟩ := box_walk (show wr.drew.heap[m]? = _ from L1.out.box)
          clear hc hok hbs
          generalize hge : stepE (histD (startD a b) l i) l[i] = ge at *
          clear hge
          generalize l[i].kind = y1 at *
          generalize l[i].who = y2 at *
          generalize l[i].owner = y3 at *
          generalize l[i].at' = y4 at *
          generalize l[i].seed.length = y5 at *
          go_upto_region 8 with fail
          go_region_with (go_at_call 32; refine C.out.mono ?_; rintro e w5 ⟨o', nd', r2', s2', t2', r3', s3', t3', r4', s4', t4', r5', s5', t5', rfl, HL, HC⟩; have FC := Lib.hid ((F1.out.drew).later HC.out); have MC := Lib.hid (blk_later (show wr.drew.heap[m]? = _ from L1.out.box) HC.out); obtain ⟨e1, e2, e3⟩ := box_walk MC.out)
          all_goals
            go_wp2_with fail
            go_roundw
            case rel => exact ⟨i + 1, o', nd', r2', s2', t2', r3', s3', t3', r4', s4', t4', r5', s5', t5', by omega, by go_num, TS.out _ _ _ _ (TS.out _ _ _ _ (TS.out _ _ _ _ (TS.out _ _ _ _ (TS.out _ _ _ _ (TS.out _ _ _ _ FC hm) hm) hm) hm) hm) hm, LedBoxO.stored MC.out HL.out⟩
            case measure => simp [intOf] <;> omega
        · obtain rfl : i = nl := by omega
          have HFT := Lib.hid ((HSM.out i).fits (by omega))
          have HSM2 := Lib.hid (HSM.out i)
          generalize histD (startD a b) l i = G at *
          clear HSM C32 HAT HNL HLEN 
          obtain ⟨c1, c2, c3, c4, c5⟩ := F1.out.walk
          go_upto_region 10 with fail
          clear c1 c2 c3 c4 c5
          have nb := (Below.refl wr.heap.size wr).alloc (Nat.le_refl _) (.cells #[.string (subjD x.who), .int .i64 x.at'] 46)
          have K11 := Lib.hid (heap_alloc_new wr (.cells #[.string (subjD x.who), .int .i64 x.at'] 46))
          replace F1 := Lib.hid (F1.out.later nb)
          replace L1 := Lib.hid (L1.out.later nb)
          clear nb
          generalize wr.alloc (.cells #[.string (subjD x.who), .int .i64 x.at'] 46) = W9 at *
          generalize wr.heap.size = k11 at *
          generalize subjD x.who = t at *
          generalize hat0 : x.at' = at0 at *
          clear hat0
          have hwr : IntKind.i64.wrap (at0 + 1) = at0 + 1 := by rw [IntKind.wrap_i64]; omega
          have CA : Hid (∀ wx, Hid (Below W9.heap.size W9 wx) → Calls Tryz.prog 26 #[.agg #[.int .i64 o, .int .i64 nd, .slice r2 s2 t2, .slice r3 s3 t3, .slice r4 s4 t4, .slice r5 s5 t5], .agg #[.string t, .int .i64 (at0 + 1)]] wx (LedQA 0 wx (holdD G (t, at0 + 1)))) := fun wx hbx => led_partsA1 (hold_26A wx _ G (t, at0 + 1) 0 (Nat.zero_le _) (L1.out.led.later hbx.out).at HFT.out)
          have CB : Hid (∀ wx, Hid (Below W9.heap.size W9 wx) → Calls Tryz.prog 26 #[.agg #[.int .i64 o, .int .i64 nd, .slice r2 s2 t2, .slice r3 s3 t3, .slice r4 s4 t4, .slice r5 s5 t5], .agg #[.string t, .int .i64 at0]] wx (LedQA 0 wx (holdD G (t, at0)))) := fun wx hbx => led_partsA1 (hold_26A wx _ G (t, at0) 0 (Nat.zero_le _) (L1.out.led.later hbx.out).at HFT.out)
          have PA : Hid (∀ wx ob, Hid (Below W9.heap.size W9 wx) → Hid (Below W9.heap.size W9 (wx.alloc ob))) := fun wx ob h => Lib.hid (h.out.alloc h.out.size _)
          have PL : Hid (∀ wx w', Hid (Below W9.heap.size W9 wx) → Hid (Below wx.heap.size wx w') → Hid (Below W9.heap.size W9 w')) := fun wx w' h hb => Lib.hid (below_step h.out hb.out)
          have PS : Hid (∀ wx k i u, Hid (Below W9.heap.size W9 wx) → W9.heap.size ≤ k → Hid (Below W9.heap.size W9 (wx.setCell ⟨k, i, none⟩ u))) := fun wx k i u h hk => Lib.hid (h.out.setCell hk _)
          have KS : Hid (∀ wx, Hid (Below W9.heap.size W9 wx) → (∀ i, wx.cell? ⟨m, i, none⟩ = #[.int .i64 o, .int .i64 nd, .slice r2 s2 t2, .slice r3 s3 t3, .slice r4 s4 t4, .slice r5 s5 t5][i]?) ∧ (∀ i, wx.cell? ⟨k11, i, none⟩ = #[.string t, .int .i64 at0][i]?)) := fun wx h => ⟨(box_walk (blk_later L1.out.box h.out)).1, (box_walk (blk_later K11.out h.out)).1⟩
          have LL : Hid (∀ (wx w' : World) (v : Value), Hid (LedO 0 wx v (holdD G (t, at0 + 1))) → Hid (Below wx.heap.size wx w') → Hid (LedO 0 w' v (holdD G (t, at0 + 1)))) := fun wx w' v h hb => Lib.hid (h.out.later hb.out)
          have LL1 : Hid (∀ (wx w' : World) (v : Value), Hid (LedO 0 wx v (holdD G (t, at0 + 1))) → Hid (Below (wx.alloc (.cells zLed 26)).heap.size (wx.alloc (.cells zLed 26)) w') → Hid (LedO 0 w' v (holdD G (t, at0 + 1)))) := fun wx w' v h hb => Lib.hid ((h.out.later ((Below.refl _ _).alloc (Nat.le_refl _) _)).later hb.out)
          have LL2 : Hid (∀ (wx w' : World) (v : Value), Hid (LedO 0 wx v (holdD G (t, at0 + 1))) → Hid (Below ((wx.alloc (.cells zLed 26)).alloc (.cells zLed 26)).heap.size ((wx.alloc (.cells zLed 26)).alloc (.cells zLed 26)) w') → Hid (LedO 0 w' v (holdD G (t, at0 + 1)))) := fun wx w' v h hb => Lib.hid (((h.out.later ((Below.refl _ _).alloc (Nat.le_refl _) _)).later ((Below.refl _ _).alloc (Nat.le_refl _) _)).later hb.out)
          have BD1 : Hid (∀ w', Hid (Below (W9.alloc (.cells zLed 26)).drew.heap.size (W9.alloc (.cells zLed 26)).drew w') → Hid (w'.heap[W9.heap.size]? = some (.cells zLed 26 (0, 0))) ∧ W9.heap.size ≤ W9.heap.size) := fun w' hb => ⟨Lib.hid (blk_later (show (W9.alloc (.cells zLed 26)).drew.heap[W9.heap.size]? = _ from heap_alloc_new _ _) hb.out), Nat.le_refl _⟩
          have BD2 : Hid (∀ w', Hid (Below ((W9.alloc (.cells zLed 26)).alloc (.cells zLed 26)).drew.heap.size ((W9.alloc (.cells zLed 26)).alloc (.cells zLed 26)).drew w') → Hid (w'.heap[W9.heap.size]? = some (.cells zLed 26 (0, 0))) ∧ Hid (w'.heap[W9.heap.size + 1]? = some (.cells zLed 26 (0, 0))) ∧ W9.heap.size ≤ W9.heap.size ∧ W9.heap.size ≤ W9.heap.size + 1) := fun w' hb => ⟨Lib.hid (blk_later (show ((W9.alloc (.cells zLed 26)).alloc (.cells zLed 26)).drew.heap[W9.heap.size]? = _ from blk_later (heap_alloc_new W9 (.cells zLed 26)) (((Below.refl _ _).alloc (Nat.le_refl _) _).drew)) hb.out), Lib.hid (blk_later (show ((W9.alloc (.cells zLed 26)).alloc (.cells zLed 26)).drew.heap[W9.heap.size + 1]? = _ from by rw [show W9.heap.size + 1 = (W9.alloc (.cells zLed 26)).heap.size by simp]; exact heap_alloc_new _ _) hb.out), Nat.le_refl _, Nat.le_succ _⟩
          have BN1 : Hid (∀ Y w', Hid (Below W9.heap.size W9 Y) → Hid (Below (Y.alloc (.cells zLed 26)).heap.size (Y.alloc (.cells zLed 26)) w') → Hid (w'.heap[Y.heap.size]? = some (.cells zLed 26 (0, 0))) ∧ W9.heap.size ≤ Y.heap.size) := fun Y w' h hb => ⟨Lib.hid (blk_later (heap_alloc_new _ _) hb.out), h.out.size⟩
          have BN2 : Hid (∀ Y w', Hid (Below W9.heap.size W9 Y) → Hid (Below ((Y.alloc (.cells zLed 26)).alloc (.cells zLed 26)).heap.size ((Y.alloc (.cells zLed 26)).alloc (.cells zLed 26)) w') → Hid (w'.heap[Y.heap.size]? = some (.cells zLed 26 (0, 0))) ∧ Hid (w'.heap[Y.heap.size + 1]? = some (.cells zLed 26 (0, 0))) ∧ W9.heap.size ≤ Y.heap.size ∧ W9.heap.size ≤ Y.heap.size + 1) := fun Y w' h hb => ⟨Lib.hid (blk_later (blk_later (heap_alloc_new Y _) ((Below.refl _ _).alloc (Nat.le_refl _) _)) hb.out), Lib.hid (blk_later (show ((Y.alloc (.cells zLed 26)).alloc (.cells zLed 26)).heap[Y.heap.size + 1]? = _ from by rw [show Y.heap.size + 1 = (Y.alloc (.cells zLed 26)).heap.size by simp]; exact heap_alloc_new _ _) hb.out), h.out.size, Nat.le_succ_of_le h.out.size⟩
          have BL : Hid (∀ (k : Nat) (wx w' : World), Hid (wx.heap[k]? = some (.cells zLed 26 (0, 0))) → Hid (Below wx.heap.size wx w') → Hid (w'.heap[k]? = some (.cells zLed 26 (0, 0)))) := fun k wx w' h hb => Lib.hid (blk_later h.out hb.out)
          have BL1 : Hid (∀ (k : Nat) (wx w' : World), Hid (wx.heap[k]? = some (.cells zLed 26 (0, 0))) → Hid (Below (wx.alloc (.cells zLed 26)).heap.size (wx.alloc (.cells zLed 26)) w') → Hid (w'.heap[k]? = some (.cells zLed 26 (0, 0)))) := fun k wx w' h hb => Lib.hid (blk_later (blk_later h.out ((Below.refl _ _).alloc (Nat.le_refl _) _)) hb.out)
          have P0 : Hid (Below W9.heap.size W9 W9) := Lib.hid (Below.refl _ _)
          have P1 := Lib.hid P0.out.drew
          have P2 := Lib.hid (PA.out _ (.cells zLed 26) P0).out.drew
          have P3 := Lib.hid (PA.out _ (.cells zLed 26) (PA.out _ (.cells zLed 26) P0)).out.drew
          go_cut [12, 13] (fun p q wx => ∃ (m2 : Nat) (oA nA : Int) (a2 : Option Addr) (b2 c2 : Nat) (a3 : Option Addr) (b3 c3 : Nat) (a4 : Option Addr) (b4 c4 : Nat) (a5 : Option Addr) (b5 c5 : Nat) (m3 : Nat) (oB nB : Int) (e2 : Option Addr) (f2 g2 : Nat) (e3 : Option Addr) (f3 g3 : Nat) (e4 : Option Addr) (f4 g4 : Nat) (e5 : Option Addr) (f5 g5 : Nat), p = .pointer (some ⟨m2, 0, none⟩) ∧ q = .pointer (some ⟨m3, 0, none⟩) ∧ Hid (Below W9.heap.size W9 wx) ∧
            Hid (LedBoxO m2 oA nA (.slice a2 b2 c2) (.slice a3 b3 c3) (.slice a4 b4 c4) (.slice a5 b5 c5) (holdD G (t, at0 + 1)) wx) ∧ Hid (LedBoxO m3 oB nB (.slice e2 f2 g2) (.slice e3 f3 g3) (.slice e4 f4 g4) (.slice e5 f5 g5) (holdD G (t, at0)) wx))
          case first =>
            go_region_held3 (fun w' => (∀ i, w'.cell? ⟨m, i, none⟩ = #[.int .i64 o, .int .i64 nd, .slice r2 s2 t2, .slice r3 s3 t3, .slice r4 s4 t4, .slice r5 s5 t5][i]?) ∧ (∀ i, w'.cell? ⟨k11, i, none⟩ = #[.string t, .int .i64 at0][i]?)) (exact KS.out _ (by repeat (first | with_reducible assumption | with_reducible apply PA.out | (with_reducible refine PS.out _ _ _ _ ?_ (by first | with_reducible assumption | omega))))) (first | (go_at_call 26; (with_reducible refine (CA.out _ (by repeat (first | with_reducible assumption | with_reducible apply PA.out))).mono ?_); rintro e wA ⟨oA, nA, a2, b2, c2, a3, b3, c3, a4, b4, c4, a5, b5, c5, rfl, HLA, HC⟩; have QA : Hid (Below W9.heap.size W9 wA) := PL.out _ _ (by repeat (first | with_reducible assumption | with_reducible apply PA.out)) HC; (first | (with_reducible refine useIt4 (BD2.out _ HC) (fun MB MC hMB hMC => ?_); obtain ⟨m1, m2, m3⟩ := box_walk MB.out; obtain ⟨n1, n2, n3⟩ := box_walk MC.out) | (with_reducible refine useIt2 (BD1.out _ HC) (fun MB hMB => ?_); obtain ⟨m1, m2, m3⟩ := box_walk MB.out) | skip)) | (go_at_call 26; (with_reducible refine (CB.out _ (by repeat (first | with_reducible assumption | with_reducible apply PA.out))).mono ?_); rintro e wB ⟨oB, nB, e2, f2, g2, e3, f3, g3, e4, f4, g4, e5, f5, g5, rfl, HLB, HC⟩; have QB : Hid (Below W9.heap.size W9 wB) := PL.out _ _ (by repeat (first | with_reducible assumption | with_reducible apply PA.out)) HC; (first | (with_reducible refine useIt (LL.out _ _ _ HLA HC) (fun HLA => ?_)) | (with_reducible refine useIt (LL1.out _ _ _ HLA HC) (fun HLA => ?_)) | (with_reducible refine useIt (LL2.out _ _ _ HLA HC) (fun HLA => ?_))); (first | (with_reducible refine useIt4 (BN2.out _ _ (by repeat (first | with_reducible assumption | with_reducible apply PA.out)) HC) (fun MB MC hMB hMC => ?_); obtain ⟨m1, m2, m3⟩ := box_walk MB.out; obtain ⟨n1, n2, n3⟩ := box_walk MC.out)  | (with_reducible refine useIt2 (BN1.out _ _ (by repeat (first | with_reducible assumption | with_reducible apply PA.out)) HC) (fun MC hMC => ?_); obtain ⟨n1, n2, n3⟩ := box_walk MC.out; (first | (with_reducible refine useIt (BL1.out _ _ _ MB HC) (fun MB => ?_); obtain ⟨m1, m2, m3⟩ := box_walk MB.out) | skip))  | (first | (with_reducible refine useIt (BL.out _ _ _ MB HC) (fun MB => ?_); obtain ⟨m1, m2, m3⟩ := box_walk MB.out; (first | (with_reducible refine useIt (BL.out _ _ _ MC HC) (fun MC => ?_); obtain ⟨n1, n2, n3⟩ := box_walk MC.out) | skip)) | skip))))
            · as_aux_lemma =>
              go_wp2_with fail
              go_meet
              obtain ⟨h1, h2, h3⟩ := h_aa QB.out HLA.out HLB.out
              exact ⟨wB.heap.size, oA, nA, a2, b2, c2, a3, b3, c3, a4, b4, c4, a5, b5, c5, wB.heap.size + 1, oB, nB, e2, f2, g2, e3, f3, g3, e4, f4, g4, e5, f5, g5, rfl, rfl, h1, h2, h3⟩
            · as_aux_lemma =>
              go_wp2_with fail
              go_meet
              obtain ⟨h1, h2, h3⟩ := h_aa QB.out HLB.out HLA.out
              exact ⟨wB.heap.size + 1, oA, nA, a2, b2, c2, a3, b3, c3, a4, b4, c4, a5, b5, c5, wB.heap.size, oB, nB, e2, f2, g2, e3, f3, g3, e4, f4, g4, e5, f5, g5, rfl, rfl, h1, h3, h2⟩
            · as_aux_lemma =>
              go_wp2_with fail
              go_meet
              obtain ⟨h1, h2, h3⟩ := h_sa QB.out HLA.out HLB.out MC.out hMC
              exact ⟨wA.heap.size, oA, nA, a2, b2, c2, a3, b3, c3, a4, b4, c4, a5, b5, c5, wB.heap.size, oB, nB, e2, f2, g2, e3, f3, g3, e4, f4, g4, e5, f5, g5, rfl, rfl, h1, h2, h3⟩
            · as_aux_lemma =>
              go_wp2_with fail
              go_meet
              obtain ⟨h1, h2, h3⟩ := h_ss QB.out HLA.out HLB.out MB.out hMB MC.out hMC (by omega)
              exact ⟨wA.heap.size, oA, nA, a2, b2, c2, a3, b3, c3, a4, b4, c4, a5, b5, c5, wA.heap.size + 1, oB, nB, e2, f2, g2, e3, f3, g3, e4, f4, g4, e5, f5, g5, rfl, rfl, h1, h2, h3⟩
            · as_aux_lemma =>
              go_wp2_with fail
              go_meet
              obtain ⟨h1, h2, h3⟩ := h_sa QB.out HLB.out HLA.out MC.out hMC
              exact ⟨wB.heap.size, oA, nA, a2, b2, c2, a3, b3, c3, a4, b4, c4, a5, b5, c5, wA.heap.size, oB, nB, e2, f2, g2, e3, f3, g3, e4, f4, g4, e5, f5, g5, rfl, rfl, h1, h3, h2⟩
            · as_aux_lemma =>
              go_wp2_with fail
              go_meet
              obtain ⟨h1, h2, h3⟩ := h_ss QB.out HLA.out HLB.out MC.out hMC MB.out hMB (by omega)
              exact ⟨wA.heap.size + 1, oA, nA, a2, b2, c2, a3, b3, c3, a4, b4, c4, a5, b5, c5, wA.heap.size, oB, nB, e2, f2, g2, e3, f3, g3, e4, f4, g4, e5, f5, g5, rfl, rfl, h1, h2, h3⟩
            · as_aux_lemma =>
              go_wp2_with fail
              go_meet
              obtain ⟨h1, h2, h3⟩ := h_sa QB.out HLA.out HLB.out MB.out hMB
              exact ⟨W9.heap.size, oA, nA, a2, b2, c2, a3, b3, c3, a4, b4, c4, a5, b5, c5, wB.heap.size, oB, nB, e2, f2, g2, e3, f3, g3, e4, f4, g4, e5, f5, g5, rfl, rfl, h1, h2, h3⟩
            · as_aux_lemma =>
              go_wp2_with fail
              go_meet
              obtain ⟨h1, h2, h3⟩ := h_ss QB.out HLA.out HLB.out MB.out hMB MC.out hMC (by omega)
              exact ⟨W9.heap.size, oA, nA, a2, b2, c2, a3, b3, c3, a4, b4, c4, a5, b5, c5, wA.heap.size, oB, nB, e2, f2, g2, e3, f3, g3, e4, f4, g4, e5, f5, g5, rfl, rfl, h1, h2, h3⟩
            · as_aux_lemma =>
              go_wp2_with fail
              go_meet
              obtain ⟨h1, h2, h3⟩ := h_ss QB.out HLA.out HLB.out MB.out hMB MC.out hMC (by omega)
              exact ⟨W9.heap.size, oA, nA, a2, b2, c2, a3, b3, c3, a4, b4, c4, a5, b5, c5, W9.heap.size + 1, oB, nB, e2, f2, g2, e3, f3, g3, e4, f4, g4, e5, f5, g5, rfl, rfl, h1, h2, h3⟩
            · as_aux_lemma =>
              go_wp2_with fail
              go_meet
              obtain ⟨h1, h2, h3⟩ := h_sa QB.out HLB.out HLA.out MB.out hMB
              exact ⟨wB.heap.size, oA, nA, a2, b2, c2, a3, b3, c3, a4, b4, c4, a5, b5, c5, W9.heap.size, oB, nB, e2, f2, g2, e3, f3, g3, e4, f4, g4, e5, f5, g5, rfl, rfl, h1, h3, h2⟩
            · as_aux_lemma =>
              go_wp2_with fail
              go_meet
              obtain ⟨h1, h2, h3⟩ := h_ss QB.out HLA.out HLB.out MC.out hMC MB.out hMB (by omega)
              exact ⟨wA.heap.size, oA, nA, a2, b2, c2, a3, b3, c3, a4, b4, c4, a5, b5, c5, W9.heap.size, oB, nB, e2, f2, g2, e3, f3, g3, e4, f4, g4, e5, f5, g5, rfl, rfl, h1, h2, h3⟩
            · as_aux_lemma =>
              go_wp2_with fail
              go_meet
              obtain ⟨h1, h2, h3⟩ := h_ss QB.out HLA.out HLB.out MC.out hMC MB.out hMB (by omega)
              exact ⟨W9.heap.size + 1, oA, nA, a2, b2, c2, a3, b3, c3, a4, b4, c4, a5, b5, c5, W9.heap.size, oB, nB, e2, f2, g2, e3, f3, g3, e4, f4, g4, e5, f5, g5, rfl, rfl, h1, h2, h3⟩
          case rest =>
            obtain ⟨m2, oA, nA, a2, b2, c2, a3, b3, c3, a4, b4, c4, a5, b5, c5, m3, oB, nB, e2, f2, g2, e3, f3, g3, e4, f4, g4, e5, f5, g5, rfl, rfl, P10, LA, LB⟩ := hcut
            have F10 := Lib.hid (F1.out.later P10.out)
            have L10 := Lib.hid (L1.out.later P10.out)
            have K10 := Lib.hid (blk_later K11.out P10.out)
            have HB := Lib.hid F10.out.below
            clear F1 L1 K11 P10 P0 P1 P2 P3 CA CB PA PL PS KS LL LL1 LL2 BD1 BD2 BN1 BN2 BL BL1 TL TA TS
            have HFA : Hid (Fits (holdD G (t, at0 + 1))) := Lib.hid (fits_hold HSM2.out (by omega) _)
            have HFB : Hid (Fits (holdD G (t, at0))) := Lib.hid (fits_hold HSM2.out (by omega) _)
            have D1 : Hid (demandE (holdD G (t, at0 + 1)) t at0 = if demandE G t at0 = 0 then 350 else demandE G t at0) := Lib.hid (demand_held G t at0)
            have G1 : Hid (giveE (holdD G (t, at0 + 1)) x.owner t at0 = if giveE G x.owner t at0 = 0 ∧ (firstD t G.dones).isSome = false then 350 else giveE G x.owner t at0) := Lib.hid (give_held G x.owner t at0)
            have C := Lib.hid (led_parts _ rfl (demand_15 wc _ G t at0 L10.out.led.led HFT.out))
            obtain ⟨x1, x2, x3⟩ := box_walk L10.out.box
            obtain ⟨y1, y2, y3⟩ := box_walk K10.out
            go_upto_region 12 with (go_at_call 15; refine C.out.mono ?_; rintro e w1 ⟨o11, n11, a11, la11, qa11, b11, lb11, qb11, c11, lc11, qc11, d11, ld11, qd11, rfl, HL, HC⟩)
            clear x1 x2 x3 y1 y2 y3 C HL
            have bb := below_step HC.out ((Below.refl w1.heap.size w1).alloc (Nat.le_refl _) (.cells #[.int .i64 o11, .int .i64 n11, .slice a11 la11 qa11, .slice b11 lb11 qb11, .slice c11 lc11 qc11, .slice d11 ld11 qd11] 26))
            clear HC
            replace L10 := Lib.hid (L10.out.later bb)
            replace LA := Lib.hid (LA.out.later bb)
            replace LB := Lib.hid (LB.out.later bb)
            replace K10 := Lib.hid (blk_later K10.out bb)
            replace F10 := Lib.hid (F10.out.later bb)
            replace HB := Lib.hid (below_step HB.out bb)
            clear bb
            generalize w1.alloc (.cells #[.int .i64 o11, .int .i64 n11, .slice a11 la11 qa11, .slice b11 lb11 qb11, .slice c11 lc11 qc11, .slice d11 ld11 qd11] 26) = W11 at *
            generalize w1.heap.size = k11' at *
            clear w1 wc
            have C := Lib.hid (led_parts _ rfl (demand_15 W11 _ (holdD G (t, at0 + 1)) t at0 LA.out.led.led HFA.out))
            obtain ⟨x1, x2, x3⟩ := box_walk LA.out.box
            obtain ⟨y1, y2, y3⟩ := box_walk K10.out
            go_upto_region 13 with (go_at_call 15; refine C.out.mono ?_; rintro e w1 ⟨o12, n12, a12, la12, qa12, b12, lb12, qb12, c12, lc12, qc12, d12, ld12, qd12, rfl, HL, HC⟩)
            clear x1 x2 x3 y1 y2 y3 C HL
            have bb := below_step HC.out ((Below.refl w1.heap.size w1).alloc (Nat.le_refl _) (.cells #[.int .i64 o12, .int .i64 n12, .slice a12 la12 qa12, .slice b12 lb12 qb12, .slice c12 lc12 qc12, .slice d12 ld12 qd12] 26))
            clear HC
            replace L10 := Lib.hid (L10.out.later bb)
            replace LA := Lib.hid (LA.out.later bb)
            replace LB := Lib.hid (LB.out.later bb)
            replace K10 := Lib.hid (blk_later K10.out bb)
            replace F10 := Lib.hid (F10.out.later bb)
            replace HB := Lib.hid (below_step HB.out bb)
            clear bb
            generalize w1.alloc (.cells #[.int .i64 o12, .int .i64 n12, .slice a12 la12 qa12, .slice b12 lb12 qb12, .slice c12 lc12 qc12, .slice d12 ld12 qd12] 26) = W12 at *
            generalize w1.heap.size = k12' at *
            clear w1 W11
            have C := Lib.hid (led_parts _ (demand_over G t at0) (demand_15 W12 _ (holdD G (t, at0)) t at0 LB.out.led.led HFB.out))
            obtain ⟨x1, x2, x3⟩ := box_walk LB.out.box
            obtain ⟨y1, y2, y3⟩ := box_walk K10.out
            go_upto_region 14 with (go_at_call 15; refine C.out.mono ?_; rintro e w1 ⟨o13, n13, a13, la13, qa13, b13, lb13, qb13, c13, lc13, qc13, d13, ld13, qd13, rfl, HL, HC⟩)
            clear x1 x2 x3 y1 y2 y3 C HL
            have bb := below_step HC.out ((Below.refl w1.heap.size w1).alloc (Nat.le_refl _) (.cells #[.int .i64 o13, .int .i64 n13, .slice a13 la13 qa13, .slice b13 lb13 qb13, .slice c13 lc13 qc13, .slice d13 ld13 qd13] 26))
            clear HC
            replace L10 := Lib.hid (L10.out.later bb)
            replace LA := Lib.hid (LA.out.later bb)
            replace LB := Lib.hid (LB.out.later bb)
            replace K10 := Lib.hid (blk_later K10.out bb)
            replace F10 := Lib.hid (F10.out.later bb)
            replace HB := Lib.hid (below_step HB.out bb)
            clear bb
            generalize w1.alloc (.cells #[.int .i64 o13, .int .i64 n13, .slice a13 la13 qa13, .slice b13 lb13 qb13, .slice c13 lc13 qc13, .slice d13 ld13 qd13] 26) = W13 at *
            generalize w1.heap.size = k13' at *
            clear w1 W12
            have C := Lib.hid (led_parts _ rfl (give_17 W13 _ G x.owner t at0 L10.out.led.led HFT.out))
            obtain ⟨x1, x2, x3⟩ := box_walk L10.out.box
            obtain ⟨y1, y2, y3⟩ := box_walk K10.out
            obtain ⟨z1, z2, z3, z4, z5⟩ := F10.out.walk
            go_upto_region 15 with (go_at_call 17; refine C.out.mono ?_; rintro e w1 ⟨o14, n14, a14, la14, qa14, b14, lb14, qb14, c14, lc14, qc14, d14, ld14, qd14, rfl, HL, HC⟩)
            clear x1 x2 x3 y1 y2 y3 C HL z1 z2 z3 z4 z5
            have bb := below_step HC.out ((Below.refl w1.heap.size w1).alloc (Nat.le_refl _) (.cells #[.int .i64 o14, .int .i64 n14, .slice a14 la14 qa14, .slice b14 lb14 qb14, .slice c14 lc14 qc14, .slice d14 ld14 qd14] 26))
            clear HC
            replace L10 := Lib.hid (L10.out.later bb)
            replace LA := Lib.hid (LA.out.later bb)
            replace LB := Lib.hid (LB.out.later bb)
            replace K10 := Lib.hid (blk_later K10.out bb)
            replace F10 := Lib.hid (F10.out.later bb)
            replace HB := Lib.hid (below_step HB.out bb)
            clear bb
            generalize w1.alloc (.cells #[.int .i64 o14, .int .i64 n14, .slice a14 la14 qa14, .slice b14 lb14 qb14, .slice c14 lc14 qc14, .slice d14 ld14 qd14] 26) = W14 at *
            generalize w1.heap.size = k14' at *
            clear w1 W13
            have C := Lib.hid (led_parts _ rfl (give_17 W14 _ (holdD G (t, at0 + 1)) x.owner t at0 LA.out.led.led HFA.out))
            obtain ⟨x1, x2, x3⟩ := box_walk LA.out.box
            obtain ⟨y1, y2, y3⟩ := box_walk K10.out
            obtain ⟨z1, z2, z3, z4, z5⟩ := F10.out.walk
            go_upto_region 16 with (go_at_call 17; refine C.out.mono ?_; rintro e w1 ⟨o15, n15, a15, la15, qa15, b15, lb15, qb15, c15, lc15, qc15, d15, ld15, qd15, rfl, HL, HC⟩)
            clear x1 x2 x3 y1 y2 y3 C HL z1 z2 z3 z4 z5
            have bb := below_step HC.out ((Below.refl w1.heap.size w1).alloc (Nat.le_refl _) (.cells #[.int .i64 o15, .int .i64 n15, .slice a15 la15 qa15, .slice b15 lb15 qb15, .slice c15 lc15 qc15, .slice d15 ld15 qd15] 26))
            clear HC
            replace L10 := Lib.hid (L10.out.later bb)
            replace LA := Lib.hid (LA.out.later bb)
            replace LB := Lib.hid (LB.out.later bb)
            replace K10 := Lib.hid (blk_later K10.out bb)
            replace F10 := Lib.hid (F10.out.later bb)
            replace HB := Lib.hid (below_step HB.out bb)
            clear bb
            generalize w1.alloc (.cells #[.int .i64 o15, .int .i64 n15, .slice a15 la15 qa15, .slice b15 lb15 qb15, .slice c15 lc15 qc15, .slice d15 ld15 qd15] 26) = W15 at *
            generalize w1.heap.size = k15' at *
            clear w1 W14
            have C := Lib.hid (led_parts _ (give_over G x.owner t at0) (give_17 W15 _ (holdD G (t, at0)) x.owner t at0 LB.out.led.led HFB.out))
            obtain ⟨x1, x2, x3⟩ := box_walk LB.out.box
            obtain ⟨y1, y2, y3⟩ := box_walk K10.out
            obtain ⟨z1, z2, z3, z4, z5⟩ := F10.out.walk
            go_upto_region 17 with (go_at_call 17; refine C.out.mono ?_; rintro e w1 ⟨o16, n16, a16, la16, qa16, b16, lb16, qb16, c16, lc16, qc16, d16, ld16, qd16, rfl, HL, HC⟩)
            clear x1 x2 x3 y1 y2 y3 C HL z1 z2 z3 z4 z5
            have bb := below_step HC.out ((Below.refl w1.heap.size w1).alloc (Nat.le_refl _) (.cells #[.int .i64 o16, .int .i64 n16, .slice a16 la16 qa16, .slice b16 lb16 qb16, .slice c16 lc16 qc16, .slice d16 ld16 qd16] 26))
            clear HC
            replace L10 := Lib.hid (L10.out.later bb)
            replace LA := Lib.hid (LA.out.later bb)
            replace LB := Lib.hid (LB.out.later bb)
            replace K10 := Lib.hid (blk_later K10.out bb)
            replace F10 := Lib.hid (F10.out.later bb)
            replace HB := Lib.hid (below_step HB.out bb)
            clear bb
            generalize w1.alloc (.cells #[.int .i64 o16, .int .i64 n16, .slice a16 la16 qa16, .slice b16 lb16 qb16, .slice c16 lc16 qc16, .slice d16 ld16 qd16] 26) = W16 at *
            generalize w1.heap.size = k16' at *
            clear w1 W15
            have C0 := cert_21 W16 _ G t L10.out.led.led HFT.out
            obtain ⟨fx, fy, hfv⟩ := firstV_form (firstD t G.dones)
            rw [hfv] at C0
            have C := Lib.hid C0
            clear C0 hfv
            obtain ⟨x1, x2, x3⟩ := box_walk L10.out.box
            go_upto_region 18 with (go_at_call 21; refine C.out.mono ?_; rintro e w1 ⟨rfl, HC⟩)
            have bb := below_step HC ((Below.refl w1.heap.size w1).alloc (Nat.le_refl _) (.cells #[.string fx, .int .i64 fy] 46))
            clear HC x1 x2 x3 C
            replace HB := Lib.hid (below_step HB.out bb)
            clear bb L10 LA LB K10 F10 HFA HFB HFT
            generalize w1.alloc (.cells #[.string fx, .int .i64 fy] 46) = W17 at *
            generalize w1.heap.size = k17' at *
            clear w1 W16
            generalize demandE (holdD G (t, at0 + 1)) t at0 = eB at *
            generalize giveE (holdD G (t, at0 + 1)) x.owner t at0 = fB at *
            generalize demandE G t at0 = eA at *
            generalize giveE G x.owner t at0 = fA at *
            generalize (firstD t G.dones).isSome = gn at *
            by_cases hA : eA = 0
            · rw [if_pos hA] at D1
              have D2 := D1.out
              clear D1
              subst hA D2
              by_cases hG : fA = 0
              · subst hG
                cases gn with
                | false =>
                  rw [if_pos ⟨rfl, rfl⟩] at G1
                  have G2 := G1.out
                  clear G1
                  subst G2
                  go_wp2
                  go_ret
                  exact ⟨rfl, HB.out⟩
                | true =>
                  rw [if_neg (by simp)] at G1
                  have G2 := G1.out
                  clear G1
                  subst G2
                  go_wp2
                  go_ret
                  exact ⟨rfl, HB.out⟩
              · rw [if_neg (fun h => hG h.1)] at G1
                have G2 := G1.out
                clear G1
                subst G2
                have hG1 : (fB == 0) = false := by simpa using hG
                go_wp2
                go_ret
                exact ⟨rfl, HB.out⟩
            · rw [if_neg hA] at D1
              have D2 := D1.out
              clear D1
              subst D2
              have hA1 : (eB == 0) = false := by simpa using hA
              by_cases hG : fA = 0
              · subst hG
                cases gn with
                | false =>
                  rw [if_pos ⟨rfl, rfl⟩] at G1
                  have G2 := G1.out
                  clear G1
                  subst G2
                  go_wp2
                  go_ret
                  exact ⟨rfl, HB.out⟩
                | true =>
                  rw [if_neg (by simp)] at G1
                  have G2 := G1.out
                  clear G1
                  subst G2
                  go_wp2
                  go_ret
                  exact ⟨rfl, HB.out⟩
              · rw [if_neg (fun h => hG h.1)] at G1
                have G2 := G1.out
                clear G1
                subst G2
                have hG1 : (fB == 0) = false := by simpa using hG
                go_wp2
                go_ret
                exact ⟨rfl, HB.out⟩
  · rw [hq] at C28
    go_wp2_with (first
      | (go_at_call 9; refine (C9.out _).mono ?_; rintro e w1 ⟨rfl, b1⟩; have F1 := TL.out _ _ F0 b1)
      | (go_at_call 28; refine (C28.out _ F1.out.below).mono ?_; rintro e w2 ⟨rfl, b2⟩; have F2 := TL.out _ _ F1 b2))
    go_ret
    exact ⟨rfl, F2.out.below⟩
end Go.Proofs.YtpbgipdkaaooeaaGreatDoor
