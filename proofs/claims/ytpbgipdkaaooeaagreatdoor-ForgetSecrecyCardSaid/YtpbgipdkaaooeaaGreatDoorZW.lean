/- law35.do. -/
import Derived.Test.YtpbgipdkaaooeaaGreatDoorZV
import Derived.Deep.RegionHeld3
import Derived.Deep.RegionWith
import Derived.Deep.DeepCutAuto
open Go Go.Proofs Go.RowKit
namespace Go.Proofs.YtpbgipdkaaooeaaGreatDoor
set_option linter.unusedSimpArgs false
set_option linter.unusedVariables false
attribute [local go_sem ↓] Go.wp_at_zero Go.wp_at_succ

def stepE (g : LedD) (x : ActD) : Int := if x.kind % 4 = 0 then enrollE g (subjD x.who) else if x.kind % 4 = 1 then 0 else if x.kind % 4 = 2 then demandE g (subjD x.who) x.at' else giveE g x.owner (subjD x.who) x.at'
def stepD (g : LedD) (x : ActD) : LedD := if x.kind % 4 = 0 then enrollD g (subjD x.who) (key32D x.seed) x.seed else if x.kind % 4 = 1 then holdD g (subjD x.who, x.at') else if x.kind % 4 = 2 then demandD g (subjD x.who) x.at' else giveD g x.owner (subjD x.who) x.at'
/-- The ledger after a step; with an error it stays. -/
def doD (g : LedD) (x : ActD) : LedD := if stepE g x = 0 then stepD g x else g
theorem do_fin {w W : World} {c1 c2 c3 : Array Value} {g : LedD} {t1 t2 : TypeId} {o nd : Int} {a b c d : Value} (hF : ThreeBox w c1 c2 c3 t1 t2 26 W) (HL : LedO 0 W (.agg #[.int .i64 o, .int .i64 nd, a, b, c, d]) g) (v : Value) (hv : v = .agg #[.int .i64 o, .int .i64 nd, a, b, c, d]) (n : Int) (u0 u1 u2 u3 u4 u5 : Value) :
    LedErrA 0 w g n (.returned (.tuple #[v, .int .i64 n])) ((((((W.setCell ⟨w.heap.size + 1 + 1, 0, none⟩ u0).setCell ⟨w.heap.size + 1 + 1, 1, none⟩ u1).setCell ⟨w.heap.size + 1 + 1, 2, none⟩ u2).setCell ⟨w.heap.size + 1 + 1, 3, none⟩ u3).setCell ⟨w.heap.size + 1 + 1, 4, none⟩ u4).setCell ⟨w.heap.size + 1 + 1, 5, none⟩ u5) := by
  subst hv
  exact ⟨_, rfl, HL.six hF.three (Nat.zero_le _) _ _ _ _ _ _, below_six hF.below (by omega) _ _ _ _ _ _⟩
set_option maxRecDepth 100000 in
set_option maxHeartbeats 4000000 in
theorem do_32 (w : World) (vg va : Value) (g : LedD) (x : ActD) (hg : LedO 0 w vg g) (hf : Fits g) (ha : ActR w va x) :
    Calls Tryz.prog 32 #[vg, va] w (LedErrA 0 w (doD g x) (stepE g x)) := by
  obtain ⟨ok, vs, rfl, hb⟩ := ha
  obtain ⟨-, sa, sc, rfl, -⟩ := id hb.1
  have HG := Lib.hid hg
  obtain ⟨o, nd, p2, l2, q2, p3, l3, q3, p4, l4, q4, p5, l5, q5, rfl⟩ := hg.slices
  have F0 := Lib.hid (ThreeBox.laid w #[.int .i64 o, .int .i64 nd, .slice p2 l2 q2, .slice p3 l3 q3, .slice p4 l4 q4, .slice p5 l5 q5] #[.int .u8 x.kind, .int .u8 x.who, .int .i8 x.owner, .int .i8 x.at', .slice sa x.seed.length sc] #[.int .i64 0, .int .i64 0, .slice none 0 0, .slice none 0 0, .slice none 0 0, .slice none 0 0] 26 30 26)
  have hk := ok.kind
  have hw := ok.who
  obtain ⟨ho1, ho2⟩ := ok.owner
  obtain ⟨ht1, ht2⟩ := ok.at'
  have HFIT := Lib.hid hf
  have HBS := Lib.hid hb
  have HE : Hid (stepE g x = if x.kind % 4 = 0 then enrollE g (subjD x.who) else if x.kind % 4 = 1 then 0 else if x.kind % 4 = 2 then demandE g (subjD x.who) x.at' else giveE g x.owner (subjD x.who) x.at') := rfl
  have HD : Hid (stepD g x = if x.kind % 4 = 0 then enrollD g (subjD x.who) (key32D x.seed) x.seed else if x.kind % 4 = 1 then holdD g (subjD x.who, x.at') else if x.kind % 4 = 2 then demandD g (subjD x.who) x.at' else giveD g x.owner (subjD x.who) x.at') := rfl
  have HDO : Hid (doD g x = if stepE g x = 0 then stepD g x else g) := rfl
  have hr : ((x.kind : Nat) : Int).tmod 4 = ((x.kind % 4 : Nat) : Int) := by rw [Int.tmod_eq_emod_of_nonneg (by omega)]; omega
  have C11 : Hid (∀ wx, Calls Tryz.prog 11 #[.int .u8 ((x.who : Nat) : Int)] wx fun e w' => e = .returned (.string (subjD x.who)) ∧ Below wx.heap.size wx w') := fun wx => subject_11 wx x.who hw
  have C12 : Hid (∀ wx, Below w.heap.size w wx → Calls Tryz.prog 12 #[.agg #[.int .i64 o, .int .i64 nd, .slice p2 l2 q2, .slice p3 l3 q3, .slice p4 l4 q4, .slice p5 l5 q5], .string (subjD x.who), .agg (keyC2 (key32D x.seed)), .slice sa x.seed.length sc] wx (LedPA 0 wx (enrollD g (subjD x.who) (key32D x.seed) x.seed) (enrollE g (subjD x.who)))) := fun wx hbx =>
    led_partsA (enroll_12A wx _ _ g (subjD x.who) (key32D x.seed) x.seed 0 (Nat.zero_le _) (HG.out.later hbx).at HFIT.out (key32D_length _) (key32D_bytes HBS.out.2) (HBS.out.later hbx))
  have C13 : Hid (∀ wx, Below w.heap.size w wx → Calls Tryz.prog 13 #[.slice sa x.seed.length sc] wx fun e w' => e = .returned (.agg (keyC2 (key32D x.seed))) ∧ Below wx.heap.size wx w') := fun wx hbx => key32_13 wx _ x.seed (HBS.out.later hbx)
  have C26 : Hid (∀ wx, Below w.heap.size w wx → Calls Tryz.prog 26 #[.agg #[.int .i64 o, .int .i64 nd, .slice p2 l2 q2, .slice p3 l3 q3, .slice p4 l4 q4, .slice p5 l5 q5], .agg #[.string (subjD x.who), .int .i64 x.at']] wx (LedQA 0 wx (holdD g (subjD x.who, x.at')))) := fun wx hbx =>
    led_partsA1 (hold_26A wx _ g (subjD x.who, x.at') 0 (Nat.zero_le _) (HG.out.later hbx).at HFIT.out)
  have C15 : Hid (∀ wx, Below w.heap.size w wx → Calls Tryz.prog 15 #[.agg #[.int .i64 o, .int .i64 nd, .slice p2 l2 q2, .slice p3 l3 q3, .slice p4 l4 q4, .slice p5 l5 q5], .agg #[.string (subjD x.who), .int .i64 x.at']] wx (LedPA 0 wx (demandD g (subjD x.who) x.at') (demandE g (subjD x.who) x.at'))) := fun wx hbx =>
    led_partsA (demand_15A wx _ g (subjD x.who) x.at' 0 (Nat.zero_le _) (HG.out.later hbx).at HFIT.out)
  have C17 : Hid (∀ wx, Below w.heap.size w wx → Calls Tryz.prog 17 #[.agg #[.int .i64 o, .int .i64 nd, .slice p2 l2 q2, .slice p3 l3 q3, .slice p4 l4 q4, .slice p5 l5 q5], .int .i64 x.owner, .agg #[.string (subjD x.who), .int .i64 x.at']] wx (LedPA 0 wx (giveD g x.owner (subjD x.who) x.at') (giveE g x.owner (subjD x.who) x.at'))) := fun wx hbx =>
    led_partsA (give_17A wx _ g x.owner (subjD x.who) x.at' 0 (Nat.zero_le _) (HG.out.later hbx).at HFIT.out)
  clear hg hf hb ok
  have hr4 : x.kind % 4 < 4 := Nat.mod_lt _ (by omega)
  generalize doD g x = gd at *
  generalize stepE g x = fe at *
  generalize stepD g x = gs at *
  generalize key32D x.seed = kb at *
  generalize subjD x.who = t at *
  generalize x.kind % 4 = km at *
  generalize x.seed.length = sl at *
  generalize x.seed = seed at *
  generalize x.kind = kind at *
  generalize x.who = who at *
  generalize x.owner = ow at *
  generalize x.at' = tm at *
  go_enter Tryz.func32, Tryz.ntmps32
  go_upto_region 1 with fail
  generalize hW : ((w.alloc (.cells #[.int .i64 o, .int .i64 nd, .slice p2 l2 q2, .slice p3 l3 q3, .slice p4 l4 q4, .slice p5 l5 q5] 26)).alloc (.cells #[.int .u8 (kind : Int), .int .u8 (who : Int), .int .i8 ow, .int .i8 tm, .slice sa sl sc] 30)).alloc (.cells #[.int .i64 0, .int .i64 0, .slice none 0 0, .slice none 0 0, .slice none 0 0, .slice none 0 0] 26) = W at *
  clear hW
  have F0d := Lib.hid F0.out.drew
  have hwS : w.heap.size + 1 + 1 < W.heap.size := F0d.out.walk.2.2.2.2.2.2
  have KS : Hid (∀ wx, Hid (ThreeBox w #[.int .i64 o, .int .i64 nd, .slice p2 l2 q2, .slice p3 l3 q3, .slice p4 l4 q4, .slice p5 l5 q5] #[.int .u8 (kind : Int), .int .u8 (who : Int), .int .i8 ow, .int .i8 tm, .slice sa sl sc] #[.int .i64 0, .int .i64 0, .slice none 0 0, .slice none 0 0, .slice none 0 0, .slice none 0 0] 26 30 26 wx) → (∀ i, wx.cell? ⟨w.heap.size, i, none⟩ = #[.int .i64 o, .int .i64 nd, .slice p2 l2 q2, .slice p3 l3 q3, .slice p4 l4 q4, .slice p5 l5 q5][i]?) ∧ (∀ i, wx.cell? ⟨w.heap.size + 1, i, none⟩ = #[.int .u8 (kind : Int), .int .u8 (who : Int), .int .i8 ow, .int .i8 tm, .slice sa sl sc][i]?)) := fun wx h => ⟨h.out.walk.1, h.out.walk.2.1⟩
  have TA : Hid (∀ wx ob, Hid (ThreeBox w #[.int .i64 o, .int .i64 nd, .slice p2 l2 q2, .slice p3 l3 q3, .slice p4 l4 q4, .slice p5 l5 q5] #[.int .u8 (kind : Int), .int .u8 (who : Int), .int .i8 ow, .int .i8 tm, .slice sa sl sc] #[.int .i64 0, .int .i64 0, .slice none 0 0, .slice none 0 0, .slice none 0 0, .slice none 0 0] 26 30 26 wx) → Hid (ThreeBox w #[.int .i64 o, .int .i64 nd, .slice p2 l2 q2, .slice p3 l3 q3, .slice p4 l4 q4, .slice p5 l5 q5] #[.int .u8 (kind : Int), .int .u8 (who : Int), .int .i8 ow, .int .i8 tm, .slice sa sl sc] #[.int .i64 0, .int .i64 0, .slice none 0 0, .slice none 0 0, .slice none 0 0, .slice none 0 0] 26 30 26 (wx.alloc ob))) := fun wx ob h => Lib.hid (h.out.later ((Below.refl _ _).alloc (Nat.le_refl _) _))
  have TS : Hid (∀ wx k i u, Hid (ThreeBox w #[.int .i64 o, .int .i64 nd, .slice p2 l2 q2, .slice p3 l3 q3, .slice p4 l4 q4, .slice p5 l5 q5] #[.int .u8 (kind : Int), .int .u8 (who : Int), .int .i8 ow, .int .i8 tm, .slice sa sl sc] #[.int .i64 0, .int .i64 0, .slice none 0 0, .slice none 0 0, .slice none 0 0, .slice none 0 0] 26 30 26 wx) → w.heap.size + 1 + 1 < k → Hid (ThreeBox w #[.int .i64 o, .int .i64 nd, .slice p2 l2 q2, .slice p3 l3 q3, .slice p4 l4 q4, .slice p5 l5 q5] #[.int .u8 (kind : Int), .int .u8 (who : Int), .int .i8 ow, .int .i8 tm, .slice sa sl sc] #[.int .i64 0, .int .i64 0, .slice none 0 0, .slice none 0 0, .slice none 0 0, .slice none 0 0] 26 30 26 (wx.setCell ⟨k, i, none⟩ u))) := fun wx k i u h hk => Lib.hid (h.out.setOther hk i u)
  have SZ : Hid (∀ wx, Hid (ThreeBox w #[.int .i64 o, .int .i64 nd, .slice p2 l2 q2, .slice p3 l3 q3, .slice p4 l4 q4, .slice p5 l5 q5] #[.int .u8 (kind : Int), .int .u8 (who : Int), .int .i8 ow, .int .i8 tm, .slice sa sl sc] #[.int .i64 0, .int .i64 0, .slice none 0 0, .slice none 0 0, .slice none 0 0, .slice none 0 0] 26 30 26 wx) → w.heap.size + 1 + 1 < wx.heap.size) := fun wx h => h.out.walk.2.2.2.2.2.2
  have F0a := Lib.hid (TA.out W (.cells #[.int .i64 0, .int .i64 0, .slice none 0 0, .slice none 0 0, .slice none 0 0, .slice none 0 0] 26) F0).out.drew
  have NB := Lib.hid (show (W.alloc (.cells #[.int .i64 0, .int .i64 0, .slice none 0 0, .slice none 0 0, .slice none 0 0, .slice none 0 0] 26)).drew.heap[W.heap.size]? = some (.cells #[.int .i64 0, .int .i64 0, .slice none 0 0, .slice none 0 0, .slice none 0 0, .slice none 0 0] 26 (0, 0)) from heap_alloc_new W _)
  go_cut [6, 7, 8] (fun p e s wx => ∃ m : Nat, p = .pointer (some ⟨m, 0, none⟩) ∧ e = .int .i64 0 ∧ s = .string t ∧ w.heap.size + 1 + 1 < m ∧ Hid (ThreeBox w #[.int .i64 o, .int .i64 nd, .slice p2 l2 q2, .slice p3 l3 q3, .slice p4 l4 q4, .slice p5 l5 q5] #[.int .u8 (kind : Int), .int .u8 (who : Int), .int .i8 ow, .int .i8 tm, .slice sa sl sc] #[.int .i64 0, .int .i64 0, .slice none 0 0, .slice none 0 0, .slice none 0 0, .slice none 0 0] 26 30 26 wx) ∧ Hid (wx.heap[m]? = some (.cells #[.int .i64 o, .int .i64 nd, .slice p2 l2 q2, .slice p3 l3 q3, .slice p4 l4 q4, .slice p5 l5 q5] 26 (0, 0))))
  case first =>
    go_region_held3 (fun w' => (∀ i, w'.cell? ⟨w.heap.size, i, none⟩ = #[.int .i64 o, .int .i64 nd, .slice p2 l2 q2, .slice p3 l3 q3, .slice p4 l4 q4, .slice p5 l5 q5][i]?) ∧ (∀ i, w'.cell? ⟨w.heap.size + 1, i, none⟩ = #[.int .u8 (kind : Int), .int .u8 (who : Int), .int .i8 ow, .int .i8 tm, .slice sa sl sc][i]?)) (exact KS.out _ (by repeat (first | with_reducible assumption | with_reducible apply TA.out | (with_reducible refine TS.out _ _ _ _ ?_ (by omega))))) (first | (go_at_call 11; refine (C11.out _).mono ?_; rintro e w3 ⟨rfl, b3⟩; have F3 : Hid (ThreeBox w #[.int .i64 o, .int .i64 nd, .slice p2 l2 q2, .slice p3 l3 q3, .slice p4 l4 q4, .slice p5 l5 q5] #[.int .u8 (kind : Int), .int .u8 (who : Int), .int .i8 ow, .int .i8 tm, .slice sa sl sc] #[.int .i64 0, .int .i64 0, .slice none 0 0, .slice none 0 0, .slice none 0 0, .slice none 0 0] 26 30 26 w3) := (by first | with_reducible exact Lib.hid (F0d.out.later b3) | with_reducible exact Lib.hid (F0a.out.later b3)); have hw3 := SZ.out _ F3; first | (have M3 : Hid (w3.heap[W.heap.size]? = some (.cells #[.int .i64 0, .int .i64 0, .slice none 0 0, .slice none 0 0, .slice none 0 0, .slice none 0 0] 26 (0, 0))) := (by with_reducible exact Lib.hid (blk_later NB.out b3)); obtain ⟨m1, m2, m3⟩ := box_walk M3.out) | skip))
    · go_wp2_with fail
      go_meet
      exact ⟨w3.heap.size, rfl, rfl, rfl, hw3, TA.out _ _ F3, heap_alloc_new _ _⟩
    · go_wp2_with fail
      go_meet
      exact ⟨W.heap.size, rfl, rfl, rfl, hwS, TS.out _ _ _ _ (TS.out _ _ _ _ (TS.out _ _ _ _ (TS.out _ _ _ _ (TS.out _ _ _ _ (TS.out _ _ _ _ F3 hwS) hwS) hwS) hwS) hwS) hwS, Lib.hid (blk_set (blk_set (blk_set (blk_set (blk_set (blk_set M3.out _ _) _ _) _ _) _ _) _ _) _ _)⟩
  case rest =>
    obtain ⟨m, rfl, rfl, rfl, hmn, F1, HM⟩ := hcut
    clear F0 F0d F0a NB hwS SZ C11
    have HB1 := Lib.hid F1.out.below
    obtain ⟨c1, c2, c3, c4, c5, c6, c7⟩ := F1.out.walk
    obtain ⟨d1, d2, d3⟩ := box_walk HM.out
    have h4 : km = 0 ∨ km = 1 ∨ km = 2 ∨ km = 3 := by omega
    clear hr4
    rcases h4 with rfl | rfl | rfl | rfl
    · have HE2 : Hid (fe = enrollE g t) := Lib.hid (by rw [HE.out]; simp)
      have HD2 : Hid (gs = enrollD g t kb seed) := Lib.hid (by rw [HD.out]; simp)
      clear HE HD
      generalize enrollE g t = ge at *
      generalize enrollD g t kb seed = ld at *
      replace HDO : Hid (gd = if ge = 0 then ld else g) := Lib.hid (by rw [HDO.out, HE2.out, HD2.out])
      clear HD2
      clear C26 C15 C17
      go_upto_region 5 with fail
      have F1d := Lib.hid F1.out.drew
      have D1 : Hid (wc.drew.heap[m]? = some (.cells #[.int .i64 o, .int .i64 nd, .slice p2 l2 q2, .slice p3 l3 q3, .slice p4 l4 q4, .slice p5 l5 q5] 26 (0, 0))) := HM
      clear c1 c2 c3 c4 c5 c6 c7 d1 d2 d3
      go_region_held3 (fun w' => (∀ i, w'.cell? ⟨w.heap.size, i, none⟩ = #[.int .i64 o, .int .i64 nd, .slice p2 l2 q2, .slice p3 l3 q3, .slice p4 l4 q4, .slice p5 l5 q5][i]?) ∧ (∀ i, w'.cell? ⟨w.heap.size + 1, i, none⟩ = #[.int .u8 (kind : Int), .int .u8 (who : Int), .int .i8 ow, .int .i8 tm, .slice sa sl sc][i]?)) (exact KS.out _ (by repeat (first | with_reducible assumption | with_reducible apply TA.out | (with_reducible refine TS.out _ _ _ _ ?_ (by omega))))) (first | (go_at_call 13; refine (C13.out _ F1d.out.below).mono ?_; rintro e w4 ⟨rfl, b4⟩; have F4 := Lib.hid (F1d.out.later b4); have M4 := Lib.hid (blk_later D1.out b4)) | (go_at_call 12; refine (C12.out _ F4.out.below).mono ?_; rintro e w5 ⟨o', nd', r2, s2, t2, r3, s3, t3, r4, s4, t4, r5, s5, t5, rfl, HL, HC⟩; have F5 := Lib.hid (F4.out.later HC.out); have M5 := Lib.hid (blk_later M4.out HC.out); obtain ⟨d1, d2, d3⟩ := box_walk M5.out))
      clear F4 M4 F1d D1

      have F6 : Hid (ThreeBox w #[.int .i64 o, .int .i64 nd, .slice p2 l2 q2, .slice p3 l3 q3, .slice p4 l4 q4, .slice p5 l5 q5] #[.int .u8 (kind : Int), .int .u8 (who : Int), .int .i8 ow, .int .i8 tm, .slice sa sl sc] #[.int .i64 0, .int .i64 0, .slice none 0 0, .slice none 0 0, .slice none 0 0, .slice none 0 0] 26 30 26 ((((((w5.setCell ⟨m, 0, none⟩ (.int .i64 o')).setCell ⟨m, 1, none⟩ (.int .i64 nd')).setCell ⟨m, 2, none⟩ (.slice r2 s2 t2)).setCell ⟨m, 3, none⟩ (.slice r3 s3 t3)).setCell ⟨m, 4, none⟩ (.slice r4 s4 t4)).setCell ⟨m, 5, none⟩ (.slice r5 s5 t5))) := TS.out _ _ _ _ (TS.out _ _ _ _ (TS.out _ _ _ _ (TS.out _ _ _ _ (TS.out _ _ _ _ (TS.out _ _ _ _ F5 hmn) hmn) hmn) hmn) hmn) hmn
      have M6 : Hid (((((((w5.setCell ⟨m, 0, none⟩ (.int .i64 o')).setCell ⟨m, 1, none⟩ (.int .i64 nd')).setCell ⟨m, 2, none⟩ (.slice r2 s2 t2)).setCell ⟨m, 3, none⟩ (.slice r3 s3 t3)).setCell ⟨m, 4, none⟩ (.slice r4 s4 t4)).setCell ⟨m, 5, none⟩ (.slice r5 s5 t5)).heap[m]? = some (.cells #[.int .i64 o', .int .i64 nd', .slice r2 s2 t2, .slice r3 s3 t3, .slice r4 s4 t4, .slice r5 s5 t5] 26 (0, 0))) := Lib.hid (blk_set (blk_set (blk_set (blk_set (blk_set (blk_set M5.out _ _) _ _) _ _) _ _) _ _) _ _)
      have L6 := Lib.hid (HL.out.six M5.out (Nat.zero_le _) (.int .i64 o') (.int .i64 nd') (.slice r2 s2 t2) (.slice r3 s3 t3) (.slice r4 s4 t4) (.slice r5 s5 t5))
      have G6 := Lib.hid (HG.out.later F6.out.below)
      clear F5 M5 HL
      (try clear HC)
      generalize ((((((w5.setCell ⟨m, 0, none⟩ (.int .i64 o')).setCell ⟨m, 1, none⟩ (.int .i64 nd')).setCell ⟨m, 2, none⟩ (.slice r2 s2 t2)).setCell ⟨m, 3, none⟩ (.slice r3 s3 t3)).setCell ⟨m, 4, none⟩ (.slice r4 s4 t4)).setCell ⟨m, 5, none⟩ (.slice r5 s5 t5)) = W6 at *
      (try clear m1 m2 m3)
      obtain ⟨c1, c2, c3, c4, c5, c6, c7⟩ := F6.out.walk
      obtain ⟨d1, d2, d3⟩ := box_walk M6.out
      by_cases he : ge = 0
      · subst he
        go_wp2
        refine bodyPost_ret (v := .tuple #[.agg #[.int .i64 o', .int .i64 nd', .slice r2 s2 t2, .slice r3 s3 t3, .slice r4 s4 t4, .slice r5 s5 t5], .int .i64 0]) (by simp [results, Tryz.results32, go_sem, c3]) rfl ?_
        rw [HE2.out, show gd = ld by rw [HDO.out]; simp]
        exact do_fin F6.out L6.out _ rfl 0 _ _ _ _ _ _
      · go_wp2
        refine bodyPost_ret (v := .tuple #[.agg #[.int .i64 o, .int .i64 nd, .slice p2 l2 q2, .slice p3 l3 q3, .slice p4 l4 q4, .slice p5 l5 q5], .int .i64 ge]) (by simp [results, Tryz.results32, go_sem, c3]) rfl ?_
        rw [HE2.out, HDO.out, if_neg he]
        exact do_fin F6.out G6.out _ rfl ge _ _ _ _ _ _
    · have HE2 : Hid (fe = 0) := Lib.hid (by rw [HE.out]; simp)
      have HD2 : Hid (gs = holdD g (t, tm)) := Lib.hid (by rw [HD.out]; simp)
      clear HE HD
      generalize holdD g (t, tm) = ld at *
      replace HDO : Hid (gd = if (0 : Int) = 0 then ld else g) := Lib.hid (by rw [HDO.out, HE2.out, HD2.out])
      clear HD2
      clear C12 C13 C15 C17
      go_upto_region 10 with (go_at_call 26; refine (C26.out _ HB1.out).mono ?_; rintro e w5 ⟨o', nd', r2, s2, t2, r3, s3, t3, r4, s4, t4, r5, s5, t5, rfl, HL, HC⟩; have F5 := Lib.hid (F1.out.later HC.out); have M5 := Lib.hid (blk_later HM.out HC.out); clear c1 c2 c3 c4 c5 c6 c7 d1 d2 d3; obtain ⟨c1, c2, c3, c4, c5, c6, c7⟩ := F5.out.walk; obtain ⟨d1, d2, d3⟩ := box_walk M5.out)

      have F6 : Hid (ThreeBox w #[.int .i64 o, .int .i64 nd, .slice p2 l2 q2, .slice p3 l3 q3, .slice p4 l4 q4, .slice p5 l5 q5] #[.int .u8 (kind : Int), .int .u8 (who : Int), .int .i8 ow, .int .i8 tm, .slice sa sl sc] #[.int .i64 0, .int .i64 0, .slice none 0 0, .slice none 0 0, .slice none 0 0, .slice none 0 0] 26 30 26 ((((((w5.setCell ⟨m, 0, none⟩ (.int .i64 o')).setCell ⟨m, 1, none⟩ (.int .i64 nd')).setCell ⟨m, 2, none⟩ (.slice r2 s2 t2)).setCell ⟨m, 3, none⟩ (.slice r3 s3 t3)).setCell ⟨m, 4, none⟩ (.slice r4 s4 t4)).setCell ⟨m, 5, none⟩ (.slice r5 s5 t5))) := TS.out _ _ _ _ (TS.out _ _ _ _ (TS.out _ _ _ _ (TS.out _ _ _ _ (TS.out _ _ _ _ (TS.out _ _ _ _ F5 hmn) hmn) hmn) hmn) hmn) hmn
      have M6 : Hid (((((((w5.setCell ⟨m, 0, none⟩ (.int .i64 o')).setCell ⟨m, 1, none⟩ (.int .i64 nd')).setCell ⟨m, 2, none⟩ (.slice r2 s2 t2)).setCell ⟨m, 3, none⟩ (.slice r3 s3 t3)).setCell ⟨m, 4, none⟩ (.slice r4 s4 t4)).setCell ⟨m, 5, none⟩ (.slice r5 s5 t5)).heap[m]? = some (.cells #[.int .i64 o', .int .i64 nd', .slice r2 s2 t2, .slice r3 s3 t3, .slice r4 s4 t4, .slice r5 s5 t5] 26 (0, 0))) := Lib.hid (blk_set (blk_set (blk_set (blk_set (blk_set (blk_set M5.out _ _) _ _) _ _) _ _) _ _) _ _)
      have L6 := Lib.hid (HL.out.six M5.out (Nat.zero_le _) (.int .i64 o') (.int .i64 nd') (.slice r2 s2 t2) (.slice r3 s3 t3) (.slice r4 s4 t4) (.slice r5 s5 t5))
      have G6 := Lib.hid (HG.out.later F6.out.below)
      clear F5 M5 HL
      (try clear HC)
      generalize ((((((w5.setCell ⟨m, 0, none⟩ (.int .i64 o')).setCell ⟨m, 1, none⟩ (.int .i64 nd')).setCell ⟨m, 2, none⟩ (.slice r2 s2 t2)).setCell ⟨m, 3, none⟩ (.slice r3 s3 t3)).setCell ⟨m, 4, none⟩ (.slice r4 s4 t4)).setCell ⟨m, 5, none⟩ (.slice r5 s5 t5)) = W6 at *
      (try clear m1 m2 m3)
      obtain ⟨c1, c2, c3, c4, c5, c6, c7⟩ := F6.out.walk
      obtain ⟨d1, d2, d3⟩ := box_walk M6.out
      go_wp2
      refine bodyPost_ret (v := .tuple #[.agg #[.int .i64 o', .int .i64 nd', .slice r2 s2 t2, .slice r3 s3 t3, .slice r4 s4 t4, .slice r5 s5 t5], .int .i64 0]) (by simp [results, Tryz.results32, go_sem, c3]) rfl ?_
      rw [HE2.out, show gd = ld by rw [HDO.out]; simp]
      exact do_fin F6.out L6.out _ rfl 0 _ _ _ _ _ _
    · have HE2 : Hid (fe = demandE g t tm) := Lib.hid (by rw [HE.out]; simp)
      have HD2 : Hid (gs = demandD g t tm) := Lib.hid (by rw [HD.out]; simp)
      clear HE HD
      generalize demandE g t tm = ge at *
      generalize demandD g t tm = ld at *
      replace HDO : Hid (gd = if ge = 0 then ld else g) := Lib.hid (by rw [HDO.out, HE2.out, HD2.out])
      clear HD2
      clear C12 C13 C26 C17
      go_upto_region 10 with (go_at_call 15; refine (C15.out _ HB1.out).mono ?_; rintro e w5 ⟨o', nd', r2, s2, t2, r3, s3, t3, r4, s4, t4, r5, s5, t5, rfl, HL, HC⟩; have F5 := Lib.hid (F1.out.later HC.out); have M5 := Lib.hid (blk_later HM.out HC.out); clear c1 c2 c3 c4 c5 c6 c7 d1 d2 d3; obtain ⟨c1, c2, c3, c4, c5, c6, c7⟩ := F5.out.walk; obtain ⟨d1, d2, d3⟩ := box_walk M5.out)

      have F6 : Hid (ThreeBox w #[.int .i64 o, .int .i64 nd, .slice p2 l2 q2, .slice p3 l3 q3, .slice p4 l4 q4, .slice p5 l5 q5] #[.int .u8 (kind : Int), .int .u8 (who : Int), .int .i8 ow, .int .i8 tm, .slice sa sl sc] #[.int .i64 0, .int .i64 0, .slice none 0 0, .slice none 0 0, .slice none 0 0, .slice none 0 0] 26 30 26 ((((((w5.setCell ⟨m, 0, none⟩ (.int .i64 o')).setCell ⟨m, 1, none⟩ (.int .i64 nd')).setCell ⟨m, 2, none⟩ (.slice r2 s2 t2)).setCell ⟨m, 3, none⟩ (.slice r3 s3 t3)).setCell ⟨m, 4, none⟩ (.slice r4 s4 t4)).setCell ⟨m, 5, none⟩ (.slice r5 s5 t5))) := TS.out _ _ _ _ (TS.out _ _ _ _ (TS.out _ _ _ _ (TS.out _ _ _ _ (TS.out _ _ _ _ (TS.out _ _ _ _ F5 hmn) hmn) hmn) hmn) hmn) hmn
      have M6 : Hid (((((((w5.setCell ⟨m, 0, none⟩ (.int .i64 o')).setCell ⟨m, 1, none⟩ (.int .i64 nd')).setCell ⟨m, 2, none⟩ (.slice r2 s2 t2)).setCell ⟨m, 3, none⟩ (.slice r3 s3 t3)).setCell ⟨m, 4, none⟩ (.slice r4 s4 t4)).setCell ⟨m, 5, none⟩ (.slice r5 s5 t5)).heap[m]? = some (.cells #[.int .i64 o', .int .i64 nd', .slice r2 s2 t2, .slice r3 s3 t3, .slice r4 s4 t4, .slice r5 s5 t5] 26 (0, 0))) := Lib.hid (blk_set (blk_set (blk_set (blk_set (blk_set (blk_set M5.out _ _) _ _) _ _) _ _) _ _) _ _)
      have L6 := Lib.hid (HL.out.six M5.out (Nat.zero_le _) (.int .i64 o') (.int .i64 nd') (.slice r2 s2 t2) (.slice r3 s3 t3) (.slice r4 s4 t4) (.slice r5 s5 t5))
      have G6 := Lib.hid (HG.out.later F6.out.below)
      clear F5 M5 HL
      (try clear HC)
      generalize ((((((w5.setCell ⟨m, 0, none⟩ (.int .i64 o')).setCell ⟨m, 1, none⟩ (.int .i64 nd')).setCell ⟨m, 2, none⟩ (.slice r2 s2 t2)).setCell ⟨m, 3, none⟩ (.slice r3 s3 t3)).setCell ⟨m, 4, none⟩ (.slice r4 s4 t4)).setCell ⟨m, 5, none⟩ (.slice r5 s5 t5)) = W6 at *
      (try clear m1 m2 m3)
      obtain ⟨c1, c2, c3, c4, c5, c6, c7⟩ := F6.out.walk
      obtain ⟨d1, d2, d3⟩ := box_walk M6.out
      by_cases he : ge = 0
      · subst he
        go_wp2
        refine bodyPost_ret (v := .tuple #[.agg #[.int .i64 o', .int .i64 nd', .slice r2 s2 t2, .slice r3 s3 t3, .slice r4 s4 t4, .slice r5 s5 t5], .int .i64 0]) (by simp [results, Tryz.results32, go_sem, c3]) rfl ?_
        rw [HE2.out, show gd = ld by rw [HDO.out]; simp]
        exact do_fin F6.out L6.out _ rfl 0 _ _ _ _ _ _
      · go_wp2
        refine bodyPost_ret (v := .tuple #[.agg #[.int .i64 o, .int .i64 nd, .slice p2 l2 q2, .slice p3 l3 q3, .slice p4 l4 q4, .slice p5 l5 q5], .int .i64 ge]) (by simp [results, Tryz.results32, go_sem, c3]) rfl ?_
        rw [HE2.out, HDO.out, if_neg he]
        exact do_fin F6.out G6.out _ rfl ge _ _ _ _ _ _
    · have HE2 : Hid (fe = giveE g ow t tm) := Lib.hid (by rw [HE.out]; simp)
      have HD2 : Hid (gs = giveD g ow t tm) := Lib.hid (by rw [HD.out]; simp)
      clear HE HD
      generalize giveE g ow t tm = ge at *
      generalize giveD g ow t tm = ld at *
      replace HDO : Hid (gd = if ge = 0 then ld else g) := Lib.hid (by rw [HDO.out, HE2.out, HD2.out])
      clear HD2
      clear C12 C13 C26 C15
      go_upto_region 10 with (go_at_call 17; refine (C17.out _ HB1.out).mono ?_; rintro e w5 ⟨o', nd', r2, s2, t2, r3, s3, t3, r4, s4, t4, r5, s5, t5, rfl, HL, HC⟩; have F5 := Lib.hid (F1.out.later HC.out); have M5 := Lib.hid (blk_later HM.out HC.out); clear c1 c2 c3 c4 c5 c6 c7 d1 d2 d3; obtain ⟨c1, c2, c3, c4, c5, c6, c7⟩ := F5.out.walk; obtain ⟨d1, d2, d3⟩ := box_walk M5.out)

      have F6 : Hid (ThreeBox w #[.int .i64 o, .int .i64 nd, .slice p2 l2 q2, .slice p3 l3 q3, .slice p4 l4 q4, .slice p5 l5 q5] #[.int .u8 (kind : Int), .int .u8 (who : Int), .int .i8 ow, .int .i8 tm, .slice sa sl sc] #[.int .i64 0, .int .i64 0, .slice none 0 0, .slice none 0 0, .slice none 0 0, .slice none 0 0] 26 30 26 ((((((w5.setCell ⟨m, 0, none⟩ (.int .i64 o')).setCell ⟨m, 1, none⟩ (.int .i64 nd')).setCell ⟨m, 2, none⟩ (.slice r2 s2 t2)).setCell ⟨m, 3, none⟩ (.slice r3 s3 t3)).setCell ⟨m, 4, none⟩ (.slice r4 s4 t4)).setCell ⟨m, 5, none⟩ (.slice r5 s5 t5))) := TS.out _ _ _ _ (TS.out _ _ _ _ (TS.out _ _ _ _ (TS.out _ _ _ _ (TS.out _ _ _ _ (TS.out _ _ _ _ F5 hmn) hmn) hmn) hmn) hmn) hmn
      have M6 : Hid (((((((w5.setCell ⟨m, 0, none⟩ (.int .i64 o')).setCell ⟨m, 1, none⟩ (.int .i64 nd')).setCell ⟨m, 2, none⟩ (.slice r2 s2 t2)).setCell ⟨m, 3, none⟩ (.slice r3 s3 t3)).setCell ⟨m, 4, none⟩ (.slice r4 s4 t4)).setCell ⟨m, 5, none⟩ (.slice r5 s5 t5)).heap[m]? = some (.cells #[.int .i64 o', .int .i64 nd', .slice r2 s2 t2, .slice r3 s3 t3, .slice r4 s4 t4, .slice r5 s5 t5] 26 (0, 0))) := Lib.hid (blk_set (blk_set (blk_set (blk_set (blk_set (blk_set M5.out _ _) _ _) _ _) _ _) _ _) _ _)
      have L6 := Lib.hid (HL.out.six M5.out (Nat.zero_le _) (.int .i64 o') (.int .i64 nd') (.slice r2 s2 t2) (.slice r3 s3 t3) (.slice r4 s4 t4) (.slice r5 s5 t5))
      have G6 := Lib.hid (HG.out.later F6.out.below)
      clear F5 M5 HL
      (try clear HC)
      generalize ((((((w5.setCell ⟨m, 0, none⟩ (.int .i64 o')).setCell ⟨m, 1, none⟩ (.int .i64 nd')).setCell ⟨m, 2, none⟩ (.slice r2 s2 t2)).setCell ⟨m, 3, none⟩ (.slice r3 s3 t3)).setCell ⟨m, 4, none⟩ (.slice r4 s4 t4)).setCell ⟨m, 5, none⟩ (.slice r5 s5 t5)) = W6 at *
      (try clear m1 m2 m3)
      obtain ⟨c1, c2, c3, c4, c5, c6, c7⟩ := F6.out.walk
      obtain ⟨d1, d2, d3⟩ := box_walk M6.out
      by_cases he : ge = 0
      · subst he
        go_wp2
        refine bodyPost_ret (v := .tuple #[.agg #[.int .i64 o', .int .i64 nd', .slice r2 s2 t2, .slice r3 s3 t3, .slice r4 s4 t4, .slice r5 s5 t5], .int .i64 0]) (by simp [results, Tryz.results32, go_sem, c3]) rfl ?_
        rw [HE2.out, show gd = ld by rw [HDO.out]; simp]
        exact do_fin F6.out L6.out _ rfl 0 _ _ _ _ _ _
      · go_wp2
        refine bodyPost_ret (v := .tuple #[.agg #[.int .i64 o, .int .i64 nd, .slice p2 l2 q2, .slice p3 l3 q3, .slice p4 l4 q4, .slice p5 l5 q5], .int .i64 ge]) (by simp [results, Tryz.results32, go_sem, c3]) rfl ?_
        rw [HE2.out, HDO.out, if_neg he]
        exact do_fin F6.out G6.out _ rfl ge _ _ _ _ _ _
end Go.Proofs.YtpbgipdkaaooeaaGreatDoor
