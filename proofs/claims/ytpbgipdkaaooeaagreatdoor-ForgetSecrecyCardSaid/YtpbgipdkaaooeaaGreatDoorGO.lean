/- law35.gone: the walk. -/
import Derived.Test.YtpbgipdkaaooeaaGreatDoorPS
import Derived.Test.YtpbgipdkaaooeaaGreatDoorZT
import Derived.Test.YtpbgipdkaaooeaaGreatDoorKA
import Derived.Deep.RegionHeld3
open Go Go.Proofs Go.RowKit
namespace Go.Proofs.YtpbgipdkaaooeaaGreatDoor
set_option linter.unusedSimpArgs false
set_option linter.unusedVariables false
attribute [local go_sem ↓] Go.wp_at_zero Go.wp_at_succ

/-- The cells of a secret. -/
def secC (a b : Nat) (k0 : List Int) (rv : Value) (k1 : List Int) (f : Nat) : Array Value := ([Value.int .u8 (a : Int), .int .u8 (b : Int)] ++ (k0.map (Value.int .u8) ++ (rv :: (k1.map (Value.int .u8) ++ [.int .u8 (f : Int)])))).toArray
theorem secC_at {a b : Nat} {k0 k1 : List Int} {rv : Value} {f : Nat} (h0 : k0.length = 32) (h1 : k1.length = 32) : (secC a b k0 rv k1 f).size = 68 ∧ (secC a b k0 rv k1 f)[0]? = some (.int .u8 (a : Int)) ∧ (secC a b k0 rv k1 f)[1]? = some (.int .u8 (b : Int)) ∧ (secC a b k0 rv k1 f)[34]? = some rv ∧ (secC a b k0 rv k1 f)[67]? = some (.int .u8 (f : Int)) ∧
    (∀ j v, (k0.map (Value.int .u8))[j]? = some v → (secC a b k0 rv k1 f)[2 + j]? = some v) ∧ (∀ j v, (k1.map (Value.int .u8))[j]? = some v → (secC a b k0 rv k1 f)[35 + j]? = some v) := by
  have hl : (k0.map (Value.int .u8)).length = 32 := by simp [h0]
  have hl1 : (k1.map (Value.int .u8)).length = 32 := by simp [h1]
  unfold secC
  generalize k0.map (Value.int .u8) = A at *
  generalize k1.map (Value.int .u8) = B at *
  refine ⟨by simp [hl, hl1], by simp, by simp, ?_, ?_, fun j v hj => ?_, fun j v hj => ?_⟩
  · rw [List.getElem?_toArray, List.getElem?_append_right (by simp), List.getElem?_append_right (by simp [hl])]; simp [hl]
  · rw [List.getElem?_toArray, List.getElem?_append_right (by simp), List.getElem?_append_right (by simp [hl])]
    simp only [List.length_cons, List.length_nil, hl]
    rw [show 67 - (0 + 1 + 1) - 32 = 32 + 1 by omega, List.getElem?_cons_succ, List.getElem?_append_right (by omega), hl1]; rfl
  · have hj2 : j < 32 := by rw [← hl]; exact (List.getElem?_eq_some_iff.1 hj).1
    rw [List.getElem?_toArray, List.getElem?_append_right (by simp), List.getElem?_append_left (by simp [hl]; omega)]
    simp only [List.length_cons, List.length_nil]
    rw [show 2 + j - (0 + 1 + 1) = j by omega]; exact hj
  · have hj2 : j < 32 := by rw [← hl1]; exact (List.getElem?_eq_some_iff.1 hj).1
    rw [List.getElem?_toArray, List.getElem?_append_right (by simp; omega), List.getElem?_append_right (by simp [hl]; omega)]
    simp only [List.length_cons, List.length_nil, hl]
    rw [show 35 + j - (0 + 1 + 1) - 32 = j + 1 by omega, List.getElem?_cons_succ, List.getElem?_append_left (by omega)]; exact hj
/-- What gone keeps: its boxes. -/
structure GI (w : World) (c0 : Array Value) (kb : List Int) (wr : World) : Prop where
  below : Below w.heap.size w wr
  sec : wr.heap[w.heap.size]? = some (.cells c0 77 (0, 0))
  key : wr.heap[w.heap.size + 1]? = some (.cells (keyC2 kb) 39 (0, 0))
  res : wr.heap[w.heap.size + 1 + 1]? = some (.cells zLed 26 (0, 0))
theorem GI.later {w wr w' : World} {c0 : Array Value} {kb : List Int} (h : GI w c0 kb wr) (hb : Below wr.heap.size wr w') : GI w c0 kb w' := ⟨below_step h.below hb, blk_later h.sec hb, blk_later h.key hb, blk_later h.res hb⟩
theorem GI.six {w wr : World} {c0 : Array Value} {kb : List Int} (h : GI w c0 kb wr) {m : Nat} (hm : w.heap.size + 1 + 1 < m) (u0 u1 u2 u3 u4 u5 : Value) : GI w c0 kb ((((((wr.setCell ⟨m, 0, none⟩ u0).setCell ⟨m, 1, none⟩ u1).setCell ⟨m, 2, none⟩ u2).setCell ⟨m, 3, none⟩ u3).setCell ⟨m, 4, none⟩ u4).setCell ⟨m, 5, none⟩ u5) :=
  ⟨below_six h.below (by omega) _ _ _ _ _ _, blk_six h.sec (by omega) _ _ _ _ _ _, blk_six h.key (by omega) _ _ _ _ _ _, blk_six h.res (by omega) _ _ _ _ _ _⟩
def GoneRet (w : World) (g : LedD) (e : Ending) (w' : World) : Prop := ∃ (r2 : Option Addr) (s2 t2 : Nat) (r3 : Option Addr) (s3 t3 : Nat) (r4 : Option Addr) (s4 t4 : Nat) (r5 : Option Addr) (s5 t5 : Nat) , ∃ (o nd : Int), e = .returned (.tuple #[.agg #[.int .i64 o, .int .i64 nd, .slice r2 s2 t2, .slice r3 s3 t3, .slice r4 s4 t4, .slice r5 s5 t5], .bool true]) ∧ Hid (LedO 0 w' (.agg #[.int .i64 o, .int .i64 nd, .slice r2 s2 t2, .slice r3 s3 t3, .slice r4 s4 t4, .slice r5 s5 t5]) g) ∧ Hid (Below w.heap.size w w')
theorem key_row {w : World} {k : Nat} {ks : List Int} (h : w.heap[k]? = some (.cells (keyC2 ks) 39 (0, 0))) : w.heap[k]? = some (.cells (keyC2 ks) 39 (0, 0)) := h
set_option maxRecDepth 100000 in
set_option maxHeartbeats 1000000 in
theorem gone_36 (w : World) (a b f : Nat) (k0 k1 kb r : List Int) (r0 rv : Value) (ha : a < 256) (hb : b < 256) (hf : f < 256) (h0 : k0.length = 32) (h1 : k1.length = 32) (hk : kb.length = 32) (hkb : ∀ x ∈ kb, 0 ≤ x ∧ x ≤ 255) (hr : BytesR w rv r) :
    Calls Tryz.prog 36 #[.agg (secC a b k0 r0 k1 f), .agg (keyC2 kb), rv] w (GoneRet w (goneD a b f kb r)) := by
  obtain ⟨hs0, hs1, hs2, hs3, hs4, -, -⟩ := secC_at (a := a) (b := b) (rv := r0) (f := f) h0 h1
  have S1 := Lib.hid hs1
  have S2 := Lib.hid hs2
  have S4 := Lib.hid hs4
  have HRV := Lib.hid hr
  obtain ⟨-, ar, cr, rfl, -⟩ := hr.1
  generalize secC a b k0 r0 k1 f = c0 at *
  obtain ⟨g1', g2, g5⟩ := gOT a b
  have G0 : Hid (GI w c0 kb (((w.alloc (.cells c0 77)).alloc (.cells (keyC2 kb) 39)).alloc (.cells zLed 26))) := by
    have e1 : (w.alloc (.cells c0 77)).heap.size = w.heap.size + 1 := by simp
    have e2 : ((w.alloc (.cells c0 77)).alloc (.cells (keyC2 kb) 39)).heap.size = w.heap.size + 1 + 1 := by simp
    have b1 : Below w.heap.size w (w.alloc (.cells c0 77)) := (Below.refl _ _).alloc (Nat.le_refl _) _
    have b2 : Below (w.alloc (.cells c0 77)).heap.size (w.alloc (.cells c0 77)) ((w.alloc (.cells c0 77)).alloc (.cells (keyC2 kb) 39)) := (Below.refl _ _).alloc (Nat.le_refl _) _
    have b3 : Below ((w.alloc (.cells c0 77)).alloc (.cells (keyC2 kb) 39)).heap.size ((w.alloc (.cells c0 77)).alloc (.cells (keyC2 kb) 39)) (((w.alloc (.cells c0 77)).alloc (.cells (keyC2 kb) 39)).alloc (.cells zLed 26)) := (Below.refl _ _).alloc (Nat.le_refl _) _
    have h1 := heap_alloc_new (w.alloc (.cells c0 77)) (.cells (keyC2 kb) 39)
    rw [e1] at h1
    have h2 := heap_alloc_new ((w.alloc (.cells c0 77)).alloc (.cells (keyC2 kb) 39)) (.cells zLed 26)
    rw [e2] at h2
    exact Lib.hid ⟨below_step b1 (below_step b2 b3), blk_later (blk_later (heap_alloc_new w _) b2) b3, blk_later h1 b3, h2⟩
  have C29 : Hid (∀ wx, Calls Tryz.prog 29 #[.agg #[.int .u8 (a : Int), .int .u8 (b : Int)]] wx (LedQA 0 wx (startD a b))) := fun wx => led_partsA1 (start_29 wx a b ha hb)
  have HK := Lib.hid hk
  have HKB := Lib.hid hkb
  have hsz39 := keyC2_size kb hk
  have SZ := Lib.hid hsz39
  clear ha hb h0 h1 hs0 hs1 hs2 hs3 hs4 hk hkb hsz39 hr
  go_enter Tryz.func36, Tryz.ntmps36
  go_upto_region 1 with fail
  generalize ((w.alloc (.cells c0 77)).alloc (.cells (keyC2 kb) 39)).alloc (.cells zLed 26) = W0 at *
  obtain ⟨x1, x2, x3⟩ := box_walk G0.out.sec
  have y1 := (x1 0).trans S1.out
  have y2 := (x1 1).trans S2.out
  clear x1
  go_upto_region 2 with (go_at_call 29; refine (C29.out _).mono ?_; rintro e w3 ⟨o, nd, r2, s2, t2, r3, s3, t3, r4, s4, t4, r5, s5, t5, rfl, HL, HC⟩)
  have L3 : Hid (LedBoxO w3.heap.size o nd (.slice r2 s2 t2) (.slice r3 s3 t3) (.slice r4 s4 t4) (.slice r5 s5 t5) (startD a b) (w3.alloc (.cells #[.int .i64 o, .int .i64 nd, .slice r2 s2 t2, .slice r3 s3 t3, .slice r4 s4 t4, .slice r5 s5 t5] 26))) := Lib.hid (LedBoxO.fresh HL.out)
  have G3 : Hid (GI w c0 kb (w3.alloc (.cells #[.int .i64 o, .int .i64 nd, .slice r2 s2 t2, .slice r3 s3 t3, .slice r4 s4 t4, .slice r5 s5 t5] 26))) := Lib.hid ((G0.out.later HC.out).later ((Below.refl _ _).alloc (Nat.le_refl _) _))
  have hm : w.heap.size + 1 + 1 < w3.heap.size := lt_of_blk (G0.out.later HC.out).res
  clear HL HC C29 G0 y1 y2 x2 x3
  generalize w3.alloc (.cells #[.int .i64 o, .int .i64 nd, .slice r2 s2 t2, .slice r3 s3 t3, .slice r4 s4 t4, .slice r5 s5 t5] 26) = W4 at *
  generalize w3.heap.size = m at *
  have C12 : Hid (Calls Tryz.prog 12 #[.agg #[.int .i64 o, .int .i64 nd, .slice r2 s2 t2, .slice r3 s3 t3, .slice r4 s4 t4, .slice r5 s5 t5], .string ⟨#[97]⟩, .agg (keyC2 kb), .slice ar r.length cr] W4 (LedPA 0 W4 (enrollD (startD a b) sT kb r) 0)) := by
    rw [show (⟨#[97]⟩ : ByteArray) = sT from rfl]
    have := enroll_12A W4 _ (.slice ar r.length cr) (startD a b) sT kb r 0 (Nat.zero_le _) L3.out.led.at ((small_start a b).fits (by omega)) HK.out HKB.out (HRV.out.later G3.out.below)
    rw [(enr_start a b kb r).1] at this
    exact Lib.hid (led_partsA this)
  have HDS := Lib.hid (dem_start a b f kb r)
  have HFG : Hid (Fits (enrollD (startD a b) sT kb r)) := Lib.hid (by
    rw [(enr_start a b kb r).2]
    exact ⟨by simp; omega, fun x hx => by simp only [List.mem_map] at hx; obtain ⟨p, -, rfl⟩ := hx; simp, by simp, by simp, by simp⟩)
  generalize enrollD (startD a b) sT kb r = g1 at *
  obtain ⟨j1, j2, j3⟩ := box_walk L3.out.box
  go_upto_region 3 with (first
    | (refine wpList_load_row (o := ⟨some 19, _, _, _, _, _⟩) rfl 39 (.tmp 4) rfl (w.heap.size + 1) rfl 39 (keyC2 kb) (0, 0) _ G3.out.key und39 rfl SZ.out ?_)
    | (go_at_call 12; (with_reducible refine C12.out.mono ?_); rintro e w5 ⟨o', nd', r2', s2', t2', r3', s3', t3', r4', s4', t4', r5', s5', t5', rfl, HL, HC⟩; clear j1 j2 j3; obtain ⟨j1, j2, j3⟩ := box_walk (blk_later L3.out.box HC.out)))
  have L5 : Hid (LedBoxO m o' nd' (.slice r2' s2' t2') (.slice r3' s3' t3') (.slice r4' s4' t4') (.slice r5' s5' t5') g1 ((((((w5.setCell ⟨m, 0, none⟩ (.int .i64 o')).setCell ⟨m, 1, none⟩ (.int .i64 nd')).setCell ⟨m, 2, none⟩ (.slice r2' s2' t2')).setCell ⟨m, 3, none⟩ (.slice r3' s3' t3')).setCell ⟨m, 4, none⟩ (.slice r4' s4' t4')).setCell ⟨m, 5, none⟩ (.slice r5' s5' t5'))) := Lib.hid (LedBoxO.stored (blk_later L3.out.box HC.out) HL.out)
  have G5 : Hid (GI w c0 kb ((((((w5.setCell ⟨m, 0, none⟩ (.int .i64 o')).setCell ⟨m, 1, none⟩ (.int .i64 nd')).setCell ⟨m, 2, none⟩ (.slice r2' s2' t2')).setCell ⟨m, 3, none⟩ (.slice r3' s3' t3')).setCell ⟨m, 4, none⟩ (.slice r4' s4' t4')).setCell ⟨m, 5, none⟩ (.slice r5' s5' t5'))) := Lib.hid ((G3.out.later HC.out).six hm _ _ _ _ _ _)
  clear L3 G3 C12 HL HC j1 j2 j3 SZ
  generalize (((((w5.setCell ⟨m, 0, none⟩ (.int .i64 o')).setCell ⟨m, 1, none⟩ (.int .i64 nd')).setCell ⟨m, 2, none⟩ (.slice r2' s2' t2')).setCell ⟨m, 3, none⟩ (.slice r3' s3' t3')).setCell ⟨m, 4, none⟩ (.slice r4' s4' t4')).setCell ⟨m, 5, none⟩ (.slice r5' s5' t5') = W6 at *
  clear w5 W4
  have C15 : Hid (Calls Tryz.prog 15 #[.agg #[.int .i64 o', .int .i64 nd', .slice r2' s2' t2', .slice r3' s3' t3', .slice r4' s4' t4', .slice r5' s5' t5'], .agg #[.string ⟨#[97]⟩, .int .i64 3]] W6 (LedPA 0 W6 (gForm (gO a) (gT a b) f kb r 0) 0)) := by
    rw [show (⟨#[97]⟩ : ByteArray) = sT from rfl]
    have := demand_15A W6 _ g1 sT 3 0 (Nat.zero_le _) L5.out.led.at HFG.out
    rw [HDS.out.1, HDS.out.2] at this
    exact Lib.hid (led_partsA this)
  obtain ⟨j1, j2, j3⟩ := box_walk L5.out.box
  go_upto_region 4 with (go_at_call 15; (with_reducible refine C15.out.mono ?_); rintro e w7 ⟨o'', nd'', r2'', s2'', t2'', r3'', s3'', t3'', r4'', s4'', t4'', r5'', s5'', t5'', rfl, HL, HC⟩; clear j1 j2 j3; obtain ⟨j1, j2, j3⟩ := box_walk (blk_later L5.out.box HC.out))
  have L7 : Hid (LedBoxO m o'' nd'' (.slice r2'' s2'' t2'') (.slice r3'' s3'' t3'') (.slice r4'' s4'' t4'') (.slice r5'' s5'' t5'') (gForm (gO a) (gT a b) f kb r 0) ((((((w7.setCell ⟨m, 0, none⟩ (.int .i64 o'')).setCell ⟨m, 1, none⟩ (.int .i64 nd'')).setCell ⟨m, 2, none⟩ (.slice r2'' s2'' t2'')).setCell ⟨m, 3, none⟩ (.slice r3'' s3'' t3'')).setCell ⟨m, 4, none⟩ (.slice r4'' s4'' t4'')).setCell ⟨m, 5, none⟩ (.slice r5'' s5'' t5''))) := Lib.hid (LedBoxO.stored (blk_later L5.out.box HC.out) HL.out)
  have G7 : Hid (GI w c0 kb ((((((w7.setCell ⟨m, 0, none⟩ (.int .i64 o'')).setCell ⟨m, 1, none⟩ (.int .i64 nd'')).setCell ⟨m, 2, none⟩ (.slice r2'' s2'' t2'')).setCell ⟨m, 3, none⟩ (.slice r3'' s3'' t3'')).setCell ⟨m, 4, none⟩ (.slice r4'' s4'' t4'')).setCell ⟨m, 5, none⟩ (.slice r5'' s5'' t5''))) := Lib.hid ((G5.out.later HC.out).six hm _ _ _ _ _ _)
  obtain ⟨ho'', hn''⟩ := HL.out.nums
  clear L5 G5 C15 HL HC j1 j2 j3 HDS HFG
  generalize (((((w7.setCell ⟨m, 0, none⟩ (.int .i64 o'')).setCell ⟨m, 1, none⟩ (.int .i64 nd'')).setCell ⟨m, 2, none⟩ (.slice r2'' s2'' t2'')).setCell ⟨m, 3, none⟩ (.slice r3'' s3'' t3'')).setCell ⟨m, 4, none⟩ (.slice r4'' s4'' t4'')).setCell ⟨m, 5, none⟩ (.slice r5'' s5'' t5'') = W8 at *
  clear w7 W6
  have hO : (gForm (gO a) (gT a b) f kb r 0).owners = ((gO a : Nat) : Int) := rfl
  have hT : (gForm (gO a) (gT a b) f kb r 0).need = ((gT a b : Nat) : Int) := rfl
  rw [hO] at ho''
  rw [hT] at hn''
  subst ho'' hn''
  clear hO hT
  have HGN : Hid (∀ i, Fits (gForm (gO a) (gT a b) f kb r i)) := Lib.hid (fun i => ⟨by show (rowsG _ _ _ _ _ _).length ≤ 4095; rw [rowsG_length]; omega, fun x hx => by
      obtain ⟨p, -, rfl⟩ := List.mem_map.1 hx
      split <;> simp, by simp [gForm], by simp [gForm], by simp only [gForm]; split <;> simp⟩)
  have HGV : Hid (∀ i, i ≤ gO a - gT a b → giveE (gForm (gO a) (gT a b) f kb r i) (((i + f) % gO a : Nat) : Int) sT 4 = 0 ∧ giveD (gForm (gO a) (gT a b) f kb r i) (((i + f) % gO a : Nat) : Int) sT 4 = gForm (gO a) (gT a b) f kb r (i + 1)) := Lib.hid (fun i hi => give_gForm g1' g2 g5 hi)
  have HGD : Hid (∀ i, firstD sT (gForm (gO a) (gT a b) f kb r i).dones = if gO a - gT a b + 1 ≤ i then some (sT, 4) else none) := Lib.hid (fun i => by
    unfold gForm
    simp only
    split
    · simp [firstD, sEq_self]
    · rfl)
  have HGR : Hid (goneD a b f kb r = gForm (gO a) (gT a b) f kb r (gO a - gT a b + 1)) := Lib.hid rfl
  generalize gO a = O at *
  generalize gT a b = T at *
  generalize hgf : (fun i => gForm O T f kb r i) = GF at *
  have HGF : Hid (∀ i, gForm O T f kb r i = GF i) := Lib.hid (fun i => by rw [← hgf])
  clear hgf
  go_upto_region 6 with fail
  go_loopw [9, 11, 12, 13] (fun c9 c11 c12 c13 wr => ∃ (i : Nat) (D : Bool) (r2 : Option Addr) (s2 t2 : Nat) (r3 : Option Addr) (s3 t3 : Nat) (r4 : Option Addr) (s4 t4 : Nat) (r5 : Option Addr) (s5 t5 : Nat), i ≤ O - T + 1 ∧ c9 = .int .i64 0 ∧ c11 = .bool true ∧ c12 = .bool D ∧ c13 = .int .i64 ((i : Nat) : Int) ∧ Hid (D = decide (O - T + 1 ≤ i)) ∧ Hid (GI w c0 kb wr) ∧ Hid (LedBoxO m (O : Int) (T : Int) (.slice r2 s2 t2) (.slice r3 s3 t3) (.slice r4 s4 t4) (.slice r5 s5 t5) (gForm O T f kb r i) wr)) (fun _ _ _ c13 _ => O + 1 - (intOf c13).toNat)
  case atStart => exact ⟨0, false, r2'', s2'', t2'', r3'', s3'', t3'', r4'', s4'', t4'', r5'', s5'', t5'', Nat.zero_le _, rfl, rfl, rfl, rfl, Lib.hid (by rw [decide_eq_false (by omega)]), G7, L7⟩
  case round =>
    clear L7 G7
    obtain ⟨i, D, r2, s2, t2, r3, s3, t3, r4, s4, t4, r5, s5, t5, hi, rfl, rfl, rfl, rfl, HD, G8, L8⟩ := hrel
    obtain ⟨j1, j2, j3⟩ := box_walk L8.out.box
    by_cases hlt : i ≤ O - T
    · have hDf : D = false := by rw [HD.out]; exact decide_eq_false (by omega)
      subst hDf
      have hiO : (i : Int) < (O : Int) := by omega
      obtain ⟨x1, x2, x3⟩ := box_walk G8.out.sec
      have y1 := (x1 67).trans S4.out
      have hO0 : ¬ (O : Int) = 0 := by omega
      have hwk : IntKind.i64.wrap ((i : Int) + (f : Int)) = (i : Int) + (f : Int) := by rw [IntKind.wrap_i64]; omega
      have hwk2 : (0 : Int) ≤ (i : Int) + (f : Int) := by omega
      obtain ⟨ow, how⟩ : ∃ ow, ow = (i + f) % O := ⟨_, rfl⟩
      have hmod : ((i : Int) + (f : Int)).tmod (O : Int) = (ow : Int) := by rw [Int.tmod_eq_emod_of_nonneg hwk2, how]; simp
      have hmod2 : ((i : Int) + (f : Int)) % (O : Int) = (ow : Int) := by rw [how]; simp
      have C17 : Hid (∀ wx, Hid (Below wr.heap.size wr wx) → Calls Tryz.prog 17 #[.agg #[.int .i64 (O : Int), .int .i64 (T : Int), .slice r2 s2 t2, .slice r3 s3 t3, .slice r4 s4 t4, .slice r5 s5 t5], .int .i64 (ow : Int), .agg #[.string ⟨#[97]⟩, .int .i64 4]] wx (LedPA 0 wx (gForm O T f kb r (i + 1)) 0)) := fun wx hx => by
        rw [show (⟨#[97]⟩ : ByteArray) = sT from rfl]
        have := give_17A wx _ (gForm O T f kb r i) (ow : Int) sT 4 0 (Nat.zero_le _) (L8.out.led.later hx.out).at (HGN.out i)
        rw [how, (HGV.out i hlt).1, (HGV.out i hlt).2] at this
        rw [how]
        exact led_partsA this
      clear how x1
      have LNX : Hid (∀ (w5 : World) (o' nd' : Int) (u2 u3 u4 u5 : Value), LedO 0 w5 (.agg #[.int .i64 o', .int .i64 nd', u2, u3, u4, u5]) (gForm O T f kb r (i + 1)) → o' = (O : Int) ∧ nd' = (T : Int)) := Lib.hid (fun w5 o' nd' u2 u3 u4 u5 h => by
        obtain ⟨h1, h2⟩ := h.nums
        exact ⟨h1, h2⟩)
      have P1 : Hid (Below wr.heap.size wr wr.drew) := Lib.hid (Below.refl _ _).drew
      go_upto_region 8 with fail
      clear j1 j2 j3 x2 x3 y1
      obtain ⟨j1, j2, j3⟩ := box_walk (show wr.drew.heap[m]? = _ from L8.out.box)
      obtain ⟨x1, x2, x3⟩ := box_walk (show wr.drew.heap[w.heap.size]? = _ from G8.out.sec)
      have y1 := (x1 67).trans S4.out
      clear x1
      go_cut [9] (fun e wx => ∃ (r2' : Option Addr) (s2' t2' : Nat) (r3' : Option Addr) (s3' t3' : Nat) (r4' : Option Addr) (s4' t4' : Nat) (r5' : Option Addr) (s5' t5' : Nat), e = .int .i64 0 ∧ Hid (GI w c0 kb wx) ∧ Hid (LedBoxO m (O : Int) (T : Int) (.slice r2' s2' t2') (.slice r3' s3' t3') (.slice r4' s4' t4') (.slice r5' s5' t5') (gForm O T f kb r (i + 1)) wx))
      case first =>
        go_region_with (go_at_call 17; (with_reducible refine (C17.out _ P1).mono ?_); rintro e w5 ⟨o', nd', r2', s2', t2', r3', s3', t3', r4', s4', t4', r5', s5', t5', rfl, HL, HC⟩; obtain ⟨rfl, rfl⟩ := LNX.out _ _ _ _ _ _ _ HL.out; have MC := Lib.hid (blk_later (show wr.drew.heap[m]? = _ from L8.out.box) HC.out); have GC := Lib.hid ((G8.out.later P1.out).later HC.out); obtain ⟨e1, e2, e3⟩ := box_walk MC.out)
        all_goals
          go_wp2_with fail
          go_meet
          exact ⟨r2', s2', t2', r3', s3', t3', r4', s4', t4', r5', s5', t5', rfl, Lib.hid (GC.out.six hm _ _ _ _ _ _), Lib.hid (LedBoxO.stored MC.out HL.out)⟩
      case rest =>
        obtain ⟨r2', s2', t2', r3', s3', t3', r4', s4', t4', r5', s5', t5', rfl, G9, L9⟩ := hcut
        clear G8 L8 C17 LNX P1 j1 j2 j3 y1
        obtain ⟨j1, j2, j3⟩ := box_walk L9.out.box
        have C21 : Hid (∃ v D', Hid (D' = decide (O - T + 1 ≤ i + 1)) ∧ Calls Tryz.prog 21 #[.agg #[.int .i64 (O : Int), .int .i64 (T : Int), .slice r2' s2' t2', .slice r3' s3' t3', .slice r4' s4' t4', .slice r5' s5' t5'], .string ⟨#[97]⟩] wc fun e w' => e = .returned (.tuple #[v, .bool D']) ∧ Hid (Below wc.heap.size wc w')) := by
          rw [show (⟨#[97]⟩ : ByteArray) = sT from rfl]
          have := cert_21 wc _ (gForm O T f kb r (i + 1)) sT L9.out.led.led (HGN.out (i + 1))
          refine Lib.hid ⟨_, _, Lib.hid ?_, this⟩
          rw [HGD.out (i + 1)]
          by_cases h : O - T + 1 ≤ i + 1
          · rw [if_pos h, decide_eq_true h]; rfl
          · rw [if_neg h, decide_eq_false h]; rfl
        obtain ⟨v, D', HD', C21⟩ := C21.out
        have C21 := Lib.hid C21
        go_wp2_with (go_at_call 21; (with_reducible refine C21.out.mono ?_); rintro e w9 ⟨rfl, HC9⟩)
        go_roundw
        case rel => exact ⟨i + 1, D', r2', s2', t2', r3', s3', t3', r4', s4', t4', r5', s5', t5', by omega, rfl, rfl, rfl, by go_num, HD', Lib.hid (G9.out.later HC9.out), Lib.hid (L9.out.later HC9.out)⟩
        case measure => simp [intOf] <;> omega
    · obtain rfl : i = O - T + 1 := by omega
      have hDt : D = true := by rw [HD.out]; exact decide_eq_true (Nat.le_refl _)
      subst hDt
      have L8' : Hid (LedBoxO m (O : Int) (T : Int) (.slice r2 s2 t2) (.slice r3 s3 t3) (.slice r4 s4 t4) (.slice r5 s5 t5) (goneD a b f kb r) wr) := Lib.hid (by rw [HGR.out]; exact L8.out)
      clear L8 HGN HGV HGD HGR HGF HD
      obtain ⟨q1, q2, q3⟩ := box_walk G8.out.res
      have hW : w.heap.size + 1 + 1 < wr.heap.size := q3
      have hgo : Hid (GoneRet w (goneD a b f kb r) (.returned (.tuple #[.agg #[.int .i64 (O : Int), .int .i64 (T : Int), .slice r2 s2 t2, .slice r3 s3 t3, .slice r4 s4 t4, .slice r5 s5 t5], .bool true])) ((((((wr.setCell ⟨w.heap.size + 1 + 1, 0, none⟩ (.int .i64 (O : Int))).setCell ⟨w.heap.size + 1 + 1, 1, none⟩ (.int .i64 (T : Int))).setCell ⟨w.heap.size + 1 + 1, 2, none⟩ (.slice r2 s2 t2)).setCell ⟨w.heap.size + 1 + 1, 3, none⟩ (.slice r3 s3 t3)).setCell ⟨w.heap.size + 1 + 1, 4, none⟩ (.slice r4 s4 t4)).setCell ⟨w.heap.size + 1 + 1, 5, none⟩ (.slice r5 s5 t5))) := Lib.hid ⟨_, _, _, _, _, _, _, _, _, _, _, _, _, _, rfl, Lib.hid (L8'.out.led.six G8.out.res (Nat.zero_le _) _ _ _ _ _ _), Lib.hid (below_six G8.out.below (by omega) _ _ _ _ _ _)⟩
      by_cases hiO : O - T + 1 < O
      · have hiO2 : ((O - T + 1 : Nat) : Int) < (O : Int) := by omega
        generalize O - T + 1 = N1 at *
        go_wp2
        exact bodyPost_ret (v := .tuple #[.agg #[.int .i64 (O : Int), .int .i64 (T : Int), .slice r2 s2 t2, .slice r3 s3 t3, .slice r4 s4 t4, .slice r5 s5 t5], .bool true]) (by simp [results, Tryz.results36, go_sem, q1]) rfl hgo.out
      · have hiO2 : ¬ ((O - T + 1 : Nat) : Int) < (O : Int) := by omega
        generalize O - T + 1 = N1 at *
        go_wp2
        exact bodyPost_ret (v := .tuple #[.agg #[.int .i64 (O : Int), .int .i64 (T : Int), .slice r2 s2 t2, .slice r3 s3 t3, .slice r4 s4 t4, .slice r5 s5 t5], .bool true]) (by simp [results, Tryz.results36, go_sem, q1]) rfl hgo.out
end Go.Proofs.YtpbgipdkaaooeaaGreatDoor
