/- share: noise, masked, Split. -/
import Derived.Test.YtpbgipdkaaooeaaGreatDoorS
import Derived.BigQuiet
open Go Go.Proofs Go.RowKit
namespace Go.Proofs.YtpbgipdkaaooeaaGreatDoor
set_option linter.unusedSimpArgs false
set_option linter.unusedVariables false
attribute [local go_sem ↓] Go.wp_at_zero Go.wp_at_succ

theorem xor_lt {a b : Nat} (ha : a < 256) (hb : b < 256) : a ^^^ b < 256 := Nat.xor_lt_two_pow (n := 8) ha hb
theorem xor_u8 {a b : Nat} (ha : a < 256) (hb : b < 256) : bits BinOp.xor IntKind.u8 (a : Int) (b : Int) = ((a ^^^ b : Nat) : Int) := by
  have h := xor_lt ha hb
  show IntKind.u8.wrap ((BitVec.ofInt 8 (a : Int) ^^^ BitVec.ofInt 8 (b : Int)).toNat : Int) = _
  rw [BitVec.toNat_xor, BitVec.ofInt_natCast, BitVec.ofInt_natCast, BitVec.toNat_ofNat, BitVec.toNat_ofNat, Nat.mod_eq_of_lt (by omega), Nat.mod_eq_of_lt (by omega)]
  simp [IntKind.wrap, IntKind.bits, IntKind.signed]
  omega
theorem xor_u8_zero {a : Nat} (ha : a < 256) : bits BinOp.xor IntKind.u8 (a : Int) 0 = (a : Int) := by
  have := xor_u8 (b := 0) ha (by omega)
  simpa using this
theorem expL_lt (k : Nat) : expL.getD k 0 < 256 := by
  by_cases h : k < 255
  · have := exp_gpow ⟨k, h⟩
    simp only at this
    rw [this]; exact gpow_lt k
  · have : expL.length = 255 := by decide +kernel
    rw [List.getD_eq_getElem?_getD, List.getElem?_eq_none (by omega)]
    decide
theorem mulD_lt (a b : Nat) : mulD a b < 256 := by
  unfold mulD
  split
  · omega
  · exact expL_lt _
theorem divD_lt (a b : Nat) : divD a b < 256 := by
  unfold divD
  split
  · omega
  · exact expL_lt _

/-- Horner's rule without the constant coefficient. -/
def horner (c : Nat → Nat) (x : Nat) : Nat → Nat → Nat
  | 0, out => out
  | m + 1, out => horner c x m (mulD (out ^^^ c m) x)
/-- Byte j of a list. -/
def byteAt (r : List Int) (j : Nat) : Nat := (r.getD j 0).toNat
def noiseD (r : List Int) (nm i x : Nat) : Nat := horner (fun j => byteAt r (i * nm + j)) x nm 0
theorem horner_lt (c : Nat → Nat) (x : Nat) : ∀ m out, out < 256 → horner c x m out < 256
  | 0, _, h => h
  | m + 1, out, _ => horner_lt c x m _ (mulD_lt _ _)
theorem noiseD_lt (r : List Int) (nm i x : Nat) : noiseD r nm i x < 256 := horner_lt _ _ _ _ (by omega)
theorem byteAt_of {w : World} {v : Value} {l : List Int} (h : BytesR w v l) (j : Nat) : byteAt l j < 256 ∧ (∀ hj : j < l.length, l[j] = (byteAt l j : Int)) := by
  unfold byteAt
  rw [List.getD_eq_getElem?_getD]
  by_cases hj : j < l.length
  · have := h.2 l[j] (List.getElem_mem hj)
    rw [List.getElem?_eq_getElem hj]
    simp only [Option.getD_some]
    exact ⟨by omega, fun _ => by omega⟩
  · rw [List.getElem?_eq_none (by omega)]
    exact ⟨by simp, fun h => absurd h hj⟩

set_option maxRecDepth 100000 in
/-- tables.noise -/
theorem noise_105 (w : World) (k : Nat) (vr : Value) (r : List Int) (nm i x : Nat) (hT : TabR w k) (hr : BytesR w vr r) (hnm : nm ≤ 255) (hi : i ≤ 4096) (hx : x < 256) :
    Calls Tryz.prog 105 #[.pointer (some ⟨k, 0, none⟩), vr, .int .i64 ((nm : Int) + 1), .int .i64 i, .int .u8 x] w fun e w' => e = .returned (.int .u8 (noiseD r nm i x)) ∧ Below w.heap.size w w' := by
  have HBY := Lib.hid (byteAt_of hr)
  obtain ⟨⟨hlen, ao, cap, rfl, hle, hm, hcell⟩, -⟩ := id hr
  obtain ⟨F, hF⟩ : ∃ F : Nat, F = i * nm := ⟨_, rfl⟩
  have hFb : F ≤ 4096 * 255 := by rw [hF]; exact Nat.mul_le_mul hi hnm
  have hFI : (i : Int) * (nm : Int) = (F : Int) := by rw [hF]; simp
  obtain ⟨n, hN⟩ : ∃ n, n = r.length := ⟨_, rfl⟩
  rw [← hN] at hlen hle hcell hr ⊢
  have HN := Lib.hid hN; clear hN
  have HFH := Lib.hid hF; clear hF
  have HC := Lib.hid hcell; clear hcell hlen hr
  have hnn : n ≤ maxLen := Nat.le_trans hle hm
  have hnn2 : n ≤ 9223372036854775807 := by unfold maxLen at hnn; omega
  clear hnn hm
  have HR : Hid (noiseD r nm i x = horner (fun j => byteAt r (F + j)) x nm 0) := by rw [HFH.out]; exact Lib.hid rfl
  generalize noiseD r nm i x = res at *
  go_enter Tryz.func105, Tryz.ntmps105
  go_wp2
  go_loopw [11, 13] (fun out j wr => ∃ (m o : Nat), m ≤ nm ∧ o < 256 ∧ out = .int .u8 (o : Nat) ∧ j = .int .i64 ((m : Int) - 1) ∧ Below w.heap.size w wr ∧ Hid (horner (fun j => byteAt r (F + j)) x m o = res)) (fun _ j _ => (intOf j + 1).toNat)
  case atStart => exact ⟨nm, 0, Nat.le_refl _, by omega, rfl, by go_num, Below.refl _ _, HR.out.symm⟩
  case round =>
    obtain ⟨m, o, hmm, ho, rfl, rfl, hB, HH⟩ := hrel
    cases m with
    | zero =>
      go_wp2
      go_ret
      have := HH.out
      unfold horner at this
      rw [this]
      exact ⟨rfl, hB⟩
    | succ p =>
      have hp : ((p + 1 : Nat) : Int) - 1 = (p : Int) := by omega
      rw [hp]
      clear hp
      have hTr : TabR wr k := blk_later hT hB
      by_cases hlt : F + p < n
      · obtain ⟨b, off, rfl, hbb, hcells⟩ := HC.out (by omega)
        obtain ⟨hc1, hc2⟩ := HBY.out (F + p)
        have hc2 := hc2 (by rw [← HN.out]; exact hlt)
        have h1 := hcells (F + p) (by omega)
        rw [List.getElem?_map, List.getElem?_eq_getElem (by rw [← HN.out]; exact hlt), hc2, ← hB.cell (p := ⟨b, off + (F + p), none⟩) hbb] at h1
        simp only [Option.map_some] at h1
        have HM : Hid (horner (fun j => byteAt r (F + j)) x p (mulD (o ^^^ byteAt r (F + p)) x) = res) := HH.out
        clear hcells hc2
        generalize byteAt r (F + p) = c at *
        have hxor := xor_u8 ho hc1
        have CM := Lib.hid (mul_88 wr k (o ^^^ c) x hTr (xor_lt ho hc1) hx)
        have hml := mulD_lt (o ^^^ c) x
        generalize mulD (o ^^^ c) x = o' at *
        go_wp2_with (go_at_call 88; refine CM.out.mono ?_; rintro e w' ⟨rfl, hB'⟩)
        go_roundw
        case rel => exact ⟨p, o', by omega, hml, rfl, rfl, hB.trans (hB'.mono hB.size), HM⟩
        case measure => simp [intOf] <;> omega
      · have hc0 : byteAt r (F + p) = 0 := by
          unfold byteAt
          rw [List.getD_eq_getElem?_getD, List.getElem?_eq_none (by rw [← HN.out]; omega)]; rfl
        have HM : Hid (horner (fun j => byteAt r (F + j)) x p (mulD o x) = res) := by
          have := HH.out
          unfold horner at this
          rw [hc0, Nat.xor_zero] at this
          exact this
        have hxor := xor_u8_zero ho
        have CM := Lib.hid (mul_88 wr k o x hTr ho hx)
        have hml := mulD_lt o x
        generalize mulD o x = o' at *
        clear hc0
        go_wp2_with (go_at_call 88; refine CM.out.mono ?_; rintro e w' ⟨rfl, hB'⟩)
        go_roundw
        case rel => exact ⟨p, o', by omega, hml, rfl, rfl, hB.trans (hB'.mono hB.size), HM⟩
        case measure => simp [intOf] <;> omega
theorem und28 : Tryz.prog.underlying 28 = some (.slice 5) := by kernel_rfl
theorem info5 : ∃ i, Tryz.prog.info? 5 = some i ∧ i.zero = some (.int .u8 0) ∧ i.size = 1 ∧ i.bytes = 1 := by
  have h : (Tryz.prog.info? 5).map (fun i => (i.zero, i.size, i.bytes)) = some (some (.int .u8 0), 1, 1) := by kernel_rfl
  cases hh : Tryz.prog.info? 5 with
  | none => rw [hh] at h; cases h
  | some i => rw [hh] at h; simp at h; exact ⟨i, rfl, h.1, h.2.1, h.2.2⟩
/-- The value of byte i of a share at the point x. -/
def maskB (bs r : List Int) (nm x i : Nat) : Nat := byteAt bs i ^^^ noiseD r nm i x
def maskedD (bs r : List Int) (nm x : Nat) : List Int := (List.range bs.length).map fun i => ((maskB bs r nm x i : Nat) : Int)
/-- The row after j rounds. -/
def mixRow (f : Nat → Nat) (n j : Nat) : List Value := (List.range n).map fun i => .int .u8 (if i < j then (f i : Int) else 0)
theorem mixRow_zero (f : Nat → Nat) (n : Nat) : mixRow f n 0 = List.replicate n (.int .u8 0) := by
  unfold mixRow
  apply List.ext_getElem
  · simp
  · intro i h1 h2; simp
theorem mixRow_step (f : Nat → Nat) (n j : Nat) (_h : j < n) : (mixRow f n j).set j (.int .u8 (f j)) = mixRow f n (j + 1) := by
  unfold mixRow
  apply List.ext_getElem
  · simp
  · intro i h1 h2
    rw [List.getElem_set]
    simp only [List.getElem_map, List.getElem_range]
    by_cases hij : j = i
    · subst hij; simp
    · rw [if_neg hij]
      have : (i < j) ↔ (i < j + 1) := by omega
      simp only [this]
theorem mixRow_full (bs r : List Int) (nm x : Nat) : mixRow (maskB bs r nm x) bs.length bs.length = (maskedD bs r nm x).map (Value.int .u8) := by
  unfold mixRow maskedD
  apply List.ext_getElem
  · simp
  · intro i h1 h2
    simp only [List.length_map, List.length_range] at h1
    simp [h1]
theorem mixRow_length (f : Nat → Nat) (n j : Nat) : (mixRow f n j).length = n := by simp [mixRow]
theorem maskedD_length (bs r : List Int) (nm x : Nat) : (maskedD bs r nm x).length = bs.length := by simp [maskedD]
theorem maskedD_bytes {w : World} {v : Value} {bs : List Int} (h : BytesR w v bs) (r : List Int) (nm x : Nat) : ∀ y ∈ maskedD bs r nm x, 0 ≤ y ∧ y ≤ 255 := by
  intro y hy
  unfold maskedD at hy
  obtain ⟨i, -, rfl⟩ := List.mem_map.1 hy
  have := xor_lt (byteAt_of h i).1 (noiseD_lt r nm i x)
  unfold maskB
  omega

set_option maxRecDepth 100000 in
/-- tables.masked -/
theorem masked_74 (w : World) (k : Nat) (vb vr : Value) (bs r : List Int) (nm x : Nat) (hT : TabR w k) (hb : BytesR w vb bs) (hr : BytesR w vr r) (hbl : bs.length ≤ 4096) (hnm : nm ≤ 255) (hx : x < 256) :
    Calls Tryz.prog 74 #[.pointer (some ⟨k, 0, none⟩), vb, vr, .int .i64 ((nm : Int) + 1), .int .u8 x] w fun e w' => ∃ v', e = .returned (.agg #[.int .u8 x, v']) ∧ w'.ownsRow w.heap.size 5 1 v' bs.length ((maskedD bs r nm x).map (Value.int .u8)) ∧ Below w.heap.size w w' := by
  have HBY := Lib.hid (byteAt_of hb)
  have HNO : Hid (∀ wx, Below w.heap.size w wx → ∀ i : Nat, i ≤ 4096 → Calls Tryz.prog 105 #[.pointer (some ⟨k, 0, none⟩), vr, .int .i64 ((nm : Int) + 1), .int .i64 (i : Int), .int .u8 x] wx fun e w' => e = .returned (.int .u8 (noiseD r nm i x)) ∧ Below wx.heap.size wx w') := fun wx hbe i hi => noise_105 wx k vr r nm i x (blk_later hT hbe) (hr.later hbe) hnm hi hx
  have HMX := Lib.hid (maskedD_bytes hb r nm x)
  have HFU := Lib.hid (mixRow_full bs r nm x)
  have HML := Lib.hid (maskedD_length bs r nm x)
  have HNL := Lib.hid (fun i => noiseD_lt r nm i x)
  have HMB : Hid (∀ i, maskB bs r nm x i = byteAt bs i ^^^ noiseD r nm i x) := fun i => rfl
  obtain ⟨⟨hlen, ao, cap, rfl, hle, hm, hcell⟩, -⟩ := hb
  obtain ⟨n, hN⟩ : ∃ n, n = bs.length := ⟨_, rfl⟩
  rw [← hN] at hlen hle hcell HFU hbl ⊢
  have HN := Lib.hid hN; clear hN
  have HC := Lib.hid hcell; clear hcell hlen hr hT
  have HHM := Lib.hid hm; clear hm
  obtain ⟨i0, HI⟩ := info5
  obtain ⟨W, hrun, hown, hgr⟩ := run_make_full (P := Tryz.prog) (w.alloc (.cells #[.int .u8 0, .slice none 0 0] 81)) (w.heap.size) 28 5 i0 (.int .u8 0) 1 und28 HI.1 HI.2.1 HI.2.2.1 .i64 .i64 n (by rw [HI.2.2.2]; omega) (by unfold maxLen; omega) (by simp)
  have bW : Below (w.alloc (.cells #[.int .u8 0, .slice none 0 0] 81)).heap.size (w.alloc (.cells #[.int .u8 0, .slice none 0 0] 81)) W := ⟨hgr.os, hgr.tape, hgr.output, hgr.size, fun k hk => hgr.block k hk (by simp)⟩
  have kW := blk_later (heap_alloc_new w (.cells #[.int .u8 0, .slice none 0 0] 81)) bW
  have BW : Below w.heap.size w W := ((Below.refl _ _).alloc (Nat.le_refl _) _).trans (bW.mono (by simp))
  rw [show (w.alloc (.cells #[.int .u8 0, .slice none 0 0] 81)).heap.size = w.heap.size + 1 by simp] at hrun hown
  rw [show Value.cells (.int .u8 0) = #[.int .u8 0] from rfl, toList_madeCells_one, Nat.mul_one, ← mixRow_zero (maskB bs r nm x)] at hown
  have HOW := Lib.hid hown
  have HBW := Lib.hid BW
  have HKW := Lib.hid kW
  clear hown hgr bW kW BW HI
  go_enter Tryz.func74, Tryz.ntmps74
  go_wp2
  go_loopw [19] (fun c wr => ∃ j : Nat, j ≤ n ∧ c = .int .i64 j ∧ Hid (Below w.heap.size w wr) ∧ Hid (wr.ownsRow w.heap.size 5 1 (.slice (some ⟨w.heap.size + 1, 0, none⟩) n n) n (mixRow (maskB bs r nm x) n j)) ∧ Hid (wr.heap[w.heap.size]? = some (.cells #[.int .u8 0, .slice none 0 0] 81 (0, 0)))) (fun c _ => n - (intOf c).toNat)
  case atStart => exact ⟨0, Nat.zero_le _, rfl, HBW, HOW, HKW⟩
  case round =>
    clear HBW HOW HKW hrun
    obtain ⟨j, hj, rfl, HB, HO, HK⟩ := hrel
    by_cases hlt : j < n
    · obtain ⟨b, off, rfl, hbb, hcells⟩ := HC.out (by omega)
      obtain ⟨hc1, hc2⟩ := HBY.out j
      have hc2 := hc2 (by rw [← HN.out]; exact hlt)
      have h1 := hcells j (by omega)
      rw [List.getElem?_map, List.getElem?_eq_getElem (by rw [← HN.out]; exact hlt), hc2, ← HB.out.cell (p := ⟨b, off + j, none⟩) hbb] at h1
      simp only [Option.map_some] at h1
      have CN := Lib.hid (HNO.out wr HB.out j (by omega))
      have hnl := HNL.out j
      have hxor := xor_u8 hc1 hnl
      rw [← HMB.out j] at hxor
      have KEY : Hid (∀ w', Below wr.heap.size wr w' → (∃ u, w'.cell? ⟨w.heap.size + 1, j, none⟩ = some u) ∧ w'.frozen? ⟨w.heap.size + 1, j, none⟩ = false ∧
          Hid (Below w.heap.size w (w'.setCell ⟨w.heap.size + 1, j, none⟩ (.int .u8 (maskB bs r nm x j)))) ∧
          Hid ((w'.setCell ⟨w.heap.size + 1, j, none⟩ (.int .u8 (maskB bs r nm x j))).ownsRow w.heap.size 5 1 (.slice (some ⟨w.heap.size + 1, 0, none⟩) n n) n (mixRow (maskB bs r nm x) n (j + 1))) ∧
          Hid ((w'.setCell ⟨w.heap.size + 1, j, none⟩ (.int .u8 (maskB bs r nm x j))).heap[w.heap.size]? = some (.cells #[.int .u8 0, .slice none 0 0] 81 (0, 0)))) := fun w' hb => by
        have ho := owns_later HO.out hb
        have hs := ho.stored j (.int .u8 (maskB bs r nm x j))
        rw [mixRow_step _ _ _ hlt] at hs
        refine ⟨⟨(mixRow (maskB bs r nm x) n j)[j]'(by rw [mixRow_length]; exact hlt), by rw [ho.cellAt j (by omega), List.getElem?_eq_getElem]⟩, ho.frozenAt j, Lib.hid ((HB.out.trans (hb.mono HB.out.size)).setCell (by simp) _), Lib.hid hs.1, Lib.hid ?_⟩
        exact (Below.heap_setCell _ _ _ _ (by simp)).trans (blk_later HK.out hb)
      generalize maskB bs r nm x j = mb at *
      generalize noiseD r nm j x = nz at *
      generalize byteAt bs j = c at *
      clear hcells hc2
      go_wp2_with (go_at_call 105; refine CN.out.mono ?_; rintro e w' ⟨rfl, hB'⟩; obtain ⟨⟨u, q1⟩, q2, q3, q4, q5⟩ := KEY.out w' hB')
      go_roundw
      case rel => exact ⟨j + 1, by omega, by go_num, q3, q4, q5⟩
      case measure => simp [intOf] <;> omega
    · obtain rfl : j = n := by omega
      have FIN : Hid (∀ w' : World, w'.ownsRow w.heap.size 5 1 (.slice (some ⟨w.heap.size + 1, 0, none⟩) j j) j (mixRow (maskB bs r nm x) j j) → w'.ownsRow w.heap.size 5 1 (.slice (some ⟨w.heap.size + 1, 0, none⟩) j j) j ((maskedD bs r nm x).map (Value.int .u8))) := fun w' ho => by
        rw [HFU.out] at ho
        exact ho
      obtain ⟨q1, q2, q3⟩ := box_walk HK.out
      have R : Hid (((wr.setCell ⟨w.heap.size, 0, none⟩ (.int .u8 x)).setCell ⟨w.heap.size, 1, none⟩ (.slice (some ⟨w.heap.size + 1, 0, none⟩) j j)).ownsRow w.heap.size 5 1 (.slice (some ⟨w.heap.size + 1, 0, none⟩) j j) j ((maskedD bs r nm x).map (Value.int .u8))) := Lib.hid (FIN.out _ (by
        have hne := owns_ne_type HO.out HK.out (by decide)
        exact ownsRow_setCell_other (ownsRow_setCell_other HO.out hne _) hne _))
      go_wp2
      refine bodyPost_ret (v := .agg #[.int .u8 x, .slice (some ⟨w.heap.size + 1, 0, none⟩) j j]) (by simp [results, Tryz.results74, go_sem, q1]) rfl ⟨_, rfl, R.out, ?_⟩
      exact (HB.out.setCell (Nat.le_refl _) _).setCell (Nat.le_refl _) _
/-! ### Split -/
theorem und71 : Tryz.prog.underlying 71 = some (.slice 81) := by kernel_rfl
theorem info81 : ∃ i, Tryz.prog.info? 81 = some i ∧ i.zero = some (.agg #[.int .u8 0, .slice none 0 0]) ∧ i.size = 2 ∧ i.bytes = 32 := by
  have h : (Tryz.prog.info? 81).map (fun i => (i.zero, i.size, i.bytes)) = some (some (.agg #[.int .u8 0, .slice none 0 0]), 2, 32) := by kernel_rfl
  cases hh : Tryz.prog.info? 81 with
  | none => rw [hh] at h; cases h
  | some i => rw [hh] at h; simp at h; exact ⟨i, rfl, h.1, h.2.1, h.2.2⟩
/-- The cells of shares. -/
def shareCells (l : List (Int × Value)) : List Value := l.flatMap fun p => [.int .u8 p.1, p.2]
theorem shareCells_cons (a : Int × Value) (l : List (Int × Value)) : shareCells (a :: l) = .int .u8 a.1 :: a.2 :: shareCells l := by simp [shareCells]
theorem shareCells_at (l : List (Int × Value)) : ∀ (k : Nat) (h : k < l.length), (shareCells l)[k * 2]? = some (.int .u8 (l[k]).1) ∧ (shareCells l)[k * 2 + 1]? = some (l[k]).2 := by
  induction l with
  | nil => intro k h; simp at h
  | cons a l ih =>
    intro k h
    cases k with
    | zero => simp [shareCells]
    | succ k =>
      have := ih k (by simpa using h)
      rw [shareCells_cons, show (k + 1) * 2 = k * 2 + 1 + 1 by omega]
      simpa using this
theorem shareCells_set (l : List (Int × Value)) : ∀ (i : Nat) (q : Int × Value), i < l.length → ((shareCells l).set (i * 2) (.int .u8 q.1)).set (i * 2 + 1) q.2 = shareCells (l.set i q) := by
  induction l with
  | nil => intro i q h; simp at h
  | cons a l ih =>
    intro i q h
    cases i with
    | zero => simp [shareCells_cons]
    | succ i =>
      have := ih i q (by simpa using h)
      rw [shareCells_cons, show (i + 1) * 2 = i * 2 + 1 + 1 by omega]
      simp only [List.set_cons_succ, shareCells_cons]
      rw [this]
theorem shareCells_length (l : List (Int × Value)) : (shareCells l).length = l.length * 2 := by
  induction l with
  | nil => rfl
  | cons a l ih => rw [shareCells_cons]; simp only [List.length_cons, ih]; omega
theorem zero81 (n : Nat) : (madeCells #[.int .u8 0, .slice none 0 0] (n * 2)).toList = shareCells (List.replicate n (0, .slice none 0 0)) := by
  have hl : (shareCells (List.replicate n (0, .slice none 0 0))).length = n * 2 := by rw [shareCells_length]; simp
  apply List.ext_getElem
  · rw [hl]; simp [size_madeCells]
  · intro j h1 h2
    rw [hl] at h2
    have hj : j / 2 < (List.replicate n ((0 : Int), Value.slice none 0 0)).length := by simp; omega
    have hat := shareCells_at _ (j / 2) hj
    simp only [List.getElem_replicate] at hat
    apply Option.some.inj
    rw [← List.getElem?_eq_getElem, ← List.getElem?_eq_getElem]
    rcases Nat.mod_two_eq_zero_or_one j with hm | hm
    · have e : j = j / 2 * 2 := by omega
      have h3 := hat.1
      rw [← e] at h3
      rw [h3]
      simp [madeCells, h2, hm]
    · have e : j = j / 2 * 2 + 1 := by omega
      have h3 := hat.2
      rw [← e] at h3
      rw [h3]
      simp [madeCells, h2, hm]

/-- The loop of Split: j shares made. -/
structure SplitInv (w : World) (k K : Nat) (bs r : List Int) (nm n j : Nat) (qs : List (Int × Value)) (wr : World) : Prop where
  below : Below w.heap.size w wr
  tab : TabR wr k
  own : wr.ownsRow w.heap.size 81 2 (.slice (some ⟨K, 0, none⟩) n n) n (shareCells qs)
  len : qs.length = n
  made : ∀ i (h : i < qs.length), i < j → qs[i].1 = ((i + 1 : Nat) : Int) ∧ wr.ownsRow w.heap.size 5 1 qs[i].2 bs.length ((maskedD bs r nm (i + 1)).map (Value.int .u8))
theorem SplitInv.step {w wr w' : World} {k K : Nat} {bs r : List Int} {nm n j : Nat} {qs : List (Int × Value)} {v' : Value} (h : SplitInv w k K bs r nm n j qs wr) (hj : j < n) (hb : Below wr.heap.size wr w')
    (ho : w'.ownsRow wr.heap.size 5 1 v' bs.length ((maskedD bs r nm (j + 1)).map (Value.int .u8))) :
    (∃ u, w'.cell? ⟨K, j * 2, none⟩ = some u) ∧ (∃ u, w'.cell? ⟨K, j * 2 + 1, none⟩ = some u) ∧ (∀ i, w'.frozen? ⟨K, i, none⟩ = false) ∧
    ∃ qs', SplitInv w k K bs r nm n (j + 1) qs' ((w'.setCell ⟨K, j * 2, none⟩ (.int .u8 ((j + 1 : Nat) : Int))).setCell ⟨K, j * 2 + 1, none⟩ v') := by
  have o1 := owns_later h.own hb
  have hjq : j < qs.length := by rw [h.len]; exact hj
  have hat := shareCells_at qs j hjq
  have hl := h.len
  have s1 := o1.stored (j * 2) (.int .u8 ((j + 1 : Nat) : Int))
  have s2 := s1.1.stored (j * 2 + 1) v'
  have hs := s2.1
  rw [shareCells_set qs j (((j + 1 : Nat) : Int), v') hjq] at hs
  have hK : w.heap.size ≤ K := (h.own.lt K rfl).1
  obtain ⟨cur, hcur⟩ : ∃ cur, w'.heap[K]? = some (.cells cur 81 (0, 0)) := by
    rcases o1.2 with ⟨h0, _⟩ | ⟨g', cap', cur, hv, _, hh, _⟩
    · simp at h0
    · simp only [Value.slice.injEq, Option.some.injEq, Addr.mk.injEq, and_true, true_and] at hv
      obtain ⟨rfl, -⟩ := hv
      exact ⟨_, hh⟩
  have keep : ∀ {v : Value} {base : Nat} {m : Nat} {xs : List Value}, w'.ownsRow base 5 1 v m xs → ((w'.setCell ⟨K, j * 2, none⟩ (.int .u8 ((j + 1 : Nat) : Int))).setCell ⟨K, j * 2 + 1, none⟩ v').ownsRow base 5 1 v m xs := fun ho => by
    have hne := owns_ne_type ho hcur (by decide)
    exact ownsRow_setCell_other (ownsRow_setCell_other ho hne _) hne _
  refine ⟨⟨_, (o1.cellAt _ (by omega)).trans hat.1⟩, ⟨_, (o1.cellAt _ (by omega)).trans hat.2⟩, fun i => o1.frozenAt i, qs.set j (((j + 1 : Nat) : Int), v'), ?_⟩
  have htab : TabR w' k := blk_later h.tab hb
  have hkK : k ≠ K := by
    rintro rfl
    unfold TabR at htab
    rw [hcur] at htab
    simp at htab
  refine ⟨((below_step h.below hb).setCell hK _).setCell hK _, (Below.heap_setCell _ _ _ _ hkK).trans ((Below.heap_setCell _ _ _ _ hkK).trans htab), hs, by simpa using h.len, ?_⟩
  intro i hi hij
  have hi' : i < qs.length := by simpa using hi
  by_cases hji : j = i
  · subst hji
    simp only [List.getElem_set_self]
    exact ⟨trivial, keep (owns_base ho h.below.size)⟩
  · rw [List.getElem_set_ne hji]
    have := h.made i hi' (by omega)
    exact ⟨this.1, keep (owns_later this.2 hb)⟩
/-- What Split hands back. -/
def SplitRet (w : World) (bs r : List Int) (nm n : Nat) (e : Ending) (w' : World) : Prop :=
  ∃ k K qs, e = .returned (.tuple #[.slice (some ⟨K, 0, none⟩) n n, .int .i64 0]) ∧ SplitInv w k K bs r nm n n qs w'

set_option maxRecDepth 100000 in
set_option maxHeartbeats 1000000 in
theorem split_44 (w : World) (vb vr : Value) (bs r : List Int) (nm n : Nat) (hb : BytesR w vb bs) (hr : BytesR w vr r) (hbl : bs.length ≤ 4096) (hnm : nm + 1 ≤ n) (hn : n ≤ 255) :
    Calls Tryz.prog 44 #[vb, vr, .agg #[.int .i64 ((nm : Int) + 1), .int .i64 n]] w (SplitRet w bs r nm n) := by
  have HMA : Hid (∀ wx, Below w.heap.size w wx → ∀ k x : Nat, TabR wx k → x < 256 → Calls Tryz.prog 74 #[.pointer (some ⟨k, 0, none⟩), vb, vr, .int .i64 ((nm : Int) + 1), .int .u8 x] wx fun e w' => ∃ v', e = .returned (.agg #[.int .u8 x, v']) ∧ w'.ownsRow wx.heap.size 5 1 v' bs.length ((maskedD bs r nm x).map (Value.int .u8)) ∧ Below wx.heap.size wx w') :=
    fun wx hbe k x ht hx => masked_74 wx k vb vr bs r nm x ht (hb.later hbe) (hr.later hbe) hbl (by omega) hx
  clear hb hr hbl
  obtain ⟨i0, HI⟩ := info81
  have HI := Lib.hid HI
  go_enter Tryz.func44, Tryz.ntmps44
  go_upto_region 1 with fail
  go_quiet (fail)
  have B0 : Below w.heap.size w ((w.alloc (.cells #[.int .i64 ((nm : Int) + 1), .int .i64 n] 100)).drewN nq) := ⟨rfl, rfl, rfl, by simp, fun k hk => Below.heap_alloc _ _ _ hk⟩
  generalize (w.alloc (.cells #[.int .i64 ((nm : Int) + 1), .int .i64 n] 100)).drewN nq = W0 at *
  go_upto_region 5 with (go_at_call 73; refine (tab_73 _).mono ?_; rintro e w1 ⟨rfl, b1, t1⟩)
  have hW1 : TabR w1 W0.heap.size := t1
  obtain ⟨w2, hrun, hown, hgr⟩ := run_make_full (P := Tryz.prog) w1 w.heap.size 71 81 i0 (.agg #[.int .u8 0, .slice none 0 0]) 2 und71 HI.out.1 HI.out.2.1 HI.out.2.2.1 .i64 .i64 n (by rw [HI.out.2.2.2]; omega) (by unfold maxLen; omega) (Nat.le_trans B0.size b1.size)
  rw [show Value.cells (.agg #[.int .u8 0, .slice none 0 0]) = #[.int .u8 0, .slice none 0 0] from rfl, zero81] at hown
  have b2 : Below w1.heap.size w1 w2 := ⟨hgr.os, hgr.tape, hgr.output, hgr.size, fun k hk => hgr.block k hk (by simp)⟩
  have I0 : Hid (SplitInv w W0.heap.size w1.heap.size bs r nm n 0 (List.replicate n (0, .slice none 0 0)) w2) := ⟨below_step (below_step B0 b1) b2, blk_later hW1 b2, hown, by simp, fun i h hi => absurd hi (by omega)⟩
  clear hown hgr b2 b1 t1 hW1 B0 HI
  generalize W0.heap.size = k at *
  generalize w1.heap.size = K at *
  go_wp2
  go_loopw [33, 12] (fun c _ wr => ∃ j qs, j ≤ n ∧ c = .int .i64 ((j : Nat) : Int) ∧ Hid (SplitInv w k K bs r nm n j qs wr)) (fun c _ _ => n - (intOf c).toNat)
  case atStart => exact ⟨0, _, Nat.zero_le _, rfl, I0⟩
  case round =>
    clear I0 hrun
    obtain ⟨j, qs, hj, rfl, HI⟩ := hrel
    by_cases hlt : j < n
    · have CM := Lib.hid (HMA.out wr HI.out.below k (j + 1) HI.out.tab (by omega))
      have KEY : Hid (∀ w' v', Below wr.heap.size wr w' → w'.ownsRow wr.heap.size 5 1 v' bs.length ((maskedD bs r nm (j + 1)).map (Value.int .u8)) → _) := fun w' v' hb ho => HI.out.step hlt hb ho
      go_wp2_with (go_at_call 74; refine CM.out.mono ?_; rintro e w' ⟨v', rfl, ho', hB'⟩; obtain ⟨⟨u1, q1⟩, ⟨u2, q2⟩, q3, qs', q4⟩ := KEY.out w' v' hB' ho'; obtain ⟨av, kv, rfl⟩ := slice_of_owns ho')
      go_roundw
      case rel => exact ⟨j + 1, qs', by omega, by go_num, q4⟩
      case measure => simp [intOf] <;> omega
    · obtain rfl : j = n := by omega
      go_wp2
      go_ret2
      exact ⟨k, K, qs, rfl, HI.out⟩
end Go.Proofs.YtpbgipdkaaooeaaGreatDoor
