/- share.interpolate. -/
import Derived.Test.YtpbgipdkaaooeaaGreatDoorV
import Derived.Deep.RegionWith
import Derived.Deep.DeepCutAuto
open Go Go.Proofs Go.RowKit
namespace Go.Proofs.YtpbgipdkaaooeaaGreatDoor
set_option linter.unusedSimpArgs false
set_option linter.unusedVariables false
attribute [local go_sem ↓] Go.wp_at_zero Go.wp_at_succ

/-- Shares: points and bytes. -/
abbrev ShareL := List (Nat × List Int)
inductive SharesAre (w : World) : List (Int × Value) → ShareL → Prop
  | nil : SharesAre w [] []
  | cons {p x ps l} : p.1 = ((x.1 : Nat) : Int) → x.1 < 256 → BytesR w p.2 x.2 → SharesAre w ps l → SharesAre w (p :: ps) (x :: l)
theorem SharesAre.length {w : World} {ps : List (Int × Value)} {l : ShareL} (h : SharesAre w ps l) : ps.length = l.length := by
  induction h with
  | nil => rfl
  | cons _ _ _ _ ih => simp [ih]
theorem SharesAre.later {w w' : World} {ps : List (Int × Value)} {l : ShareL} (h : SharesAre w ps l) (hb : Below w.heap.size w w') : SharesAre w' ps l := by
  induction h with
  | nil => exact .nil
  | cons h1 h2 h3 _ ih => exact .cons h1 h2 (h3.later hb) ih
theorem SharesAre.at {w : World} {ps : List (Int × Value)} {l : ShareL} (h : SharesAre w ps l) : ∀ (i : Nat) (h1 : i < ps.length) (h2 : i < l.length), ps[i].1 = ((l[i].1 : Nat) : Int) ∧ l[i].1 < 256 ∧ BytesR w ps[i].2 l[i].2 := by
  induction h with
  | nil => intro i h1; simp at h1
  | cons h1 h2 h3 _ ih =>
    intro i hi hj
    cases i with
    | zero => exact ⟨h1, h2, h3⟩
    | succ i => exact ih i (by simpa using hi) (by simpa using hj)

def ptD (l : ShareL) (j : Nat) : Nat := (l.getD j (0, [])).1
def bsD (l : ShareL) (j : Nat) : List Int := (l.getD j (0, [])).2
/-- The weight of share k at the point x, after j factors. -/
def wgtD (l : ShareL) (x k : Nat) : Nat → Nat
  | 0 => 1
  | j + 1 => if j = k then wgtD l x k j else mulD (wgtD l x k j) (divD (x ^^^ ptD l j) (ptD l k ^^^ ptD l j))
/-- Byte i of the value at x, after k shares. -/
def accD (l : ShareL) (x i : Nat) : Nat → Nat
  | 0 => 0
  | k + 1 => accD l x i k ^^^ mulD (wgtD l x k l.length) (byteAt (bsD l k) i)
def interD (l : ShareL) (x n0 : Nat) : List Int := (List.range n0).map fun i => ((accD l x i l.length : Nat) : Int)
theorem wgtD_lt (l : ShareL) (x k : Nat) : ∀ j, wgtD l x k j < 256
  | 0 => by unfold wgtD; omega
  | j + 1 => by
    unfold wgtD
    split
    · exact wgtD_lt l x k j
    · exact mulD_lt _ _
theorem accD_lt (l : ShareL) (x i : Nat) : ∀ k, accD l x i k < 256
  | 0 => by unfold accD; omega
  | k + 1 => by unfold accD; exact xor_lt (accD_lt l x i k) (mulD_lt _ _)
/-- The row during round k: the first i bytes are those of round k + 1. -/
def rowAt (l : ShareL) (x n0 k i : Nat) : List Value := (List.range n0).map fun c => .int .u8 ((accD l x c (if c < i then k + 1 else k) : Nat) : Int)
theorem rowAt_length (l : ShareL) (x n0 k i : Nat) : (rowAt l x n0 k i).length = n0 := by simp [rowAt]
theorem rowAt_at (l : ShareL) (x n0 k i c : Nat) (h : c < n0) : (rowAt l x n0 k i)[c]? = some (.int .u8 ((accD l x c (if c < i then k + 1 else k) : Nat) : Int)) := by
  unfold rowAt
  rw [List.getElem?_map, List.getElem?_range h]; rfl
theorem rowAt_step (l : ShareL) (x n0 k i : Nat) (_h : i < n0) : (rowAt l x n0 k i).set i (.int .u8 ((accD l x i (k + 1) : Nat) : Int)) = rowAt l x n0 k (i + 1) := by
  unfold rowAt
  apply List.ext_getElem
  · simp
  · intro c h1 h2
    rw [List.getElem_set]
    simp only [List.getElem_map, List.getElem_range]
    by_cases hic : i = c
    · subst hic; simp
    · rw [if_neg hic]
      have : (c < i) ↔ (c < i + 1) := by omega
      simp only [this]
theorem rowAt_next (l : ShareL) (x n0 k : Nat) : rowAt l x n0 k n0 = rowAt l x n0 (k + 1) 0 := by
  unfold rowAt
  apply List.ext_getElem
  · simp
  · intro c h1 h2
    simp only [List.length_map, List.length_range] at h1
    simp [h1]
theorem rowAt_zero (l : ShareL) (x n0 : Nat) : rowAt l x n0 0 0 = List.replicate n0 (.int .u8 0) := by
  unfold rowAt
  apply List.ext_getElem
  · simp
  · intro c h1 h2; simp [accD]
theorem rowAt_full (l : ShareL) (x n0 : Nat) : rowAt l x n0 l.length 0 = (interD l x n0).map (Value.int .u8) := by
  unfold rowAt interD
  apply List.ext_getElem
  · simp
  · intro c h1 h2; simp

/-- What interpolate hands back. -/
def InterRet (w : World) (l : ShareL) (x n0 : Nat) (e : Ending) (w' : World) : Prop := ∃ v', e = .returned v' ∧ w'.ownsRow w.heap.size 5 1 v' n0 ((interD l x n0).map (Value.int .u8)) ∧ Below w.heap.size w w'

set_option maxRecDepth 100000 in
set_option maxHeartbeats 1000000 in
/-- share.interpolate -/
theorem inter_87 (w : World) (k : Nat) (vl : Value) (ps : List (Int × Value)) (l : ShareL) (x n0 : Nat) (hT : TabR w k) (hl : RowR w vl 2 (shareCells ps) ps.length) (hs : SharesAre w ps l) (hx : x < 256) (hn : 0 < ps.length) (hn2 : ps.length ≤ 4096) (hb : ∀ j (h : j < l.length), l[j].2.length = n0) (h0 : n0 ≤ 4096) :
    Calls Tryz.prog 87 #[vl, .int .u8 x, .func (.func 88) #[.pointer (some ⟨k, 0, none⟩)] #[], .func (.func 89) #[.pointer (some ⟨k, 0, none⟩)] #[]] w (InterRet w l x n0) := by
  obtain ⟨hlen, ao, cap, rfl, hle, hm, hcell⟩ := hl
  obtain ⟨b, off, rfl, hbb, hcells⟩ := hcell hn
  have hpl := hs.length
  have HAT : Hid (∀ j, j < ps.length → ∃ av kv, ∀ wx, Below w.heap.size w wx → wx.cell? ⟨b, off + j * 2, none⟩ = some (.int .u8 (ptD l j)) ∧ wx.cell? ⟨b, off + j * 2 + 1, none⟩ = some (.slice av n0 kv) ∧ ptD l j < 256 ∧ BytesR wx (.slice av n0 kv) (bsD l j) ∧ (bsD l j).length = n0) := fun j hj => by
    have hjl : j < l.length := by omega
    have hat := shareCells_at ps j hj
    obtain ⟨e1, e2, e3⟩ := hs.at j hj hjl
    have hp : ptD l j = l[j].1 := by unfold ptD; rw [List.getD_eq_getElem?_getD, List.getElem?_eq_getElem hjl]; rfl
    have hq : bsD l j = l[j].2 := by unfold bsD; rw [List.getD_eq_getElem?_getD, List.getElem?_eq_getElem hjl]; rfl
    obtain ⟨-, av, kv, hv, -⟩ := id e3.1
    rw [hb j hjl] at hv
    refine ⟨av, kv, fun wx hbe => ?_⟩
    rw [hp, hq]
    have c1 := hcells (j * 2) (by omega)
    have c2 := hcells (j * 2 + 1) (by omega)
    rw [hat.1, e1] at c1
    rw [hat.2, hv, ← Nat.add_assoc] at c2
    rw [hv] at e3
    exact ⟨by rw [hbe.cell (p := ⟨b, off + j * 2, none⟩) hbb]; exact c1, by rw [hbe.cell (p := ⟨b, off + j * 2 + 1, none⟩) hbb]; exact c2, e2, e3.later hbe, hb j hjl⟩
  obtain ⟨n, hN⟩ : ∃ n, n = ps.length := ⟨_, rfl⟩
  rw [← hN] at HAT hn hn2 hle hpl ⊢
  clear hlen hcells hcell hs hb hN
  have HPL := Lib.hid hpl; clear hpl
  obtain ⟨i0, HI⟩ := info5
  obtain ⟨W, hrun, hown, hgr⟩ := run_make_full (P := Tryz.prog) w w.heap.size 28 5 i0 (.int .u8 0) 1 und28 HI.1 HI.2.1 HI.2.2.1 .i64 .i64 n0 (by rw [HI.2.2.2]; omega) (by unfold maxLen; omega) (Nat.le_refl _)
  have BW : Hid (Below w.heap.size w W) := ⟨hgr.os, hgr.tape, hgr.output, hgr.size, fun k hk => hgr.block k hk (by simp)⟩
  rw [show Value.cells (.int .u8 0) = #[.int .u8 0] from rfl, toList_madeCells_one, Nat.mul_one, ← rowAt_zero l x n0] at hown
  have HOW := Lib.hid hown
  clear hown hgr HI hm
  obtain ⟨av0, kv0, H0⟩ := HAT.out 0 hn
  obtain ⟨-, z2, -, -, -⟩ := H0 w (Below.refl _ _)
  clear H0
  simp only [Nat.zero_mul, Nat.add_zero] at z2
  have hTH := Lib.hid hT
  clear hT
  go_enter Tryz.func87, Tryz.ntmps87
  go_wp2
  go_loopw [25] (fun c wr => ∃ q : Nat, q ≤ n ∧ c = .int .i64 ((q : Nat) : Int) ∧ Hid (Below w.heap.size w wr) ∧ Hid (wr.ownsRow w.heap.size 5 1 (.slice (some ⟨w.heap.size, 0, none⟩) n0 n0) n0 (rowAt l x n0 q 0))) (fun c _ => n - (intOf c).toNat)
  case atStart => exact ⟨0, Nat.zero_le _, rfl, BW, HOW⟩
  case round =>
    clear BW HOW hrun z2
    obtain ⟨q, hq, rfl, HB, HO⟩ := hrel
    by_cases hlt : q < n
    · obtain ⟨av, kv, HQ⟩ := HAT.out q hlt
      have HQ := Lib.hid HQ
      obtain ⟨c1, c2, hpx, -, -⟩ := HQ.out wr HB.out
      have W1B : Hid (Below w.heap.size w (wr.alloc (.cells #[.int .u8 (ptD l q), .slice av n0 kv] 81))) := HB.out.alloc HB.out.size _
      have W1K : Hid ((wr.alloc (.cells #[.int .u8 (ptD l q), .slice av n0 kv] 81)).heap[wr.heap.size]? = some (.cells #[.int .u8 (ptD l q), .slice av n0 kv] 81 (0, 0))) := heap_alloc_new _ _
      have W1O : Hid ((wr.alloc (.cells #[.int .u8 (ptD l q), .slice av n0 kv] 81)).ownsRow w.heap.size 5 1 (.slice (some ⟨w.heap.size, 0, none⟩) n0 n0) n0 (rowAt l x n0 q 0)) := owns_later HO.out ((Below.refl _ _).alloc (Nat.le_refl _) _)
      have hbr : b < wr.heap.size := Nat.lt_of_lt_of_le hbb HB.out.size
      go_upto_region 5 with fail
      clear c1 c2
      generalize hW1 : wr.alloc (.cells #[.int .u8 (ptD l q), .slice av n0 kv] 81) = W1 at *
      clear hW1 HO HB
      generalize wr.heap.size = k11 at *
      go_wp2
      go_loopw [32, 12] (fun c g wr' => ∃ j : Nat, j ≤ n ∧ c = .int .i64 ((j : Nat) : Int) ∧ g = .int .u8 ((wgtD l x q j : Nat) : Int) ∧ Hid (Below W1.heap.size W1 wr')) (fun c _ _ => n - (intOf c).toNat)
      case atStart => exact ⟨0, Nat.zero_le _, rfl, rfl, Below.refl _ _⟩
      case round =>
        obtain ⟨j, hj, rfl, rfl, HB2⟩ := hrel
        have HBW2 : Hid (Below w.heap.size w wr) := below_step W1B.out HB2.out
        have hbr2 : b < wr.heap.size := Nat.lt_of_lt_of_le hbb HBW2.out.size
        by_cases hlt2 : j < n
        · obtain ⟨avj, kvj, HJ⟩ := HAT.out j hlt2
          have HJ := Lib.hid HJ
          obtain ⟨c1, c2, hpj, -, -⟩ := HJ.out wr HBW2.out
          have hbj := blk_later W1K.out HB2.out
          obtain ⟨d1, d2, d3⟩ := box_walk hbj
          have hw1 := wgtD_lt l x q j
          by_cases hjq : j = q
          · have HWG : Hid (wgtD l x q (j + 1) = wgtD l x q j) := Lib.hid (by rw [wgtD, if_pos hjq])
            generalize wgtD l x q j = wg at *
            generalize ptD l j = pj at *
            generalize ptD l q = pq at *
            subst hjq
            go_wp2
            go_roundw
            case rel => exact ⟨j + 1, by omega, by go_num, by rw [HWG.out], HB2.out.trans (((Below.refl _ _).alloc (Nat.le_refl _) _).mono HB2.out.size)⟩
            case measure => simp [intOf] <;> omega
          · have hjq' : ¬ ((j : Int) = (q : Int)) := by omega
            have hx1 := xor_u8 hx hpj
            have hx2 := xor_u8 hpx hpj
            have hl1 := xor_lt hx hpj
            have hl2 := xor_lt hpx hpj
            have HWG : Hid (wgtD l x q (j + 1) = mulD (wgtD l x q j) (divD (x ^^^ ptD l j) (ptD l q ^^^ ptD l j))) := Lib.hid (by rw [wgtD, if_neg hjq])
            have hdl := divD_lt (x ^^^ ptD l j) (ptD l q ^^^ ptD l j)
            have hB14 : Below wr.heap.size wr (wr.alloc (.cells #[.int .u8 (ptD l j), .slice avj n0 kvj] 81)) := (Below.refl _ _).alloc (Nat.le_refl _) _
            have hT14 : TabR (wr.alloc (.cells #[.int .u8 (ptD l j), .slice avj n0 kvj] 81)) k := blk_later (blk_later hTH.out HBW2.out) hB14
            have CD := Lib.hid (div_89 _ k _ _ hT14 hl1 hl2)
            have CM : Hid (∀ wx, Below (wr.alloc (.cells #[.int .u8 (ptD l j), .slice avj n0 kvj] 81)).heap.size (wr.alloc (.cells #[.int .u8 (ptD l j), .slice avj n0 kvj] 81)) wx → Calls Tryz.prog 88 #[.pointer (some ⟨k, 0, none⟩), .int .u8 (wgtD l x q j), .int .u8 (divD (x ^^^ ptD l j) (ptD l q ^^^ ptD l j))] wx fun e w' => e = .returned (.int .u8 (mulD (wgtD l x q j) (divD (x ^^^ ptD l j) (ptD l q ^^^ ptD l j)))) ∧ Below wx.heap.size wx w') := fun wx hbx => mul_88 wx k _ _ (blk_later hT14 hbx) hw1 hdl
            have HB14 := Lib.hid hB14
            clear hB14 hT14
            rw [← HWG.out] at CM
            obtain ⟨wg2, hwg2⟩ : ∃ m, wgtD l x q (j + 1) = m := ⟨_, rfl⟩
            rw [hwg2] at CM
            have HW2 := Lib.hid hwg2
            clear hwg2 HWG
            generalize divD (x ^^^ ptD l j) (ptD l q ^^^ ptD l j) = dv at *
            generalize x ^^^ ptD l j = xa at *
            generalize ptD l q ^^^ ptD l j = xb at *
            generalize wgtD l x q j = wg at *
            generalize ptD l j = pj at *
            generalize ptD l q = pq at *
            go_wp2_with (first
              | (go_at_call 89; refine CD.out.mono ?_; rintro e w2 ⟨rfl, b2⟩)
              | (go_at_call 88; refine (CM.out _ b2).mono ?_; rintro e w3 ⟨rfl, b3⟩))
            go_roundw
            case rel => exact ⟨j + 1, by omega, by go_num, by rw [HW2.out], HB2.out.trans ((below_step (below_step HB14.out b2) b3).mono HB2.out.size)⟩
            case measure => simp [intOf] <;> omega
        · obtain rfl : j = n := by omega
          obtain ⟨d1, d2, d3⟩ := box_walk (blk_later W1K.out HB2.out)
          have HO3 : Hid (wr.ownsRow w.heap.size 5 1 (.slice (some ⟨w.heap.size, 0, none⟩) n0 n0) n0 (rowAt l x n0 q 0)) := owns_later W1O.out HB2.out
          have hwg := wgtD_lt l x q j
          have HACC : Hid (∀ i, accD l x i (q + 1) = accD l x i q ^^^ mulD (wgtD l x q j) (byteAt (bsD l q) i)) := fun i => by rw [HPL.out]; exact Lib.hid rfl
          have HQB : Hid (∀ wx, Below w.heap.size w wx → ∀ i, i < n0 → ∃ bb ob, av = some ⟨bb, ob, none⟩ ∧ bb < wx.heap.size ∧ wx.cell? ⟨bb, ob + i, none⟩ = some (.int .u8 ((byteAt (bsD l q) i : Nat) : Int)) ∧ byteAt (bsD l q) i < 256) := fun wx hbx i hi => by
            obtain ⟨-, -, -, hbq, hlq⟩ := HQ.out wx hbx
            obtain ⟨e1, e2⟩ := byteAt_of hbq i
            obtain ⟨⟨-, ao, cp, hv, -, -, hc⟩, -⟩ := hbq
            simp only [Value.slice.injEq] at hv
            obtain ⟨rfl, -, rfl⟩ := hv
            obtain ⟨bb, ob, rfl, hlt, hcc⟩ := hc (by omega)
            refine ⟨bb, ob, rfl, hlt, ?_, e1⟩
            rw [hcc i (by omega), List.getElem?_map, List.getElem?_eq_getElem (by omega), e2 (by omega)]; rfl
          generalize wgtD l x q j = wg at *
          go_wp2
          clear d1 d2 d3 HB2 W1O W1K
          go_loopw [58] (fun c wr => ∃ i : Nat, i ≤ n0 ∧ c = .int .i64 ((i : Nat) : Int) ∧ Hid (Below w.heap.size w wr) ∧ Hid (wr.ownsRow w.heap.size 5 1 (.slice (some ⟨w.heap.size, 0, none⟩) n0 n0) n0 (rowAt l x n0 q i))) (fun c _ => n0 - (intOf c).toNat)
          case atStart => exact ⟨0, Nat.zero_le _, rfl, HBW2, HO3⟩
          case round =>
            clear HBW2 HO3
            obtain ⟨i, hi, rfl, HB3, HO3⟩ := hrel
            by_cases hlt3 : i < n0
            · obtain ⟨bb, ob, rfl, hbbw, hcb, hby⟩ := HQB.out wr HB3.out i hlt3
              have CM : Hid (∀ wx, Below w.heap.size w wx → Calls Tryz.prog 88 #[.pointer (some ⟨k, 0, none⟩), .int .u8 wg, .int .u8 ((byteAt (bsD l q) i : Nat) : Int)] wx fun e w' => e = .returned (.int .u8 (mulD wg (byteAt (bsD l q) i))) ∧ Below wx.heap.size wx w') := fun wx hbx => mul_88 wx k _ _ (blk_later hTH.out hbx) hwg hby
              have hac := accD_lt l x i q
              have hml := mulD_lt wg (byteAt (bsD l q) i)
              have hxor := xor_u8 hac hml
              rw [← HACC.out i] at hxor
              have KEY : Hid (∀ w', Below wr.heap.size wr w' → w'.cell? ⟨w.heap.size, i, none⟩ = some (.int .u8 ((accD l x i q : Nat) : Int)) ∧ w'.frozen? ⟨w.heap.size, i, none⟩ = false ∧ w.heap.size < w'.heap.size ∧ Hid (Below w.heap.size w (w'.setCell ⟨w.heap.size, i, none⟩ (.int .u8 ((accD l x i (q + 1) : Nat) : Int)))) ∧ Hid ((w'.setCell ⟨w.heap.size, i, none⟩ (.int .u8 ((accD l x i (q + 1) : Nat) : Int))).ownsRow w.heap.size 5 1 (.slice (some ⟨w.heap.size, 0, none⟩) n0 n0) n0 (rowAt l x n0 q (i + 1)))) := fun w' hb => by
                have ho := owns_later HO3.out hb
                have hs := ho.stored i (.int .u8 ((accD l x i (q + 1) : Nat) : Int))
                rw [rowAt_step _ _ _ _ _ hlt3] at hs
                refine ⟨?_, ho.frozenAt i, (ho.lt _ rfl).2, Lib.hid ((HB3.out.trans (hb.mono HB3.out.size)).setCell (Nat.le_refl _) _), Lib.hid hs.1⟩
                rw [ho.cellAt i (by omega), rowAt_at _ _ _ _ _ _ hlt3, if_neg (by omega)]
              obtain ⟨p1, p2, p3, -, -⟩ := KEY.out wr.drew (Below.refl _ _).drew
              have HBD := Lib.hid HB3.out.drew
              generalize mulD wg (byteAt (bsD l q) i) = ml at *
              generalize byteAt (bsD l q) i = by0 at *
              generalize accD l x i q = ac at *
              generalize accD l x i (q + 1) = ac2 at *
              go_upto_region 15 with fail
              go_region_with (go_at_call 88; refine (CM.out _ HBD.out).mono ?_; rintro e w2 ⟨rfl, b2⟩; obtain ⟨r1, r2, r3, r4, r5⟩ := KEY.out w2 (below_step (Below.refl _ _).drew b2))
              all_goals
                go_wp2_with fail
                go_roundw
                case rel => exact ⟨i + 1, by omega, by go_num, r4, r5⟩
                case measure => simp [intOf] <;> omega
            · obtain rfl : i = n0 := by omega
              go_wp2
              go_roundw
              case rel => exact ⟨q + 1, by omega, by go_num, HB3, by rw [← rowAt_next]; exact HO3⟩
              case measure => simp [intOf] <;> omega
    · obtain rfl : q = n := by omega
      have R : Hid (InterRet w l x n0 (.returned (.slice (some ⟨w.heap.size, 0, none⟩) n0 n0)) wr) := Lib.hid ⟨_, rfl, by have := HO.out; rw [HPL.out, rowAt_full] at this; exact this, HB.out⟩
      go_wp2
      go_ret
      exact R.out

end Go.Proofs.YtpbgipdkaaooeaaGreatDoor
