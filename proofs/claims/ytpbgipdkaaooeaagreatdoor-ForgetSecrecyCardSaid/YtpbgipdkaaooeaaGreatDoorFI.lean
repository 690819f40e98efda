/- R35.Fitting: the walk. -/
import Derived.Test.YtpbgipdkaaooeaaGreatDoorTH
import Derived.Test.YtpbgipdkaaooeaaGreatDoorZU
open Go Go.Proofs Go.RowKit
namespace Go.Proofs.YtpbgipdkaaooeaaGreatDoor
set_option linter.unusedSimpArgs false
set_option linter.unusedVariables false
attribute [local go_sem ↓] Go.wp_at_zero Go.wp_at_succ

def ptsLst (l : ShareL) (j : Nat) : List Int := 0 :: (l.take j).map fun s => (s.1 : Int)
def valLst (kb : List Int) (l : ShareL) (i j : Nat) : List Int := kb.getD i 0 :: (l.take j).map fun s => s.2.getD i 0
/-- Coefficient k of the polynomial for byte i. -/
def cfD (kb : List Int) (l : ShareL) (n i k : Nat) : Nat := outD (byteAt (ptsLst l l.length)) (byteAt (valLst kb l i l.length)) n n k
def fitRow (kb : List Int) (l : ShareL) (n i q : Nat) : List Int := (List.range q).map fun k => ((cfD kb l n i (k + 1) : Nat) : Int)
/-- The bytes after i of the key's. -/
def fitAt (kb : List Int) (l : ShareL) (n : Nat) : Nat → List Int
  | 0 => []
  | i + 1 => fitAt kb l n i ++ fitRow kb l n i (n - 1)
theorem fitRow_length (kb : List Int) (l : ShareL) (n i q : Nat) : (fitRow kb l n i q).length = q := by simp [fitRow]
theorem fitAt_length (kb : List Int) (l : ShareL) (n : Nat) : ∀ i, (fitAt kb l n i).length = i * (n - 1)
  | 0 => by simp [fitAt]
  | i + 1 => by rw [fitAt, List.length_append, fitAt_length kb l n i, fitRow_length, Nat.succ_mul]
theorem fitRow_succ (kb : List Int) (l : ShareL) (n i q : Nat) : fitRow kb l n i (q + 1) = fitRow kb l n i q ++ [((cfD kb l n i (q + 1) : Nat) : Int)] := by
  simp [fitRow, List.range_succ]
theorem fitAt_bytes (kb : List Int) (l : ShareL) (n : Nat) : ∀ i, ∀ x ∈ fitAt kb l n i, 0 ≤ x ∧ x ≤ 255
  | 0 => by simp [fitAt]
  | i + 1 => fun x hx => by
    rw [fitAt] at hx
    rcases List.mem_append.1 hx with hx | hx
    · exact fitAt_bytes kb l n i x hx
    · obtain ⟨k, -, rfl⟩ := List.mem_map.1 hx
      have := outD_lt (byteAt (ptsLst l l.length)) (byteAt (valLst kb l i l.length)) n n (k + 1)
      unfold cfD; omega
/-- The bytes that grow. -/
structure OutI (w : World) (kb : List Int) (go co : Nat) (L : List Int) (wr : World) : Prop where
  below : Below w.heap.size w wr
  box : wr.heap[w.heap.size]? = some (.cells (keyC2 kb) 39 (0, 0))
  own : wr.ownsRow (w.heap.size + 1) 5 1 (.slice (some ⟨go, 0, none⟩) L.length co) L.length (L.map (Value.int .u8))
theorem OutI.later {w wr w' : World} {kb L : List Int} {go co : Nat} (h : OutI w kb go co L wr) (hb : Below wr.heap.size wr w') : OutI w kb go co L w' := ⟨below_step h.below hb, blk_later h.box hb, owns_later h.own hb⟩
theorem OutI.lt {w wr : World} {kb L : List Int} {go co : Nat} (h : OutI w kb go co L wr) : w.heap.size < go ∧ go < wr.heap.size := h.own.lt go rfl
theorem OutI.grown {w wr w7 : World} {kb L : List Int} {go co g : Nat} (h : OutI w kb go co L wr) (hg : wr.grownBy w7 (some g)) (h1 : go ≠ g) (h2 : w.heap.size < g) : OutI w kb go co L w7 :=
  ⟨h.below.trans ⟨hg.os, hg.tape, hg.output, hg.size, fun k hk => hg.block k (by have := h.below.size; omega) (fun e => by injection e with e; omega)⟩,
   (hg.block _ (lt_of_blk h.box) (fun e => by injection e with e; omega)).trans h.box, h.own.kept hg (.inr (fun e => h1 (by simpa [Value.ownBlock] using e)))⟩
/-- The points and the values of one byte. -/
structure PtI (Wi : World) (gp cp gv cv : Nat) (pl vl : List Int) (wr : World) : Prop where
  pts : wr.ownsRow Wi.heap.size 5 1 (.slice (some ⟨gp, 0, none⟩) pl.length cp) pl.length (pl.map (Value.int .u8))
  vals : wr.ownsRow Wi.heap.size 5 1 (.slice (some ⟨gv, 0, none⟩) vl.length cv) vl.length (vl.map (Value.int .u8))
  ne : gp ≠ gv
theorem PtI.later {Wi wr w' : World} {gp cp gv cv : Nat} {pl vl : List Int} (h : PtI Wi gp cp gv cv pl vl wr) (hb : Below wr.heap.size wr w') : PtI Wi gp cp gv cv pl vl w' := ⟨owns_later h.pts hb, owns_later h.vals hb, h.ne⟩
theorem PtI.step1 {Wi wr w7 : World} {gp cp gv cv g c : Nat} {pl vl : List Int} {x : Int} (h : PtI Wi gp cp gv cv pl vl wr)
    (ho : w7.ownsRow Wi.heap.size 5 1 (.slice (some ⟨g, 0, none⟩) (pl.length + 1) c) (pl.length + 1) (pl.map (Value.int .u8) ++ [.int .u8 x])) (hg : wr.grownBy w7 (some gp)) (hat : some gp = some g ∨ g = wr.heap.size) : PtI Wi g c gv cv (pl ++ [x]) vl w7 := by
  have hl : (pl ++ [x]).length = pl.length + 1 := by simp
  refine ⟨by rw [hl, List.map_append]; exact ho, h.vals.kept hg (.inr (fun e => h.ne (by simpa [Value.ownBlock] using e.symm))), ?_⟩
  rcases hat with e | e
  · injection e with e; rw [← e]; exact h.ne
  · have := (h.vals.lt gv rfl).2; omega
theorem PtI.step2 {Wi wr w7 : World} {gp cp gv cv g c : Nat} {pl vl : List Int} {x : Int} (h : PtI Wi gp cp gv cv pl vl wr)
    (ho : w7.ownsRow Wi.heap.size 5 1 (.slice (some ⟨g, 0, none⟩) (vl.length + 1) c) (vl.length + 1) (vl.map (Value.int .u8) ++ [.int .u8 x])) (hg : wr.grownBy w7 (some gv)) (hat : some gv = some g ∨ g = wr.heap.size) : PtI Wi gp cp g c pl (vl ++ [x]) w7 := by
  have hl : (vl ++ [x]).length = vl.length + 1 := by simp
  refine ⟨h.pts.kept hg (.inr (fun e => h.ne (by simpa [Value.ownBlock] using e))), by rw [hl, List.map_append]; exact ho, ?_⟩
  rcases hat with e | e
  · injection e with e; rw [← e]; exact h.ne
  · have := (h.pts.lt gp rfl).2; omega
theorem news_one (w : World) (a : Value) (t : TypeId) (k : Nat) (hk : k = w.heap.size) : ∀ (i : Nat) (u : Value), [a][i]? = some u → (w.alloc (.cells #[a] t)).cell? ((⟨k, 0, none⟩ : Addr).add i) = some u := by
  subst hk
  intro i u hi
  match i, hi with
  | 0, hi => simp at hi; subst hi; simp [Addr.add]
theorem own_empty (w : World) (t : TypeId) (sz : Nat) : (w.alloc (.cells #[] t)).ownsRow w.heap.size t sz (.slice (some ⟨w.heap.size, 0, none⟩) 0 0) 0 [] :=
  ⟨by simp, .inr ⟨w.heap.size, 0, #[], rfl, Nat.le_refl _, heap_alloc_new _ _, Nat.le_refl _, by unfold maxLen; omega, by simp, by simp⟩⟩
theorem own_one (w : World) (x : Value) (t : TypeId) : (w.alloc (.cells #[x] t)).ownsRow w.heap.size t 1 (.slice (some ⟨w.heap.size, 0, none⟩) 1 1) 1 [x] :=
  ⟨by simp, .inr ⟨w.heap.size, 1, #[x], rfl, Nat.le_refl _, heap_alloc_new _ _, Nat.le_refl _, by unfold maxLen; omega, by simp, by simp⟩⟩
def FitRet (w : World) (kb : List Int) (l : ShareL) (n : Nat) (e : Ending) (w' : World) : Prop := ∃ g c, e = .returned (.slice (some ⟨g, 0, none⟩) (32 * (n - 1)) c) ∧ Hid (BytesR w' (.slice (some ⟨g, 0, none⟩) (32 * (n - 1)) c) (fitAt kb l n 32)) ∧ Hid (Below w.heap.size w w')
set_option maxRecDepth 100000 in
set_option maxHeartbeats 4000000 in
theorem fitting_37 (w : World) (kb : List Int) (vl : Value) (ps : List (Int × Value)) (l : ShareL) (n : Nat) (hk : kb.length = 32) (hkb : ∀ x ∈ kb, 0 ≤ x ∧ x ≤ 255) (hl : RowR w vl 2 (shareCells ps) ps.length) (hs : SharesAre w ps l) (hn : l.length = n - 1) (h1 : 1 ≤ n) (h5 : n ≤ 1000) (hb : ∀ j, j < l.length → (bsD l j).length = 32) :
    Calls Tryz.prog 37 #[.agg (keyC2 kb), vl, .int .i64 (n : Int)] w (FitRet w kb l n) := by
  obtain ⟨-, al, cl, rfl, -⟩ := id hl
  have hat := shares_at hl hs rfl
  have hpl := hs.length
  obtain ⟨nm, hnm⟩ : ∃ nm, nm = ps.length := ⟨_, rfl⟩
  rw [← hnm] at hat hl ⊢
  have hnm2 : nm + 1 = n := by omega
  have HNM := Lib.hid hnm2
  have hnm1000 : nm ≤ 1000 := by omega
  have HAT := Lib.hid hat
  have HLB := Lib.hid hb
  have HLN := Lib.hid hn
  have HKB := Lib.hid hk
  have HKY := Lib.hid hkb
  have hln : l.length = nm := by omega
  have HLL := Lib.hid hln
  have HPT : Hid (∀ s ∈ l, s.1 < 256) := Lib.hid (fun s hs' => by
    obtain ⟨j, hj, rfl⟩ := List.mem_iff_getElem.1 hs'
    exact (hs.at j (by have := hs.length; omega) hj).2.1)
  have HSV : Hid (∀ s ∈ l, ∀ i : Nat, 0 ≤ s.2.getD i 0 ∧ s.2.getD i 0 ≤ 255) := Lib.hid (fun s hs' i => by
    obtain ⟨j, hj, rfl⟩ := List.mem_iff_getElem.1 hs'
    have hb2 := (hs.at j (by have := hs.length; omega) hj).2.2.2
    rw [List.getD_eq_getElem?_getD]
    by_cases hi : i < l[j].2.length
    · rw [List.getElem?_eq_getElem hi]; exact hb2 _ (List.getElem_mem hi)
    · rw [List.getElem?_eq_none (by omega)]; simp)
  clear hl hs hnm hat hb hn hk hkb hpl hln HLN hnm2
  obtain ⟨i0, HI0⟩ := info5
  replace HI0 := Lib.hid HI0
  go_enter Tryz.func37, Tryz.ntmps37
  go_upto_region 3 with fail
  have O0 : Hid (OutI w kb (w.heap.size + 1) 0 (fitAt kb l n 0) ((w.alloc (.cells (keyC2 kb) 39)).alloc (.cells #[] 5))) := by
    have h := own_empty (w.alloc (.cells (keyC2 kb) 39)) 5 1
    rw [show (w.alloc (.cells (keyC2 kb) 39)).heap.size = w.heap.size + 1 by simp] at h
    exact Lib.hid ⟨((Below.refl _ _).alloc (Nat.le_refl _) _).alloc (by simp) _, blk_later (heap_alloc_new w _) ((Below.refl _ _).alloc (Nat.le_refl _) _), h⟩
  generalize (w.alloc (.cells (keyC2 kb) 39)).alloc (.cells #[] 5) = W1 at *
  have HFL : Hid (∀ i, (fitAt kb l n i).length = i * nm) := Lib.hid (fun i => by rw [fitAt_length, ← HNM.out]; rfl)
  have z0 : (0 : Nat) = (fitAt kb l n 0).length := rfl
  go_loopw [7, 8] (fun o c wr => ∃ (i go co ln : Nat), i ≤ 32 ∧ o = .slice (some ⟨go, 0, none⟩) ln co ∧ c = .int .i64 ((i : Nat) : Int) ∧ Hid (ln = (fitAt kb l n i).length) ∧ Hid (OutI w kb go co (fitAt kb l n i) wr)) (fun _ c _ => 32 - (intOf c).toNat)
  case atStart => exact ⟨0, w.heap.size + 1, 0, 0, Nat.zero_le _, rfl, rfl, Lib.hid z0, O0⟩
  case round =>
    clear O0 z0
    obtain ⟨i, go, co, ln, hi, rfl, rfl, HLN, O1⟩ := hrel
    by_cases hlt : i < 32
    · have hln : ln ≤ 32000 := by rw [HLN.out, HFL.out]; have : i * nm ≤ 32 * nm := Nat.mul_le_mul_right _ hi; have := HNM.out; omega
      obtain ⟨q1, q2, q3⟩ := box_walk O1.out.box
      have hki : (keyC2 kb)[i]? = some (.int .u8 (kb.getD i 0)) := keyC2_at kb HKB.out i hlt
      have x1 := (q1 i).trans hki
      have HKI : Hid (0 ≤ kb.getD i 0 ∧ kb.getD i 0 ≤ 255) := Lib.hid (by rw [List.getD_eq_getElem?_getD, List.getElem?_eq_getElem (by rw [HKB.out]; exact hlt)]; exact HKY.out _ (List.getElem_mem _))
      have HV0 : Hid (valLst kb l i 0 = [kb.getD i 0]) := Lib.hid (by simp [valLst])
      have HKI2 := HKI
      generalize hkie : kb.getD i 0 = ki at *
      have HKIE := Lib.hid hkie
      clear hkie
      clear q1 hki
      have hd32 : decide ((i : Int) < 32) = true := decide_eq_true (by omega)
      go_upto_region 8 with fail
      clear x1 q2 q3
      have hwr := O1.out.below.size
      have hgo := O1.out.lt
      have O2 : Hid (OutI w kb go co (fitAt kb l n i) ((wr.alloc (.cells #[.int .u8 0] 5)).alloc (.cells #[.int .u8 ki] 5))) := Lib.hid ((O1.out.later ((Below.refl _ _).alloc (Nat.le_refl _) _)).later ((Below.refl _ _).alloc (Nat.le_refl _) _))
      have P2 : Hid (PtI wr wr.heap.size 1 (wr.heap.size + 1) 1 (ptsLst l 0) (valLst kb l i 0) ((wr.alloc (.cells #[.int .u8 0] 5)).alloc (.cells #[.int .u8 ki] 5))) := by
        have h := own_one (wr.alloc (.cells #[.int .u8 0] 5)) (.int .u8 ki) 5
        rw [show (wr.alloc (.cells #[.int .u8 0] 5)).heap.size = wr.heap.size + 1 by simp] at h
        rw [HV0.out]
        exact Lib.hid ⟨owns_later (own_one wr (.int .u8 0) 5) ((Below.refl _ _).alloc (Nat.le_refl _) _), owns_base h (by omega), by omega⟩
      have hWS : wr.heap.size ≤ ((wr.alloc (.cells #[.int .u8 0] 5)).alloc (.cells #[.int .u8 ki] 5)).heap.size := by simp; omega
      have hB2 : Hid (Below wr.heap.size wr ((wr.alloc (.cells #[.int .u8 0] 5)).alloc (.cells #[.int .u8 ki] 5))) := Lib.hid (((Below.refl _ _).alloc (Nat.le_refl _) _).alloc (by simp) _)
      clear O1
      generalize (wr.alloc (.cells #[.int .u8 0] 5)).alloc (.cells #[.int .u8 ki] 5) = W2 at *
      generalize wr = Wi at *
      go_loopw [9, 10, 11] (fun p v c wr => ∃ (j gp cp gv cv : Nat), j ≤ nm ∧ p = .slice (some ⟨gp, 0, none⟩) (j + 1) cp ∧ v = .slice (some ⟨gv, 0, none⟩) (j + 1) cv ∧ c = .int .i64 ((j : Nat) : Int) ∧ Hid (OutI w kb go co (fitAt kb l n i) wr) ∧ Hid (PtI Wi gp cp gv cv (ptsLst l j) (valLst kb l i j) wr) ∧ Hid (Below w.heap.size w wr)) (fun _ _ c _ => nm - (intOf c).toNat)
      case atStart => exact ⟨0, Wi.heap.size, 1, Wi.heap.size + 1, 1, Nat.zero_le _, rfl, rfl, rfl, O2, P2, Lib.hid O2.out.below⟩
      case round =>
        clear O2 P2
        obtain ⟨j, gp, cp, gv, cv, hj, rfl, rfl, rfl, O3, P3, B3⟩ := hrel
        by_cases hltj : j < nm
        · obtain ⟨b, off, av, kv, rfl, hbb, hby, hpt, hcj⟩ := HAT.out j hltj
          have HL32 := Lib.hid (HLB.out j (by rw [HLL.out]; exact hltj))
          obtain ⟨a2, n2, c2, hav, hn2, hbc⟩ := bytes_here hby
          injection hav with h1' h2' h3'
          subst h1' h3'
          obtain ⟨bb, ob, hae, hbbl, hbcell⟩ := hbc i (by rw [hn2, HL32.out]; exact hlt)
          subst hae
          have HPL : Hid ((ptsLst l j).length = j + 1 ∧ (valLst kb l i j).length = j + 1) := Lib.hid (by simp [ptsLst, valLst]; rw [HLL.out]; omega)
          have HPS : Hid (ptsLst l (j + 1) = ptsLst l j ++ [((ptD l j : Nat) : Int)] ∧ valLst kb l i (j + 1) = valLst kb l i j ++ [(bsD l j).getD i 0]) := Lib.hid (by
            have hjl : j < l.length := by rw [HLL.out]; exact hltj
            have e1 : ptD l j = l[j].1 := by unfold ptD; rw [List.getD_eq_getElem?_getD, List.getElem?_eq_getElem hjl]; rfl
            have e2 : bsD l j = l[j].2 := by unfold bsD; rw [List.getD_eq_getElem?_getD, List.getElem?_eq_getElem hjl]; rfl
            rw [e1, e2]
            unfold ptsLst valLst
            rw [List.take_succ_eq_append_getElem hjl, List.map_append, List.map_append]
            exact ⟨rfl, rfl⟩)
          have HCJ := Lib.hid hcj
          have HBC := Lib.hid hbcell
          rw [HL32.out] at hcj
          obtain ⟨x1, x2⟩ := hcj wr B3.out
          have y1 : b < wr.heap.size := Nat.lt_of_lt_of_le hbb B3.out.size
          generalize ptD l j = pj at *
          generalize (bsD l j).getD i 0 = uj at *
          clear hcj hbcell hby hbc hn2 h2'
          have Q3 : Hid (PtI Wi gp cp gv cv (ptsLst l j) (valLst kb l i j) (wr.alloc (.cells #[.int .u8 (pj : Int)] 5))) := Lib.hid (P3.out.later ((Below.refl _ _).alloc (Nat.le_refl _) _))
          have R3 : Hid (OutI w kb go co (fitAt kb l n i) (wr.alloc (.cells #[.int .u8 (pj : Int)] 5))) := Lib.hid (O3.out.later ((Below.refl _ _).alloc (Nat.le_refl _) _))
          have OW : Hid ((wr.alloc (.cells #[.int .u8 (pj : Int)] 5)).ownsRow Wi.heap.size 5 1 (.slice (some ⟨gp, 0, none⟩) (j + 1) cp) (j + 1) ((ptsLst l j).map (Value.int .u8))) := Lib.hid (by have := Q3.out.pts; rwa [HPL.out.1] at this)
          have HK1 : Hid (Wi.heap.size ≤ (wr.alloc (.cells #[.int .u8 (pj : Int)] 5)).heap.size) := Lib.hid (by have := (P3.out.pts.lt gp rfl).1; have := (P3.out.pts.lt gp rfl).2; simp; omega)
          have STEP1 : Hid (∀ (w7 : World) (g c : Nat), w7.ownsRow Wi.heap.size 5 1 (.slice (some ⟨g, 0, none⟩) (j + 1 + 1) c) (j + 1 + 1) ((ptsLst l j).map (Value.int .u8) ++ [.int .u8 (pj : Int)]) → (wr.alloc (.cells #[.int .u8 (pj : Int)] 5)).grownBy w7 (some gp) → ((some gp : Option Nat) = some g ∨ g = (wr.alloc (.cells #[.int .u8 (pj : Int)] 5)).heap.size) → Hid (OutI w kb go co (fitAt kb l n i) w7) ∧ Hid (PtI Wi g c gv cv (ptsLst l (j + 1)) (valLst kb l i j) w7) ∧ Hid (Below w.heap.size w w7)) := Lib.hid (fun w7 g c h1 h2 h3 => by
            have hgp := (P3.out.pts.lt gp rfl).1
            have o := R3.out.grown h2 (by omega) (by omega)
            refine ⟨Lib.hid o, Lib.hid ?_, Lib.hid o.below⟩
            rw [HPS.out.1]
            exact Q3.out.step1 (by rw [HPL.out.1]; exact h1) h2 h3)
          clear P3 O3 Q3 R3
          have HONE : Hid (∀ x : Int, ∀ u ∈ [Value.int .u8 x], u.oneCell' = true) := Lib.hid (fun x u hu => by simp at hu; subst hu; rfl)
          go_upto_region 11 with (refine wpList_append_lies _ rfl (.tmp 31) (.tmp 37) 28 rfl Wi.heap.size 5 i0 _ 1 1 und28 HI0.out.1 HI0.out.2.1 HI0.out.2.2.1 HI0.out.2.2.2 rfl (by decide) (.slice (some ⟨gp, 0, none⟩) (j + 1) cp) (j + 1) ((ptsLst l j).map (Value.int .u8)) (by simp [Act.eval, Act.put]) OW.out ⟨wr.heap.size, 0, none⟩ 1 1 [.int .u8 (pj : Int)] (by simp [Act.eval, Act.put]) rfl (news_one wr _ 5 _ rfl) (HONE.out _) (by omega) (by unfold maxLen; omega) (by omega) HK1.out _ rfl ?_; intro g' cap' w7 hown hg hat7 hlt7; have HX := STEP1.out w7 g' cap' hown hg hat7)
          obtain ⟨O4, P4, B4⟩ := HX
          clear STEP1 OW HK1 hown hg hat7 hlt7 x1 x2 y1
          obtain ⟨x1, x2⟩ := HCJ.out w7 B4.out
          rw [HL32.out] at x2
          have x3 := HBC.out w7 B4.out
          have y1 : b < w7.heap.size := Nat.lt_of_lt_of_le hbb B4.out.size
          have y2 : bb < w7.heap.size := Nat.lt_of_lt_of_le hbbl B4.out.size
          have Q4 : Hid (PtI Wi g' cap' gv cv (ptsLst l (j + 1)) (valLst kb l i j) (w7.alloc (.cells #[.int .u8 uj] 5))) := Lib.hid (P4.out.later ((Below.refl _ _).alloc (Nat.le_refl _) _))
          have R4 : Hid (OutI w kb go co (fitAt kb l n i) (w7.alloc (.cells #[.int .u8 uj] 5))) := Lib.hid (O4.out.later ((Below.refl _ _).alloc (Nat.le_refl _) _))
          have OW : Hid ((w7.alloc (.cells #[.int .u8 uj] 5)).ownsRow Wi.heap.size 5 1 (.slice (some ⟨gv, 0, none⟩) (j + 1) cv) (j + 1) ((valLst kb l i j).map (Value.int .u8))) := Lib.hid (by have := Q4.out.vals; rwa [HPL.out.2] at this)
          have HK1 : Hid (Wi.heap.size ≤ (w7.alloc (.cells #[.int .u8 uj] 5)).heap.size) := Lib.hid (by have := (P4.out.vals.lt gv rfl).1; have := (P4.out.vals.lt gv rfl).2; simp; omega)
          have STEP2 : Hid (∀ (w8 : World) (g c : Nat), w8.ownsRow Wi.heap.size 5 1 (.slice (some ⟨g, 0, none⟩) (j + 1 + 1) c) (j + 1 + 1) ((valLst kb l i j).map (Value.int .u8) ++ [.int .u8 uj]) → (w7.alloc (.cells #[.int .u8 uj] 5)).grownBy w8 (some gv) → ((some gv : Option Nat) = some g ∨ g = (w7.alloc (.cells #[.int .u8 uj] 5)).heap.size) → Hid (OutI w kb go co (fitAt kb l n i) w8) ∧ Hid (PtI Wi g' cap' g c (ptsLst l (j + 1)) (valLst kb l i (j + 1)) w8) ∧ Hid (Below w.heap.size w w8)) := Lib.hid (fun w8 g c h1 h2 h3 => by
            have hgp := (P4.out.vals.lt gv rfl).1
            have o := R4.out.grown h2 (by omega) (by omega)
            refine ⟨Lib.hid o, Lib.hid ?_, Lib.hid o.below⟩
            rw [HPS.out.2]
            exact Q4.out.step2 (by rw [HPL.out.2]; exact h1) h2 h3)
          clear P4 O4 Q4 R4
          go_wp2_with (refine wpList_append_lies _ rfl (.tmp 39) (.tmp 48) 28 rfl Wi.heap.size 5 i0 _ 1 1 und28 HI0.out.1 HI0.out.2.1 HI0.out.2.2.1 HI0.out.2.2.2 rfl (by decide) (.slice (some ⟨gv, 0, none⟩) (j + 1) cv) (j + 1) ((valLst kb l i j).map (Value.int .u8)) (by simp [Act.eval, Act.put]) OW.out ⟨w7.heap.size, 0, none⟩ 1 1 [.int .u8 uj] (by simp [Act.eval, Act.put]) rfl (news_one w7 _ 5 _ rfl) (HONE.out _) (by omega) (by unfold maxLen; omega) (by omega) HK1.out _ rfl ?_; intro g2 cap2 w8 hown hg hat8 hlt8; have HX := STEP2.out w8 g2 cap2 hown hg hat8)
          go_roundw
          case rel => exact ⟨j + 1, g', cap', g2, cap2, by omega, by go_num, by go_num, by go_num, HX.1, HX.2.1, HX.2.2⟩
          case measure => simp [intOf] <;> omega
        · obtain rfl : j = nm := by omega
          have HNJ : Hid (j + 1 = n) := HNM
          have HPW : Hid (BytesR wr (.slice (some ⟨gp, 0, none⟩) (j + 1) cp) (ptsLst l l.length)) := Lib.hid (by
            have h := RowR.of_owns P3.out.pts
            have e : (ptsLst l j).length = j + 1 := by simp [ptsLst]; rw [HLL.out]; omega
            rw [HLL.out]
            refine ⟨by rw [e] at h ⊢; exact h, fun x hx => ?_⟩
            unfold ptsLst at hx
            rcases List.mem_cons.1 hx with rfl | hx
            · omega
            · obtain ⟨s, hs, rfl⟩ := List.mem_map.1 hx
              have := HPT.out s (List.mem_of_mem_take hs)
              omega)
          have HVW : Hid (BytesR wr (.slice (some ⟨gv, 0, none⟩) (j + 1) cv) (valLst kb l i l.length)) := Lib.hid (by
            have h := RowR.of_owns P3.out.vals
            have e : (valLst kb l i j).length = j + 1 := by simp [valLst]; rw [HLL.out]; omega
            rw [HLL.out]
            refine ⟨by rw [e] at h ⊢; exact h, fun x hx => ?_⟩
            unfold valLst at hx
            rcases List.mem_cons.1 hx with rfl | hx
            · rw [HKIE.out]; exact HKI.out
            · obtain ⟨s, hs, rfl⟩ := List.mem_map.1 hx
              exact HSV.out s (List.mem_of_mem_take hs) i)
          have C66 := Lib.hid (through_66 wr _ _ (ptsLst l l.length) (valLst kb l i l.length) (j + 1) HPW.out HVW.out (by simp [ptsLst]; exact HLL.out) (by simp [valLst]; exact HLL.out) (by omega) (by omega))
          clear HPW HVW P3 HAT
          go_upto_region 14 with (go_at_call 66; refine C66.out.mono ?_; rintro e w4 ⟨rfl, HF, HC⟩)
          have O4 : Hid (OutI w kb go co (fitAt kb l n i ++ fitRow kb l n i 0) w4) := Lib.hid (by rw [show fitRow kb l n i 0 = [] by simp [fitRow], List.append_nil]; exact O3.out.later HC.out)
          have hgf : go < wr.heap.size := O3.out.lt.2
          have hwf : w.heap.size < wr.heap.size := by have := O3.out.lt; omega
          have HLO : Hid (ln = (fitAt kb l n i ++ fitRow kb l n i 0).length) := Lib.hid (by rw [List.length_append, fitRow_length, HLN.out]; rfl)
          clear O3 C66 HC
          generalize wr.heap.size = gf at *
          go_loopw [7, 13] (fun o c wr => ∃ (q go co ln : Nat), q ≤ j ∧ o = .slice (some ⟨go, 0, none⟩) ln co ∧ c = .int .i64 ((q : Nat) + 1 : Int) ∧ Hid (ln = (fitAt kb l n i ++ fitRow kb l n i q).length) ∧ Hid (OutI w kb go co (fitAt kb l n i ++ fitRow kb l n i q) wr) ∧ Hid (wr.heap[gf]? = some (.cells (natC (rowO (byteAt (ptsLst l l.length)) (byteAt (valLst kb l i l.length)) (j + 1) (j + 1) 0)) 5 (0, 0))) ∧ go ≠ gf) (fun _ c _ => j + 1 - (intOf c).toNat)
          case atStart => exact ⟨0, go, co, ln, Nat.zero_le _, rfl, rfl, HLO, O4, HF, by omega⟩
          case round =>
            clear O4 HLO HF hgf
            obtain ⟨q, go, co, ln2, hq, rfl, rfl, HLO, O5, HF, hne⟩ := hrel
            by_cases hltq : q < j
            · have hqn : (q : Int) + 1 < (n : Int) := by have := HNJ.out; omega
              have hln2 : ln2 ≤ 40000 := by rw [HLO.out, List.length_append, fitRow_length, ← HLN.out]; omega
              have E1 : Hid ((natC (rowO (byteAt (ptsLst l l.length)) (byteAt (valLst kb l i l.length)) (j + 1) (j + 1) 0))[q + 1]? = some (.int .u8 ((cfD kb l n i (q + 1) : Nat) : Int))) := Lib.hid (by
                rw [natC_at _ _ (by rw [rowO_length]; omega), rowO_getD _ _ _ _ _ _ (by omega), if_neg (by omega)]
                unfold cfD
                rw [← HNJ.out])
              have HRS : Hid (fitAt kb l n i ++ fitRow kb l n i (q + 1) = fitAt kb l n i ++ fitRow kb l n i q ++ [((cfD kb l n i (q + 1) : Nat) : Int)]) := Lib.hid (by rw [fitRow_succ, ← List.append_assoc])
              obtain ⟨s1, s2, s3⟩ := box_walk HF.out
              have r1 := (s1 (q + 1)).trans E1.out
              generalize cfD kb l n i (q + 1) = cq at *
              have R5 : Hid (OutI w kb go co (fitAt kb l n i ++ fitRow kb l n i q) (wr.alloc (.cells #[.int .u8 (cq : Int)] 5))) := Lib.hid (O5.out.later ((Below.refl _ _).alloc (Nat.le_refl _) _))
              have F5 : Hid ((wr.alloc (.cells #[.int .u8 (cq : Int)] 5)).heap[gf]? = some (.cells (natC (rowO (byteAt (ptsLst l l.length)) (byteAt (valLst kb l i l.length)) (j + 1) (j + 1) 0)) 5 (0, 0))) := Lib.hid (blk_later HF.out ((Below.refl _ _).alloc (Nat.le_refl _) _))
              have OW : Hid ((wr.alloc (.cells #[.int .u8 (cq : Int)] 5)).ownsRow (w.heap.size + 1) 5 1 (.slice (some ⟨go, 0, none⟩) ln2 co) ln2 ((fitAt kb l n i ++ fitRow kb l n i q).map (Value.int .u8))) := Lib.hid (by have := R5.out.own; rwa [← HLO.out] at this)
              have HK1 : Hid (w.heap.size + 1 ≤ (wr.alloc (.cells #[.int .u8 (cq : Int)] 5)).heap.size) := Lib.hid (by have := R5.out.lt; omega)
              have STEP3 : Hid (∀ (w7 : World) (g c : Nat), w7.ownsRow (w.heap.size + 1) 5 1 (.slice (some ⟨g, 0, none⟩) (ln2 + 1) c) (ln2 + 1) ((fitAt kb l n i ++ fitRow kb l n i q).map (Value.int .u8) ++ [.int .u8 (cq : Int)]) → (wr.alloc (.cells #[.int .u8 (cq : Int)] 5)).grownBy w7 (some go) → ((some go : Option Nat) = some g ∨ g = (wr.alloc (.cells #[.int .u8 (cq : Int)] 5)).heap.size) → Hid (ln2 + 1 = (fitAt kb l n i ++ fitRow kb l n i (q + 1)).length) ∧ Hid (OutI w kb g c (fitAt kb l n i ++ fitRow kb l n i (q + 1)) w7) ∧ Hid (w7.heap[gf]? = some (.cells (natC (rowO (byteAt (ptsLst l l.length)) (byteAt (valLst kb l i l.length)) (j + 1) (j + 1) 0)) 5 (0, 0))) ∧ g ≠ gf) := Lib.hid (fun w7 g c h1 h2 h3 => by
                have hgo := R5.out.lt
                have hf := lt_of_blk F5.out
                have e1 : (fitAt kb l n i ++ fitRow kb l n i (q + 1)).length = ln2 + 1 := by rw [HRS.out, List.length_append, ← HLO.out]; rfl
                refine ⟨Lib.hid e1.symm, Lib.hid ⟨R5.out.below.trans ⟨h2.os, h2.tape, h2.output, h2.size, fun k hk => h2.block k (by have := R5.out.below.size; omega) (fun e => by injection e with e; omega)⟩, (h2.block _ (lt_of_blk R5.out.box) (fun e => by injection e with e; omega)).trans R5.out.box, ?_⟩, Lib.hid ((h2.block _ hf (fun e => by injection e with e; omega)).trans F5.out), ?_⟩
                · rw [e1, HRS.out, List.map_append]; exact h1
                · rcases h3 with e | e
                  · injection e with e; omega
                  · omega)
              have HONE : Hid (∀ x : Int, ∀ u ∈ [Value.int .u8 x], u.oneCell' = true) := Lib.hid (fun x u hu => by simp at hu; subst hu; rfl)
              clear s1 O5 R5 F5
              generalize (fitAt kb l n i ++ fitRow kb l n i q).map (Value.int .u8) = xs at *
              go_wp2_with (refine wpList_append_lies _ rfl (.tmp 66) (.tmp 68) 28 rfl (w.heap.size + 1) 5 i0 _ 1 1 und28 HI0.out.1 HI0.out.2.1 HI0.out.2.2.1 HI0.out.2.2.2 rfl (by decide) (.slice (some ⟨go, 0, none⟩) ln2 co) ln2 xs (by simp [Act.eval, Act.put]) OW.out ⟨wr.heap.size, 0, none⟩ 1 1 [.int .u8 (cq : Int)] (by simp [Act.eval, Act.put]) rfl (news_one wr _ 5 _ rfl) (HONE.out _) (by omega) (by unfold maxLen; omega) (by omega) HK1.out _ rfl ?_; intro g2 cap2 w8 hown hg hat8 hlt8; have HX := STEP3.out w8 g2 cap2 hown hg hat8)
              go_roundw
              case rel => exact ⟨q + 1, g2, cap2, ln2 + 1, by omega, by go_num, by go_num, HX.1, HX.2.1, HX.2.2.1, HX.2.2.2⟩
              case measure => simp [intOf] <;> omega
            · obtain rfl : q = j := by omega
              have hqn : ¬ (q : Int) + 1 < (n : Int) := by have := HNJ.out; omega
              have O6 : Hid (OutI w kb go co (fitAt kb l n (i + 1)) wr) := Lib.hid (by rw [fitAt, show n - 1 = q by have := HNJ.out; omega]; exact O5.out)
              have HL6 : Hid (ln2 = (fitAt kb l n (i + 1)).length) := Lib.hid (by rw [fitAt, show n - 1 = q by have := HNJ.out; omega]; exact HLO.out)
              go_wp2_with fail
              go_roundw
              case rel => exact ⟨i + 1, go, co, ln2, by omega, rfl, by go_num, HL6, O6⟩
              case measure => simp [intOf] <;> omega
    · obtain rfl : i = 32 := by omega
      have R : Hid (FitRet w kb l n (.returned (.slice (some ⟨go, 0, none⟩) ln co)) wr) := Lib.hid ⟨go, co, by rw [HLN.out, fitAt_length], Lib.hid (by
        have h := RowR.of_owns O1.out.own
        rw [fitAt_length] at h
        exact ⟨by rw [fitAt_length]; exact h, fitAt_bytes kb l n 32⟩), Lib.hid O1.out.below⟩
      go_wp2
      go_ret
      exact R.out
end Go.Proofs.YtpbgipdkaaooeaaGreatDoor
