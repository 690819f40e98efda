/- law35.ForgetSecrecy: the walk. -/
import Derived.Test.YtpbgipdkaaooeaaGreatDoorGO
open Go Go.Proofs Go.RowKit
namespace Go.Proofs.YtpbgipdkaaooeaaGreatDoor
set_option linter.unusedSimpArgs false
set_option linter.unusedVariables false
attribute [local go_sem ↓] Go.wp_at_zero Go.wp_at_succ

theorem size77 : (Tryz.prog.info? 77).map (·.size) = some 68 := by kernel_rfl
theorem und77 : ∃ d, Tryz.prog.underlying 77 = some d ∧ d.isRow = true := ⟨_, Tryz.underlying77, rfl⟩
theorem goneD_need (a b f : Nat) (kb r : List Int) : (goneD a b f kb r).need = (gT a b : Int) := rfl
def LeftP' (w : World) (L : ShareL) (e : Ending) (w' : World) : Prop := ∃ ao n cp ps, e = .returned (.slice ao n cp) ∧ Hid (n = ps.length ∧ n = L.length) ∧ Hid (RowR w' (.slice ao n cp) 2 (shareCells ps) n) ∧ Hid (SharesAre w' ps L) ∧ Hid (Below w.heap.size w w')
theorem left_parts' {f : FuncId} {args : Array Value} {w : World} {L : ShareL} (h : Calls Tryz.prog f args w (LeftRet w L)) : Calls Tryz.prog f args w (LeftP' w L) := h.mono fun e w' h => by
  obtain ⟨ao, cp, ps, rfl, h1, h2, h3⟩ := h
  exact ⟨ao, ps.length, cp, ps, rfl, Lib.hid ⟨rfl, h2.length⟩, Lib.hid h1, Lib.hid h2, Lib.hid h3⟩
theorem wpList_load39_at {ops : Array Oper} {rest : List Oper} {o : Oper} {a : Act} {w : World} {Q : Exit → Act → World → Prop} (hgd : o.guard = none) (x : Operand) (ho : o.op = .load 39 x) (b i : Nat) (hx : a.eval x = .pointer (some ⟨b, i, none⟩)) (ks : List Int) (hl : ks.length = 32)
    (hc : w.rangeAt b i (ks.map (Value.int .u8))) (h : wpList Tryz.prog ops Q rest (a.put o.dst (.agg (keyC2 ks))) w) : wpList Tryz.prog ops Q (o :: rest) a w :=
  wpList_load_mid hgd 39 x ho b i hx (ks.map (Value.int .u8)) _ hc und39 rfl (by rw [size39]; simp [hl]) h
theorem wpList_load77_at {ops : Array Oper} {rest : List Oper} {o : Oper} {a : Act} {w : World} {Q : Exit → Act → World → Prop} (hgd : o.guard = none) (x : Operand) (ho : o.op = .load 77 x) (b : Nat) (hx : a.eval x = .pointer (some ⟨b, 0, none⟩)) (c0 : Array Value) (hl : c0.size = 68)
    (hc : w.heap[b]? = some (.cells c0 77 (0, 0))) (h : wpList Tryz.prog ops Q rest (a.put o.dst (.agg c0)) w) : wpList Tryz.prog ops Q (o :: rest) a w := by
  obtain ⟨d, h1, h2⟩ := und77
  exact wpList_load_row hgd 77 x ho b hx 77 c0 (0, 0) d hc h1 (by cases d <;> first | rfl | cases h2) (by rw [size77, hl]) h
theorem exec_load77 {ρ : Operand → Value} {o : Oper} {w : World} (x : Operand) (ho : o.op = .load 77 x) (b : Nat) (hx : ρ x = .pointer (some ⟨b, 0, none⟩)) (c0 : Array Value) (hl : c0.size = 68) (hc : w.rangeAt b 0 c0.toList) : (execOp ρ o).run Tryz.prog w = .ok (.value (.agg c0)) w := by
  obtain ⟨d, h1, h2⟩ := und77
  unfold execOp
  have := run_loadVar_mid (P := Tryz.prog) w b 0 77 c0.toList d hc h1 h2 (by rw [size77]; simp [hl])
  rw [Array.toArray_toList] at this
  simp only [ho, hx, Instr.loadAt, Instr.sureAddr, Sem.run_bind, Sem.run_pure, Result.andThen_ok, this]
theorem exec_load39 {ρ : Operand → Value} {o : Oper} {w : World} (x : Operand) (ho : o.op = .load 39 x) (b i : Nat) (hx : ρ x = .pointer (some ⟨b, i, none⟩)) (ks : List Int) (hl : ks.length = 32) (hc : w.rangeAt b i (ks.map (Value.int .u8))) : (execOp ρ o).run Tryz.prog w = .ok (.value (.agg (keyC2 ks))) w := by
  unfold execOp
  have := run_loadVar_mid (P := Tryz.prog) w b i 39 (ks.map (Value.int .u8)) _ hc und39 rfl (by rw [size39]; simp [hl])
  rw [show (ks.map (Value.int .u8)).toArray = keyC2 ks from rfl] at this
  simp only [ho, hx, Instr.loadAt, Instr.sureAddr, Sem.run_bind, Sem.run_pure, Result.andThen_ok, this]
set_option maxRecDepth 100000 in
set_option maxHeartbeats 4000000 in
theorem secrecy_8 (w : World) (a b f : Nat) (kb ko r : List Int) (rv : Value) (ha : a < 256) (hb : b < 256) (hf : f < 256) (hk : kb.length = 32) (ho : ko.length = 32) (hkb : ∀ x ∈ kb, 0 ≤ x ∧ x ≤ 255) (hob : ∀ x ∈ ko, 0 ≤ x ∧ x ≤ 255) (hr : BytesR w rv r) :
    Calls Tryz.prog 8 #[.agg (secC a b kb rv ko f)] w fun e w' => e = .returned (.bool true) ∧ Below w.heap.size w w' := by
  have HRV := Lib.hid hr
  obtain ⟨-, ar, cr, rfl, -⟩ := hr.1
  obtain ⟨hs0, -, -, hs3, -, hs5, hs6⟩ := secC_at (a := a) (b := b) (rv := .slice ar r.length cr) (f := f) hk ho
  obtain ⟨rl, hrl⟩ : ∃ rl, rl = r.length := ⟨_, rfl⟩
  rw [← hrl] at HRV hs0 hs3 hs5 hs6 ⊢
  clear hrl hr
  have K36 : Hid (∀ wx (kx rx : List Int) (vx : Value), kx.length = 32 → (∀ x ∈ kx, 0 ≤ x ∧ x ≤ 255) → BytesR wx vx rx → Calls Tryz.prog 36 #[.agg (secC a b kb (.slice ar rl cr) ko f), .agg (keyC2 kx), vx] wx (GoneRet wx (goneD a b f kx rx))) := Lib.hid (fun wx kx rx vx h1 h2 h3 => gone_36 wx a b f kb ko kx rx _ vx ha hb hf hk ho h1 h2 h3)
  obtain ⟨g1, g2, g5⟩ := gOT a b
  have HNE : Hid (∀ kx rx, (goneD a b f kx rx).need = (gT a b : Int)) := Lib.hid (fun _ _ => rfl)
  have HSS : Hid (Bytes r → goneD a b f ko (fitAt ko (leftL sT (goneD a b f kb r).shares) (gT a b) 32) = goneD a b f kb r) := Lib.hid (fun h => secrecy_same a b f hkb h hob hk ho)
  have HLG : Hid ((leftL sT (goneD a b f kb r).shares).length = gT a b - 1 ∧ ∀ j, j < (leftL sT (goneD a b f kb r).shares).length → (bsD (leftL sT (goneD a b f kb r).shares) j).length = 32) := Lib.hid (by
    rw [left_gone, shL_length, ptsG_length g1 g2 g5]
    refine ⟨rfl, fun j hj => ?_⟩
    rw [shL_bs _ _ _ _ _ (by rw [ptsG_length g1 g2 g5]; exact hj), maskedD_length, hk])
  have HFT : Hid (∀ kx rx, Fits (goneD a b f kx rx)) := Lib.hid (fun kx rx => ⟨by show (rowsG _ _ _ _ _ _).length ≤ 4095; rw [rowsG_length]; omega, fun x hx => by
      obtain ⟨p, -, rfl⟩ := List.mem_map.1 hx
      split <;> simp, by simp [goneD, gForm], by simp [goneD, gForm], by simp only [goneD, gForm]; split <;> simp⟩)
  have HS5 : Hid (∀ kx rx, (goneD a b f kx rx).shares.length ≤ 5) := Lib.hid (fun kx rx => by show (rowsG _ _ _ _ _ _).length ≤ 5; rw [rowsG_length]; omega)
  have hT5 : gT a b ≤ 5 := by omega
  obtain ⟨nm, hnm⟩ : ∃ nm, gT a b = nm + 1 := ⟨gT a b - 1, by omega⟩
  rw [hnm] at HNE HSS HLG hT5
  rw [Nat.add_sub_cancel] at HLG
  clear hnm
  generalize secC a b kb (.slice ar rl cr) ko f = c0 at *
  have S0 := Lib.hid hs0
  have S3 := Lib.hid hs3
  have S5 := Lib.hid hs5
  have S6 := Lib.hid hs6
  have HK := Lib.hid hk
  have HO := Lib.hid ho
  have HKB := Lib.hid hkb
  have HOB := Lib.hid hob
  clear ha hb hf hk ho hkb hob hs0 hs3 hs5 hs6 g1 g2 g5
  have B0 : Hid (Below w.heap.size w (w.alloc (.cells c0 77))) := Lib.hid ((Below.refl _ _).alloc (Nat.le_refl _) _)
  have N0 : Hid ((w.alloc (.cells c0 77)).heap[w.heap.size]? = some (.cells c0 77 (0, 0))) := Lib.hid (heap_alloc_new _ _)
  go_enter Tryz.func8, Tryz.ntmps8
  go_upto_region 2 with (go_at_call 9; refine (sanity_9 _).mono ?_; rintro e w1 ⟨rfl, b1⟩; have B1 := Lib.hid (below_step B0.out b1); have N1 := Lib.hid (blk_later N0.out b1); clear b1)
  clear B0 N0
  obtain ⟨x1, x2, x3⟩ := box_walk N1.out
  have y1 := (x1 34).trans S3.out
  clear x1
  by_cases h300 : rl ≤ 300
  · have hd3 : ¬ (300 : Int) < (rl : Int) := by omega
    go_upto_region 4 with fail
    have C36 : Hid (Calls Tryz.prog 36 #[.agg c0, .agg (keyC2 kb), .slice ar rl cr] w1 (GoneRet w1 (goneD a b f kb r))) := Lib.hid (K36.out w1 kb r _ HK.out HKB.out (HRV.out.later B1.out))
    have RK : Hid (w1.rangeAt w.heap.size 2 (kb.map (Value.int .u8))) := Lib.hid (fun j v hv => by rw [(box_walk N1.out).1]; exact S5.out j v hv)
    go_upto_region 5 with (first
      | (refine wpList_load77_at (o := ⟨some 17, _, _, _, _, _⟩) rfl (.tmp 1) rfl w.heap.size rfl c0 S0.out N1.out ?_)
      | (refine wpList_load39_at (o := ⟨some 19, _, _, _, _, _⟩) rfl (.tmp 18) rfl w.heap.size 2 rfl kb HK.out RK.out ?_)
      | (go_at_call 36; (with_reducible refine C36.out.mono ?_); rintro e w3 ⟨r2, s2, t2, r3, s3, t3, r4, s4, t4, r5, s5, t5, o, nd, rfl, HL, HC⟩))
    have L4 : Hid (LedBoxO w3.heap.size o nd (.slice r2 s2 t2) (.slice r3 s3 t3) (.slice r4 s4 t4) (.slice r5 s5 t5) (goneD a b f kb r) (w3.alloc (.cells #[.int .i64 o, .int .i64 nd, .slice r2 s2 t2, .slice r3 s3 t3, .slice r4 s4 t4, .slice r5 s5 t5] 26))) := Lib.hid (LedBoxO.fresh HL.out)
    have B4 : Hid (Below w.heap.size w (w3.alloc (.cells #[.int .i64 o, .int .i64 nd, .slice r2 s2 t2, .slice r3 s3 t3, .slice r4 s4 t4, .slice r5 s5 t5] 26))) := Lib.hid ((below_step B1.out HC.out).alloc (below_step B1.out HC.out).size _)
    have N4 : Hid ((w3.alloc (.cells #[.int .i64 o, .int .i64 nd, .slice r2 s2 t2, .slice r3 s3 t3, .slice r4 s4 t4, .slice r5 s5 t5] 26)).heap[w.heap.size]? = some (.cells c0 77 (0, 0))) := Lib.hid (blk_later (blk_later N1.out HC.out) ((Below.refl _ _).alloc (Nat.le_refl _) _))
    obtain ⟨ho1, ho2⟩ := HL.out.nums
    have hnd : nd = (nm : Int) + 1 := by rw [ho2, HNE.out kb r]; simp
    subst hnd
    clear HL HC C36 RK B1 N1 y1 x2 x3 ho1 ho2
    generalize w3.alloc (.cells #[.int .i64 o, .int .i64 ((nm : Int) + 1), .slice r2 s2 t2, .slice r3 s3 t3, .slice r4 s4 t4, .slice r5 s5 t5] 26) = W4 at *
    generalize w3.heap.size = m at *
    have C34 : Hid (Calls Tryz.prog 34 #[.agg #[.int .i64 o, .int .i64 ((nm : Int) + 1), .slice r2 s2 t2, .slice r3 s3 t3, .slice r4 s4 t4, .slice r5 s5 t5], .string ⟨#[97]⟩] W4 (LeftP' W4 (leftL sT (goneD a b f kb r).shares))) := by
      rw [show (⟨#[97]⟩ : ByteArray) = sT from rfl]
      exact Lib.hid (left_parts' (left_34 W4 _ (goneD a b f kb r) sT L4.out.led.led (HS5.out kb r) (HFT.out kb r).r))
    obtain ⟨j1, j2, j3⟩ := box_walk L4.out.box
    go_upto_region 6 with (go_at_call 34; (with_reducible refine C34.out.mono ?_); rintro e w5 ⟨aL, nL, cL, psL, rfl, HNL, HRW, HSA, HC⟩)
    obtain rfl : nL = nm := by have h1 := HNL.out.2; have h2 := HLG.out.1; omega
    have L5 := Lib.hid (L4.out.later HC.out)
    have N5 := Lib.hid (blk_later N4.out HC.out)
    have B5 := Lib.hid (below_step B4.out HC.out)
    have HAT := Lib.hid (shares_at HRW.out HSA.out HNL.out.1.symm)
    clear L4 N4 B4 C34 HC j1 j2 j3
    obtain ⟨j1, j2, j3⟩ := box_walk L5.out.box
    have hN5 : nL ≤ 5 := by omega
    go_upto_region 9 with fail
    clear j1 j2 j3
    go_loop [7] (fun c => ∃ i : Nat, i ≤ nL ∧ c = .int .i64 ((i : Nat) : Int)) (fun c => nL - (intOf c).toNat)
    case atStart => exact ⟨0, Nat.zero_le _, rfl⟩
    case round =>
      obtain ⟨i, hi, rfl⟩ := hrel
      by_cases hlt : i < nL
      · obtain ⟨bb, ob, av, kv, rfl, hbb, -, -, hcj⟩ := HAT.out i hlt
        obtain ⟨z1, z2⟩ := hcj w5 (Below.refl _ _)
        rw [HLG.out.2 i (by rw [← HNL.out.2]; exact hlt)] at z2
        clear hcj
        go_wp2_with fail
        go_round
        case rel => exact ⟨i + 1, by omega, by go_num⟩
        case measure => simp [intOf] <;> omega
      · obtain rfl : i = nL := by omega
        clear HAT hlt hi
        have HBYT : Hid (Bytes r) := Lib.hid HRV.out.2
        have HG2 := Lib.hid (HSS.out HBYT.out)
        have HFIT : Hid (Bytes (fitAt ko (leftL sT (goneD a b f kb r).shares) (i + 1) 32)) := Lib.hid (fitAt_bytes _ _ _ _)
        have K37 : Hid (∀ wx, Hid (Below w5.heap.size w5 wx) → Calls Tryz.prog 37 #[.agg (keyC2 ko), .slice aL i cL, .int .i64 ((i : Int) + 1)] wx (fun e w' => ∃ g c, e = .returned (.slice (some ⟨g, 0, none⟩) (32 * i) c) ∧ Hid (BytesR w' (.slice (some ⟨g, 0, none⟩) (32 * i) c) (fitAt ko (leftL sT (goneD a b f kb r).shares) (i + 1) 32)) ∧ Hid (Below wx.heap.size wx w'))) := fun wx hx => by
          have h := fitting_37 wx ko (.slice aL i cL) psL (leftL sT (goneD a b f kb r).shares) (i + 1) HO.out HOB.out (by have := HRW.out.later hx.out; rwa [HNL.out.1] at this ⊢) (HSA.out.later hx.out) (by rw [← HNL.out.2]; rfl) (by omega) (by omega) HLG.out.2
          rw [show ((i + 1 : Nat) : Int) = (i : Int) + 1 by omega] at h
          refine h.mono fun e w' h => ?_
          obtain ⟨g, c, rfl, hx1, hx2⟩ := h
          rw [Nat.add_sub_cancel] at hx1
          exact ⟨g, c, by rw [Nat.add_sub_cancel], Lib.hid hx1, Lib.hid hx2⟩
        have K36o : Hid (∀ wx vx, Hid (BytesR wx vx (fitAt ko (leftL sT (goneD a b f kb r).shares) (i + 1) 32)) → Calls Tryz.prog 36 #[.agg c0, .agg (keyC2 ko), vx] wx (GoneRet wx (goneD a b f kb r))) := fun wx vx hx => by
          have h := K36.out wx ko _ vx HO.out HOB.out hx.out
          rw [HG2.out] at h
          exact h
        clear K36 HSS HG2 HFIT HLG HRW HSA HNL HNE
        have KS : Hid (∀ wx, Hid (Below w5.heap.size w5 wx) → wx.rangeAt w.heap.size 0 c0.toList ∧ wx.rangeAt w.heap.size 35 (ko.map (Value.int .u8)) ∧ wx.cell? ⟨m, 1, none⟩ = some (.int .i64 ((i : Int) + 1))) := fun wx h => by
          have e1 := (box_walk (blk_later N5.out h.out)).1
          refine ⟨fun j v hv => ?_, fun j v hv => ?_, ?_⟩
          · rw [e1, Nat.zero_add, ← Array.getElem?_toList]; exact hv
          · rw [e1]; exact S6.out j v hv
          · rw [(box_walk (blk_later L5.out.box h.out)).1]; rfl
        have PA : Hid (∀ wx ob, Hid (Below w5.heap.size w5 wx) → Hid (Below w5.heap.size w5 (wx.alloc ob))) := fun wx ob h => Lib.hid (h.out.alloc h.out.size _)
        have PL : Hid (∀ wx w', Hid (Below w5.heap.size w5 wx) → Hid (Below wx.heap.size wx w') → Hid (Below w5.heap.size w5 w')) := fun wx w' h hb => Lib.hid (below_step h.out hb.out)
        have PS : Hid (∀ wx k i u, Hid (Below w5.heap.size w5 wx) → w5.heap.size ≤ k → Hid (Below w5.heap.size w5 (wx.setCell ⟨k, i, none⟩ u))) := fun wx k i u h hk => Lib.hid (h.out.setCell hk _)
        have BD : Hid (∀ w', Hid (Below (w5.alloc (.cells zLed 26)).drew.heap.size (w5.alloc (.cells zLed 26)).drew w') → Hid (w'.heap[w5.heap.size]? = some (.cells zLed 26 (0, 0))) ∧ w5.heap.size ≤ w5.heap.size) := fun w' hb => ⟨Lib.hid (blk_later (show (w5.alloc (.cells zLed 26)).drew.heap[w5.heap.size]? = _ from heap_alloc_new _ _) hb.out), Nat.le_refl _⟩
        have BN : Hid (∀ Y w', Hid (Below w5.heap.size w5 Y) → Hid (Below (Y.alloc (.cells zLed 26)).heap.size (Y.alloc (.cells zLed 26)) w') → Hid (w'.heap[Y.heap.size]? = some (.cells zLed 26 (0, 0))) ∧ w5.heap.size ≤ Y.heap.size) := fun Y w' h hb => ⟨Lib.hid (blk_later (heap_alloc_new _ _) hb.out), h.out.size⟩
        have BL : Hid (∀ (k : Nat) (wx w' : World), Hid (wx.heap[k]? = some (.cells zLed 26 (0, 0))) → Hid (Below wx.heap.size wx w') → Hid (w'.heap[k]? = some (.cells zLed 26 (0, 0)))) := fun k wx w' h hb => Lib.hid (blk_later h.out hb.out)
        have YL : Hid (∀ Y w' vx l, Hid (BytesR Y vx l) → Hid (Below (Y.alloc (.cells zLed 26)).heap.size (Y.alloc (.cells zLed 26)) w') → True) := fun _ _ _ _ _ _ => trivial
        have P0 : Hid (Below w5.heap.size w5 w5) := Lib.hid (Below.refl _ _)
        have P1 := Lib.hid P0.out.drew
        have P2 := Lib.hid (PA.out _ (.cells zLed 26) P0).out.drew
        have YA : Hid (∀ (Y : World) (vx : Value) (l : List Int), Hid (BytesR Y vx l) → Hid (BytesR (Y.alloc (.cells zLed 26)) vx l)) := fun Y vx l h => Lib.hid (h.out.later ((Below.refl _ _).alloc (Nat.le_refl _) _))
        go_upto_region 13 with fail
        go_cut [8, 9] (fun q e wx => ∃ (k8 : Nat) (o' nd' : Int) (r2' : Option Addr) (s2' t2' : Nat) (r3' : Option Addr) (s3' t3' : Nat) (r4' : Option Addr) (s4' t4' : Nat) (r5' : Option Addr) (s5' t5' : Nat), q = .pointer (some ⟨k8, 0, none⟩) ∧ e = .bool true ∧ Hid (Below w5.heap.size w5 wx) ∧ Hid (LedBoxO k8 o' nd' (.slice r2' s2' t2') (.slice r3' s3' t3') (.slice r4' s4' t4') (.slice r5' s5' t5') (goneD a b f kb r) wx))
        case first =>
          refine wp_region_held_drew (S := (fun w' => w'.rangeAt w.heap.size 0 c0.toList ∧ w'.rangeAt w.heap.size 35 (ko.map (Value.int .u8)) ∧ w'.cell? ⟨m, 1, none⟩ = some (.int .i64 ((i : Int) + 1)))) (by kernel_rfl) ?_ (fun hHeld => ?_)
          · (try dsimp only); (exact KS.out _ (by repeat (first | with_reducible assumption | with_reducible apply PA.out | (with_reducible refine PS.out _ _ _ _ ?_ (by first | with_reducible assumption | omega)))))
          refine wpAnyH_take (i := 0) (oi := { dst := some 51, op := Op.load 77 (Operand.tmp 1), type := 77, pos := "law.go:332", after := #[], guard := none }) (v := ?_) rfl (by kernel_rfl) (by kernel_rfl) (by kernel_rfl) (fun _ _ _ h => h) (Or.inl ⟨by rfl, ?_⟩) (by assumption) ?_
          rotate_left
          · intro w hSw; (try dsimp only at hSw); (refine exec_load77 (.tmp 1) ?_ _ ?_ c0 S0.out hSw.1 <;> rfl)
          (try simp only [Act.put, List.setIfInBounds_toArray, List.set_cons_zero, List.set_cons_succ])
          refine wpAnyH_take (i := 1) (oi := { dst := some 52, op := Op.fieldAddr 77 (Operand.tmp 1) 3, type := 0, pos := "law.go:332", after := #[], guard := none }) (v := ?_) rfl (by kernel_rfl) (by kernel_rfl) (by kernel_rfl) (fun _ _ _ h => h) (Or.inl ⟨by rfl, ?_⟩) (by assumption) ?_
          rotate_left
          · intro w hSw; (try dsimp only at hSw); (go_simp <;> with_reducible rfl)
          (try simp only [Act.put, List.setIfInBounds_toArray, List.set_cons_zero, List.set_cons_succ])
          refine wpAnyH_take (i := 2) (oi := { dst := some 53, op := Op.load 39 (Operand.tmp 52), type := 39, pos := "law.go:332", after := #[{ on := 1, ground := Ground.data }], guard := none }) (v := ?_) rfl (by kernel_rfl) (by kernel_rfl) (by kernel_rfl) (fun _ _ _ h => h) (Or.inl ⟨by rfl, ?_⟩) (by assumption) ?_
          rotate_left
          · intro w hSw; (try dsimp only at hSw); (refine exec_load39 (.tmp 52) ?_ _ _ ?_ ko HO.out hSw.2.1 <;> rfl)
          (try simp only [Act.put, List.setIfInBounds_toArray, List.set_cons_zero, List.set_cons_succ])
          refine wpAnyH_take (i := 3) (oi := { dst := some 54, op := Op.fieldAddr 77 (Operand.tmp 1) 3, type := 0, pos := "law.go:332", after := #[], guard := none }) (v := ?_) rfl (by kernel_rfl) (by kernel_rfl) (by kernel_rfl) (fun _ _ _ h => h) (Or.inl ⟨by rfl, ?_⟩) (by assumption) ?_
          rotate_left
          · intro w hSw; (try dsimp only at hSw); (go_simp <;> with_reducible rfl)
          (try simp only [Act.put, List.setIfInBounds_toArray, List.set_cons_zero, List.set_cons_succ])
          refine wpAnyH_take (i := 4) (oi := { dst := some 55, op := Op.load 39 (Operand.tmp 54), type := 39, pos := "law.go:332", after := #[{ on := 3, ground := Ground.data }], guard := none }) (v := ?_) rfl (by kernel_rfl) (by kernel_rfl) (by kernel_rfl) (fun _ _ _ h => h) (Or.inl ⟨by rfl, ?_⟩) (by assumption) ?_
          rotate_left
          · intro w hSw; (try dsimp only at hSw); (refine exec_load39 (.tmp 54) ?_ _ _ ?_ ko HO.out hSw.2.1 <;> rfl)
          (try simp only [Act.put, List.setIfInBounds_toArray, List.set_cons_zero, List.set_cons_succ])
          refine wpAnyH_take (i := 5) (oi := { dst := some 56, op := Op.move (Operand.tmp 6), type := 71, pos := "law.go:332", after := #[], guard := none }) (v := ?_) rfl (by kernel_rfl) (by kernel_rfl) (by kernel_rfl) (fun _ _ _ h => h) (Or.inl ⟨by rfl, ?_⟩) (by assumption) ?_
          rotate_left
          · intro w hSw; (try dsimp only at hSw); (go_simp <;> with_reducible rfl)
          (try simp only [Act.put, List.setIfInBounds_toArray, List.set_cons_zero, List.set_cons_succ])
          refine wpAnyH_take (i := 6) (oi := { dst := some 57, op := Op.fieldAddr 26 (Operand.tmp 4) 1, type := 0, pos := "law.go:332", after := #[], guard := none }) (v := ?_) rfl (by kernel_rfl) (by kernel_rfl) (by kernel_rfl) (fun _ _ _ h => h) (Or.inl ⟨by rfl, ?_⟩) (by assumption) ?_
          rotate_left
          · intro w hSw; (try dsimp only at hSw); (go_simp <;> with_reducible rfl)
          (try simp only [Act.put, List.setIfInBounds_toArray, List.set_cons_zero, List.set_cons_succ])
          refine wpAnyH_take (i := 7) (oi := { dst := some 58, op := Op.load 3 (Operand.tmp 57), type := 3, pos := "law.go:332", after := #[{ on := 6, ground := Ground.data }], guard := none }) (v := ?_) rfl (by kernel_rfl) (by kernel_rfl) (by kernel_rfl) (fun _ _ _ h => h) (Or.inl ⟨by rfl, ?_⟩) (by assumption) ?_
          rotate_left
          · intro w hSw; (try dsimp only at hSw); (go_simp <;> with_reducible rfl)
          (try simp only [Act.put, List.setIfInBounds_toArray, List.set_cons_zero, List.set_cons_succ])
          refine wpAnyH_ready (rs := [8, 13]) (by kernel_rfl) (by simp) ?_
          refine AllReadyH.cons (o := { dst := some 59, op := Op.call { callee := Callee.value (Operand.func 37), args := #[Operand.tmp 55, Operand.tmp 56, Operand.tmp 58], argTypes := #[39, 71, 3] }, type := 28, pos := "law.go:332", after := #[{ on := 4, ground := Ground.data }, { on := 5, ground := Ground.data }, { on := 7, ground := Ground.data }], guard := none }) rfl (fun K hK => ?_) ?_
          · (go_simp; go_at_call 37; (with_reducible refine (K37.out _ (by repeat (first | with_reducible assumption | with_reducible apply PA.out))).mono ?_); rintro e wF ⟨gF, cF, rfl, HBY, HC⟩; have QF : Hid (Below w5.heap.size w5 wF) := PL.out _ _ (by repeat (first | with_reducible assumption | with_reducible apply PA.out)) HC; (first | (with_reducible refine useIt2 (BD.out _ HC) (fun MB hMB => ?_); obtain ⟨m1, m2, m3⟩ := box_walk MB.out) | skip))
            refine hK.out _ _ ?_ (fun hHeld => ?_)
            · (try dsimp only); (exact KS.out _ (by repeat (first | with_reducible assumption | with_reducible apply PA.out | (with_reducible refine PS.out _ _ _ _ ?_ (by first | with_reducible assumption | omega)))))
            clear hK K
            (try simp only [Act.put, List.setIfInBounds_toArray, List.set_cons_zero, List.set_cons_succ])
            refine wpAnyH_ready (rs := [9, 13]) (by kernel_rfl) (by simp) ?_
            refine AllReadyH.cons (o := { dst := some 60, op := Op.call { callee := Callee.value (Operand.func 36), args := #[Operand.tmp 51, Operand.tmp 53, Operand.tmp 59], argTypes := #[77, 39, 28] }, type := 78, pos := "law.go:332", after := #[{ on := 0, ground := Ground.data }, { on := 2, ground := Ground.data }, { on := 8, ground := Ground.data }, { on := 8, ground := Ground.chain }], guard := none }) rfl (fun K hK => ?_) ?_
            · (go_simp; go_at_call 36; (with_reducible refine (K36o.out _ _ (by first | with_reducible assumption | (with_reducible apply YA.out; with_reducible assumption))).mono ?_); rintro e wG ⟨r2', s2', t2', r3', s3', t3', r4', s4', t4', r5', s5', t5', o', nd', rfl, HL, HC2⟩; have QG : Hid (Below w5.heap.size w5 wG) := PL.out _ _ (by repeat (first | with_reducible assumption | with_reducible apply PA.out)) HC2; (first | (with_reducible refine useIt2 (BN.out _ _ (by with_reducible assumption) HC2) (fun MB hMB => ?_); obtain ⟨m1, m2, m3⟩ := box_walk MB.out) | (with_reducible refine useIt (BL.out _ _ _ MB HC2) (fun MB => ?_); obtain ⟨m1, m2, m3⟩ := box_walk MB.out) | skip))
              refine hK.out _ _ ?_ (fun hHeld => ?_)
              · (try dsimp only); (exact KS.out _ (by repeat (first | with_reducible assumption | with_reducible apply PA.out | (with_reducible refine PS.out _ _ _ _ ?_ (by first | with_reducible assumption | omega)))))
              clear hK K
              (try simp only [Act.put, List.setIfInBounds_toArray, List.set_cons_zero, List.set_cons_succ])
              refine wpAnyH_take (i := 10) (oi := { dst := some 50, op := Op.move (Operand.tmp 60), type := 78, pos := "law.go:332", after := #[{ on := 9, ground := Ground.data }], guard := none }) (v := ?_) rfl (by kernel_rfl) (by kernel_rfl) (by kernel_rfl) (fun _ _ _ h => h) (Or.inl ⟨by rfl, ?_⟩) (by assumption) ?_
              rotate_left
              · intro w hSw; (try dsimp only at hSw); (go_simp <;> with_reducible rfl)
              (try simp only [Act.put, List.setIfInBounds_toArray, List.set_cons_zero, List.set_cons_succ])
              refine wpAnyH_take (i := 11) (oi := { dst := some 61, op := Op.extract (Operand.tmp 50) 0, type := 26, pos := "law.go:332", after := #[{ on := 10, ground := Ground.data }], guard := none }) (v := ?_) rfl (by kernel_rfl) (by kernel_rfl) (by kernel_rfl) (fun _ _ _ h => h) (Or.inl ⟨by rfl, ?_⟩) (by assumption) ?_
              rotate_left
              · intro w hSw; (try dsimp only at hSw); (go_simp <;> with_reducible rfl)
              (try simp only [Act.put, List.setIfInBounds_toArray, List.set_cons_zero, List.set_cons_succ])
              refine wpAnyH_take (i := 12) (oi := { dst := some 62, op := Op.extract (Operand.tmp 50) 1, type := 4, pos := "law.go:332", after := #[{ on := 10, ground := Ground.data }, { on := 14, ground := Ground.gcOnly Departure.lateStores }], guard := none }) (v := ?_) rfl (by kernel_rfl) (by kernel_rfl) (by kernel_rfl) (fun _ _ _ h => h) (Or.inl ⟨by rfl, ?_⟩) (by assumption) ?_
              rotate_left
              · intro w hSw; (try dsimp only at hSw); (go_simp <;> with_reducible rfl)
              (try simp only [Act.put, List.setIfInBounds_toArray, List.set_cons_zero, List.set_cons_succ])
              refine wpAnyH_ready (rs := [13]) (by kernel_rfl) (by simp) ?_
              refine AllReadyH.cons (o := { dst := some 8, op := Op.alloc 26, type := 0, pos := "law.go:332", after := #[], guard := none }) rfl (fun K hK => ?_) AllReadyH.nil
              go_simp
              refine hK.out _ _ ?_ (fun hHeld => ?_)
              · (try dsimp only); (exact KS.out _ (by repeat (first | with_reducible assumption | with_reducible apply PA.out | (with_reducible refine PS.out _ _ _ _ ?_ (by first | with_reducible assumption | omega)))))
              clear hK K
              (try simp only [Act.put, List.setIfInBounds_toArray, List.set_cons_zero, List.set_cons_succ])
              refine wpAnyH_ready (rs := [14]) (by kernel_rfl) (by simp) ?_
              refine AllReadyH.cons (o := { dst := none, op := Op.store 26 (Operand.tmp 8) (Operand.tmp 61), type := 0, pos := "law.go:332", after := #[{ on := 13, ground := Ground.data }, { on := 11, ground := Ground.data }, { on := 9, ground := Ground.chain }, { on := 0, ground := Ground.phase }, { on := 1, ground := Ground.phase }, { on := 2, ground := Ground.phase }, { on := 3, ground := Ground.phase }, { on := 4, ground := Ground.phase }, { on := 5, ground := Ground.phase }, { on := 6, ground := Ground.phase }, { on := 7, ground := Ground.phase }, { on := 8, ground := Ground.phase }, { on := 9, ground := Ground.phase }, { on := 10, ground := Ground.phase }, { on := 11, ground := Ground.phase }, { on := 12, ground := Ground.textOnly Departure.lateStores }, { on := 13, ground := Ground.phase }], guard := none }) rfl (fun K hK => ?_) AllReadyH.nil
              go_simp
              refine hK.out _ _ ?_ (fun hHeld => ?_)
              · (try dsimp only); (exact KS.out _ (by repeat (first | with_reducible assumption | with_reducible apply PA.out | (with_reducible refine PS.out _ _ _ _ ?_ (by first | with_reducible assumption | omega)))))
              clear hK K
              (try simp only [Act.put, List.setIfInBounds_toArray, List.set_cons_zero, List.set_cons_succ])
              refine wpAnyH_take (i := 15) (oi := { dst := some 9, op := Op.assign (Operand.tmp 62), type := 4, pos := "law.go:332", after := #[{ on := 12, ground := Ground.data }, { on := 14, ground := Ground.chain }, { on := 0, ground := Ground.phase }, { on := 1, ground := Ground.phase }, { on := 2, ground := Ground.phase }, { on := 3, ground := Ground.phase }, { on := 4, ground := Ground.phase }, { on := 5, ground := Ground.phase }, { on := 6, ground := Ground.phase }, { on := 7, ground := Ground.phase }, { on := 8, ground := Ground.phase }, { on := 9, ground := Ground.phase }, { on := 10, ground := Ground.phase }, { on := 11, ground := Ground.phase }, { on := 12, ground := Ground.phase }, { on := 13, ground := Ground.phase }, { on := 14, ground := Ground.phase }], guard := none }) (v := ?_) rfl (by kernel_rfl) (by kernel_rfl) (by kernel_rfl) (fun _ _ _ h => h) (Or.inl ⟨by rfl, ?_⟩) (by assumption) ?_
              rotate_left
              · intro w hSw; (try dsimp only at hSw); (go_simp <;> with_reducible rfl)
              (try simp only [Act.put, List.setIfInBounds_toArray, List.set_cons_zero, List.set_cons_succ])
              refine wpAnyH_done (by kernel_rfl) ?_ _
              (go_wp2_with fail; go_meet; exact ⟨wG.heap.size, o', nd', r2', s2', t2', r3', s3', t3', r4', s4', t4', r5', s5', t5', rfl, rfl, PA.out _ _ QG, LedBoxO.fresh HL.out⟩)
            refine AllReadyH.cons (o := { dst := some 8, op := Op.alloc 26, type := 0, pos := "law.go:332", after := #[], guard := none }) rfl (fun K hK => ?_) AllReadyH.nil
            go_simp
            refine hK.out _ _ ?_ (fun hHeld => ?_)
            · (try dsimp only); (exact KS.out _ (by repeat (first | with_reducible assumption | with_reducible apply PA.out | (with_reducible refine PS.out _ _ _ _ ?_ (by first | with_reducible assumption | omega)))))
            clear hK K
            (try simp only [Act.put, List.setIfInBounds_toArray, List.set_cons_zero, List.set_cons_succ])
            refine wpAnyH_ready (rs := [9]) (by kernel_rfl) (by simp) ?_
            refine AllReadyH.cons (o := { dst := some 60, op := Op.call { callee := Callee.value (Operand.func 36), args := #[Operand.tmp 51, Operand.tmp 53, Operand.tmp 59], argTypes := #[77, 39, 28] }, type := 78, pos := "law.go:332", after := #[{ on := 0, ground := Ground.data }, { on := 2, ground := Ground.data }, { on := 8, ground := Ground.data }, { on := 8, ground := Ground.chain }], guard := none }) rfl (fun K hK => ?_) AllReadyH.nil
            (go_simp; go_at_call 36; (with_reducible refine (K36o.out _ _ (by first | with_reducible assumption | (with_reducible apply YA.out; with_reducible assumption))).mono ?_); rintro e wG ⟨r2', s2', t2', r3', s3', t3', r4', s4', t4', r5', s5', t5', o', nd', rfl, HL, HC2⟩; have QG : Hid (Below w5.heap.size w5 wG) := PL.out _ _ (by repeat (first | with_reducible assumption | with_reducible apply PA.out)) HC2; (first | (with_reducible refine useIt2 (BN.out _ _ (by with_reducible assumption) HC2) (fun MB hMB => ?_); obtain ⟨m1, m2, m3⟩ := box_walk MB.out) | (with_reducible refine useIt (BL.out _ _ _ MB HC2) (fun MB => ?_); obtain ⟨m1, m2, m3⟩ := box_walk MB.out) | skip))
            refine hK.out _ _ ?_ (fun hHeld => ?_)
            · (try dsimp only); (exact KS.out _ (by repeat (first | with_reducible assumption | with_reducible apply PA.out | (with_reducible refine PS.out _ _ _ _ ?_ (by first | with_reducible assumption | omega)))))
            clear hK K
            (try simp only [Act.put, List.setIfInBounds_toArray, List.set_cons_zero, List.set_cons_succ])
            refine wpAnyH_take (i := 10) (oi := { dst := some 50, op := Op.move (Operand.tmp 60), type := 78, pos := "law.go:332", after := #[{ on := 9, ground := Ground.data }], guard := none }) (v := ?_) rfl (by kernel_rfl) (by kernel_rfl) (by kernel_rfl) (fun _ _ _ h => h) (Or.inl ⟨by rfl, ?_⟩) (by assumption) ?_
            rotate_left
            · intro w hSw; (try dsimp only at hSw); (go_simp <;> with_reducible rfl)
            (try simp only [Act.put, List.setIfInBounds_toArray, List.set_cons_zero, List.set_cons_succ])
            refine wpAnyH_take (i := 11) (oi := { dst := some 61, op := Op.extract (Operand.tmp 50) 0, type := 26, pos := "law.go:332", after := #[{ on := 10, ground := Ground.data }], guard := none }) (v := ?_) rfl (by kernel_rfl) (by kernel_rfl) (by kernel_rfl) (fun _ _ _ h => h) (Or.inl ⟨by rfl, ?_⟩) (by assumption) ?_
            rotate_left
            · intro w hSw; (try dsimp only at hSw); (go_simp <;> with_reducible rfl)
            (try simp only [Act.put, List.setIfInBounds_toArray, List.set_cons_zero, List.set_cons_succ])
            refine wpAnyH_take (i := 12) (oi := { dst := some 62, op := Op.extract (Operand.tmp 50) 1, type := 4, pos := "law.go:332", after := #[{ on := 10, ground := Ground.data }, { on := 14, ground := Ground.gcOnly Departure.lateStores }], guard := none }) (v := ?_) rfl (by kernel_rfl) (by kernel_rfl) (by kernel_rfl) (fun _ _ _ h => h) (Or.inl ⟨by rfl, ?_⟩) (by assumption) ?_
            rotate_left
            · intro w hSw; (try dsimp only at hSw); (go_simp <;> with_reducible rfl)
            (try simp only [Act.put, List.setIfInBounds_toArray, List.set_cons_zero, List.set_cons_succ])
            refine wpAnyH_ready (rs := [14]) (by kernel_rfl) (by simp) ?_
            refine AllReadyH.cons (o := { dst := none, op := Op.store 26 (Operand.tmp 8) (Operand.tmp 61), type := 0, pos := "law.go:332", after := #[{ on := 13, ground := Ground.data }, { on := 11, ground := Ground.data }, { on := 9, ground := Ground.chain }, { on := 0, ground := Ground.phase }, { on := 1, ground := Ground.phase }, { on := 2, ground := Ground.phase }, { on := 3, ground := Ground.phase }, { on := 4, ground := Ground.phase }, { on := 5, ground := Ground.phase }, { on := 6, ground := Ground.phase }, { on := 7, ground := Ground.phase }, { on := 8, ground := Ground.phase }, { on := 9, ground := Ground.phase }, { on := 10, ground := Ground.phase }, { on := 11, ground := Ground.phase }, { on := 12, ground := Ground.textOnly Departure.lateStores }, { on := 13, ground := Ground.phase }], guard := none }) rfl (fun K hK => ?_) AllReadyH.nil
            go_simp
            refine hK.out _ _ ?_ (fun hHeld => ?_)
            · (try dsimp only); (exact KS.out _ (by repeat (first | with_reducible assumption | with_reducible apply PA.out | (with_reducible refine PS.out _ _ _ _ ?_ (by first | with_reducible assumption | omega)))))
            clear hK K
            (try simp only [Act.put, List.setIfInBounds_toArray, List.set_cons_zero, List.set_cons_succ])
            refine wpAnyH_take (i := 15) (oi := { dst := some 9, op := Op.assign (Operand.tmp 62), type := 4, pos := "law.go:332", after := #[{ on := 12, ground := Ground.data }, { on := 14, ground := Ground.chain }, { on := 0, ground := Ground.phase }, { on := 1, ground := Ground.phase }, { on := 2, ground := Ground.phase }, { on := 3, ground := Ground.phase }, { on := 4, ground := Ground.phase }, { on := 5, ground := Ground.phase }, { on := 6, ground := Ground.phase }, { on := 7, ground := Ground.phase }, { on := 8, ground := Ground.phase }, { on := 9, ground := Ground.phase }, { on := 10, ground := Ground.phase }, { on := 11, ground := Ground.phase }, { on := 12, ground := Ground.phase }, { on := 13, ground := Ground.phase }, { on := 14, ground := Ground.phase }], guard := none }) (v := ?_) rfl (by kernel_rfl) (by kernel_rfl) (by kernel_rfl) (fun _ _ _ h => h) (Or.inl ⟨by rfl, ?_⟩) (by assumption) ?_
            rotate_left
            · intro w hSw; (try dsimp only at hSw); (go_simp <;> with_reducible rfl)
            (try simp only [Act.put, List.setIfInBounds_toArray, List.set_cons_zero, List.set_cons_succ])
            refine wpAnyH_done (by kernel_rfl) ?_ _
            (go_wp2_with fail; go_meet; exact ⟨wF.heap.size, o', nd', r2', s2', t2', r3', s3', t3', r4', s4', t4', r5', s5', t5', rfl, rfl, Lib.hid (below_six QG.out hMB _ _ _ _ _ _), LedBoxO.stored MB.out HL.out⟩)
          refine AllReadyH.cons (o := { dst := some 8, op := Op.alloc 26, type := 0, pos := "law.go:332", after := #[], guard := none }) rfl (fun K hK => ?_) AllReadyH.nil
          go_simp
          refine hK.out _ _ ?_ (fun hHeld => ?_)
          · (try dsimp only); (exact KS.out _ (by repeat (first | with_reducible assumption | with_reducible apply PA.out | (with_reducible refine PS.out _ _ _ _ ?_ (by first | with_reducible assumption | omega)))))
          clear hK K
          (try simp only [Act.put, List.setIfInBounds_toArray, List.set_cons_zero, List.set_cons_succ])
          refine wpAnyH_ready (rs := [8]) (by kernel_rfl) (by simp) ?_
          refine AllReadyH.cons (o := { dst := some 59, op := Op.call { callee := Callee.value (Operand.func 37), args := #[Operand.tmp 55, Operand.tmp 56, Operand.tmp 58], argTypes := #[39, 71, 3] }, type := 28, pos := "law.go:332", after := #[{ on := 4, ground := Ground.data }, { on := 5, ground := Ground.data }, { on := 7, ground := Ground.data }], guard := none }) rfl (fun K hK => ?_) AllReadyH.nil
          (go_simp; go_at_call 37; (with_reducible refine (K37.out _ (by repeat (first | with_reducible assumption | with_reducible apply PA.out))).mono ?_); rintro e wF ⟨gF, cF, rfl, HBY, HC⟩; have QF : Hid (Below w5.heap.size w5 wF) := PL.out _ _ (by repeat (first | with_reducible assumption | with_reducible apply PA.out)) HC; (first | (with_reducible refine useIt2 (BD.out _ HC) (fun MB hMB => ?_); obtain ⟨m1, m2, m3⟩ := box_walk MB.out) | skip))
          refine hK.out _ _ ?_ (fun hHeld => ?_)
          · (try dsimp only); (exact KS.out _ (by repeat (first | with_reducible assumption | with_reducible apply PA.out | (with_reducible refine PS.out _ _ _ _ ?_ (by first | with_reducible assumption | omega)))))
          clear hK K
          (try simp only [Act.put, List.setIfInBounds_toArray, List.set_cons_zero, List.set_cons_succ])
          refine wpAnyH_ready (rs := [9]) (by kernel_rfl) (by simp) ?_
          refine AllReadyH.cons (o := { dst := some 60, op := Op.call { callee := Callee.value (Operand.func 36), args := #[Operand.tmp 51, Operand.tmp 53, Operand.tmp 59], argTypes := #[77, 39, 28] }, type := 78, pos := "law.go:332", after := #[{ on := 0, ground := Ground.data }, { on := 2, ground := Ground.data }, { on := 8, ground := Ground.data }, { on := 8, ground := Ground.chain }], guard := none }) rfl (fun K hK => ?_) AllReadyH.nil
          (go_simp; go_at_call 36; (with_reducible refine (K36o.out _ _ (by first | with_reducible assumption | (with_reducible apply YA.out; with_reducible assumption))).mono ?_); rintro e wG ⟨r2', s2', t2', r3', s3', t3', r4', s4', t4', r5', s5', t5', o', nd', rfl, HL, HC2⟩; have QG : Hid (Below w5.heap.size w5 wG) := PL.out _ _ (by repeat (first | with_reducible assumption | with_reducible apply PA.out)) HC2; (first | (with_reducible refine useIt2 (BN.out _ _ (by with_reducible assumption) HC2) (fun MB hMB => ?_); obtain ⟨m1, m2, m3⟩ := box_walk MB.out) | (with_reducible refine useIt (BL.out _ _ _ MB HC2) (fun MB => ?_); obtain ⟨m1, m2, m3⟩ := box_walk MB.out) | skip))
          refine hK.out _ _ ?_ (fun hHeld => ?_)
          · (try dsimp only); (exact KS.out _ (by repeat (first | with_reducible assumption | with_reducible apply PA.out | (with_reducible refine PS.out _ _ _ _ ?_ (by first | with_reducible assumption | omega)))))
          clear hK K
          (try simp only [Act.put, List.setIfInBounds_toArray, List.set_cons_zero, List.set_cons_succ])
          refine wpAnyH_take (i := 10) (oi := { dst := some 50, op := Op.move (Operand.tmp 60), type := 78, pos := "law.go:332", after := #[{ on := 9, ground := Ground.data }], guard := none }) (v := ?_) rfl (by kernel_rfl) (by kernel_rfl) (by kernel_rfl) (fun _ _ _ h => h) (Or.inl ⟨by rfl, ?_⟩) (by assumption) ?_
          rotate_left
          · intro w hSw; (try dsimp only at hSw); (go_simp <;> with_reducible rfl)
          (try simp only [Act.put, List.setIfInBounds_toArray, List.set_cons_zero, List.set_cons_succ])
          refine wpAnyH_take (i := 11) (oi := { dst := some 61, op := Op.extract (Operand.tmp 50) 0, type := 26, pos := "law.go:332", after := #[{ on := 10, ground := Ground.data }], guard := none }) (v := ?_) rfl (by kernel_rfl) (by kernel_rfl) (by kernel_rfl) (fun _ _ _ h => h) (Or.inl ⟨by rfl, ?_⟩) (by assumption) ?_
          rotate_left
          · intro w hSw; (try dsimp only at hSw); (go_simp <;> with_reducible rfl)
          (try simp only [Act.put, List.setIfInBounds_toArray, List.set_cons_zero, List.set_cons_succ])
          refine wpAnyH_take (i := 12) (oi := { dst := some 62, op := Op.extract (Operand.tmp 50) 1, type := 4, pos := "law.go:332", after := #[{ on := 10, ground := Ground.data }, { on := 14, ground := Ground.gcOnly Departure.lateStores }], guard := none }) (v := ?_) rfl (by kernel_rfl) (by kernel_rfl) (by kernel_rfl) (fun _ _ _ h => h) (Or.inl ⟨by rfl, ?_⟩) (by assumption) ?_
          rotate_left
          · intro w hSw; (try dsimp only at hSw); (go_simp <;> with_reducible rfl)
          (try simp only [Act.put, List.setIfInBounds_toArray, List.set_cons_zero, List.set_cons_succ])
          refine wpAnyH_ready (rs := [14]) (by kernel_rfl) (by simp) ?_
          refine AllReadyH.cons (o := { dst := none, op := Op.store 26 (Operand.tmp 8) (Operand.tmp 61), type := 0, pos := "law.go:332", after := #[{ on := 13, ground := Ground.data }, { on := 11, ground := Ground.data }, { on := 9, ground := Ground.chain }, { on := 0, ground := Ground.phase }, { on := 1, ground := Ground.phase }, { on := 2, ground := Ground.phase }, { on := 3, ground := Ground.phase }, { on := 4, ground := Ground.phase }, { on := 5, ground := Ground.phase }, { on := 6, ground := Ground.phase }, { on := 7, ground := Ground.phase }, { on := 8, ground := Ground.phase }, { on := 9, ground := Ground.phase }, { on := 10, ground := Ground.phase }, { on := 11, ground := Ground.phase }, { on := 12, ground := Ground.textOnly Departure.lateStores }, { on := 13, ground := Ground.phase }], guard := none }) rfl (fun K hK => ?_) AllReadyH.nil
          go_simp
          refine hK.out _ _ ?_ (fun hHeld => ?_)
          · (try dsimp only); (exact KS.out _ (by repeat (first | with_reducible assumption | with_reducible apply PA.out | (with_reducible refine PS.out _ _ _ _ ?_ (by first | with_reducible assumption | omega)))))
          clear hK K
          (try simp only [Act.put, List.setIfInBounds_toArray, List.set_cons_zero, List.set_cons_succ])
          refine wpAnyH_take (i := 15) (oi := { dst := some 9, op := Op.assign (Operand.tmp 62), type := 4, pos := "law.go:332", after := #[{ on := 12, ground := Ground.data }, { on := 14, ground := Ground.chain }, { on := 0, ground := Ground.phase }, { on := 1, ground := Ground.phase }, { on := 2, ground := Ground.phase }, { on := 3, ground := Ground.phase }, { on := 4, ground := Ground.phase }, { on := 5, ground := Ground.phase }, { on := 6, ground := Ground.phase }, { on := 7, ground := Ground.phase }, { on := 8, ground := Ground.phase }, { on := 9, ground := Ground.phase }, { on := 10, ground := Ground.phase }, { on := 11, ground := Ground.phase }, { on := 12, ground := Ground.phase }, { on := 13, ground := Ground.phase }, { on := 14, ground := Ground.phase }], guard := none }) (v := ?_) rfl (by kernel_rfl) (by kernel_rfl) (by kernel_rfl) (fun _ _ _ h => h) (Or.inl ⟨by rfl, ?_⟩) (by assumption) ?_
          rotate_left
          · intro w hSw; (try dsimp only at hSw); (go_simp <;> with_reducible rfl)
          (try simp only [Act.put, List.setIfInBounds_toArray, List.set_cons_zero, List.set_cons_succ])
          refine wpAnyH_done (by kernel_rfl) ?_ _
          (go_wp2_with fail; go_meet; exact ⟨w5.heap.size, o', nd', r2', s2', t2', r3', s3', t3', r4', s4', t4', r5', s5', t5', rfl, rfl, Lib.hid (below_six QG.out hMB _ _ _ _ _ _), LedBoxO.stored MB.out HL.out⟩)
        case rest =>
          obtain ⟨k8, o', nd', r2', s2', t2', r3', s3', t3', r4', s4', t4', r5', s5', t5', rfl, rfl, Q9, L9⟩ := hcut
          have L6 := Lib.hid (L5.out.later Q9.out)
          have B6 := Lib.hid (below_step B5.out Q9.out)
          have HFF := Lib.hid (HFT.out kb r)
          clear KS PA PL PS BD BN BL YL YA K37 K36o P0 P1 P2
          obtain ⟨n1, n2, n3⟩ := box_walk L6.out.box
          obtain ⟨p1, p2, p3⟩ := box_walk L9.out.box
          go_wp2_with (refine (same_25 _ _ _ (goneD a b f kb r) L6.out.led.led L9.out.led.led HFF.out).mono ?_; rintro e wS ⟨rfl, bS⟩)
          go_ret
          exact ⟨rfl, below_step B6.out bS⟩
  · have hd3 : (300 : Int) < (rl : Int) := by omega
    go_wp2
    go_ret
    exact ⟨rfl, B1.out⟩
end Go.Proofs.YtpbgipdkaaooeaaGreatDoor
