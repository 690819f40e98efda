/- forget.Enroll: the walk, by cases. -/
import Derived.Test.YtpbgipdkaaooeaaGreatDoorX
import Derived.Test.YtpbgipdkaaooeaaGreatDoorM
import Derived.Deep.DeepCutAuto
import Derived.BigQuiet
import Derived.Deep.RegionHeld3
import Derived.Deep.AppendLies
open Go Go.Proofs Go.RowKit Go.Sort
namespace Go.Proofs.YtpbgipdkaaooeaaGreatDoor
set_option linter.unusedSimpArgs false
set_option linter.unusedVariables false
attribute [local go_sem ↓] Go.wp_at_zero Go.wp_at_succ

set_option maxRecDepth 100000 in
set_option maxHeartbeats 2000000 in
theorem enroll_tff (w : World) (v vr : Value) (g : LedD) (t : ByteArray) (kb r : List Int) (A : Nat) (hA : A ≤ w.heap.size) (hAt : LedAt A w v g) (hf : Fits g) (hkl : kb.length = 32) (hkb : ∀ x ∈ kb, 0 ≤ x ∧ x ≤ 255) (hr : BytesR w vr r) (hqv : validB g = true) (hqe : sEq t ⟨#[]⟩ = false) (hqd : (firstD t g.dones).isSome = false) :
    Calls Tryz.prog 12 #[v, .string t, .agg (kb.map (Value.int .u8)).toArray, vr] w (LedErrA A w (enrollD g t kb r) (enrollE g t)) := by
  have h := hAt.led
  have HAT := Lib.hid hAt
  clear hAt
  obtain ⟨v2, v3, v4, v5, rfl, hrest⟩ := id h
  obtain ⟨H2, -, H4, H5⟩ := hrest
  have F0 := ThreeBox.laid w #[.int .i64 g.owners, .int .i64 g.need, v2, v3, v4, v5] (kb.map (Value.int .u8)).toArray #[.int .i64 0, .int .i64 0, .slice none 0 0, .slice none 0 0, .slice none 0 0, .slice none 0 0] 26 39 26
  have AV : Hid (∀ wx, Below w.heap.size w wx → Calls Tryz.prog 41 #[.agg #[.int .i64 g.owners, .int .i64 g.need, v2, v3, v4, v5]] wx fun e w' => e = .returned (.bool (validB g)) ∧ Below wx.heap.size wx w') := fun wx hb => valid_41 wx _ g (h.later hb)
  have AH : Hid (∀ wx, Below w.heap.size w wx → Calls Tryz.prog 42 #[v5, .string t] wx fun e w' => e = .returned (.bool (firstD t g.dones).isSome) ∧ Below wx.heap.size wx w') := fun wx hb => has_42 wx v5 g.dones t (H5.later hb) (by have := hf.e; omega)
  have AD : Hid (∀ wx, Below w.heap.size w wx → Calls Tryz.prog 42 #[v4, .string t] wx fun e w' => e = .returned (.bool (firstD t g.demands).isSome) ∧ Below wx.heap.size wx w') := fun wx hb => has_42 wx v4 g.demands t (H4.later hb) (by have := hf.d; omega)
  have AL : Hid (∀ wx, Below w.heap.size w wx → Calls Tryz.prog 43 #[.agg #[.int .i64 g.owners, .int .i64 g.need, v2, v3, v4, v5], .string t] wx fun e w' => e = .returned (.int .i64 (leftD t g.shares)) ∧ Below wx.heap.size wx w') := fun wx hb => left_43 wx _ g t (h.later hb) (by have := hf.s; omega) (fun r hr => by have := hf.r r hr; omega)
  have CC : Hid (∀ wx, Below w.heap.size w wx → Calls Tryz.prog 45 #[.agg #[.int .i64 g.owners, .int .i64 g.need, v2, v3, v4, v5]] wx (CloneRet A wx g)) := fun wx hb => hf.clone hb hA HAT.out
  have HE : Hid (enrollE g t = firstErr [(decide (200 < (t.size : Int)), 1), ((firstD t g.demands).isSome, 351), (decide (0 < leftD t g.shares), 240)]) := by
    refine Lib.hid ?_
    unfold enrollE
    rw [hqv, hqe, hqd]
    rfl
  have HD : Hid (enrollD g t kb r = if enrollE g t = 0 then enrAt g t kb r (g.need.toNat - 1) g.shares.length else zeroLed) := rfl
  rw [hqv] at AV
  rw [hqd] at AH
  have HSE := (sEq_empty t).trans hqe
  have hval := hqv
  unfold validB at hval
  simp only [Bool.and_eq_true, decide_eq_true_eq] at hval
  obtain ⟨⟨⟨hv1, hv2⟩, hv3⟩, hv4⟩ := hval
  obtain ⟨nm, hnm⟩ : ∃ nm : Nat, g.need = (nm : Int) + 1 := ⟨g.need.toNat - 1, by omega⟩
  obtain ⟨n, hn⟩ : ∃ n : Nat, g.owners = (n : Int) := ⟨g.owners.toNat, by omega⟩
  have hsn : g.shares.length = n := by omega
  have CS : Hid (∀ wx, ThreeBox w #[.int .i64 g.owners, .int .i64 g.need, v2, v3, v4, v5] (kb.map (Value.int .u8)).toArray #[.int .i64 0, .int .i64 0, .slice none 0 0, .slice none 0 0, .slice none 0 0, .slice none 0 0] 26 39 26 wx → Calls Tryz.prog 44 #[.slice (some ⟨w.heap.size + 1, 0, none⟩) 32 32, vr, .agg #[.int .i64 g.need, .int .i64 g.owners]] wx (SplitRet wx kb r nm n)) := fun wx hx => by
    have hbk : BytesR wx (.slice (some ⟨w.heap.size + 1, 0, none⟩) 32 32) kb := by
      refine ⟨⟨by simp, _, 32, by rw [hkl], by omega, by unfold maxLen; omega, fun _ => ⟨_, 0, rfl, lt_of_blk hx.two, fun j hj => ?_⟩⟩, hkb⟩
      rw [Nat.zero_add, (blk_cells hx.two).1 j]
      simp
    rw [hnm, hn]
    exact split_44 wx _ vr kb r nm n hbk (hr.later hx.below) (by omega) (by omega) (by omega)
  have HBY : Hid (∀ x, ∀ y ∈ maskedD kb r nm x, 0 ≤ y ∧ y ≤ 255) := fun x => maskedD_bytes (w := w.alloc (.cells (kb.map (Value.int .u8)).toArray 39)) (v := .slice (some ⟨w.heap.size, 0, none⟩) 32 32) ⟨⟨by simp, _, 32, by rw [hkl], by omega, by unfold maxLen; omega, fun _ => ⟨_, 0, rfl, by simp, fun j hj => by rw [Nat.zero_add, (blk_cells (heap_alloc_new w (.cells (kb.map (Value.int .u8)).toArray 39))).1 j]; simp⟩⟩, hkb⟩ r nm x
  have HNM : Hid (g.need.toNat - 1 = nm) := Lib.hid (by omega)
  have HSN := Lib.hid hsn
  have HKL := Lib.hid hkl
  have HR : Hid (∀ (j : Nat) (h : j < g.shares.length), g.shares[j].length ≤ 4095) := fun j h => hf.r _ (List.getElem_mem h)
  have hn5 : n ≤ 5 := by omega
  have hn0 : 0 < n := by omega
  obtain ⟨i0, HI⟩ : ∃ i, Tryz.prog.info? 90 = some i ∧ i.zero = some (.agg #[.string ByteArray.empty, .int .u8 0, .slice none 0 0]) ∧ i.size = 3 ∧ i.bytes = 48 := by
    have := info90
    cases hh : Tryz.prog.info? 90 with
    | none => rw [hh] at this; cases this
    | some i => rw [hh] at this; simp at this; exact ⟨i, rfl, this.1, this.2.1, this.2.2⟩
  replace HI := Lib.hid HI
  clear hv1 hv2 hv3 hv4 hnm hn hsn
  generalize enrollD g t kb r = gd at *
  generalize enrollE g t = fe at *
  clear h H2 H4 H5 hf hqv hqd hqe hkl hkb hr
  go_enter Tryz.func12, Tryz.ntmps12
  go_upto_region 1 with fail
  generalize hW : ((w.alloc (.cells #[.int .i64 g.owners, .int .i64 g.need, v2, v3, v4, v5] 26)).alloc (.cells (kb.map (Value.int .u8)).toArray 39)).alloc (.cells #[.int .i64 0, .int .i64 0, .slice none 0 0, .slice none 0 0, .slice none 0 0, .slice none 0 0] 26) = W at *
  clear hW
  have c1 := class_cells F0.one
  have cV := class_call (W := W) (fun wx hb => AV.out wx (below_step F0.below hb))
  have cH := class_call (W := W) (fun wx hb => AH.out wx (below_step F0.below hb))
  have cD := class_call (W := W) (fun wx hb => AD.out wx (below_step F0.below hb))
  have cL := class_call (W := W) (fun wx hb => AL.out wx (below_step F0.below hb))
  refine wp_region_quiet_tail (C := fun w' => ∃ p : Regrown, w' = grow (redrawn W p.d) p.os) 29 (by kernel_rfl) (by kernel_rfl) ⟨⟨W.drawn + 1, #[]⟩, by rw [grow_empty]; rfl⟩ ?_
  dsimp only [List.take, List.drop]
  repeat (go_big_quiet_step (first | with_reducible exact cV _ _ | with_reducible exact cH _ _ | with_reducible exact cD _ _ | with_reducible exact cL _ _))
  refine wpQuiet_nil ?_
  intro w1 hw1
  have b1 := regrown_below hw1
  clear hw1 c1 cV cH cD cL AV AH AD AL
  have F1 := F0.later b1
  clear b1 F0
  have CF := Lib.hid (first_40 (w1.alloc (.cells #[.bool (decide (200 < (t.size : Int))), .int .i64 1, .bool ((firstD t g.demands).isSome), .int .i64 351, .bool (decide (0 < leftD t g.shares)), .int .i64 240] 95)) _ [(decide (200 < (t.size : Int)), 1), ((firstD t g.demands).isSome, 351), (decide (0 < leftD t g.shares), 240)] (checks_r w1 _ 95 _ (by rfl) w1.heap.size 3 rfl rfl (by simp)) (by simp))
  rw [← HE.out] at CF
  by_cases hfe : fe = 0
  · subst hfe
    rw [if_pos rfl] at HD
    go_upto_region 4 with (go_at_call 40; refine CF.out.mono ?_; rintro e w2 ⟨rfl, b2⟩; have F2 := F1.later (((Below.refl _ _).alloc (Nat.le_refl _) _).trans (b2.mono (by simp))); obtain ⟨c1, c2, c3, c4, c5, c6, c7⟩ := F2.walk)
    have F2d := F2.drew
    go_region_with (go_at_call 44; refine (CS.out _ F2d).mono ?_; rintro e w3 ⟨k, K, qs, rfl, SI⟩)
    all_goals
      have F3 := F2d.later SI.below
      clear c1 c2 c3 c4 c5 c6 c7
      obtain ⟨c1, c2, c3, c4, c5, c6, c7⟩ := F3.walk
      go_wp2_with (go_at_call 45; refine (CC.out _ F3.below).mono ?_; rintro e w4 ⟨v2', v3', v4', v5', vs, pss, rfl, hO, b4⟩; obtain ⟨a2, k2, rfl⟩ := slice_of_owns hO.o2; obtain ⟨a3, k3, rfl⟩ := slice_of_owns hO.o3; obtain ⟨a4, k4, rfl⟩ := slice_of_owns hO.o4; obtain ⟨a5, k5, rfl⟩ := slice_of_owns hO.o5)
      have hvn : vs.length = n := hO.len.trans HSN.out
      obtain ⟨g2, rfl⟩ := own_some hO.o2 (by rw [hvn]; omega)
      have b5 := (Below.refl w4.heap.size w4).alloc (Nat.le_refl _) (.cells #[.int .i64 g.owners, .int .i64 g.need, .slice (some ⟨g2, 0, none⟩) vs.length k2, .slice a3 g.holds.length k3, .slice a4 g.demands.length k4, .slice a5 g.dones.length k5] 26)
      have I0 : Hid (EnrInv A w w2.drew #[.int .i64 g.owners, .int .i64 g.need, v2, v3, v4, v5] (kb.map (Value.int .u8)).toArray #[.int .i64 0, .int .i64 0, .slice none 0 0, .slice none 0 0, .slice none 0 0, .slice none 0 0] #[.int .i64 g.owners, .int .i64 g.need, .slice (some ⟨g2, 0, none⟩) vs.length k2, .slice a3 g.holds.length k3, .slice a4 g.demands.length k4, .slice a5 g.dones.length k5] w3.heap.size k K w4.heap.size g2 vs.length k2 (.slice a3 g.holds.length k3) (.slice a4 g.demands.length k4) (.slice a5 g.dones.length k5) g t kb r nm n qs 0 vs pss (w4.alloc (.cells #[.int .i64 g.owners, .int .i64 g.need, .slice (some ⟨g2, 0, none⟩) vs.length k2, .slice a3 g.holds.length k3, .slice a4 g.demands.length k4, .slice a5 g.dones.length k5] 26))) :=
        ⟨(F3.later b4).later b5, SI.keep (below_step (below_step SI.below b4) b5) (fun q c ty hq _ => blk_later (blk_later hq b4) b5), heap_alloc_new _ _, rfl, by rw [enrAt_zero]; exact hO.later b5⟩
      have hwB : w.heap.size + 1 + 1 < w3.heap.size := F3.walk.2.2.2.2.2.2
      have hSB : Hid (w2.drew.heap.size ≤ w3.heap.size) := SI.below.size
      have HVN := Lib.hid hvn
      clear c1 c2 c3 c4 c5 c6 c7 hO b5 b4 SI F3 F2d F2 b2 F1 CC CS CF hvn
      generalize w3.heap.size = B at *
      generalize w4.heap.size = k12 at *
      generalize w2.drew = wS at *
      generalize w4.alloc (.cells #[.int .i64 g.owners, .int .i64 g.need, .slice (some ⟨g2, 0, none⟩) vs.length k2, .slice a3 g.holds.length k3, .slice a4 g.demands.length k4, .slice a5 g.dones.length k5] 26) = W5 at *
      go_loopw [69] (fun c wr => ∃ (j : Nat) (vs' : List Value) (pss' : List (List (ByteArray × Int × Value))), j ≤ n ∧ c = .int .i64 ((j : Nat) : Int) ∧ Hid (EnrInv A w wS #[.int .i64 g.owners, .int .i64 g.need, v2, v3, v4, v5] (kb.map (Value.int .u8)).toArray #[.int .i64 0, .int .i64 0, .slice none 0 0, .slice none 0 0, .slice none 0 0, .slice none 0 0] #[.int .i64 g.owners, .int .i64 g.need, .slice (some ⟨g2, 0, none⟩) vs.length k2, .slice a3 g.holds.length k3, .slice a4 g.demands.length k4, .slice a5 g.dones.length k5] B k K k12 g2 vs.length k2 (.slice a3 g.holds.length k3) (.slice a4 g.demands.length k4) (.slice a5 g.dones.length k5) g t kb r nm n qs j vs' pss' wr)) (fun c _ => n - (intOf c).toNat)
      case atStart => exact ⟨0, vs, pss, Nat.zero_le _, rfl, I0⟩
      case round =>
        clear I0
        obtain ⟨j, vs', pss', hj, rfl, HI'⟩ := hrel
        by_cases hlt : j < n
        · have hjv : j < vs'.length := by rw [HI'.out.len, HVN.out]; exact hlt
          have hjv0 : j < vs.length := by rw [HVN.out]; exact hlt
          have hj2 : j < g.shares.length := by rw [HSN.out]; exact hlt
          have hjq : j < qs.length := by rw [HI'.out.split.len]; exact hlt
          obtain ⟨hm1, hm2⟩ := HI'.out.split.made j hjq hlt
          have hat := shareCells_at qs j hjq
          have r1 : wr.cell? ⟨K, j * 2, none⟩ = some (.int .u8 ((j : Int) + 1)) := by rw [HI'.out.split.own.cellAt _ (by omega), hat.1, hm1]; rfl
          have r2 : wr.cell? ⟨K, j * 2 + 1, none⟩ = some qs[j].2 := by rw [HI'.out.split.own.cellAt _ (by omega), hat.2]
          obtain ⟨ab, kb', hbv⟩ := slice_of_owns hm2
          have KWR : K < wr.heap.size := (HI'.out.split.own.lt K rfl).2
          rw [hbv] at r2
          clear hat hm1 hm2
          have I1 := Lib.hid (HI'.out.later ((Below.refl wr.heap.size wr).alloc (Nat.le_refl _) (.cells #[.int .u8 ((j : Int) + 1), .slice ab kb.length kb'] 81)))
          have b14 := Lib.hid (heap_alloc_new wr (.cells #[.int .u8 ((j : Int) + 1), .slice ab kb.length kb'] 81))
          have hbv := Lib.hid hbv
          have cv0 : Hid (wr.cell? ⟨g2, j, none⟩ = some vs'[j]) := Lib.hid (by have := HI'.out.led.o2.cellAt (g := g2) j (by omega); rw [this, List.getElem?_eq_getElem hjv])
          go_upto_region 11 with fail
          have cv := Go.Lib.cell?_alloc_some (.cells #[.int .u8 ((j : Int) + 1), .slice ab kb.length kb'] 81) cv0.out
          generalize hW : wr.alloc (.cells #[.int .u8 ((j : Int) + 1), .slice ab kb.length kb'] 81) = W at *
          obtain ⟨d1, d2, d3⟩ := box_walk I1.out.box
          obtain ⟨e1, e2, e3⟩ := box_walk b14.out
          have I3 := Lib.hid ((I1.out.later ((Below.refl W.heap.size W).alloc (Nat.le_refl _) (.cells #[.string t, .int .u8 ((j : Int) + 1), .slice ab kb.length kb'] 90))).later (Below.refl _ _).drew)
          have hg2 : g2 < W.heap.size := (I1.out.led.o2.lt g2 rfl).2
          have hrl : (pss'.getD j []).length ≤ 4095 := by
            have hj3 : j < (enrAt g t kb r nm j).shares.length := by rw [enrAt_length]; exact hj2
            have := (I3.out.led.are _ (Below.refl _ _) (Keeps5.refl _) j hj3).length
            rw [this, enrAt_at _ _ _ _ _ _ _ hj2, if_neg (by omega)]
            exact HR.out j hj2
          have b14d : Hid ((W.alloc (.cells #[.string t, .int .u8 ((j : Int) + 1), .slice ab kb.length kb'] 90)).drew.heap[wr.heap.size]? = some (.cells #[.int .u8 ((j : Int) + 1), .slice ab kb.length kb'] 81 (0, 0))) := Lib.hid (blk_later b14.out ((Below.refl W.heap.size W).alloc (Nat.le_refl _) _).drew)
          have STEP : Hid (∀ (w7 : World) (gn cap : Nat), w7.ownsRow B 90 3 (.slice (some ⟨gn, 0, none⟩) ((pss'.getD j []).length + 1) cap) ((pss'.getD j []).length + 1) (heldCells (pss'.getD j []) ++ [.string t, .int .u8 ((j : Int) + 1), .slice ab kb.length kb']) →
              (W.alloc (.cells #[.string t, .int .u8 ((j : Int) + 1), .slice ab kb.length kb'] 90)).drew.grownBy w7 vs'[j].ownBlock → (vs'[j].ownBlock = some gn ∨ gn = (W.alloc (.cells #[.string t, .int .u8 ((j : Int) + 1), .slice ab kb.length kb'] 90)).drew.heap.size) →
              (w7.cell? ⟨g2, j, none⟩ = some vs'[j] ∧ w7.frozen? ⟨g2, j, none⟩ = false) ∧ (w7.heap[k12]? = some (.cells #[.int .i64 g.owners, .int .i64 g.need, .slice (some ⟨g2, 0, none⟩) vs.length k2, .slice a3 g.holds.length k3, .slice a4 g.demands.length k4, .slice a5 g.dones.length k5] 26 (0, 0)) ∧ w7.heap[wr.heap.size]? = some (.cells #[.int .u8 ((j : Int) + 1), .slice ab kb.length kb'] 81 (0, 0))) ∧ ∃ pss2, Hid (EnrInv A w wS #[.int .i64 g.owners, .int .i64 g.need, v2, v3, v4, v5] (kb.map (Value.int .u8)).toArray #[.int .i64 0, .int .i64 0, .slice none 0 0, .slice none 0 0, .slice none 0 0, .slice none 0 0] #[.int .i64 g.owners, .int .i64 g.need, .slice (some ⟨g2, 0, none⟩) vs.length k2, .slice a3 g.holds.length k3, .slice a4 g.demands.length k4, .slice a5 g.dones.length k5] B k K k12 g2 vs.length k2 (.slice a3 g.holds.length k3) (.slice a4 g.demands.length k4) (.slice a5 g.dones.length k5) g t kb r nm n qs (j + 1) (vs'.set j (.slice (some ⟨gn, 0, none⟩) ((pss'.getD j []).length + 1) cap)) pss2 (w7.setCell ⟨g2, j, none⟩ (.slice (some ⟨gn, 0, none⟩) ((pss'.getD j []).length + 1) cap)))) := fun w7 gn cap hown hg hat => by
            rw [← hbv.out] at hown
            obtain ⟨x1, x2, x3⟩ := I3.out.step HKL.out (HBY.out (j + 1)) hwB hSB.out hjv hj2 hjq hlt (by omega) hown hg (by rcases hat with e | e; exact .inl (by rw [e]; rfl); exact .inr (by rw [e]; rfl))
            exact ⟨x1, ⟨x2 _ _ _ I3.out.box (by decide), x2 _ _ _ (b14d.out) (by decide)⟩, x3⟩
          have HROW := Lib.hid (I3.out.led.rows j hjv)
          have HBASE := Lib.hid I3.out.led.base
          have HNEWS := Lib.hid (triple_laid W (.string t) (.int .u8 ((j : Int) + 1)) (.slice ab kb.length kb') 90 W.heap.size rfl)
          have HONE : Hid (∀ u ∈ [Value.string t, .int .u8 ((j : Int) + 1), .slice ab kb.length kb'], u.oneCell' = true) := by
            refine Lib.hid ?_
            intro u hu; simp at hu; rcases hu with rfl | rfl | rfl <;> rfl
          obtain ⟨x1, x2, x3⟩ := box_walk I3.out.box
          obtain ⟨x4, x5, x6⟩ := box_walk b14d.out
          have x7 : (W.alloc (.cells #[.string t, .int .u8 ((j : Int) + 1), .slice ab kb.length kb'] 90)).drew.cell? ⟨g2, j, none⟩ = some vs'[j] := Go.Lib.cell?_alloc_some (W := W) _ cv
          have x8 : g2 < (W.alloc (.cells #[.string t, .int .u8 ((j : Int) + 1), .slice ab kb.length kb'] 90)).drew.heap.size := World.block_lt_of_cell? _ _ x7
          have SA := Lib.hid (And.intro (And.intro x1 x3) x4)
          have HNE : Hid (g2 ≠ wr.heap.size) := Lib.hid (by have := World.block_lt_of_cell? _ _ cv0.out; exact Nat.ne_of_lt this)
          clear x1 x2 x3 x4 x5 x6
          clear b14 cv0 r1 r2 I3
          generalize (pss'.getD j []).length = m at *
          generalize heldCells (pss'.getD j []) = hc at *
          refine wp_region_held_drew (S := (fun w' => ((∀ i, w'.cell? ⟨k12, i, none⟩ = #[.int .i64 g.owners, .int .i64 g.need, .slice (some ⟨g2, 0, none⟩) vs.length k2, .slice a3 g.holds.length k3, .slice a4 g.demands.length k4, .slice a5 g.dones.length k5][i]?) ∧ k12 < w'.heap.size) ∧ (∀ i, w'.cell? ⟨wr.heap.size, i, none⟩ = #[.int .u8 ((j : Int) + 1), .slice ab kb.length kb'][i]?))) (by kernel_rfl) ?_ (fun hHeld => ?_)
          · (try dsimp only); (first | assumption | exact ⟨⟨d1, d3⟩, e1⟩ | exact SA.out | exact ⟨⟨d4, d6⟩, f4⟩ | exact ⟨⟨d7, d9⟩, fun i => (World.cell?_setCell_far _ _ _ _ HNE.out).trans (f4 i)⟩)
          refine wpAnyH_take (i := 0) (oi := { dst := some 74, op := Op.fieldAddr 26 (Operand.tmp 12) 2, type := 0, pos := "forget.go:100", after := #[], guard := none }) (v := ?_) rfl (by kernel_rfl) (by kernel_rfl) (by kernel_rfl) (fun _ _ _ h => h) (Or.inl ⟨by rfl, ?_⟩) (by assumption) ?_
          rotate_left
          · intro w hSw; (try dsimp only at hSw); (go_simp <;> with_reducible rfl)
          (try simp only [Act.put, List.setIfInBounds_toArray, List.set_cons_zero, List.set_cons_succ])
          refine wpAnyH_take (i := 1) (oi := { dst := some 75, op := Op.load 22 (Operand.tmp 74), type := 22, pos := "forget.go:100", after := #[{ on := 0, ground := Ground.data }], guard := none }) (v := ?_) rfl (by kernel_rfl) (by kernel_rfl) (by kernel_rfl) (fun _ _ _ h => h) (Or.inl ⟨by rfl, ?_⟩) (by assumption) ?_
          rotate_left
          · intro w hSw; (try dsimp only at hSw); (go_simp <;> with_reducible rfl)
          (try simp only [Act.put, List.setIfInBounds_toArray, List.set_cons_zero, List.set_cons_succ])
          refine wpAnyH_take (i := 2) (oi := { dst := some 76, op := Op.move (Operand.tmp 13), type := 3, pos := "forget.go:100", after := #[], guard := none }) (v := ?_) rfl (by kernel_rfl) (by kernel_rfl) (by kernel_rfl) (fun _ _ _ h => h) (Or.inl ⟨by rfl, ?_⟩) (by assumption) ?_
          rotate_left
          · intro w hSw; (try dsimp only at hSw); (go_simp <;> with_reducible rfl)
          (try simp only [Act.put, List.setIfInBounds_toArray, List.set_cons_zero, List.set_cons_succ])
          refine wpAnyH_take (i := 3) (oi := { dst := some 77, op := Op.fieldAddr 26 (Operand.tmp 12) 2, type := 0, pos := "forget.go:100", after := #[], guard := none }) (v := ?_) rfl (by kernel_rfl) (by kernel_rfl) (by kernel_rfl) (fun _ _ _ h => h) (Or.inl ⟨by rfl, ?_⟩) (by assumption) ?_
          rotate_left
          · intro w hSw; (try dsimp only at hSw); (go_simp <;> with_reducible rfl)
          (try simp only [Act.put, List.setIfInBounds_toArray, List.set_cons_zero, List.set_cons_succ])
          refine wpAnyH_take (i := 4) (oi := { dst := some 78, op := Op.load 22 (Operand.tmp 77), type := 22, pos := "forget.go:100", after := #[{ on := 3, ground := Ground.data }], guard := none }) (v := ?_) rfl (by kernel_rfl) (by kernel_rfl) (by kernel_rfl) (fun _ _ _ h => h) (Or.inl ⟨by rfl, ?_⟩) (by assumption) ?_
          rotate_left
          · intro w hSw; (try dsimp only at hSw); (go_simp <;> with_reducible rfl)
          (try simp only [Act.put, List.setIfInBounds_toArray, List.set_cons_zero, List.set_cons_succ])
          refine wpAnyH_take (i := 5) (oi := { dst := some 79, op := Op.move (Operand.tmp 13), type := 3, pos := "forget.go:100", after := #[], guard := none }) (v := ?_) rfl (by kernel_rfl) (by kernel_rfl) (by kernel_rfl) (fun _ _ _ h => h) (Or.inl ⟨by rfl, ?_⟩) (by assumption) ?_
          rotate_left
          · intro w hSw; (try dsimp only at hSw); (go_simp <;> with_reducible rfl)
          (try simp only [Act.put, List.setIfInBounds_toArray, List.set_cons_zero, List.set_cons_succ])
          refine wpAnyH_take (i := 6) (oi := { dst := some 80, op := Op.indexAddr 22 (Operand.tmp 78) (Operand.tmp 79), type := 0, pos := "forget.go:100", after := #[{ on := 4, ground := Ground.data }, { on := 5, ground := Ground.data }], guard := none }) (v := ?_) rfl (by kernel_rfl) (by kernel_rfl) (by kernel_rfl) (fun _ _ _ h => h) (Or.inl ⟨by rfl, ?_⟩) (by assumption) ?_
          rotate_left
          · intro w hSw; (try dsimp only at hSw); (go_simp <;> with_reducible rfl)
          (try simp only [Act.put, List.setIfInBounds_toArray, List.set_cons_zero, List.set_cons_succ])
          refine wpAnyH_take (i := 8) (oi := { dst := some 82, op := Op.move (Operand.tmp 1), type := 9, pos := "forget.go:100", after := #[], guard := none }) (v := ?_) rfl (by kernel_rfl) (by kernel_rfl) (by kernel_rfl) (fun _ _ _ h => h) (Or.inl ⟨by rfl, ?_⟩) (by assumption) ?_
          rotate_left
          · intro w hSw; (try dsimp only at hSw); (go_simp <;> with_reducible rfl)
          (try simp only [Act.put, List.setIfInBounds_toArray, List.set_cons_zero, List.set_cons_succ])
          refine wpAnyH_take (i := 9) (oi := { dst := some 83, op := Op.load 81 (Operand.tmp 14), type := 81, pos := "forget.go:100", after := #[], guard := none }) (v := ?_) rfl (by kernel_rfl) (by kernel_rfl) (by kernel_rfl) (fun _ _ _ h => h) (Or.inl ⟨by rfl, ?_⟩) (by assumption) ?_
          rotate_left
          · intro w hSw; (try dsimp only at hSw); (go_simp <;> with_reducible rfl)
          (try simp only [Act.put, List.setIfInBounds_toArray, List.set_cons_zero, List.set_cons_succ])
          refine wpAnyH_take (i := 10) (oi := { dst := some 84, op := Op.build 90 #[(0, Operand.tmp 82), (1, Operand.tmp 83)], type := 90, pos := "forget.go:100", after := #[{ on := 8, ground := Ground.data }, { on := 9, ground := Ground.data }], guard := none }) (v := ?_) rfl (by kernel_rfl) (by kernel_rfl) (by kernel_rfl) (fun _ _ _ h => h) (Or.inl ⟨by rfl, ?_⟩) (by assumption) ?_
          rotate_left
          · intro w hSw; (try dsimp only at hSw); (go_simp <;> with_reducible rfl)
          (try simp only [Act.put, List.setIfInBounds_toArray, List.set_cons_zero, List.set_cons_succ])
          refine wpAnyH_ready (rs := [7, 11]) (by kernel_rfl) (by simp) ?_
          refine AllReadyH.cons (o := { dst := some 81, op := Op.load 88 (Operand.tmp 80), type := 88, pos := "forget.go:100", after := #[{ on := 6, ground := Ground.data }], guard := none }) rfl (fun K hK => ?_) ?_
          · go_simp
            refine hK.out _ _ ?_ (fun hHeld => ?_)
            · (try dsimp only); (first | assumption | exact ⟨⟨d1, d3⟩, e1⟩ | exact SA.out | exact ⟨⟨d4, d6⟩, f4⟩ | exact ⟨⟨d7, d9⟩, fun i => (World.cell?_setCell_far _ _ _ _ HNE.out).trans (f4 i)⟩)
            clear hK K
            (try simp only [Act.put, List.setIfInBounds_toArray, List.set_cons_zero, List.set_cons_succ])
            refine wpAnyH_ready (rs := [11]) (by kernel_rfl) (by simp) ?_
            refine AllReadyH.cons (o := { dst := some 85, op := Op.buildSlice 88 1 #[(0, Operand.tmp 84)], type := 88, pos := "forget.go:100", after := #[{ on := 10, ground := Ground.data }], guard := none }) rfl (fun K hK => ?_) AllReadyH.nil
            go_simp
            refine hK.out _ _ ?_ (fun hHeld => ?_)
            · (try dsimp only); (first | assumption | exact ⟨⟨d1, d3⟩, e1⟩ | exact SA.out | exact ⟨⟨d4, d6⟩, f4⟩ | exact ⟨⟨d7, d9⟩, fun i => (World.cell?_setCell_far _ _ _ _ HNE.out).trans (f4 i)⟩)
            clear hK K
            (try simp only [Act.put, List.setIfInBounds_toArray, List.set_cons_zero, List.set_cons_succ])
            refine wpAnyH_ready (rs := [12]) (by kernel_rfl) (by simp) ?_
            refine AllReadyH.cons (o := { dst := some 86, op := Op.call { callee := Callee.builtin Builtin.append, args := #[Operand.tmp 81, Operand.tmp 85], argTypes := #[88, 88] }, type := 88, pos := "forget.go:100", after := #[{ on := 7, ground := Ground.data }, { on := 11, ground := Ground.data }], guard := none }) rfl (fun K hK => ?_) AllReadyH.nil
            (refine step_append_lies _ rfl (.tmp 81) (.tmp 85) 88 rfl B 90 i0 _ 3 48 und88 HI.out.1 HI.out.2.1 HI.out.2.2.1 HI.out.2.2.2 rfl (by decide) vs'[j] m hc (by simp [Act.eval, Act.put]) HROW.out ⟨W.heap.size, 0, none⟩ 1 1 [.string t, .int .u8 ((j : Int) + 1), .slice ab kb.length kb'] (by simp [Act.eval, Act.put]) rfl HNEWS.out HONE.out (by omega) (by unfold maxLen; omega) (by omega) HBASE.out _ rfl ?_; intro gn cap w7 hown hg hat hlt7; obtain ⟨⟨q1, q2⟩, ⟨q3, q5⟩, pss2, q4⟩ := STEP.out w7 gn cap hown hg hat; obtain ⟨d4, d5, d6⟩ := box_walk q3; obtain ⟨d7, d8, d9⟩ := box_walk q4.out.box; obtain ⟨f4, f5, f6⟩ := box_walk q5; have d10 : g2 < w7.heap.size := World.block_lt_of_cell? w7 _ q1)
            refine hK.out _ _ ?_ (fun hHeld => ?_)
            · (try dsimp only); (first | assumption | exact ⟨⟨d1, d3⟩, e1⟩ | exact SA.out | exact ⟨⟨d4, d6⟩, f4⟩ | exact ⟨⟨d7, d9⟩, fun i => (World.cell?_setCell_far _ _ _ _ HNE.out).trans (f4 i)⟩)
            clear hK K
            (try simp only [Act.put, List.setIfInBounds_toArray, List.set_cons_zero, List.set_cons_succ])
            refine wpAnyH_take (i := 13) (oi := { dst := some 87, op := Op.indexAddr 22 (Operand.tmp 75) (Operand.tmp 76), type := 0, pos := "forget.go:100", after := #[{ on := 1, ground := Ground.data }, { on := 2, ground := Ground.data }, { on := 0, ground := Ground.phase }, { on := 1, ground := Ground.phase }, { on := 2, ground := Ground.phase }, { on := 3, ground := Ground.phase }, { on := 4, ground := Ground.phase }, { on := 5, ground := Ground.phase }, { on := 6, ground := Ground.phase }, { on := 7, ground := Ground.phase }, { on := 8, ground := Ground.phase }, { on := 9, ground := Ground.phase }, { on := 10, ground := Ground.phase }, { on := 11, ground := Ground.phase }, { on := 12, ground := Ground.phase }], guard := none }) (v := ?_) rfl (by kernel_rfl) (by kernel_rfl) (by kernel_rfl) (fun _ _ _ h => h) (Or.inl ⟨by rfl, ?_⟩) (by assumption) ?_
            rotate_left
            · intro w hSw; (try dsimp only at hSw); (go_simp <;> with_reducible rfl)
            (try simp only [Act.put, List.setIfInBounds_toArray, List.set_cons_zero, List.set_cons_succ])
            refine wpAnyH_ready (rs := [14]) (by kernel_rfl) (by simp) ?_
            refine AllReadyH.cons (o := { dst := none, op := Op.store 88 (Operand.tmp 87) (Operand.tmp 86), type := 0, pos := "forget.go:100", after := #[{ on := 13, ground := Ground.data }, { on := 12, ground := Ground.data }, { on := 12, ground := Ground.chain }, { on := 0, ground := Ground.phase }, { on := 1, ground := Ground.phase }, { on := 2, ground := Ground.phase }, { on := 3, ground := Ground.phase }, { on := 4, ground := Ground.phase }, { on := 5, ground := Ground.phase }, { on := 6, ground := Ground.phase }, { on := 7, ground := Ground.phase }, { on := 8, ground := Ground.phase }, { on := 9, ground := Ground.phase }, { on := 10, ground := Ground.phase }, { on := 11, ground := Ground.phase }, { on := 12, ground := Ground.phase }], guard := none }) rfl (fun K hK => ?_) AllReadyH.nil
            go_simp
            refine hK.out _ _ ?_ (fun hHeld => ?_)
            · (try dsimp only); (first | assumption | exact ⟨⟨d1, d3⟩, e1⟩ | exact SA.out | exact ⟨⟨d4, d6⟩, f4⟩ | exact ⟨⟨d7, d9⟩, fun i => (World.cell?_setCell_far _ _ _ _ HNE.out).trans (f4 i)⟩)
            clear hK K
            (try simp only [Act.put, List.setIfInBounds_toArray, List.set_cons_zero, List.set_cons_succ])
            refine wpAnyH_done (by kernel_rfl) ?_ _
            go_wp2_with fail
            go_roundw
            case rel => exact ⟨j + 1, _, pss2, by omega, by go_num, q4⟩
            case measure => simp [intOf] <;> omega
          refine AllReadyH.cons (o := { dst := some 85, op := Op.buildSlice 88 1 #[(0, Operand.tmp 84)], type := 88, pos := "forget.go:100", after := #[{ on := 10, ground := Ground.data }], guard := none }) rfl (fun K hK => ?_) AllReadyH.nil
          go_simp
          refine hK.out _ _ ?_ (fun hHeld => ?_)
          · (try dsimp only); (first | assumption | exact ⟨⟨d1, d3⟩, e1⟩ | exact SA.out | exact ⟨⟨d4, d6⟩, f4⟩ | exact ⟨⟨d7, d9⟩, fun i => (World.cell?_setCell_far _ _ _ _ HNE.out).trans (f4 i)⟩)
          clear hK K
          (try simp only [Act.put, List.setIfInBounds_toArray, List.set_cons_zero, List.set_cons_succ])
          refine wpAnyH_ready (rs := [7]) (by kernel_rfl) (by simp) ?_
          refine AllReadyH.cons (o := { dst := some 81, op := Op.load 88 (Operand.tmp 80), type := 88, pos := "forget.go:100", after := #[{ on := 6, ground := Ground.data }], guard := none }) rfl (fun K hK => ?_) AllReadyH.nil
          go_simp
          refine hK.out _ _ ?_ (fun hHeld => ?_)
          · (try dsimp only); (first | assumption | exact ⟨⟨d1, d3⟩, e1⟩ | exact SA.out | exact ⟨⟨d4, d6⟩, f4⟩ | exact ⟨⟨d7, d9⟩, fun i => (World.cell?_setCell_far _ _ _ _ HNE.out).trans (f4 i)⟩)
          clear hK K
          (try simp only [Act.put, List.setIfInBounds_toArray, List.set_cons_zero, List.set_cons_succ])
          refine wpAnyH_ready (rs := [12]) (by kernel_rfl) (by simp) ?_
          refine AllReadyH.cons (o := { dst := some 86, op := Op.call { callee := Callee.builtin Builtin.append, args := #[Operand.tmp 81, Operand.tmp 85], argTypes := #[88, 88] }, type := 88, pos := "forget.go:100", after := #[{ on := 7, ground := Ground.data }, { on := 11, ground := Ground.data }], guard := none }) rfl (fun K hK => ?_) AllReadyH.nil
          (refine step_append_lies _ rfl (.tmp 81) (.tmp 85) 88 rfl B 90 i0 _ 3 48 und88 HI.out.1 HI.out.2.1 HI.out.2.2.1 HI.out.2.2.2 rfl (by decide) vs'[j] m hc (by simp [Act.eval, Act.put]) HROW.out ⟨W.heap.size, 0, none⟩ 1 1 [.string t, .int .u8 ((j : Int) + 1), .slice ab kb.length kb'] (by simp [Act.eval, Act.put]) rfl HNEWS.out HONE.out (by omega) (by unfold maxLen; omega) (by omega) HBASE.out _ rfl ?_; intro gn cap w7 hown hg hat hlt7; obtain ⟨⟨q1, q2⟩, ⟨q3, q5⟩, pss2, q4⟩ := STEP.out w7 gn cap hown hg hat; obtain ⟨d4, d5, d6⟩ := box_walk q3; obtain ⟨d7, d8, d9⟩ := box_walk q4.out.box; obtain ⟨f4, f5, f6⟩ := box_walk q5; have d10 : g2 < w7.heap.size := World.block_lt_of_cell? w7 _ q1)
          refine hK.out _ _ ?_ (fun hHeld => ?_)
          · (try dsimp only); (first | assumption | exact ⟨⟨d1, d3⟩, e1⟩ | exact SA.out | exact ⟨⟨d4, d6⟩, f4⟩ | exact ⟨⟨d7, d9⟩, fun i => (World.cell?_setCell_far _ _ _ _ HNE.out).trans (f4 i)⟩)
          clear hK K
          (try simp only [Act.put, List.setIfInBounds_toArray, List.set_cons_zero, List.set_cons_succ])
          refine wpAnyH_take (i := 13) (oi := { dst := some 87, op := Op.indexAddr 22 (Operand.tmp 75) (Operand.tmp 76), type := 0, pos := "forget.go:100", after := #[{ on := 1, ground := Ground.data }, { on := 2, ground := Ground.data }, { on := 0, ground := Ground.phase }, { on := 1, ground := Ground.phase }, { on := 2, ground := Ground.phase }, { on := 3, ground := Ground.phase }, { on := 4, ground := Ground.phase }, { on := 5, ground := Ground.phase }, { on := 6, ground := Ground.phase }, { on := 7, ground := Ground.phase }, { on := 8, ground := Ground.phase }, { on := 9, ground := Ground.phase }, { on := 10, ground := Ground.phase }, { on := 11, ground := Ground.phase }, { on := 12, ground := Ground.phase }], guard := none }) (v := ?_) rfl (by kernel_rfl) (by kernel_rfl) (by kernel_rfl) (fun _ _ _ h => h) (Or.inl ⟨by rfl, ?_⟩) (by assumption) ?_
          rotate_left
          · intro w hSw; (try dsimp only at hSw); (go_simp <;> with_reducible rfl)
          (try simp only [Act.put, List.setIfInBounds_toArray, List.set_cons_zero, List.set_cons_succ])
          refine wpAnyH_ready (rs := [14]) (by kernel_rfl) (by simp) ?_
          refine AllReadyH.cons (o := { dst := none, op := Op.store 88 (Operand.tmp 87) (Operand.tmp 86), type := 0, pos := "forget.go:100", after := #[{ on := 13, ground := Ground.data }, { on := 12, ground := Ground.data }, { on := 12, ground := Ground.chain }, { on := 0, ground := Ground.phase }, { on := 1, ground := Ground.phase }, { on := 2, ground := Ground.phase }, { on := 3, ground := Ground.phase }, { on := 4, ground := Ground.phase }, { on := 5, ground := Ground.phase }, { on := 6, ground := Ground.phase }, { on := 7, ground := Ground.phase }, { on := 8, ground := Ground.phase }, { on := 9, ground := Ground.phase }, { on := 10, ground := Ground.phase }, { on := 11, ground := Ground.phase }, { on := 12, ground := Ground.phase }], guard := none }) rfl (fun K hK => ?_) AllReadyH.nil
          go_simp
          refine hK.out _ _ ?_ (fun hHeld => ?_)
          · (try dsimp only); (first | assumption | exact ⟨⟨d1, d3⟩, e1⟩ | exact SA.out | exact ⟨⟨d4, d6⟩, f4⟩ | exact ⟨⟨d7, d9⟩, fun i => (World.cell?_setCell_far _ _ _ _ HNE.out).trans (f4 i)⟩)
          clear hK K
          (try simp only [Act.put, List.setIfInBounds_toArray, List.set_cons_zero, List.set_cons_succ])
          refine wpAnyH_done (by kernel_rfl) ?_ _
          all_goals
            go_wp2_with fail
            go_roundw
            case rel => exact ⟨j + 1, _, pss2, by omega, by go_num, q4⟩
            case measure => simp [intOf] <;> omega
        · obtain rfl : j = n := by omega
          have HL := Lib.hid HI'.out.led
          have hlv : vs'.length = vs.length := HI'.out.len
          rw [hlv] at HL
          have R := Lib.hid (ledErr_fin hA HI'.out.three HL.out 0)
          have HGD : Hid (gd = enrAt g t kb r nm j) := Lib.hid (by rw [HD.out, HNM.out, HSN.out])
          obtain ⟨c1, c2, c3, c4, c5, c6, c7⟩ := HI'.out.three.walk
          obtain ⟨q1, q2, q3⟩ := box_walk HI'.out.box
          clear hlv HD
          go_wp2
          refine bodyPost_ret (v := .tuple #[.agg #[.int .i64 g.owners, .int .i64 g.need, .slice (some ⟨g2, 0, none⟩) vs.length k2, .slice a3 g.holds.length k3, .slice a4 g.demands.length k4, .slice a5 g.dones.length k5], .int .i64 0]) (by simp [results, Tryz.results12, go_sem, c3]) rfl ?_
          rw [HGD.out]
          exact R.out
  · rw [if_neg hfe] at HD
    go_wp2_with (go_at_call 40; refine CF.out.mono ?_; rintro e w2 ⟨rfl, b2⟩; have F2 := F1.later (((Below.refl _ _).alloc (Nat.le_refl _) _).trans (b2.mono (by simp))); obtain ⟨c1, c2, c3, c4, c5, c6, c7⟩ := F2.walk)
    refine bodyPost_ret (v := .tuple #[.agg #[.int .i64 0, .int .i64 0, .slice none 0 0, .slice none 0 0, .slice none 0 0, .slice none 0 0], .int .i64 fe]) (by simp [results, Tryz.results12, go_sem, c3]) rfl ?_
    rw [HD.out]
    refine LedErrA.zero hA _ ?_
    exact below_six F2.below (by omega) _ _ _ _ _ _
end Go.Proofs.YtpbgipdkaaooeaaGreatDoor
