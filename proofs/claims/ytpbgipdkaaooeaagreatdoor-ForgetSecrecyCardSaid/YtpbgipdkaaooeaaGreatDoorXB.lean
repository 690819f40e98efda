/- forget.Enroll: the walk, by cases. -/
import Derived.Test.YtpbgipdkaaooeaaGreatDoorX
import Derived.Test.YtpbgipdkaaooeaaGreatDoorM
import Derived.Deep.DeepCutAuto
import Derived.BigQuiet
open Go Go.Proofs Go.RowKit Go.Sort
namespace Go.Proofs.YtpbgipdkaaooeaaGreatDoor
set_option linter.unusedSimpArgs false
set_option linter.unusedVariables false
attribute [local go_sem ↓] Go.wp_at_zero Go.wp_at_succ

set_option maxRecDepth 100000 in
set_option maxHeartbeats 2000000 in
theorem enroll_fff (w : World) (v vr : Value) (g : LedD) (t : ByteArray) (kb r : List Int) (A : Nat) (hA : A ≤ w.heap.size) (hAt : LedAt A w v g) (hf : Fits g) (hkl : kb.length = 32) (hkb : ∀ x ∈ kb, 0 ≤ x ∧ x ≤ 255) (hr : BytesR w vr r) (hqv : validB g = false) (hqe : sEq t ⟨#[]⟩ = false) (hqd : (firstD t g.dones).isSome = false) :
    Calls Tryz.prog 12 #[v, .string t, .agg (kb.map (Value.int .u8)).toArray, vr] w (LedErrA A w (enrollD g t kb r) (enrollE g t)) := by
  have h := hAt.led
  have HAT := Lib.hid hAt
  clear hAt
  obtain ⟨v2, v3, v4, v5, rfl, hrest⟩ := id h
  obtain ⟨H2, -, H4, H5⟩ := hrest
  have F0 := ThreeBox.laid w #[.int .i64 g.owners, .int .i64 g.need, v2, v3, v4, v5] (kb.map (Value.int .u8)).toArray #[.int .i64 0, .int .i64 0, .slice none 0 0, .slice none 0 0, .slice none 0 0, .slice none 0 0] 26 39 26
  have AV : Hid (∀ wx, Below w.heap.size w wx → Calls Tryz.prog 41 #[.agg #[.int .i64 g.owners, .int .i64 g.need, v2, v3, v4, v5]] wx fun e w' => e = .returned (.bool (validB g)) ∧ Below wx.heap.size wx w') := fun wx hb => valid_41 wx _ g (h.later hb)
  have AH : Hid (∀ wx, Below w.heap.size w wx → Calls Tryz.prog 42 #[v5, .string t] wx fun e w' => e = .returned (.bool (firstD t g.dones).isSome) ∧ Below wx.heap.size wx w') := fun wx hb => has_42 wx v5 g.dones t (H5.later hb) (by have := hf.e; omega)
  have AD : Hid (∀ wx, Below w.heap.size w wx → Calls Tryz.prog 42 #[v4, .string t] wx fun e w' => e = .returned (.bool (firstD t g.demands).isSome) ∧ Below wx.heap.size wx w') := fun wx hb => has_42 wx v4 g.demands t (H4.later hb) (by have := hf.d; omega)
  have AL : Hid (∀ wx, Below w.heap.size w wx → Calls Tryz.prog 43 #[.agg #[.int .i64 g.owners, .int .i64 g.need, v2, v3, v4, v5], .string t] wx fun e w' => e = .returned (.int .i64 (leftD t g.shares)) ∧ Below wx.heap.size wx w') := fun wx hb => left_43 wx _ g t (h.later hb) (by have := hf.s; omega) (fun r hr => by have := hf.r r hr; omega)
  have CC : Hid (∀ wx, Below w.heap.size w wx → Calls Tryz.prog 45 #[.agg #[.int .i64 g.owners, .int .i64 g.need, v2, v3, v4, v5]] wx (CloneRet A wx g)) := fun wx hb => hf.clone hb hA HAT.out
  have HE : Hid (enrollE g t = firstErr [(true, 1), ((firstD t g.demands).isSome, 351), (decide (0 < leftD t g.shares), 240)]) := by
    refine Lib.hid ?_
    unfold enrollE
    rw [hqv, hqe, hqd]
    rfl
  have HD : Hid (enrollD g t kb r = if enrollE g t = 0 then enrAt g t kb r (g.need.toNat - 1) g.shares.length else zeroLed) := rfl
  rw [hqv] at AV
  rw [hqd] at AH
  have HSE := (sEq_empty t).trans hqe
  have HNE : Hid (enrollE g t ≠ 0) := by
    refine Lib.hid ?_
    rw [HE.out]
    unfold firstErr
    simp [List.find?]
  generalize enrollD g t kb r = gd at *
  generalize enrollE g t = fe at *
  clear h H2 H4 H5 hf hqv hqd hqe hkl hkb hr
  go_enter Tryz.func12, Tryz.ntmps12
  go_upto_region 1 with fail
  generalize hW : ((w.alloc (.cells #[.int .i64 g.owners, .int .i64 g.need, v2, v3, v4, v5] 26)).alloc (.cells (kb.map (Value.int .u8)).toArray 39)).alloc (.cells #[.int .i64 0, .int .i64 0, .slice none 0 0, .slice none 0 0, .slice none 0 0, .slice none 0 0] 26) = W at *
  clear hW
  have c1 := class_cells F0.one
  have cV := class_call (W := W) (fun wx hb => AV.out wx (below_step F0.below hb))
  have cH := class_call (W := W) (fun wx hb => AH.out wx (below_step F0.below hb))
  have cD := class_call (W := W) (fun wx hb => AD.out wx (below_step F0.below hb))
  have cL := class_call (W := W) (fun wx hb => AL.out wx (below_step F0.below hb))
  refine wp_region_quiet_tail (C := fun w' => ∃ p : Regrown, w' = grow (redrawn W p.d) p.os) 29 (by kernel_rfl) (by kernel_rfl) ⟨⟨W.drawn + 1, #[]⟩, by rw [grow_empty]; rfl⟩ ?_
  dsimp only [List.take, List.drop]
  repeat (go_big_quiet_step (first | with_reducible exact cV _ _ | with_reducible exact cH _ _ | with_reducible exact cD _ _ | with_reducible exact cL _ _))
  refine wpQuiet_nil ?_
  intro w1 hw1
  have b1 := regrown_below hw1
  clear hw1 c1 cV cH cD cL AV AH AD AL
  have F1 := F0.later b1
  clear b1 F0
  have CF := Lib.hid (first_40 (w1.alloc (.cells #[.bool (true), .int .i64 1, .bool ((firstD t g.demands).isSome), .int .i64 351, .bool (decide (0 < leftD t g.shares)), .int .i64 240] 95)) _ [(true, 1), ((firstD t g.demands).isSome, 351), (decide (0 < leftD t g.shares), 240)] (checks_r w1 _ 95 _ (by rfl) w1.heap.size 3 rfl rfl (by simp)) (by simp))
  rw [← HE.out] at CF
  have hfe : fe ≠ 0 := HNE.out
  rw [if_neg hfe] at HD
  go_wp2_with (go_at_call 40; refine CF.out.mono ?_; rintro e w2 ⟨rfl, b2⟩; have F2 := F1.later (((Below.refl _ _).alloc (Nat.le_refl _) _).trans (b2.mono (by simp))); obtain ⟨c1, c2, c3, c4, c5, c6, c7⟩ := F2.walk)
  refine bodyPost_ret (v := .tuple #[.agg #[.int .i64 0, .int .i64 0, .slice none 0 0, .slice none 0 0, .slice none 0 0, .slice none 0 0], .int .i64 fe]) (by simp [results, Tryz.results12, go_sem, c3]) rfl ?_
  rw [HD.out]
  refine LedErrA.zero hA _ ?_
  exact below_six F2.below (by omega) _ _ _ _ _ _

set_option maxRecDepth 100000 in
set_option maxHeartbeats 2000000 in
theorem enroll_fft (w : World) (v vr : Value) (g : LedD) (t : ByteArray) (kb r : List Int) (A : Nat) (hA : A ≤ w.heap.size) (hAt : LedAt A w v g) (hf : Fits g) (hkl : kb.length = 32) (hkb : ∀ x ∈ kb, 0 ≤ x ∧ x ≤ 255) (hr : BytesR w vr r) (hqv : validB g = false) (hqe : sEq t ⟨#[]⟩ = false) (hqd : (firstD t g.dones).isSome = true) :
    Calls Tryz.prog 12 #[v, .string t, .agg (kb.map (Value.int .u8)).toArray, vr] w (LedErrA A w (enrollD g t kb r) (enrollE g t)) := by
  have h := hAt.led
  have HAT := Lib.hid hAt
  clear hAt
  obtain ⟨v2, v3, v4, v5, rfl, hrest⟩ := id h
  obtain ⟨H2, -, H4, H5⟩ := hrest
  have F0 := ThreeBox.laid w #[.int .i64 g.owners, .int .i64 g.need, v2, v3, v4, v5] (kb.map (Value.int .u8)).toArray #[.int .i64 0, .int .i64 0, .slice none 0 0, .slice none 0 0, .slice none 0 0, .slice none 0 0] 26 39 26
  have AV : Hid (∀ wx, Below w.heap.size w wx → Calls Tryz.prog 41 #[.agg #[.int .i64 g.owners, .int .i64 g.need, v2, v3, v4, v5]] wx fun e w' => e = .returned (.bool (validB g)) ∧ Below wx.heap.size wx w') := fun wx hb => valid_41 wx _ g (h.later hb)
  have AH : Hid (∀ wx, Below w.heap.size w wx → Calls Tryz.prog 42 #[v5, .string t] wx fun e w' => e = .returned (.bool (firstD t g.dones).isSome) ∧ Below wx.heap.size wx w') := fun wx hb => has_42 wx v5 g.dones t (H5.later hb) (by have := hf.e; omega)
  have AD : Hid (∀ wx, Below w.heap.size w wx → Calls Tryz.prog 42 #[v4, .string t] wx fun e w' => e = .returned (.bool (firstD t g.demands).isSome) ∧ Below wx.heap.size wx w') := fun wx hb => has_42 wx v4 g.demands t (H4.later hb) (by have := hf.d; omega)
  have AL : Hid (∀ wx, Below w.heap.size w wx → Calls Tryz.prog 43 #[.agg #[.int .i64 g.owners, .int .i64 g.need, v2, v3, v4, v5], .string t] wx fun e w' => e = .returned (.int .i64 (leftD t g.shares)) ∧ Below wx.heap.size wx w') := fun wx hb => left_43 wx _ g t (h.later hb) (by have := hf.s; omega) (fun r hr => by have := hf.r r hr; omega)
  have CC : Hid (∀ wx, Below w.heap.size w wx → Calls Tryz.prog 45 #[.agg #[.int .i64 g.owners, .int .i64 g.need, v2, v3, v4, v5]] wx (CloneRet A wx g)) := fun wx hb => hf.clone hb hA HAT.out
  have HE : Hid (enrollE g t = firstErr [(true, 1), (true, 351), (decide (0 < leftD t g.shares), 240)]) := by
    refine Lib.hid ?_
    unfold enrollE
    rw [hqv, hqe, hqd]
    rfl
  have HD : Hid (enrollD g t kb r = if enrollE g t = 0 then enrAt g t kb r (g.need.toNat - 1) g.shares.length else zeroLed) := rfl
  rw [hqv] at AV
  rw [hqd] at AH
  have HSE := (sEq_empty t).trans hqe
  have HNE : Hid (enrollE g t ≠ 0) := by
    refine Lib.hid ?_
    rw [HE.out]
    unfold firstErr
    simp [List.find?]
  generalize enrollD g t kb r = gd at *
  generalize enrollE g t = fe at *
  clear h H2 H4 H5 hf hqv hqd hqe hkl hkb hr
  go_enter Tryz.func12, Tryz.ntmps12
  go_upto_region 1 with fail
  generalize hW : ((w.alloc (.cells #[.int .i64 g.owners, .int .i64 g.need, v2, v3, v4, v5] 26)).alloc (.cells (kb.map (Value.int .u8)).toArray 39)).alloc (.cells #[.int .i64 0, .int .i64 0, .slice none 0 0, .slice none 0 0, .slice none 0 0, .slice none 0 0] 26) = W at *
  clear hW
  have c1 := class_cells F0.one
  have cV := class_call (W := W) (fun wx hb => AV.out wx (below_step F0.below hb))
  have cH := class_call (W := W) (fun wx hb => AH.out wx (below_step F0.below hb))
  have cD := class_call (W := W) (fun wx hb => AD.out wx (below_step F0.below hb))
  have cL := class_call (W := W) (fun wx hb => AL.out wx (below_step F0.below hb))
  refine wp_region_quiet_tail (C := fun w' => ∃ p : Regrown, w' = grow (redrawn W p.d) p.os) 29 (by kernel_rfl) (by kernel_rfl) ⟨⟨W.drawn + 1, #[]⟩, by rw [grow_empty]; rfl⟩ ?_
  dsimp only [List.take, List.drop]
  repeat (go_big_quiet_step (first | with_reducible exact cV _ _ | with_reducible exact cH _ _ | with_reducible exact cD _ _ | with_reducible exact cL _ _))
  refine wpQuiet_nil ?_
  intro w1 hw1
  have b1 := regrown_below hw1
  clear hw1 c1 cV cH cD cL AV AH AD AL
  have F1 := F0.later b1
  clear b1 F0
  have CF := Lib.hid (first_40 (w1.alloc (.cells #[.bool (true), .int .i64 1, .bool (true), .int .i64 351, .bool (decide (0 < leftD t g.shares)), .int .i64 240] 95)) _ [(true, 1), (true, 351), (decide (0 < leftD t g.shares), 240)] (checks_r w1 _ 95 _ (by rfl) w1.heap.size 3 rfl rfl (by simp)) (by simp))
  rw [← HE.out] at CF
  have hfe : fe ≠ 0 := HNE.out
  rw [if_neg hfe] at HD
  go_wp2_with (go_at_call 40; refine CF.out.mono ?_; rintro e w2 ⟨rfl, b2⟩; have F2 := F1.later (((Below.refl _ _).alloc (Nat.le_refl _) _).trans (b2.mono (by simp))); obtain ⟨c1, c2, c3, c4, c5, c6, c7⟩ := F2.walk)
  refine bodyPost_ret (v := .tuple #[.agg #[.int .i64 0, .int .i64 0, .slice none 0 0, .slice none 0 0, .slice none 0 0, .slice none 0 0], .int .i64 fe]) (by simp [results, Tryz.results12, go_sem, c3]) rfl ?_
  rw [HD.out]
  refine LedErrA.zero hA _ ?_
  exact below_six F2.below (by omega) _ _ _ _ _ _

set_option maxRecDepth 100000 in
set_option maxHeartbeats 2000000 in
theorem enroll_ftf (w : World) (v vr : Value) (g : LedD) (t : ByteArray) (kb r : List Int) (A : Nat) (hA : A ≤ w.heap.size) (hAt : LedAt A w v g) (hf : Fits g) (hkl : kb.length = 32) (hkb : ∀ x ∈ kb, 0 ≤ x ∧ x ≤ 255) (hr : BytesR w vr r) (hqv : validB g = false) (hqe : sEq t ⟨#[]⟩ = true) (hqd : (firstD t g.dones).isSome = false) :
    Calls Tryz.prog 12 #[v, .string t, .agg (kb.map (Value.int .u8)).toArray, vr] w (LedErrA A w (enrollD g t kb r) (enrollE g t)) := by
  have h := hAt.led
  have HAT := Lib.hid hAt
  clear hAt
  obtain ⟨v2, v3, v4, v5, rfl, hrest⟩ := id h
  obtain ⟨H2, -, H4, H5⟩ := hrest
  have F0 := ThreeBox.laid w #[.int .i64 g.owners, .int .i64 g.need, v2, v3, v4, v5] (kb.map (Value.int .u8)).toArray #[.int .i64 0, .int .i64 0, .slice none 0 0, .slice none 0 0, .slice none 0 0, .slice none 0 0] 26 39 26
  have AV : Hid (∀ wx, Below w.heap.size w wx → Calls Tryz.prog 41 #[.agg #[.int .i64 g.owners, .int .i64 g.need, v2, v3, v4, v5]] wx fun e w' => e = .returned (.bool (validB g)) ∧ Below wx.heap.size wx w') := fun wx hb => valid_41 wx _ g (h.later hb)
  have AH : Hid (∀ wx, Below w.heap.size w wx → Calls Tryz.prog 42 #[v5, .string t] wx fun e w' => e = .returned (.bool (firstD t g.dones).isSome) ∧ Below wx.heap.size wx w') := fun wx hb => has_42 wx v5 g.dones t (H5.later hb) (by have := hf.e; omega)
  have AD : Hid (∀ wx, Below w.heap.size w wx → Calls Tryz.prog 42 #[v4, .string t] wx fun e w' => e = .returned (.bool (firstD t g.demands).isSome) ∧ Below wx.heap.size wx w') := fun wx hb => has_42 wx v4 g.demands t (H4.later hb) (by have := hf.d; omega)
  have AL : Hid (∀ wx, Below w.heap.size w wx → Calls Tryz.prog 43 #[.agg #[.int .i64 g.owners, .int .i64 g.need, v2, v3, v4, v5], .string t] wx fun e w' => e = .returned (.int .i64 (leftD t g.shares)) ∧ Below wx.heap.size wx w') := fun wx hb => left_43 wx _ g t (h.later hb) (by have := hf.s; omega) (fun r hr => by have := hf.r r hr; omega)
  have CC : Hid (∀ wx, Below w.heap.size w wx → Calls Tryz.prog 45 #[.agg #[.int .i64 g.owners, .int .i64 g.need, v2, v3, v4, v5]] wx (CloneRet A wx g)) := fun wx hb => hf.clone hb hA HAT.out
  have HE : Hid (enrollE g t = firstErr [(true, 1), ((firstD t g.demands).isSome, 351), (decide (0 < leftD t g.shares), 240)]) := by
    refine Lib.hid ?_
    unfold enrollE
    rw [hqv, hqe, hqd]
    rfl
  have HD : Hid (enrollD g t kb r = if enrollE g t = 0 then enrAt g t kb r (g.need.toNat - 1) g.shares.length else zeroLed) := rfl
  rw [hqv] at AV
  rw [hqd] at AH
  have HSE := (sEq_empty t).trans hqe
  have HNE : Hid (enrollE g t ≠ 0) := by
    refine Lib.hid ?_
    rw [HE.out]
    unfold firstErr
    simp [List.find?]
  generalize enrollD g t kb r = gd at *
  generalize enrollE g t = fe at *
  clear h H2 H4 H5 hf hqv hqd hqe hkl hkb hr
  go_enter Tryz.func12, Tryz.ntmps12
  go_upto_region 1 with fail
  generalize hW : ((w.alloc (.cells #[.int .i64 g.owners, .int .i64 g.need, v2, v3, v4, v5] 26)).alloc (.cells (kb.map (Value.int .u8)).toArray 39)).alloc (.cells #[.int .i64 0, .int .i64 0, .slice none 0 0, .slice none 0 0, .slice none 0 0, .slice none 0 0] 26) = W at *
  clear hW
  have c1 := class_cells F0.one
  have cV := class_call (W := W) (fun wx hb => AV.out wx (below_step F0.below hb))
  have cH := class_call (W := W) (fun wx hb => AH.out wx (below_step F0.below hb))
  have cD := class_call (W := W) (fun wx hb => AD.out wx (below_step F0.below hb))
  have cL := class_call (W := W) (fun wx hb => AL.out wx (below_step F0.below hb))
  refine wp_region_quiet_tail (C := fun w' => ∃ p : Regrown, w' = grow (redrawn W p.d) p.os) 29 (by kernel_rfl) (by kernel_rfl) ⟨⟨W.drawn + 1, #[]⟩, by rw [grow_empty]; rfl⟩ ?_
  dsimp only [List.take, List.drop]
  repeat (go_big_quiet_step (first | with_reducible exact cV _ _ | with_reducible exact cH _ _ | with_reducible exact cD _ _ | with_reducible exact cL _ _))
  refine wpQuiet_nil ?_
  intro w1 hw1
  have b1 := regrown_below hw1
  clear hw1 c1 cV cH cD cL AV AH AD AL
  have F1 := F0.later b1
  clear b1 F0
  have CF := Lib.hid (first_40 (w1.alloc (.cells #[.bool (true), .int .i64 1, .bool ((firstD t g.demands).isSome), .int .i64 351, .bool (decide (0 < leftD t g.shares)), .int .i64 240] 95)) _ [(true, 1), ((firstD t g.demands).isSome, 351), (decide (0 < leftD t g.shares), 240)] (checks_r w1 _ 95 _ (by rfl) w1.heap.size 3 rfl rfl (by simp)) (by simp))
  rw [← HE.out] at CF
  have hfe : fe ≠ 0 := HNE.out
  rw [if_neg hfe] at HD
  go_wp2_with (go_at_call 40; refine CF.out.mono ?_; rintro e w2 ⟨rfl, b2⟩; have F2 := F1.later (((Below.refl _ _).alloc (Nat.le_refl _) _).trans (b2.mono (by simp))); obtain ⟨c1, c2, c3, c4, c5, c6, c7⟩ := F2.walk)
  refine bodyPost_ret (v := .tuple #[.agg #[.int .i64 0, .int .i64 0, .slice none 0 0, .slice none 0 0, .slice none 0 0, .slice none 0 0], .int .i64 fe]) (by simp [results, Tryz.results12, go_sem, c3]) rfl ?_
  rw [HD.out]
  refine LedErrA.zero hA _ ?_
  exact below_six F2.below (by omega) _ _ _ _ _ _

set_option maxRecDepth 100000 in
set_option maxHeartbeats 2000000 in
theorem enroll_ftt (w : World) (v vr : Value) (g : LedD) (t : ByteArray) (kb r : List Int) (A : Nat) (hA : A ≤ w.heap.size) (hAt : LedAt A w v g) (hf : Fits g) (hkl : kb.length = 32) (hkb : ∀ x ∈ kb, 0 ≤ x ∧ x ≤ 255) (hr : BytesR w vr r) (hqv : validB g = false) (hqe : sEq t ⟨#[]⟩ = true) (hqd : (firstD t g.dones).isSome = true) :
    Calls Tryz.prog 12 #[v, .string t, .agg (kb.map (Value.int .u8)).toArray, vr] w (LedErrA A w (enrollD g t kb r) (enrollE g t)) := by
  have h := hAt.led
  have HAT := Lib.hid hAt
  clear hAt
  obtain ⟨v2, v3, v4, v5, rfl, hrest⟩ := id h
  obtain ⟨H2, -, H4, H5⟩ := hrest
  have F0 := ThreeBox.laid w #[.int .i64 g.owners, .int .i64 g.need, v2, v3, v4, v5] (kb.map (Value.int .u8)).toArray #[.int .i64 0, .int .i64 0, .slice none 0 0, .slice none 0 0, .slice none 0 0, .slice none 0 0] 26 39 26
  have AV : Hid (∀ wx, Below w.heap.size w wx → Calls Tryz.prog 41 #[.agg #[.int .i64 g.owners, .int .i64 g.need, v2, v3, v4, v5]] wx fun e w' => e = .returned (.bool (validB g)) ∧ Below wx.heap.size wx w') := fun wx hb => valid_41 wx _ g (h.later hb)
  have AH : Hid (∀ wx, Below w.heap.size w wx → Calls Tryz.prog 42 #[v5, .string t] wx fun e w' => e = .returned (.bool (firstD t g.dones).isSome) ∧ Below wx.heap.size wx w') := fun wx hb => has_42 wx v5 g.dones t (H5.later hb) (by have := hf.e; omega)
  have AD : Hid (∀ wx, Below w.heap.size w wx → Calls Tryz.prog 42 #[v4, .string t] wx fun e w' => e = .returned (.bool (firstD t g.demands).isSome) ∧ Below wx.heap.size wx w') := fun wx hb => has_42 wx v4 g.demands t (H4.later hb) (by have := hf.d; omega)
  have AL : Hid (∀ wx, Below w.heap.size w wx → Calls Tryz.prog 43 #[.agg #[.int .i64 g.owners, .int .i64 g.need, v2, v3, v4, v5], .string t] wx fun e w' => e = .returned (.int .i64 (leftD t g.shares)) ∧ Below wx.heap.size wx w') := fun wx hb => left_43 wx _ g t (h.later hb) (by have := hf.s; omega) (fun r hr => by have := hf.r r hr; omega)
  have CC : Hid (∀ wx, Below w.heap.size w wx → Calls Tryz.prog 45 #[.agg #[.int .i64 g.owners, .int .i64 g.need, v2, v3, v4, v5]] wx (CloneRet A wx g)) := fun wx hb => hf.clone hb hA HAT.out
  have HE : Hid (enrollE g t = firstErr [(true, 1), (true, 351), (decide (0 < leftD t g.shares), 240)]) := by
    refine Lib.hid ?_
    unfold enrollE
    rw [hqv, hqe, hqd]
    rfl
  have HD : Hid (enrollD g t kb r = if enrollE g t = 0 then enrAt g t kb r (g.need.toNat - 1) g.shares.length else zeroLed) := rfl
  rw [hqv] at AV
  rw [hqd] at AH
  have HSE := (sEq_empty t).trans hqe
  have HNE : Hid (enrollE g t ≠ 0) := by
    refine Lib.hid ?_
    rw [HE.out]
    unfold firstErr
    simp [List.find?]
  generalize enrollD g t kb r = gd at *
  generalize enrollE g t = fe at *
  clear h H2 H4 H5 hf hqv hqd hqe hkl hkb hr
  go_enter Tryz.func12, Tryz.ntmps12
  go_upto_region 1 with fail
  generalize hW : ((w.alloc (.cells #[.int .i64 g.owners, .int .i64 g.need, v2, v3, v4, v5] 26)).alloc (.cells (kb.map (Value.int .u8)).toArray 39)).alloc (.cells #[.int .i64 0, .int .i64 0, .slice none 0 0, .slice none 0 0, .slice none 0 0, .slice none 0 0] 26) = W at *
  clear hW
  have c1 := class_cells F0.one
  have cV := class_call (W := W) (fun wx hb => AV.out wx (below_step F0.below hb))
  have cH := class_call (W := W) (fun wx hb => AH.out wx (below_step F0.below hb))
  have cD := class_call (W := W) (fun wx hb => AD.out wx (below_step F0.below hb))
  have cL := class_call (W := W) (fun wx hb => AL.out wx (below_step F0.below hb))
  refine wp_region_quiet_tail (C := fun w' => ∃ p : Regrown, w' = grow (redrawn W p.d) p.os) 29 (by kernel_rfl) (by kernel_rfl) ⟨⟨W.drawn + 1, #[]⟩, by rw [grow_empty]; rfl⟩ ?_
  dsimp only [List.take, List.drop]
  repeat (go_big_quiet_step (first | with_reducible exact cV _ _ | with_reducible exact cH _ _ | with_reducible exact cD _ _ | with_reducible exact cL _ _))
  refine wpQuiet_nil ?_
  intro w1 hw1
  have b1 := regrown_below hw1
  clear hw1 c1 cV cH cD cL AV AH AD AL
  have F1 := F0.later b1
  clear b1 F0
  have CF := Lib.hid (first_40 (w1.alloc (.cells #[.bool (true), .int .i64 1, .bool (true), .int .i64 351, .bool (decide (0 < leftD t g.shares)), .int .i64 240] 95)) _ [(true, 1), (true, 351), (decide (0 < leftD t g.shares), 240)] (checks_r w1 _ 95 _ (by rfl) w1.heap.size 3 rfl rfl (by simp)) (by simp))
  rw [← HE.out] at CF
  have hfe : fe ≠ 0 := HNE.out
  rw [if_neg hfe] at HD
  go_wp2_with (go_at_call 40; refine CF.out.mono ?_; rintro e w2 ⟨rfl, b2⟩; have F2 := F1.later (((Below.refl _ _).alloc (Nat.le_refl _) _).trans (b2.mono (by simp))); obtain ⟨c1, c2, c3, c4, c5, c6, c7⟩ := F2.walk)
  refine bodyPost_ret (v := .tuple #[.agg #[.int .i64 0, .int .i64 0, .slice none 0 0, .slice none 0 0, .slice none 0 0, .slice none 0 0], .int .i64 fe]) (by simp [results, Tryz.results12, go_sem, c3]) rfl ?_
  rw [HD.out]
  refine LedErrA.zero hA _ ?_
  exact below_six F2.below (by omega) _ _ _ _ _ _

set_option maxRecDepth 100000 in
set_option maxHeartbeats 2000000 in
theorem enroll_ttf (w : World) (v vr : Value) (g : LedD) (t : ByteArray) (kb r : List Int) (A : Nat) (hA : A ≤ w.heap.size) (hAt : LedAt A w v g) (hf : Fits g) (hkl : kb.length = 32) (hkb : ∀ x ∈ kb, 0 ≤ x ∧ x ≤ 255) (hr : BytesR w vr r) (hqv : validB g = true) (hqe : sEq t ⟨#[]⟩ = true) (hqd : (firstD t g.dones).isSome = false) :
    Calls Tryz.prog 12 #[v, .string t, .agg (kb.map (Value.int .u8)).toArray, vr] w (LedErrA A w (enrollD g t kb r) (enrollE g t)) := by
  have h := hAt.led
  have HAT := Lib.hid hAt
  clear hAt
  obtain ⟨v2, v3, v4, v5, rfl, hrest⟩ := id h
  obtain ⟨H2, -, H4, H5⟩ := hrest
  have F0 := ThreeBox.laid w #[.int .i64 g.owners, .int .i64 g.need, v2, v3, v4, v5] (kb.map (Value.int .u8)).toArray #[.int .i64 0, .int .i64 0, .slice none 0 0, .slice none 0 0, .slice none 0 0, .slice none 0 0] 26 39 26
  have AV : Hid (∀ wx, Below w.heap.size w wx → Calls Tryz.prog 41 #[.agg #[.int .i64 g.owners, .int .i64 g.need, v2, v3, v4, v5]] wx fun e w' => e = .returned (.bool (validB g)) ∧ Below wx.heap.size wx w') := fun wx hb => valid_41 wx _ g (h.later hb)
  have AH : Hid (∀ wx, Below w.heap.size w wx → Calls Tryz.prog 42 #[v5, .string t] wx fun e w' => e = .returned (.bool (firstD t g.dones).isSome) ∧ Below wx.heap.size wx w') := fun wx hb => has_42 wx v5 g.dones t (H5.later hb) (by have := hf.e; omega)
  have AD : Hid (∀ wx, Below w.heap.size w wx → Calls Tryz.prog 42 #[v4, .string t] wx fun e w' => e = .returned (.bool (firstD t g.demands).isSome) ∧ Below wx.heap.size wx w') := fun wx hb => has_42 wx v4 g.demands t (H4.later hb) (by have := hf.d; omega)
  have AL : Hid (∀ wx, Below w.heap.size w wx → Calls Tryz.prog 43 #[.agg #[.int .i64 g.owners, .int .i64 g.need, v2, v3, v4, v5], .string t] wx fun e w' => e = .returned (.int .i64 (leftD t g.shares)) ∧ Below wx.heap.size wx w') := fun wx hb => left_43 wx _ g t (h.later hb) (by have := hf.s; omega) (fun r hr => by have := hf.r r hr; omega)
  have CC : Hid (∀ wx, Below w.heap.size w wx → Calls Tryz.prog 45 #[.agg #[.int .i64 g.owners, .int .i64 g.need, v2, v3, v4, v5]] wx (CloneRet A wx g)) := fun wx hb => hf.clone hb hA HAT.out
  have HE : Hid (enrollE g t = firstErr [(true, 1), ((firstD t g.demands).isSome, 351), (decide (0 < leftD t g.shares), 240)]) := by
    refine Lib.hid ?_
    unfold enrollE
    rw [hqv, hqe, hqd]
    rfl
  have HD : Hid (enrollD g t kb r = if enrollE g t = 0 then enrAt g t kb r (g.need.toNat - 1) g.shares.length else zeroLed) := rfl
  rw [hqv] at AV
  rw [hqd] at AH
  have HSE := (sEq_empty t).trans hqe
  have HNE : Hid (enrollE g t ≠ 0) := by
    refine Lib.hid ?_
    rw [HE.out]
    unfold firstErr
    simp [List.find?]
  generalize enrollD g t kb r = gd at *
  generalize enrollE g t = fe at *
  clear h H2 H4 H5 hf hqv hqd hqe hkl hkb hr
  go_enter Tryz.func12, Tryz.ntmps12
  go_upto_region 1 with fail
  generalize hW : ((w.alloc (.cells #[.int .i64 g.owners, .int .i64 g.need, v2, v3, v4, v5] 26)).alloc (.cells (kb.map (Value.int .u8)).toArray 39)).alloc (.cells #[.int .i64 0, .int .i64 0, .slice none 0 0, .slice none 0 0, .slice none 0 0, .slice none 0 0] 26) = W at *
  clear hW
  have c1 := class_cells F0.one
  have cV := class_call (W := W) (fun wx hb => AV.out wx (below_step F0.below hb))
  have cH := class_call (W := W) (fun wx hb => AH.out wx (below_step F0.below hb))
  have cD := class_call (W := W) (fun wx hb => AD.out wx (below_step F0.below hb))
  have cL := class_call (W := W) (fun wx hb => AL.out wx (below_step F0.below hb))
  refine wp_region_quiet_tail (C := fun w' => ∃ p : Regrown, w' = grow (redrawn W p.d) p.os) 29 (by kernel_rfl) (by kernel_rfl) ⟨⟨W.drawn + 1, #[]⟩, by rw [grow_empty]; rfl⟩ ?_
  dsimp only [List.take, List.drop]
  repeat (go_big_quiet_step (first | with_reducible exact cV _ _ | with_reducible exact cH _ _ | with_reducible exact cD _ _ | with_reducible exact cL _ _))
  refine wpQuiet_nil ?_
  intro w1 hw1
  have b1 := regrown_below hw1
  clear hw1 c1 cV cH cD cL AV AH AD AL
  have F1 := F0.later b1
  clear b1 F0
  have CF := Lib.hid (first_40 (w1.alloc (.cells #[.bool (true), .int .i64 1, .bool ((firstD t g.demands).isSome), .int .i64 351, .bool (decide (0 < leftD t g.shares)), .int .i64 240] 95)) _ [(true, 1), ((firstD t g.demands).isSome, 351), (decide (0 < leftD t g.shares), 240)] (checks_r w1 _ 95 _ (by rfl) w1.heap.size 3 rfl rfl (by simp)) (by simp))
  rw [← HE.out] at CF
  have hfe : fe ≠ 0 := HNE.out
  rw [if_neg hfe] at HD
  go_wp2_with (go_at_call 40; refine CF.out.mono ?_; rintro e w2 ⟨rfl, b2⟩; have F2 := F1.later (((Below.refl _ _).alloc (Nat.le_refl _) _).trans (b2.mono (by simp))); obtain ⟨c1, c2, c3, c4, c5, c6, c7⟩ := F2.walk)
  refine bodyPost_ret (v := .tuple #[.agg #[.int .i64 0, .int .i64 0, .slice none 0 0, .slice none 0 0, .slice none 0 0, .slice none 0 0], .int .i64 fe]) (by simp [results, Tryz.results12, go_sem, c3]) rfl ?_
  rw [HD.out]
  refine LedErrA.zero hA _ ?_
  exact below_six F2.below (by omega) _ _ _ _ _ _

set_option maxRecDepth 100000 in
set_option maxHeartbeats 2000000 in
theorem enroll_ttt (w : World) (v vr : Value) (g : LedD) (t : ByteArray) (kb r : List Int) (A : Nat) (hA : A ≤ w.heap.size) (hAt : LedAt A w v g) (hf : Fits g) (hkl : kb.length = 32) (hkb : ∀ x ∈ kb, 0 ≤ x ∧ x ≤ 255) (hr : BytesR w vr r) (hqv : validB g = true) (hqe : sEq t ⟨#[]⟩ = true) (hqd : (firstD t g.dones).isSome = true) :
    Calls Tryz.prog 12 #[v, .string t, .agg (kb.map (Value.int .u8)).toArray, vr] w (LedErrA A w (enrollD g t kb r) (enrollE g t)) := by
  have h := hAt.led
  have HAT := Lib.hid hAt
  clear hAt
  obtain ⟨v2, v3, v4, v5, rfl, hrest⟩ := id h
  obtain ⟨H2, -, H4, H5⟩ := hrest
  have F0 := ThreeBox.laid w #[.int .i64 g.owners, .int .i64 g.need, v2, v3, v4, v5] (kb.map (Value.int .u8)).toArray #[.int .i64 0, .int .i64 0, .slice none 0 0, .slice none 0 0, .slice none 0 0, .slice none 0 0] 26 39 26
  have AV : Hid (∀ wx, Below w.heap.size w wx → Calls Tryz.prog 41 #[.agg #[.int .i64 g.owners, .int .i64 g.need, v2, v3, v4, v5]] wx fun e w' => e = .returned (.bool (validB g)) ∧ Below wx.heap.size wx w') := fun wx hb => valid_41 wx _ g (h.later hb)
  have AH : Hid (∀ wx, Below w.heap.size w wx → Calls Tryz.prog 42 #[v5, .string t] wx fun e w' => e = .returned (.bool (firstD t g.dones).isSome) ∧ Below wx.heap.size wx w') := fun wx hb => has_42 wx v5 g.dones t (H5.later hb) (by have := hf.e; omega)
  have AD : Hid (∀ wx, Below w.heap.size w wx → Calls Tryz.prog 42 #[v4, .string t] wx fun e w' => e = .returned (.bool (firstD t g.demands).isSome) ∧ Below wx.heap.size wx w') := fun wx hb => has_42 wx v4 g.demands t (H4.later hb) (by have := hf.d; omega)
  have AL : Hid (∀ wx, Below w.heap.size w wx → Calls Tryz.prog 43 #[.agg #[.int .i64 g.owners, .int .i64 g.need, v2, v3, v4, v5], .string t] wx fun e w' => e = .returned (.int .i64 (leftD t g.shares)) ∧ Below wx.heap.size wx w') := fun wx hb => left_43 wx _ g t (h.later hb) (by have := hf.s; omega) (fun r hr => by have := hf.r r hr; omega)
  have CC : Hid (∀ wx, Below w.heap.size w wx → Calls Tryz.prog 45 #[.agg #[.int .i64 g.owners, .int .i64 g.need, v2, v3, v4, v5]] wx (CloneRet A wx g)) := fun wx hb => hf.clone hb hA HAT.out
  have HE : Hid (enrollE g t = firstErr [(true, 1), (true, 351), (decide (0 < leftD t g.shares), 240)]) := by
    refine Lib.hid ?_
    unfold enrollE
    rw [hqv, hqe, hqd]
    rfl
  have HD : Hid (enrollD g t kb r = if enrollE g t = 0 then enrAt g t kb r (g.need.toNat - 1) g.shares.length else zeroLed) := rfl
  rw [hqv] at AV
  rw [hqd] at AH
  have HSE := (sEq_empty t).trans hqe
  have HNE : Hid (enrollE g t ≠ 0) := by
    refine Lib.hid ?_
    rw [HE.out]
    unfold firstErr
    simp [List.find?]
  generalize enrollD g t kb r = gd at *
  generalize enrollE g t = fe at *
  clear h H2 H4 H5 hf hqv hqd hqe hkl hkb hr
  go_enter Tryz.func12, Tryz.ntmps12
  go_upto_region 1 with fail
  generalize hW : ((w.alloc (.cells #[.int .i64 g.owners, .int .i64 g.need, v2, v3, v4, v5] 26)).alloc (.cells (kb.map (Value.int .u8)).toArray 39)).alloc (.cells #[.int .i64 0, .int .i64 0, .slice none 0 0, .slice none 0 0, .slice none 0 0, .slice none 0 0] 26) = W at *
  clear hW
  have c1 := class_cells F0.one
  have cV := class_call (W := W) (fun wx hb => AV.out wx (below_step F0.below hb))
  have cH := class_call (W := W) (fun wx hb => AH.out wx (below_step F0.below hb))
  have cD := class_call (W := W) (fun wx hb => AD.out wx (below_step F0.below hb))
  have cL := class_call (W := W) (fun wx hb => AL.out wx (below_step F0.below hb))
  refine wp_region_quiet_tail (C := fun w' => ∃ p : Regrown, w' = grow (redrawn W p.d) p.os) 29 (by kernel_rfl) (by kernel_rfl) ⟨⟨W.drawn + 1, #[]⟩, by rw [grow_empty]; rfl⟩ ?_
  dsimp only [List.take, List.drop]
  repeat (go_big_quiet_step (first | with_reducible exact cV _ _ | with_reducible exact cH _ _ | with_reducible exact cD _ _ | with_reducible exact cL _ _))
  refine wpQuiet_nil ?_
  intro w1 hw1
  have b1 := regrown_below hw1
  clear hw1 c1 cV cH cD cL AV AH AD AL
  have F1 := F0.later b1
  clear b1 F0
  have CF := Lib.hid (first_40 (w1.alloc (.cells #[.bool (true), .int .i64 1, .bool (true), .int .i64 351, .bool (decide (0 < leftD t g.shares)), .int .i64 240] 95)) _ [(true, 1), (true, 351), (decide (0 < leftD t g.shares), 240)] (checks_r w1 _ 95 _ (by rfl) w1.heap.size 3 rfl rfl (by simp)) (by simp))
  rw [← HE.out] at CF
  have hfe : fe ≠ 0 := HNE.out
  rw [if_neg hfe] at HD
  go_wp2_with (go_at_call 40; refine CF.out.mono ?_; rintro e w2 ⟨rfl, b2⟩; have F2 := F1.later (((Below.refl _ _).alloc (Nat.le_refl _) _).trans (b2.mono (by simp))); obtain ⟨c1, c2, c3, c4, c5, c6, c7⟩ := F2.walk)
  refine bodyPost_ret (v := .tuple #[.agg #[.int .i64 0, .int .i64 0, .slice none 0 0, .slice none 0 0, .slice none 0 0, .slice none 0 0], .int .i64 fe]) (by simp [results, Tryz.results12, go_sem, c3]) rfl ?_
  rw [HD.out]
  refine LedErrA.zero hA _ ?_
  exact below_six F2.below (by omega) _ _ _ _ _ _

set_option maxRecDepth 100000 in
set_option maxHeartbeats 2000000 in
theorem enroll_tft (w : World) (v vr : Value) (g : LedD) (t : ByteArray) (kb r : List Int) (A : Nat) (hA : A ≤ w.heap.size) (hAt : LedAt A w v g) (hf : Fits g) (hkl : kb.length = 32) (hkb : ∀ x ∈ kb, 0 ≤ x ∧ x ≤ 255) (hr : BytesR w vr r) (hqv : validB g = true) (hqe : sEq t ⟨#[]⟩ = false) (hqd : (firstD t g.dones).isSome = true) :
    Calls Tryz.prog 12 #[v, .string t, .agg (kb.map (Value.int .u8)).toArray, vr] w (LedErrA A w (enrollD g t kb r) (enrollE g t)) := by
  have h := hAt.led
  have HAT := Lib.hid hAt
  clear hAt
  obtain ⟨v2, v3, v4, v5, rfl, hrest⟩ := id h
  obtain ⟨H2, -, H4, H5⟩ := hrest
  have F0 := ThreeBox.laid w #[.int .i64 g.owners, .int .i64 g.need, v2, v3, v4, v5] (kb.map (Value.int .u8)).toArray #[.int .i64 0, .int .i64 0, .slice none 0 0, .slice none 0 0, .slice none 0 0, .slice none 0 0] 26 39 26
  have AV : Hid (∀ wx, Below w.heap.size w wx → Calls Tryz.prog 41 #[.agg #[.int .i64 g.owners, .int .i64 g.need, v2, v3, v4, v5]] wx fun e w' => e = .returned (.bool (validB g)) ∧ Below wx.heap.size wx w') := fun wx hb => valid_41 wx _ g (h.later hb)
  have AH : Hid (∀ wx, Below w.heap.size w wx → Calls Tryz.prog 42 #[v5, .string t] wx fun e w' => e = .returned (.bool (firstD t g.dones).isSome) ∧ Below wx.heap.size wx w') := fun wx hb => has_42 wx v5 g.dones t (H5.later hb) (by have := hf.e; omega)
  have AD : Hid (∀ wx, Below w.heap.size w wx → Calls Tryz.prog 42 #[v4, .string t] wx fun e w' => e = .returned (.bool (firstD t g.demands).isSome) ∧ Below wx.heap.size wx w') := fun wx hb => has_42 wx v4 g.demands t (H4.later hb) (by have := hf.d; omega)
  have AL : Hid (∀ wx, Below w.heap.size w wx → Calls Tryz.prog 43 #[.agg #[.int .i64 g.owners, .int .i64 g.need, v2, v3, v4, v5], .string t] wx fun e w' => e = .returned (.int .i64 (leftD t g.shares)) ∧ Below wx.heap.size wx w') := fun wx hb => left_43 wx _ g t (h.later hb) (by have := hf.s; omega) (fun r hr => by have := hf.r r hr; omega)
  have CC : Hid (∀ wx, Below w.heap.size w wx → Calls Tryz.prog 45 #[.agg #[.int .i64 g.owners, .int .i64 g.need, v2, v3, v4, v5]] wx (CloneRet A wx g)) := fun wx hb => hf.clone hb hA HAT.out
  have HE : Hid (enrollE g t = firstErr [(decide (200 < (t.size : Int)), 1), (true, 351), (decide (0 < leftD t g.shares), 240)]) := by
    refine Lib.hid ?_
    unfold enrollE
    rw [hqv, hqe, hqd]
    rfl
  have HD : Hid (enrollD g t kb r = if enrollE g t = 0 then enrAt g t kb r (g.need.toNat - 1) g.shares.length else zeroLed) := rfl
  rw [hqv] at AV
  rw [hqd] at AH
  have HSE := (sEq_empty t).trans hqe
  have HNE : Hid (enrollE g t ≠ 0) := by
    refine Lib.hid ?_
    rw [HE.out]
    unfold firstErr
    cases decide (200 < (t.size : Int)) <;> simp [List.find?]
  generalize enrollD g t kb r = gd at *
  generalize enrollE g t = fe at *
  clear h H2 H4 H5 hf hqv hqd hqe hkl hkb hr
  go_enter Tryz.func12, Tryz.ntmps12
  go_upto_region 1 with fail
  generalize hW : ((w.alloc (.cells #[.int .i64 g.owners, .int .i64 g.need, v2, v3, v4, v5] 26)).alloc (.cells (kb.map (Value.int .u8)).toArray 39)).alloc (.cells #[.int .i64 0, .int .i64 0, .slice none 0 0, .slice none 0 0, .slice none 0 0, .slice none 0 0] 26) = W at *
  clear hW
  have c1 := class_cells F0.one
  have cV := class_call (W := W) (fun wx hb => AV.out wx (below_step F0.below hb))
  have cH := class_call (W := W) (fun wx hb => AH.out wx (below_step F0.below hb))
  have cD := class_call (W := W) (fun wx hb => AD.out wx (below_step F0.below hb))
  have cL := class_call (W := W) (fun wx hb => AL.out wx (below_step F0.below hb))
  refine wp_region_quiet_tail (C := fun w' => ∃ p : Regrown, w' = grow (redrawn W p.d) p.os) 29 (by kernel_rfl) (by kernel_rfl) ⟨⟨W.drawn + 1, #[]⟩, by rw [grow_empty]; rfl⟩ ?_
  dsimp only [List.take, List.drop]
  repeat (go_big_quiet_step (first | with_reducible exact cV _ _ | with_reducible exact cH _ _ | with_reducible exact cD _ _ | with_reducible exact cL _ _))
  refine wpQuiet_nil ?_
  intro w1 hw1
  have b1 := regrown_below hw1
  clear hw1 c1 cV cH cD cL AV AH AD AL
  have F1 := F0.later b1
  clear b1 F0
  have CF := Lib.hid (first_40 (w1.alloc (.cells #[.bool (decide (200 < (t.size : Int))), .int .i64 1, .bool (true), .int .i64 351, .bool (decide (0 < leftD t g.shares)), .int .i64 240] 95)) _ [(decide (200 < (t.size : Int)), 1), (true, 351), (decide (0 < leftD t g.shares), 240)] (checks_r w1 _ 95 _ (by rfl) w1.heap.size 3 rfl rfl (by simp)) (by simp))
  rw [← HE.out] at CF
  have hfe : fe ≠ 0 := HNE.out
  rw [if_neg hfe] at HD
  go_wp2_with (go_at_call 40; refine CF.out.mono ?_; rintro e w2 ⟨rfl, b2⟩; have F2 := F1.later (((Below.refl _ _).alloc (Nat.le_refl _) _).trans (b2.mono (by simp))); obtain ⟨c1, c2, c3, c4, c5, c6, c7⟩ := F2.walk)
  refine bodyPost_ret (v := .tuple #[.agg #[.int .i64 0, .int .i64 0, .slice none 0 0, .slice none 0 0, .slice none 0 0, .slice none 0 0], .int .i64 fe]) (by simp [results, Tryz.results12, go_sem, c3]) rfl ?_
  rw [HD.out]
  refine LedErrA.zero hA _ ?_
  exact below_six F2.below (by omega) _ _ _ _ _ _

end Go.Proofs.YtpbgipdkaaooeaaGreatDoor
