/- forget.Demand. -/
import Derived.Test.YtpbgipdkaaooeaaGreatDoorH
open Go Go.Proofs Go.RowKit Go.Sort
namespace Go.Proofs.YtpbgipdkaaooeaaGreatDoor
set_option linter.unusedSimpArgs false
set_option linter.unusedVariables false
attribute [local go_sem ↓] Go.wp_at_zero Go.wp_at_succ

theorem checks_r (w : World) (c : Array Value) (t : TypeId) (l : List (Bool × Int)) (hc : c.toList = checkCells l) (k n : Nat) (hk : k = w.heap.size) (hn : n = l.length) (hl : l.length ≤ 4096) : RowR (w.alloc (.cells c t)) (.slice (some ⟨k, 0, none⟩) n n) 2 (checkCells l) l.length := by
  subst hk hn
  refine ⟨by clear hc hl; induction l with
    | nil => rfl
    | cons a l ih => simp only [checkCells, List.flatMap_cons, List.length_append, List.length_cons, List.length_nil] at *; omega, _, _, rfl, Nat.le_refl _, by unfold maxLen; omega, fun _ => ⟨_, 0, rfl, by simp, fun j hj => ?_⟩⟩
  rw [Nat.zero_add, (blk_cells (heap_alloc_new w (.cells c t))).1 j, ← hc]
  simp

def demandE (g : LedD) (t : ByteArray) (a : Int) : Int := firstErr [(!validB g, 1), ((firstD t g.dones).isSome, 351), ((leftD t g.shares : Int) == 0, 4), (forceB t a g.holds, 350)]
def demandD (g : LedD) (t : ByteArray) (a : Int) : LedD := if demandE g t a = 0 then (if (firstD t g.demands).isSome then g else { g with demands := g.demands ++ [(t, a)] }) else zeroLed

/-- What a callee that leaves old memory alone answers, in every world of the class. -/
theorem class_call {W : World} {f : FuncId} {args : Array Value} {v : Value} (h : ∀ w', Below W.heap.size W w' → Calls Tryz.prog f args w' fun e w'' => e = .returned v ∧ Below w'.heap.size w' w'') (d : Nat) (os : Array Obj) :
    Calls Tryz.prog f args (grow (redrawn W d) os) fun e w'' => e = .returned v ∧ ∃ p : Regrown, w'' = grow (redrawn W p.d) p.os :=
  Calls.regrown_of (h _ (below_regrown W d os))
theorem class_cells {W : World} {k : Nat} {c : Array Value} {t : TypeId} (h : W.heap[k]? = some (.cells c t (0, 0))) (d : Nat) (os : Array Obj) (i : Nat) : (grow (redrawn W d) os).cell? ⟨k, i, none⟩ = c[i]? := by
  rw [← (blk_cells h).1 i]
  exact (below_regrown W d os).cell (lt_of_blk h)

set_option maxRecDepth 100000 in
set_option maxHeartbeats 1000000 in
theorem demand_15A (w : World) (v : Value) (g : LedD) (t : ByteArray) (a : Int) (A : Nat) (hA : A ≤ w.heap.size) (hAt : LedAt A w v g) (hf : Fits g) :
    Calls Tryz.prog 15 #[v, .agg #[.string t, .int .i64 a]] w (LedErrA A w (demandD g t a) (demandE g t a)) := by
  have h := hAt.led
  have HAT := Lib.hid hAt
  clear hAt
  obtain ⟨v2, v3, v4, v5, rfl, hrest⟩ := id h
  obtain ⟨-, -, H4, H5⟩ := hrest
  have F0 := ThreeBox.laid w #[.int .i64 g.owners, .int .i64 g.need, v2, v3, v4, v5] #[.string t, .int .i64 a] #[.int .i64 0, .int .i64 0, .slice none 0 0, .slice none 0 0, .slice none 0 0, .slice none 0 0] 26 46 26
  have AV : Hid (∀ wx, Below w.heap.size w wx → Calls Tryz.prog 41 #[.agg #[.int .i64 g.owners, .int .i64 g.need, v2, v3, v4, v5]] wx fun e w' => e = .returned (.bool (validB g)) ∧ Below wx.heap.size wx w') := fun wx hb => valid_41 wx _ g (h.later hb)
  have AH : Hid (∀ wx, Below w.heap.size w wx → Calls Tryz.prog 42 #[v5, .string t] wx fun e w' => e = .returned (.bool (firstD t g.dones).isSome) ∧ Below wx.heap.size wx w') := fun wx hb => has_42 wx v5 g.dones t (H5.later hb) (by have := hf.e; omega)
  have AD : Hid (∀ wx, Below w.heap.size w wx → Calls Tryz.prog 42 #[v4, .string t] wx fun e w' => e = .returned (.bool (firstD t g.demands).isSome) ∧ Below wx.heap.size wx w') := fun wx hb => has_42 wx v4 g.demands t (H4.later hb) (by have := hf.d; omega)
  have AL : Hid (∀ wx, Below w.heap.size w wx → Calls Tryz.prog 43 #[.agg #[.int .i64 g.owners, .int .i64 g.need, v2, v3, v4, v5], .string t] wx fun e w' => e = .returned (.int .i64 (leftD t g.shares)) ∧ Below wx.heap.size wx w') := fun wx hb => left_43 wx _ g t (h.later hb) (by have := hf.s; omega) (fun r hr => by have := hf.r r hr; omega)
  have AF : Hid (∀ wx, Below w.heap.size w wx → Calls Tryz.prog 51 #[.agg #[.int .i64 g.owners, .int .i64 g.need, v2, v3, v4, v5], .string t, .int .i64 a] wx fun e w' => e = .returned (.bool (forceB t a g.holds)) ∧ Below wx.heap.size wx w') := fun wx hb => force_51 wx _ g t a (h.later hb) (by have := hf.h; omega)
  have CC : Hid (∀ wx, Below w.heap.size w wx → Calls Tryz.prog 45 #[.agg #[.int .i64 g.owners, .int .i64 g.need, v2, v3, v4, v5]] wx (CloneRet A wx g)) := fun wx hb => hf.clone hb hA HAT.out
  have HL := Lib.hid hf.d
  have HE : Hid (demandE g t a = firstErr [(!validB g, 1), ((firstD t g.dones).isSome, 351), ((leftD t g.shares : Int) == 0, 4), (forceB t a g.holds, 350)]) := rfl
  have HD : Hid (demandD g t a = if demandE g t a = 0 then (if (firstD t g.demands).isSome then g else { g with demands := g.demands ++ [(t, a)] }) else zeroLed) := rfl
  generalize demandD g t a = gd at *
  generalize demandE g t a = fe at *
  clear H4 H5 h hf
  go_enter Tryz.func15, Tryz.ntmps15
  go_upto_region 1 with fail
  generalize hW : ((w.alloc (.cells #[.int .i64 g.owners, .int .i64 g.need, v2, v3, v4, v5] 26)).alloc (.cells #[.string t, .int .i64 a] 46)).alloc (.cells #[.int .i64 0, .int .i64 0, .slice none 0 0, .slice none 0 0, .slice none 0 0, .slice none 0 0] 26) = W at *
  clear hW
  have c1 := class_cells F0.one
  have c2 := class_cells F0.two
  have cV := class_call (W := W) (fun wx hb => AV.out wx (below_step F0.below hb))
  have cH := class_call (W := W) (fun wx hb => AH.out wx (below_step F0.below hb))
  have cL := class_call (W := W) (fun wx hb => AL.out wx (below_step F0.below hb))
  have cF := class_call (W := W) (fun wx hb => AF.out wx (below_step F0.below hb))
  refine wp_region_quiet_tail (C := fun w' => ∃ p : Regrown, w' = grow (redrawn W p.d) p.os) 23 (by kernel_rfl) (by kernel_rfl) ⟨⟨W.drawn + 1, #[]⟩, by rw [grow_empty]; rfl⟩ ?_
  dsimp only [List.take, List.drop]
  repeat (quiet_step (first | exact cV _ _ | exact cH _ _ | exact cL _ _ | exact cF _ _))
  refine wpQuiet_nil ?_
  intro w1 hw1
  have b1 : Below W.heap.size W w1 := by obtain ⟨⟨d, os⟩, rfl⟩ := hw1; exact below_regrown W d os
  clear hw1 c1 c2 cV cH cL cF AV AH AL AF
  have F1 := F0.later b1
  clear b1 F0
  have CF := Lib.hid (first_40 (w1.alloc (.cells #[.bool (!validB g), .int .i64 1, .bool (firstD t g.dones).isSome, .int .i64 351, .bool ((leftD t g.shares : Int) == 0), .int .i64 4, .bool (forceB t a g.holds), .int .i64 350] 95)) _ [(!validB g, 1), ((firstD t g.dones).isSome, 351), ((leftD t g.shares : Int) == 0, 4), (forceB t a g.holds, 350)] (checks_r w1 _ 95 _ (by rfl) w1.heap.size 4 rfl rfl (by simp)) (by simp))
  rw [← HE.out] at CF
  clear HE
  by_cases hfe : fe = 0
  · subst hfe
    rw [if_pos rfl] at HD
    rcases hq : (firstD t g.demands).isSome with _ | _
    · rw [hq] at HD AD
      simp only [Bool.false_eq_true, if_false] at HD
      obtain ⟨i0, HI⟩ : ∃ i, Tryz.prog.info? 46 = some i ∧ i.zero = some (.agg #[.string ByteArray.empty, .int .i64 0]) ∧ i.size = 2 ∧ i.bytes = 24 := by
        have := info46
        cases hh : Tryz.prog.info? 46 with
        | none => rw [hh] at this; cases this
        | some i => rw [hh] at this; simp at this; exact ⟨i, rfl, this.1, this.2.1, this.2.2⟩
      replace HI := Lib.hid HI
      clear hq
      go_wp2_with (first
        | (go_at_call 40; refine CF.out.mono ?_; rintro e w2 ⟨rfl, b2⟩; have F2 := F1.later (((Below.refl _ _).alloc (Nat.le_refl _) _).trans (b2.mono (by simp))); obtain ⟨c1, c2, c3, c4, c5, c6, c7⟩ := F2.walk)
        | (go_at_call 45; refine (CC.out _ F2.below).mono ?_; rintro e w3 ⟨v2', v3', v4', v5', vs, pss, rfl, hO, b3⟩; obtain ⟨a2, k2, rfl⟩ := slice_of_owns hO.o2; obtain ⟨a3, k3, rfl⟩ := slice_of_owns hO.o3; obtain ⟨a4, k4, rfl⟩ := slice_of_owns hO.o4; obtain ⟨a5, k5, rfl⟩ := slice_of_owns hO.o5; have F3 := F2.later b3; clear c1 c2 c3 c4 c5 c6 c7; obtain ⟨c1, c2, c3, c4, c5, c6, c7⟩ := F3.walk)
        | (go_at_call 42; have hs3 : (w3.alloc (.cells #[.int .i64 g.owners, .int .i64 g.need, .slice a2 vs.length k2, .slice a3 g.holds.length k3, .slice a4 g.demands.length k4, .slice a5 g.dones.length k5] 26)).heap[w3.heap.size]? = _ := heap_alloc_new w3 _
           have b3a := (Below.refl w3.heap.size w3).alloc (Nat.le_refl _) (.cells #[.int .i64 g.owners, .int .i64 g.need, .slice a2 vs.length k2, .slice a3 g.holds.length k3, .slice a4 g.demands.length k4, .slice a5 g.dones.length k5] 26)
           refine (AD.out _ (F3.later b3a).below).mono ?_
           rintro e w4 ⟨rfl, b4⟩
           have O4 := (hO.later b3a).later b4
           have F4 := (F3.later b3a).later b4
           have bk4 := blk_later hs3 b4
           have hne := F3.walk.2.2.2.2.2.2
           clear c1 c2 c3 c4 c5 c6 c7
           obtain ⟨c1, c2, c3, c4, c5, c6, c7⟩ := F4.walk
           obtain ⟨d1, d2, d3⟩ := box_walk bk4)
        | (at_builtin
           have b5 := (Below.refl w4.heap.size w4).alloc (Nat.le_refl _) (.cells #[.string t, .int .i64 a] 46)
           have O5 := O4.later b5
           have F5 := F4.later b5
           have bk5 := blk_later bk4 b5
           refine wpList_append_own_at _ rfl _ _ 24 rfl w2.heap.size 46 i0 _ 2 24 und24 HI.out.1 HI.out.2.1 HI.out.2.2.1 HI.out.2.2.2 rfl (by decide) _ g.demands.length (pairCells g.demands) rfl O5.o4 ⟨_, 0, none⟩ 1 1 [.string t, .int .i64 a] rfl rfl (pair_laid _ t a 46 _ (by simp)) (by intro u hu; simp at hu; rcases hu with rfl | rfl <;> rfl) (by have := HL.out; unfold maxLen; omega) (by have := HL.out; omega) O5.base ?_
           intro v3n w6 hown hg hz hat
           obtain ⟨an, kn, rfl⟩ := slice_of_owns hown
           have O6 := O5.push4 (p := (t, a)) hown hg hat
           have F6 := F5.kept hg (fun k hk => by have := (O5.o4.lt k hk).1; have := F2.walk.2.2.2.2.2.2; omega)
           have bk6 := grown_blk O5.o4 hg bk5 (by decide)
           have R := Lib.hid (ledErr_fin hA (F6.setOther hne 4 (.slice an (g.demands.length + 1) kn)) (O6.box bk6 (by omega) 4 (.slice an (g.demands.length + 1) kn)) 0)
           clear c1 c2 c3 c4 c5 c6 c7 d1 d2 d3
           obtain ⟨c1, c2, c3, c4, c5, c6, c7⟩ := F6.walk
           obtain ⟨d1, d2, d3⟩ := box_walk bk6))
      refine bodyPost_ret (v := .tuple #[.agg #[.int .i64 g.owners, .int .i64 g.need, .slice a2 vs.length k2, .slice a3 g.holds.length k3, .slice an (g.demands.length + 1) kn, .slice a5 g.dones.length k5], .int .i64 0]) (by simp [results, Tryz.results15, go_sem, c3]) rfl ?_
      rw [HD.out]
      exact R.out
    · rw [hq] at HD AD
      simp only [if_true] at HD
      clear hq
      go_wp2_with (first
        | (go_at_call 40; refine CF.out.mono ?_; rintro e w2 ⟨rfl, b2⟩; have F2 := F1.later (((Below.refl _ _).alloc (Nat.le_refl _) _).trans (b2.mono (by simp))); obtain ⟨c1, c2, c3, c4, c5, c6, c7⟩ := F2.walk)
        | (go_at_call 45; refine (CC.out _ F2.below).mono ?_; rintro e w3 ⟨v2', v3', v4', v5', vs, pss, rfl, hO, b3⟩; obtain ⟨a2, k2, rfl⟩ := slice_of_owns hO.o2; obtain ⟨a3, k3, rfl⟩ := slice_of_owns hO.o3; obtain ⟨a4, k4, rfl⟩ := slice_of_owns hO.o4; obtain ⟨a5, k5, rfl⟩ := slice_of_owns hO.o5; have F3 := F2.later b3; clear c1 c2 c3 c4 c5 c6 c7; obtain ⟨c1, c2, c3, c4, c5, c6, c7⟩ := F3.walk)
        | (go_at_call 42; have hs3 : (w3.alloc (.cells #[.int .i64 g.owners, .int .i64 g.need, .slice a2 vs.length k2, .slice a3 g.holds.length k3, .slice a4 g.demands.length k4, .slice a5 g.dones.length k5] 26)).heap[w3.heap.size]? = _ := heap_alloc_new w3 _
           have b3a := (Below.refl w3.heap.size w3).alloc (Nat.le_refl _) (.cells #[.int .i64 g.owners, .int .i64 g.need, .slice a2 vs.length k2, .slice a3 g.holds.length k3, .slice a4 g.demands.length k4, .slice a5 g.dones.length k5] 26)
           refine (AD.out _ (F3.later b3a).below).mono ?_
           rintro e w4 ⟨rfl, b4⟩
           have O4 := (hO.later b3a).later b4
           have F4 := (F3.later b3a).later b4
           have bk4 := blk_later hs3 b4
           have hne := F3.walk.2.2.2.2.2.2
           clear c1 c2 c3 c4 c5 c6 c7
           obtain ⟨c1, c2, c3, c4, c5, c6, c7⟩ := F4.walk
           obtain ⟨d1, d2, d3⟩ := box_walk bk4))
      have R := Lib.hid (ledErr_fin hA F4 O4 0)
      refine bodyPost_ret (v := .tuple #[.agg #[.int .i64 g.owners, .int .i64 g.need, .slice a2 vs.length k2, .slice a3 g.holds.length k3, .slice a4 g.demands.length k4, .slice a5 g.dones.length k5], .int .i64 0]) (by simp [results, Tryz.results15, go_sem, c3]) rfl ?_
      rw [HD.out]
      exact R.out
  · rw [if_neg hfe] at HD
    go_wp2_with (go_at_call 40; refine CF.out.mono ?_; rintro e w2 ⟨rfl, b2⟩; have F2 := F1.later (((Below.refl _ _).alloc (Nat.le_refl _) _).trans (b2.mono (by simp))); obtain ⟨c1, c2, c3, c4, c5, c6, c7⟩ := F2.walk)
    refine bodyPost_ret (v := .tuple #[.agg #[.int .i64 0, .int .i64 0, .slice none 0 0, .slice none 0 0, .slice none 0 0, .slice none 0 0], .int .i64 fe]) (by simp [results, Tryz.results15, go_sem, c3]) rfl ?_
    rw [HD.out]
    refine LedErrA.zero hA _ ?_
    exact below_six F2.below (by omega) _ _ _ _ _ _
theorem demand_15 (w : World) (v : Value) (g : LedD) (t : ByteArray) (a : Int) (h : LedR w v g) (hf : Fits g) :
    Calls Tryz.prog 15 #[v, .agg #[.string t, .int .i64 a]] w (LedErr w (demandD g t a) (demandE g t a)) := (demand_15A w v g t a _ (Nat.le_refl _) h.at hf).mono fun _ _ h => h.old
end Go.Proofs.YtpbgipdkaaooeaaGreatDoor
