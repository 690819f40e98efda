/- forget.Hold and forget.New. -/
import Derived.Test.YtpbgipdkaaooeaaGreatDoorG
open Go Go.Proofs Go.RowKit
namespace Go.Proofs.YtpbgipdkaaooeaaGreatDoor
set_option linter.unusedSimpArgs false
set_option linter.unusedVariables false
attribute [local go_sem ↓] Go.wp_at_zero Go.wp_at_succ

def holdD (g : LedD) (p : ByteArray × Int) : LedD := if validB g then { g with holds := g.holds ++ [p] } else zeroLed

/-- A box of type t with these cells, and what a walk reads of it. -/
theorem box_walk {w : World} {k : Nat} {c : Array Value} {t : TypeId} (h : w.heap[k]? = some (.cells c t (0, 0))) : (∀ i, w.cell? ⟨k, i, none⟩ = c[i]?) ∧ (∀ i, w.frozen? ⟨k, i, none⟩ = false) ∧ k < w.heap.size :=
  ⟨(blk_cells h).1, (blk_cells h).2, lt_of_blk h⟩

set_option maxRecDepth 100000 in
set_option maxHeartbeats 1000000 in
theorem hold_26A (w : World) (v : Value) (g : LedD) (p : ByteArray × Int) (A : Nat) (hA : A ≤ w.heap.size) (hAt : LedAt A w v g) (hf : Fits g) :
    Calls Tryz.prog 26 #[v, .agg #[.string p.1, .int .i64 p.2]] w (LedRetA A w (holdD g p)) := by
  have h := hAt.led
  have HAT := Lib.hid hAt
  clear hAt
  obtain ⟨v2, v3, v4, v5, rfl, hrest⟩ := id h
  clear hrest
  have F0 := ThreeBox.laid w #[.int .i64 g.owners, .int .i64 g.need, v2, v3, v4, v5] #[.string p.1, .int .i64 p.2] #[.int .i64 0, .int .i64 0, .slice none 0 0, .slice none 0 0, .slice none 0 0, .slice none 0 0] 26 56 26
  have CV := Lib.hid (valid_41 _ _ g (h.later F0.below))
  have CC : Hid (∀ wx, Below w.heap.size w wx → Calls Tryz.prog 45 #[.agg #[.int .i64 g.owners, .int .i64 g.need, v2, v3, v4, v5]] wx (CloneRet A wx g)) := fun wx hb => hf.clone hb hA HAT.out
  have HL := Lib.hid hf.h
  unfold holdD
  rcases hq : validB g with _ | _
  · rw [hq] at CV
    have F0' := Lib.hid F0
    clear hf h CC HL F0 hq
    generalize g.owners = o at *
    generalize g.need = nd at *
    go_enter Tryz.func26, Tryz.ntmps26
    go_wp2_with (go_at_call 41; refine CV.out.mono ?_; rintro e w1 ⟨rfl, b1⟩; have F1 := F0'.out.later b1; obtain ⟨c1, c2, c3, c4, c5, c6, c7⟩ := F1.walk)
    refine bodyPost_ret (v := .agg #[.int .i64 0, .int .i64 0, .slice none 0 0, .slice none 0 0, .slice none 0 0, .slice none 0 0]) (by simp [results, Tryz.results26, go_sem, c3]) rfl ⟨_, rfl, zeroLed_o (Nat.le_trans hA (below_six F1.below (by omega) _ _ _ _ _ _).size), ?_⟩
    exact below_six F1.below (by omega) _ _ _ _ _ _
  · rw [hq] at CV
    have F0' := Lib.hid F0
    clear hf h F0 hq
    obtain ⟨i0, HI⟩ : ∃ i, Tryz.prog.info? 56 = some i ∧ i.zero = some (.agg #[.string ByteArray.empty, .int .i64 0]) ∧ i.size = 2 ∧ i.bytes = 24 := by
      have := info56
      cases hh : Tryz.prog.info? 56 with
      | none => rw [hh] at this; cases this
      | some i => rw [hh] at this; simp at this; exact ⟨i, rfl, this.1, this.2.1, this.2.2⟩
    have HI := Lib.hid HI
    obtain ⟨p1, p2⟩ := p
    have FIN : Hid (∀ (w5 : World) (B k : Nat) (v2' v3' v4' v5' : Value) (vs : List Value) (pss : List (List (ByteArray × Int × Value))) (c : Array Value), ThreeBox w #[.int .i64 g.owners, .int .i64 g.need, v2, v3, v4, v5] #[.string p1, .int .i64 p2] #[.int .i64 0, .int .i64 0, .slice none 0 0, .slice none 0 0, .slice none 0 0, .slice none 0 0] 26 56 26 w5 →
        OwnLed w5 A B v2' v3' v4' v5' vs pss { g with holds := g.holds ++ [(p1, p2)] } → w5.heap[k]? = some (.cells c 26 (0, 0)) → w.heap.size ≤ k →
        LedRetA A w { g with holds := g.holds ++ [(p1, p2)] } (.returned (.agg #[.int .i64 g.owners, .int .i64 g.need, v2', v3', v4', v5'])) (((((((w5.setCell ⟨k, 3, none⟩ v3').setCell ⟨w.heap.size + 1 + 1, 0, none⟩ (.int .i64 g.owners)).setCell ⟨w.heap.size + 1 + 1, 1, none⟩ (.int .i64 g.need)).setCell ⟨w.heap.size + 1 + 1, 2, none⟩ v2').setCell ⟨w.heap.size + 1 + 1, 3, none⟩ v3').setCell ⟨w.heap.size + 1 + 1, 4, none⟩ v4').setCell ⟨w.heap.size + 1 + 1, 5, none⟩ v5')) := by
      intro w5 B k v2' v3' v4' v5' vs pss c hF hO hk hlt
      have h2 : ∃ c', (w5.setCell ⟨k, 3, none⟩ v3').heap[w.heap.size + 1 + 1]? = some (.cells c' 26 (0, 0)) := by
        by_cases hkk : k = w.heap.size + 1 + 1
        · subst hkk; exact ⟨_, blk_set hk _ _⟩
        · exact ⟨_, (Below.heap_setCell _ _ _ _ (fun hh => hkk hh.symm)).trans hF.three⟩
      obtain ⟨c', h2⟩ := h2
      exact ⟨_, rfl, ((hO.box hk (Nat.le_trans hA hlt) 3 v3').box6 h2 (by omega) _ _ _ _ _ _).o, below_six (hF.below.setCell hlt _) (by omega) _ _ _ _ _ _⟩
    go_enter Tryz.func26, Tryz.ntmps26
    go_wp2_with (first
      | (go_at_call 41; refine CV.out.mono ?_; rintro e w1 ⟨rfl, b1⟩; have F1 := F0'.out.later b1; obtain ⟨c1, c2, c3, c4, c5, c6, c7⟩ := F1.walk)
      | (go_at_call 45; refine (CC.out _ F1.below).mono ?_; rintro e w2 ⟨v2', v3', v4', v5', vs, pss, rfl, hO, b2⟩; obtain ⟨a2, k2, rfl⟩ := slice_of_owns hO.o2; obtain ⟨a3, k3, rfl⟩ := slice_of_owns hO.o3; obtain ⟨a4, k4, rfl⟩ := slice_of_owns hO.o4; obtain ⟨a5, k5, rfl⟩ := slice_of_owns hO.o5; have F2 := F1.later b2; clear c1 c2 c3 c4 c5 c6 c7; obtain ⟨c1, c2, c3, c4, c5, c6, c7⟩ := F2.walk)
      | (at_builtin
         have hs3 : (w2.alloc (.cells #[.int .i64 g.owners, .int .i64 g.need, .slice a2 vs.length k2, .slice a3 g.holds.length k3, .slice a4 g.demands.length k4, .slice a5 g.dones.length k5] 26)).heap[w2.heap.size]? = _ := heap_alloc_new w2 _
         have b4 := ((Below.refl _ _).alloc (Nat.le_refl _) (.cells #[.int .i64 g.owners, .int .i64 g.need, .slice a2 vs.length k2, .slice a3 g.holds.length k3, .slice a4 g.demands.length k4, .slice a5 g.dones.length k5] 26)).alloc (B := w2.heap.size) (a := w2) (by simp) (.cells #[.string p1, .int .i64 p2] 56)
         have O4 := hO.later b4
         have F4 := F2.later b4
         have bk4 := (Below.heap_alloc _ (.cells #[.string p1, .int .i64 p2] 56) _ (lt_of_blk hs3)).trans hs3
         refine wpList_append_own_at _ rfl _ _ 23 rfl w1.heap.size 56 i0 _ 2 24 und23 HI.out.1 HI.out.2.1 HI.out.2.2.1 HI.out.2.2.2 rfl (by decide) _ g.holds.length (pairCells g.holds) rfl O4.o3 ⟨_, 0, none⟩ 1 1 [.string p1, .int .i64 p2] rfl rfl (pair_laid _ p1 p2 56 _ (by simp)) (by intro u hu; simp at hu; rcases hu with rfl | rfl <;> rfl) (by have := HL.out; unfold maxLen; omega) (by have := HL.out; omega) O4.base ?_
         intro v3n w5 hown hg hz hat
         obtain ⟨an, kn, rfl⟩ := slice_of_owns hown
         have O5 := O4.push3 (p := (p1, p2)) hown hg
         have F5 := F4.kept hg (fun k hk => by have := (O4.o3.lt k hk).1; have := F1.walk.2.2.2.2.2.2; omega)
         have bk5 := grown_blk O4.o3 hg bk4 (by decide)
         have R := Lib.hid (FIN.out _ _ _ _ _ _ _ _ _ _ F5 O5 bk5 (by have := b2.size; have := F1.below.size; omega))
         clear c1 c2 c3 c4 c5 c6 c7
         have hne := F2.walk.2.2.2.2.2.2
         obtain ⟨c1, c2, c3, c4, c5, c6, c7⟩ := F5.walk
         obtain ⟨d1, d2, d3⟩ := box_walk bk5))
    refine bodyPost_ret (v := .agg #[.int .i64 g.owners, .int .i64 g.need, .slice a2 vs.length k2, .slice an (g.holds.length + 1) kn, .slice a4 g.demands.length k4, .slice a5 g.dones.length k5]) (by simp [results, Tryz.results26, go_sem, c3]) rfl R.out
theorem hold_26 (w : World) (v : Value) (g : LedD) (p : ByteArray × Int) (h : LedR w v g) (hf : Fits g) :
    Calls Tryz.prog 26 #[v, .agg #[.string p.1, .int .i64 p.2]] w (LedRet w (holdD g p)) := (hold_26A w v g p _ (Nat.le_refl _) h.at hf).mono fun _ _ h => h.old
def newB (o n : Int) : Bool := decide (1 ≤ n) && decide (n ≤ o) && decide (o ≤ 5)
def newD (o n : Int) : LedD := if newB o n then ⟨o, n, List.replicate o.toNat [], [], [], []⟩ else zeroLed
def newE (o n : Int) : Int := if newB o n then 0 else 1

theorem new_rows (w : World) (k : Nat) (n : Nat) (hn : n ≤ 5) (c : Array Value) (hc : c.toList = List.replicate n (.slice none 0 0)) (h : w.heap[k]? = some (.cells c 88 (0, 0))) : SharesR w (.slice (some ⟨k, 0, none⟩) n n) (List.replicate n []) := by
  have hl : (List.replicate n (Value.slice none 0 0)).length = n := by simp
  refine ⟨List.replicate n (.slice none 0 0), ?_, ?_⟩
  · rw [hl]
    refine ⟨by simp, _, n, rfl, Nat.le_refl _, by unfold maxLen; omega, fun _ => ⟨k, 0, rfl, lt_of_blk h, fun j hj => ?_⟩⟩
    rw [Nat.zero_add, (blk_cells h).1 j, ← hc]
    simp
  · refine rowsAre_of _ _ (by simp) fun i h1 h2 => ?_
    simp only [List.getElem_replicate]
    exact ⟨[], RowR.nil w 3, .nil⟩
theorem mk22_1 (w : World) : (Instr.makeSlice 22 (.int .i64 1) (.int .i64 1)).run Tryz.prog w = .ok (.slice (some ⟨w.heap.size, 0, none⟩) 1 1) (w.alloc (.cells #[.slice none 0 0] 88)) := by kernel_rfl
theorem mk22_2 (w : World) : (Instr.makeSlice 22 (.int .i64 2) (.int .i64 2)).run Tryz.prog w = .ok (.slice (some ⟨w.heap.size, 0, none⟩) 2 2) (w.alloc (.cells #[.slice none 0 0, .slice none 0 0] 88)) := by kernel_rfl
theorem mk22_3 (w : World) : (Instr.makeSlice 22 (.int .i64 3) (.int .i64 3)).run Tryz.prog w = .ok (.slice (some ⟨w.heap.size, 0, none⟩) 3 3) (w.alloc (.cells #[.slice none 0 0, .slice none 0 0, .slice none 0 0] 88)) := by kernel_rfl
theorem mk22_4 (w : World) : (Instr.makeSlice 22 (.int .i64 4) (.int .i64 4)).run Tryz.prog w = .ok (.slice (some ⟨w.heap.size, 0, none⟩) 4 4) (w.alloc (.cells #[.slice none 0 0, .slice none 0 0, .slice none 0 0, .slice none 0 0] 88)) := by kernel_rfl
theorem mk22_5 (w : World) : (Instr.makeSlice 22 (.int .i64 5) (.int .i64 5)).run Tryz.prog w = .ok (.slice (some ⟨w.heap.size, 0, none⟩) 5 5) (w.alloc (.cells #[.slice none 0 0, .slice none 0 0, .slice none 0 0, .slice none 0 0, .slice none 0 0] 88)) := by kernel_rfl

theorem newB_false {o n : Int} (h : ¬ (1 ≤ n ∧ n ≤ o ∧ o ≤ 5)) : newB o n = false := by
  cases hh : newB o n with
  | false => rfl
  | true => simp [newB] at hh; exact absurd ⟨hh.1.1, hh.1.2, hh.2⟩ h
theorem new_fin (w : World) (A : Nat) (hA : A ≤ w.heap.size) (o n : Int) (m : Nat) (ho : o.toNat = m) (hm : m ≤ 5) (c : Array Value) (hc : c.toList = List.replicate m (.slice none 0 0)) :
    LedErrA A w ⟨o, n, List.replicate o.toNat [], [], [], []⟩ 0 (.returned (.tuple #[.agg #[.int .i64 o, .int .i64 n, .slice (some ⟨w.heap.size + 1, 0, none⟩) m m, .slice none 0 0, .slice none 0 0, .slice none 0 0], .int .i64 0])) ((w.alloc (.cells #[.int .i64 o, .int .i64 n, .slice (some ⟨w.heap.size + 1, 0, none⟩) m m, .slice none 0 0, .slice none 0 0, .slice none 0 0] 26)).alloc (.cells c 88)) := by
  subst ho
  have hb : ∀ z, Below w.heap.size w ((w.alloc (.cells z 26)).alloc (.cells c 88)) := fun z => ((Below.refl _ _).alloc (Nat.le_refl _) _).alloc (by simp) _
  generalize hz : #[Value.int .i64 o, .int .i64 n, .slice (some ⟨w.heap.size + 1, 0, none⟩) o.toNat o.toNat, .slice none 0 0, .slice none 0 0, .slice none 0 0] = z
  have hk : ((w.alloc (.cells z 26)).alloc (.cells c 88)).heap[w.heap.size + 1]? = some (.cells c 88 (0, 0)) := by
    rw [show w.heap.size + 1 = (w.alloc (.cells z 26)).heap.size by simp]
    exact heap_alloc_new _ _
  have hcs : c.size = o.toNat := by have := congrArg List.length hc; simpa using this
  have hle : A ≤ ((w.alloc (.cells z 26)).alloc (.cells c 88)).heap.size := Nat.le_trans hA (hb z).size
  refine ⟨_, rfl, ⟨_, _, _, _, A, List.replicate o.toNat (.slice none 0 0), [], congrArg Value.agg hz.symm, ?_, owns_nil _ A 56 2, owns_nil _ A 46 2, owns_nil _ A 46 2, .inl rfl, by simp, fun i hi => ?_, hle, Nat.le_refl _, fun w' _ _ i hi => ?_, fun i j hi hj _ => .inl (by simp [Value.ownBlock])⟩, hb z⟩
  · refine ⟨by simp, .inr ⟨w.heap.size + 1, o.toNat, c, by simp, by omega, hk, by simp, by unfold maxLen; omega, by omega, ?_⟩⟩
    rw [hc]; simp
  · simp only [List.getElem_replicate]
    exact owns_nil _ A 90 3
  · simp only [List.getElem_replicate]
    exact .nil
set_option maxRecDepth 100000 in
set_option maxHeartbeats 2000000 in
theorem new_23A (w : World) (A : Nat) (hA : A ≤ w.heap.size) (o n : Int) : Calls Tryz.prog 23 #[.int .i64 o, .int .i64 n] w (LedErrA A w (newD o n) (newE o n)) := by
  by_cases hq : 1 ≤ n ∧ n ≤ o ∧ o ≤ 5
  · obtain ⟨h1, h2, h3⟩ := hq
    have hB : newB o n = true := by simp [newB, h1, h2, h3]
    unfold newD newE
    rw [hB]
    simp only [if_true]
    clear hB
    have ho : o = 1 ∨ o = 2 ∨ o = 3 ∨ o = 4 ∨ o = 5 := by omega
    rcases ho with rfl | rfl | rfl | rfl | rfl
    · have MK := mk22_1
      go_enter Tryz.func23, Tryz.ntmps23
      go_wp2
      exact bodyPost_ret (v := .tuple #[.agg #[.int .i64 1, .int .i64 n, .slice (some ⟨w.heap.size + 1, 0, none⟩) 1 1, .slice none 0 0, .slice none 0 0, .slice none 0 0], .int .i64 0]) (by simp [results, Tryz.results23, go_sem]) rfl (new_fin w A hA 1 n 1 rfl (by omega) #[.slice none 0 0] rfl)
    · have MK := mk22_2
      go_enter Tryz.func23, Tryz.ntmps23
      go_wp2
      exact bodyPost_ret (v := .tuple #[.agg #[.int .i64 2, .int .i64 n, .slice (some ⟨w.heap.size + 1, 0, none⟩) 2 2, .slice none 0 0, .slice none 0 0, .slice none 0 0], .int .i64 0]) (by simp [results, Tryz.results23, go_sem]) rfl (new_fin w A hA 2 n 2 rfl (by omega) #[.slice none 0 0, .slice none 0 0] rfl)
    · have MK := mk22_3
      go_enter Tryz.func23, Tryz.ntmps23
      go_wp2
      exact bodyPost_ret (v := .tuple #[.agg #[.int .i64 3, .int .i64 n, .slice (some ⟨w.heap.size + 1, 0, none⟩) 3 3, .slice none 0 0, .slice none 0 0, .slice none 0 0], .int .i64 0]) (by simp [results, Tryz.results23, go_sem]) rfl (new_fin w A hA 3 n 3 rfl (by omega) #[.slice none 0 0, .slice none 0 0, .slice none 0 0] rfl)
    · have MK := mk22_4
      go_enter Tryz.func23, Tryz.ntmps23
      go_wp2
      exact bodyPost_ret (v := .tuple #[.agg #[.int .i64 4, .int .i64 n, .slice (some ⟨w.heap.size + 1, 0, none⟩) 4 4, .slice none 0 0, .slice none 0 0, .slice none 0 0], .int .i64 0]) (by simp [results, Tryz.results23, go_sem]) rfl (new_fin w A hA 4 n 4 rfl (by omega) #[.slice none 0 0, .slice none 0 0, .slice none 0 0, .slice none 0 0] rfl)
    · have MK := mk22_5
      go_enter Tryz.func23, Tryz.ntmps23
      go_wp2
      exact bodyPost_ret (v := .tuple #[.agg #[.int .i64 5, .int .i64 n, .slice (some ⟨w.heap.size + 1, 0, none⟩) 5 5, .slice none 0 0, .slice none 0 0, .slice none 0 0], .int .i64 0]) (by simp [results, Tryz.results23, go_sem]) rfl (new_fin w A hA 5 n 5 rfl (by omega) #[.slice none 0 0, .slice none 0 0, .slice none 0 0, .slice none 0 0, .slice none 0 0] rfl)
  · have hB := newB_false hq
    unfold newD newE
    rw [hB]
    clear hB
    simp only [Bool.false_eq_true, if_false]
    by_cases h1 : 1 ≤ n
    · by_cases h2 : n ≤ o
      · have h3 : ¬ o ≤ 5 := fun h => hq ⟨h1, h2, h⟩
        clear hq
        go_enter Tryz.func23, Tryz.ntmps23
        go_wp2
        refine bodyPost_ret (v := .tuple #[.agg #[.int .i64 0, .int .i64 0, .slice none 0 0, .slice none 0 0, .slice none 0 0, .slice none 0 0], .int .i64 1]) (by simp [results, Tryz.results23, go_sem]) rfl (LedErrA.zero hA _ ((Below.refl _ _).alloc (Nat.le_refl _) _))
      · clear hq
        go_enter Tryz.func23, Tryz.ntmps23
        go_wp2
        refine bodyPost_ret (v := .tuple #[.agg #[.int .i64 0, .int .i64 0, .slice none 0 0, .slice none 0 0, .slice none 0 0, .slice none 0 0], .int .i64 1]) (by simp [results, Tryz.results23, go_sem]) rfl (LedErrA.zero hA _ ((Below.refl _ _).alloc (Nat.le_refl _) _))
    · clear hq
      go_enter Tryz.func23, Tryz.ntmps23
      go_wp2
      refine bodyPost_ret (v := .tuple #[.agg #[.int .i64 0, .int .i64 0, .slice none 0 0, .slice none 0 0, .slice none 0 0, .slice none 0 0], .int .i64 1]) (by simp [results, Tryz.results23, go_sem]) rfl (LedErrA.zero hA _ ((Below.refl _ _).alloc (Nat.le_refl _) _))
theorem new_23 (w : World) (o n : Int) : Calls Tryz.prog 23 #[.int .i64 o, .int .i64 n] w (LedErr w (newD o n) (newE o n)) := (new_23A w _ (Nat.le_refl _) o n).mono fun _ _ h => h.old
end Go.Proofs.YtpbgipdkaaooeaaGreatDoor
