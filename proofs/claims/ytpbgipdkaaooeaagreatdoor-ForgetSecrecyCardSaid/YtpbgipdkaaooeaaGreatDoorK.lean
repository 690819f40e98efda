/- slices.DeleteFunc over shares: the walk. -/
import Derived.Test.YtpbgipdkaaooeaaGreatDoorJ
open Go Go.Proofs Go.RowKit
namespace Go.Proofs.YtpbgipdkaaooeaaGreatDoor
set_option linter.unusedSimpArgs false
set_option linter.unusedVariables false
attribute [local go_sem ↓] Go.wp_at_zero Go.wp_at_succ

def DelRet (w : World) (B : Nat) (v : Value) (ps : List (ByteArray × Int × Value)) (t : ByteArray) (e : Ending) (w' : World) : Prop :=
  ∃ v', e = .returned v' ∧ w'.ownsRow B 90 3 v' (ps.filter (keepP t)).length (heldCells (ps.filter (keepP t))) ∧ w.grownBy w' v.ownBlock ∧ v'.ownBlock = v.ownBlock

theorem idx_ps {w : World} {ps : List (ByteArray × Int × Value)} {l : List HeldD} (ha : HeldsAre w ps l) (t : ByteArray) :
    (∃ (k : Nat) (hk : k < ps.length), idxD (fun h : HeldD => sEq h.subj t) l = k ∧ keepP t ps[k] = false ∧ ∀ (j : Nat) (h : j < ps.length), j < k → keepP t ps[j] = true) ∨ (idxD (fun h : HeldD => sEq h.subj t) l = -1 ∧ ps.filter (keepP t) = ps) := by
  have hl := ha.length
  rcases idxD_cases (fun h : HeldD => sEq h.subj t) l with ⟨k, hk, e1, e2⟩ | ⟨e1, e2⟩
  · refine .inl ⟨k, by omega, e1, ?_, ?_⟩
    · rw [List.find?_eq_some_iff_getElem] at e2
      have := (ha.at k (by omega) hk).1
      unfold keepP; rw [this, e2.1]; rfl
    · intro j hj hjk
      have h2 : l.findIdx (fun h : HeldD => sEq h.subj t) = k := by
        unfold idxD at e1
        split at e1
        · exact_mod_cast e1
        · omega
      have h3 := List.not_of_lt_findIdx (xs := l) (p := fun h : HeldD => sEq h.subj t) (i := j) (by omega)
      have := (ha.at j hj (by omega)).1
      unfold keepP; rw [this]
      simpa using h3
  · refine .inr ⟨e1, ?_⟩
    rw [List.filter_eq_self]
    intro x hx
    obtain ⟨j, hj, rfl⟩ := List.mem_iff_getElem.1 hx
    rw [List.find?_eq_none] at e2
    have := e2 l[j] (List.getElem_mem _)
    have h3 := (ha.at j hj (by omega)).1
    unfold keepP; rw [h3]
    simpa using this

theorem DelInv.fin {w wr w' : World} {B g cap : Nat} {ps qs : List (ByteArray × Int × Value)} {t : ByteArray} {i : Nat} (h : DelInv w B g cap ps t i ps.length qs wr)
    (ho : w'.ownsRow B 90 3 (.slice (some ⟨g, 0, none⟩) i cap) i ((heldCells qs).take (i * 3))) (hg : wr.grownBy w' (some g)) (m : Nat) :
    DelRet w B (.slice (some ⟨g, 0, none⟩) m cap) ps t (.returned (.slice (some ⟨g, 0, none⟩) i cap)) w' := by
  have hf := h.front
  rw [List.take_length] at hf
  have hi : (ps.filter (keepP t)).length = i := by rw [← hf, List.length_take, h.len]; have := h.lt; omega
  refine ⟨_, rfl, ?_, h.grown.trans hg, rfl⟩
  rw [heldCells_take, hf] at ho
  rw [hi]; exact ho

/-- What a round reads and may write. -/
theorem DelInv.room {w wr : World} {B g cap : Nat} {ps qs : List (ByteArray × Int × Value)} {t : ByteArray} {i j : Nat} (h : DelInv w B g cap ps t i j qs wr) : ∀ w', Below wr.heap.size wr w' →
    (∃ u, w'.cell? ⟨g, i * 3, none⟩ = some u) ∧ (∃ u, w'.cell? ⟨g, i * 3 + 1, none⟩ = some u) ∧ (∃ u, w'.cell? ⟨g, i * 3 + 2, none⟩ = some u) ∧ (∀ k, w'.frozen? ⟨g, k, none⟩ = false) := by
  intro w' hb
  have ho := owns_later h.own hb
  have hi : i < qs.length := by have := h.lt; have := h.le; have := h.len; omega
  have hat := heldCells_at qs i hi
  have hn := h.len
  refine ⟨⟨_, (ho.cellAt _ (by omega)).trans hat.1⟩, ⟨_, (ho.cellAt _ (by omega)).trans hat.2.1⟩, ⟨_, (ho.cellAt _ (by omega)).trans hat.2.2⟩, fun k => ho.frozenAt k⟩

set_option maxRecDepth 100000 in
set_option maxHeartbeats 1000000 in
theorem del_56 (w : World) (B : Nat) (v : Value) (ps : List (ByteArray × Int × Value)) (l : List HeldD) (t : ByteArray) (c : Nat) (ho : w.ownsRow B 90 3 v ps.length (heldCells ps)) (ha : HeldsAre w ps l)
    (ht : w.cell? ⟨c, 0, none⟩ = some (.string t)) (hc : c < w.heap.size) (hcg : v.ownBlock ≠ some c) (hl : ps.length ≤ 4095) :
    Calls Tryz.prog 56 #[v, .func (.func 85) #[] #[.pointer (some ⟨c, 0, none⟩)]] w (DelRet w B v ps t) := by
  have C := Lib.hid (idx_58 w v l t c ⟨ps, RowR.of_owns ho, ha⟩ ht hc (by rw [← ha.length]; omega))
  rcases idx_ps ha t with ⟨k, hk, e1, hkf, hno⟩ | ⟨e1, e2⟩
  · rw [e1] at C
    obtain ⟨ao, cap, rfl⟩ := slice_of_owns ho
    obtain ⟨g, rfl⟩ : ∃ g, ao = some ⟨g, 0, none⟩ := by
      rcases ho.2 with ⟨_, h0⟩ | ⟨g, cap', cur, hv, _⟩
      · omega
      · simp only [Value.slice.injEq] at hv; exact ⟨g, hv.1⟩
    have hcne : c ≠ g := by intro h; exact hcg (by simp [Value.ownBlock, h])
    have SH : Hid (∀ (j : Nat) (h : j < ps.length), ∃ a n k, ps[j].2.2 = .slice a n k) := fun j h => by
      obtain ⟨-, ao, cap, hv, -⟩ := (ha.at j h (by rw [← ha.length]; exact h)).2.2.2.1
      exact ⟨_, _, _, hv⟩
    have ST : Hid (∀ {w' : World} (_ : Below w.heap.size w w'), DelInv w B g cap ps t k (k + 1) ps w') := fun hb => DelInv.start ho hk hkf hno hb
    have hkn : k < ps.length := hk
    clear ho ha hkf hno e1 hcg
    obtain ⟨n, hN⟩ : ∃ n, n = ps.length := ⟨_, rfl⟩
    rw [← hN] at hk hl C ⊢
    have HN := Lib.hid hN; clear hN
    go_enter Tryz.func56, Tryz.ntmps56
    go_upto_region 2 with (go_at_call 58; refine C.out.mono ?_; rintro e w1 ⟨rfl, b1⟩; have I0 := Lib.hid (ST.out b1))
    clear C
    go_wp2
    go_loopw [5, 6] (fun i j wr => ∃ a b qs, i = .int .i64 (a : Nat) ∧ j = .int .i64 (b : Nat) ∧ b ≤ n ∧ a < b ∧ Hid (DelInv w B g cap ps t a b qs wr)) (fun _ j _ => n - (intOf j).toNat)
    case atStart => exact ⟨k, k + 1, ps, rfl, by go_num, by omega, by omega, I0⟩
    case round =>
      clear I0 ST
      obtain ⟨a, b, qs, rfl, rfl, hbn, hab, HI⟩ := hrel
      have ht' : wr.cell? ⟨c, 0, none⟩ = some (.string t) := HI.out.grown.cell ht (by simp; exact hcne)
      have hc' : c < wr.heap.size := Nat.lt_of_lt_of_le hc HI.out.grown.size
      clear ht
      by_cases hlt : b < n
      · have hbp : b < ps.length := by rw [← HN.out]; exact hlt
        obtain ⟨h1, h2, h3⟩ := HI.out.cells hbp
        obtain ⟨ay, ny, ky, hy⟩ := SH.out b hbp
        have KEEP : Hid (keepP t ps[b] = true → ∀ w', Below wr.heap.size wr w' → ∃ qs', DelInv w B g cap ps t (a + 1) (b + 1) qs' (((w'.setCell ⟨g, a * 3, none⟩ (.string ps[b].1)).setCell ⟨g, a * 3 + 1, none⟩ (.int .u8 ps[b].2.1)).setCell ⟨g, a * 3 + 2, none⟩ ps[b].2.2)) := fun hk w' hb => ⟨_, HI.out.keep hbp hk hb⟩
        have DROP : Hid (keepP t ps[b] = false → ∀ w', Below wr.heap.size wr w' → DelInv w B g cap ps t a (b + 1) qs w') := fun hk w' hb => HI.out.drop hbp hk hb
        have ROOM := Lib.hid HI.out.room
        have KP : Hid (keepP t ps[b] = !sEq ps[b].1 t) := Lib.hid rfl
        rw [hy] at h3 KEEP
        generalize keepP t ps[b] = kq at *
        generalize ps[b].1 = s at *
        generalize ps[b].2.1 = x at *
        clear hy
        have hgr : g < wr.heap.size := by
          rcases HI.out.own.2 with ⟨h0, _⟩ | ⟨g', cap', cur, hv, _, hh, _⟩
          · simp at h0
          · simp only [Value.slice.injEq, Option.some.injEq, Addr.mk.injEq, and_true, true_and] at hv
            obtain ⟨rfl, rfl⟩ := hv
            exact lt_of_blk hh
        have W1 : ∀ w', Below (wr.alloc (.cells #[.string s, .int .u8 x, .slice ay ny ky] 90)).heap.size (wr.alloc (.cells #[.string s, .int .u8 x, .slice ay ny ky] 90)) w' → Below wr.heap.size wr w' ∧ w'.heap[wr.heap.size]? = some (.cells #[.string s, .int .u8 x, .slice ay ny ky] 90 (0, 0)) := fun w' hb =>
          ⟨((Below.refl _ _).alloc (Nat.le_refl _) _).trans (hb.mono (by simp)), blk_later (heap_alloc_new _ _) hb⟩
        have W1 := Lib.hid W1
        have c85 := of1_85 s c t (wr.alloc (.cells #[.string s, .int .u8 x, .slice ay ny ky] 90)) (Go.Lib.cell?_alloc_some _ ht') (by simp; omega) (.int .u8 x) (.slice ay ny ky)
        rcases hq : sEq s t with _ | _
        all_goals
          rw [hq] at c85 KP
          have C85 := Lib.hid c85; clear c85 hq
        · go_wp2_with (go_at_call 85; refine C85.out.mono ?_; rintro e w' ⟨rfl, hB'⟩; obtain ⟨b2, k2⟩ := W1.out w' hB'; obtain ⟨⟨u0, r0⟩, ⟨u1, r1⟩, ⟨u2, r2⟩, r3⟩ := ROOM.out w' b2; obtain ⟨d1, d2, d3⟩ := box_walk k2; clear h1 h2 h3)
          obtain ⟨qs', I1⟩ := KEEP.out (by rw [KP.out]; rfl) w' b2
          go_roundw
          case rel => exact ⟨_, _, _, _, _, _, _, _, _, _, _, _, _, _, _, _, _, _, _, _, _, _, _, ⟨a + 1, b + 1, qs', by go_num, by go_num, by omega, by omega, I1⟩, rfl⟩
          case measure => simp [intOf]; omega
        · go_wp2_with (go_at_call 85; refine C85.out.mono ?_; rintro e w' ⟨rfl, hB'⟩; obtain ⟨b2, k2⟩ := W1.out w' hB')
          go_roundw
          case rel => exact ⟨_, _, _, _, _, _, _, _, _, _, _, _, _, _, _, _, _, _, _, _, _, _, _, ⟨a, b + 1, qs, rfl, by go_num, by omega, by omega, DROP.out (by rw [KP.out]; rfl) w' b2⟩, rfl⟩
          case measure => simp [intOf]; omega
      · obtain rfl : b = n := by omega
        have FIN : Hid (∀ w', w'.ownsRow B 90 3 (.slice (some ⟨g, 0, none⟩) a cap) a ((heldCells qs).take (a * 3)) → wr.grownBy w' (some g) → DelRet w B (.slice (some ⟨g, 0, none⟩) b cap) ps t (.returned (.slice (some ⟨g, 0, none⟩) a cap)) w') := fun w' h1 h2 => by
          have := HN.out
          subst this
          exact HI.out.fin h1 h2 _
        have OW : Hid (wr.ownsRow B 90 3 (.slice (some ⟨g, 0, none⟩) b cap) b (heldCells qs)) := by
          have := HN.out
          subst this
          exact HI.out.own
        have hcap : b ≤ cap := by
          rcases OW.out.2 with ⟨h0, _⟩ | ⟨g', cap', cur, hv, _, hh, hnc, _⟩
          · simp at h0
          · simp only [Value.slice.injEq, Option.some.injEq, Addr.mk.injEq, and_true, true_and] at hv
            omega
        obtain ⟨w2, hr, o2, g2⟩ := run_clear_row (P := Tryz.prog) wr 88 90 0 _ und88 zero90 rfl (by intro u hu; simp [Value.cells] at hu; rcases hu with rfl | rfl | rfl <;> rfl) B b cap (heldCells qs) g OW.out a hab (cap - a)
        have R := Lib.hid (FIN.out w2 o2 g2)
        clear FIN OW o2 g2 HI SH
        go_wp2
        go_ret
        exact R.out
  · rw [e1] at C
    obtain ⟨ao, cap, rfl⟩ := slice_of_owns ho
    have R : Hid (∀ w', Below w.heap.size w w' → DelRet w B (.slice ao ps.length cap) ps t (.returned (.slice ao ps.length cap)) w') := fun w' hb => ⟨_, rfl, by rw [e2]; exact owns_later ho hb, ⟨hb.os, hb.tape, hb.output, hb.size, fun k hk _ => hb.block k hk⟩, rfl⟩
    clear ho ha ht hcg e1 e2
    generalize ps.length = n at *
    go_enter Tryz.func56, Tryz.ntmps56
    go_wp2_with (go_at_call 58; refine C.out.mono ?_; rintro e w1 ⟨rfl, b1⟩)
    go_ret
    exact R.out _ b1
end Go.Proofs.YtpbgipdkaaooeaaGreatDoor
