/- Readings: what the arguments of a law on histories read as. -/
import Derived.Test.YtpbgipdkaaooeaaGreatDoorZX
import Derived.ProofKit
import Derived.Deep.Slices
open Go Go.Proofs Go.RowKit Go.ChangeShapes Go.Deep
namespace Go.Proofs.YtpbgipdkaaooeaaGreatDoor
set_option linter.unusedSimpArgs false
set_option linter.unusedVariables false

section
variable {H : Type} {enc : TypeId × Value → H} {w : World} {spare : Nat → Bool} {held : Bool}

theorem und27 : Tryz.prog.underlying 27 = some (.int .i8) := by kernel_rfl
theorem cells27 : Tryz.prog.cellsOf 27 = 1 := by kernel_rfl
theorem cells28 : Tryz.prog.cellsOf 28 = 1 := by kernel_rfl
theorem cells30 : Tryz.prog.cellsOf 30 = 5 := by kernel_rfl
theorem cells58 : Tryz.prog.cellsOf 58 = 2 := by kernel_rfl
theorem cells5' : Tryz.prog.cellsOf 5 = 1 := by kernel_rfl
theorem wf_u8 {n : Int} (h : (Lit.int .u8 n).wf = true) : 0 ≤ n ∧ n ≤ 255 := by
  simp only [Lit.wf, Bool.and_eq_true, decide_eq_true_eq] at h
  exact ⟨h.1, h.2⟩
theorem wf_i8 {n : Int} (h : (Lit.int .i8 n).wf = true) : -128 ≤ n ∧ n ≤ 127 := by
  simp only [Lit.wf, Bool.and_eq_true, decide_eq_true_eq] at h
  exact ⟨h.1, h.2⟩
theorem rd_u8 {n : Nat} {v : Value} {x : DataW H × List MemPlace} (h : DataW.trod enc Tryz.prog w 0 spare held n 5 [v] = some x) : ∃ k : Nat, v = .int .u8 (k : Int) ∧ k < 256 := by
  obtain ⟨m, hv, -, hw⟩ := DataW.trod_int und5 h
  obtain ⟨h1, h2⟩ := wf_u8 hw
  simp only [List.cons.injEq, and_true] at hv
  exact ⟨m.toNat, by rw [hv]; congr 1; omega, by omega⟩
theorem rd_i8 {n : Nat} {v : Value} {x : DataW H × List MemPlace} (h : DataW.trod enc Tryz.prog w 0 spare held n 27 [v] = some x) : ∃ k : Int, v = .int .i8 k ∧ -128 ≤ k ∧ k ≤ 127 := by
  obtain ⟨m, hv, -, hw⟩ := DataW.trod_int und27 h
  simp only [List.cons.injEq, and_true] at hv
  exact ⟨m, hv, wf_i8 hw⟩
theorem plain_addr {w : World} {a : Addr} {u : Value} (h : w.cell? a = some u) : a = ⟨a.block, a.off, none⟩ := by
  obtain ⟨b, o, s⟩ := a
  cases s with
  | none => rfl
  | some s =>
    simp only [World.cell?] at h
    split at h <;> simp at h
theorem addr_add_zero (a : Addr) : a.add 0 = a := by simp [Addr.add]
theorem add_plain' (b o j : Nat) : (⟨b, o, none⟩ : Addr).add j = ⟨b, o + j, none⟩ := by unfold Addr.add; split <;> simp_all
theorem rd_bytes {n : Nat} {v : Value} {x : DataW H × List MemPlace} (h : DataW.trod enc Tryz.prog w 0 spare held n 28 [v] = some x) : ∃ l, BytesR w v l := by
  rcases open_ints und28 und5 cells5' h with ⟨hv, -⟩ | ⟨a, len, cap, zs, hv, -, hle, hm, hzl, -, hc, hw⟩
  · simp only [List.cons.injEq, and_true] at hv
    subst hv
    exact ⟨[], RowR.nil w 1, by simp⟩
  · simp only [List.cons.injEq, and_true] at hv
    subst hv
    have hzl2 : len ≤ zs.length := by rw [hzl]; split <;> omega
    have hl : (zs.take len).length = len := by rw [List.length_take]; omega
    refine ⟨zs.take len, ⟨by simp, some a, cap, by rw [hl], by omega, hm, fun h0 => ?_⟩, fun y hy => wf_u8 (hw y (List.mem_of_mem_take hy))⟩
    have hp := plain_addr (hc 0 (by omega))
    rw [addr_add_zero] at hp
    rw [hp] at hc ⊢
    refine ⟨a.block, a.off, rfl, ?_, fun j hj => ?_⟩
    · have := World.block_lt_of_cell? w _ (hc 0 (by omega))
      simpa [Addr.add] using this
    · rw [Nat.mul_one, hl] at hj
      have := hc j (by omega)
      rw [add_plain'] at this
      rw [this, List.getElem?_map, List.getElem?_take_of_lt hj, List.getElem?_eq_getElem (by omega), List.getD_eq_getElem?_getD, List.getElem?_eq_getElem (by omega)]
      rfl
set_option maxRecDepth 100000 in
/-- A step's five cells. -/
theorem rd_act {n : Nat} {cs : List Value} {x : DataW H × List MemPlace} (h : DataW.trod enc Tryz.prog w 0 spare held n 30 cs = some x) : ∃ (y : ActD) (vs : Value), cs = actCells (y, vs) ∧ ActOk y ∧ BytesR w vs y.seed := by
  obtain ⟨xs, m, -, -, hl, hx, hf⟩ := DataW.trod_struct Tryz.underlying30 h
  rw [cells30] at hl
  match cs, hl with
  | [v0, v1, v2, v3, v4], _ =>
    have h0 : DataW.trod enc Tryz.prog w 0 spare held m 5 (List.take (Tryz.prog.cellsOf 5) (List.drop 0 [v0, v1, v2, v3, v4])) = xs[0]? := hf 0 ⟨ "Kind", 5, 0, false, "", "", 0⟩ rfl
    have h1 : DataW.trod enc Tryz.prog w 0 spare held m 5 (List.take (Tryz.prog.cellsOf 5) (List.drop 1 [v0, v1, v2, v3, v4])) = xs[1]? := hf 1 ⟨ "Who", 5, 1, false, "", "", 1⟩ rfl
    have h2 : DataW.trod enc Tryz.prog w 0 spare held m 27 (List.take (Tryz.prog.cellsOf 27) (List.drop 2 [v0, v1, v2, v3, v4])) = xs[2]? := hf 2 ⟨ "Owner", 27, 2, false, "", "", 2⟩ rfl
    have h3 : DataW.trod enc Tryz.prog w 0 spare held m 27 (List.take (Tryz.prog.cellsOf 27) (List.drop 3 [v0, v1, v2, v3, v4])) = xs[3]? := hf 3 ⟨ "At", 27, 3, false, "", "", 3⟩ rfl
    have h4 : DataW.trod enc Tryz.prog w 0 spare held m 28 (List.take (Tryz.prog.cellsOf 28) (List.drop 4 [v0, v1, v2, v3, v4])) = xs[4]? := hf 4 ⟨ "Seed", 28, 4, false, "", "", 8⟩ rfl
    rw [cells5', List.drop_zero, List.take_succ_cons, List.take_zero] at h0
    rw [cells5', List.drop_succ_cons, List.drop_zero, List.take_succ_cons, List.take_zero] at h1
    rw [cells27, List.drop_succ_cons, List.drop_succ_cons, List.drop_zero, List.take_succ_cons, List.take_zero] at h2
    rw [cells27, List.drop_succ_cons, List.drop_succ_cons, List.drop_succ_cons, List.drop_zero, List.take_succ_cons, List.take_zero] at h3
    rw [cells28, List.drop_succ_cons, List.drop_succ_cons, List.drop_succ_cons, List.drop_succ_cons, List.drop_zero, List.take_succ_cons, List.take_zero] at h4
    have hs : xs.length = 5 := hx
    rw [List.getElem?_eq_getElem (by omega)] at h0 h1 h2 h3 h4
    obtain ⟨k, rfl, hk⟩ := rd_u8 h0
    obtain ⟨ww, rfl, hw⟩ := rd_u8 h1
    obtain ⟨ow, rfl, ho⟩ := rd_i8 h2
    obtain ⟨tm, rfl, ht⟩ := rd_i8 h3
    obtain ⟨seed, hb⟩ := rd_bytes h4
    exact ⟨⟨k, ww, ow, tm, seed⟩, v4, rfl, ⟨hk, hw, ho, ht⟩, hb⟩
theorem actsAre_mk {w : World} {l : List (ActD × Value)} (h : ∀ p ∈ l, ActOk p.1 ∧ BytesR w p.2 p.1.seed) : ActsAre w l (l.map (·.1)) := by
  induction l with
  | nil => exact .nil
  | cons a l ih => exact .cons rfl (h a (by simp)).1 (h a (by simp)).2 (ih fun p hp => h p (by simp [hp]))
theorem actsCells_length (l : List (ActD × Value)) : (actsCells l).length = l.length * 5 := by
  induction l with
  | nil => rfl
  | cons a l ih => rw [actsCells_cons]; simp only [List.length_cons, ih]; omega
theorem actsCells_get (l : List (ActD × Value)) (i j : Nat) (hi : i < l.length) (hj : j < 5) : (actsCells l)[i * 5 + j]? = (actCells l[i])[j]? := by
  obtain ⟨h0, h1, h2, h3, h4⟩ := actsCells_at l i hi
  match j, hj with
  | 0, _ => exact h0
  | 1, _ => exact h1
  | 2, _ => exact h2
  | 3, _ => exact h3
  | 4, _ => exact h4
theorem rd_acts {n : Nat} {v : Value} {x : DataW H × List MemPlace} (h : DataW.trod enc Tryz.prog w 0 spare held n 59 [v] = some x) : ∃ l, ActsR w v l := by
  rcases open_slice Tryz.underlying59 h with ⟨hv, -⟩ | ⟨a, len, cap, m, k, D, Pl, hv, -, hle, hm, hmm, -, hx⟩
  · simp only [List.cons.injEq, and_true] at hv
    subst hv
    exact ⟨[], [], RowR.nil w 5, .nil⟩
  · simp only [List.cons.injEq, and_true] at hv
    subst hv
    have hlm : len ≤ m := by rw [hmm]; split <;> omega
    obtain ⟨q, hq⟩ := choose_lt (α := ActD × Value) (p := fun i q => w.cells? 0 (a.add (i * 5)) 5 = some (actCells q) ∧ ActOk q.1 ∧ BytesR w q.2 q.1.seed) (n := len) (fun i hi => by
      obtain ⟨cs', h1, h2⟩ := hx i (by omega)
      obtain ⟨y, vs, rfl, h3, h4⟩ := rd_act h2
      rw [cells30] at h1
      exact ⟨(y, vs), h1, h3, h4⟩)
    have hl : ((List.range len).map q).length = len := by simp
    refine ⟨((List.range len).map q).map (·.1), (List.range len).map q, ⟨by rw [actsCells_length], some a, cap, by rw [hl], by omega, hm, fun h0 => ?_⟩, actsAre_mk fun p hp => ?_⟩
    · rw [hl] at h0
      have c0 := (World.cells?_some (hq 0 h0).1).2.2 0 (by omega)
      rw [Nat.zero_mul, addr_add_zero, addr_add_zero] at c0
      have hp := plain_addr (u := .int .u8 (q 0).1.kind) (by rw [c0]; rfl)
      have hq2 : ∀ i, i < len → ∀ j, j < 5 → w.cell? ⟨a.block, a.off + (i * 5 + j), none⟩ = (actCells (q i))[j]? := fun i hi j hj => by
        have := (World.cells?_some (hq i hi).1).2.2 j (by omega)
        rw [hp, add_plain', add_plain', Nat.add_assoc] at this
        exact this
      rw [hp]
      refine ⟨a.block, a.off, rfl, ?_, fun j hj => ?_⟩
      · have := hq2 0 h0 0 (by omega)
        exact World.block_lt_of_cell? w ⟨a.block, a.off + (0 * 5 + 0), none⟩ this
      · rw [hl] at hj
        have hd : j = j / 5 * 5 + j % 5 := by omega
        have := hq2 (j / 5) (by omega) (j % 5) (by omega)
        rw [← hd] at this
        rw [this]
        have h3 := actsCells_get ((List.range len).map q) (j / 5) (j % 5) (by rw [hl]; omega) (by omega)
        rw [← hd] at h3
        rw [h3]
        simp
    · simp only [List.mem_map, List.mem_range] at hp
      obtain ⟨i, hi, rfl⟩ := hp
      exact (hq i hi).2
theorem rd_act_val {n : Nat} {v : Value} {x : DataW H × List MemPlace} {cs : Array Value} (hv : v = .agg cs) (h : DataW.trod enc Tryz.prog w 0 spare held n 30 cs.toList = some x) : ∃ y, ActR w v y := by
  obtain ⟨y, vs, hc, h1, h2⟩ := rd_act h
  refine ⟨y, h1, vs, ?_, h2⟩
  rw [hv]
  congr 1
  apply Array.ext'
  rw [hc]; rfl
end
end Go.Proofs.YtpbgipdkaaooeaaGreatDoor
