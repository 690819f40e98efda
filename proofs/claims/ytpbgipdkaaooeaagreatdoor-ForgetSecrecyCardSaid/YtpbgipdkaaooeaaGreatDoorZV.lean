/- law35.long, start, do. -/
import Derived.Test.YtpbgipdkaaooeaaGreatDoorZT
import Derived.Test.YtpbgipdkaaooeaaGreatDoorZU
import Derived.Deep.RegionHeld3
open Go Go.Proofs Go.RowKit
namespace Go.Proofs.YtpbgipdkaaooeaaGreatDoor
set_option linter.unusedSimpArgs false
set_option linter.unusedVariables false
attribute [local go_sem ↓] Go.wp_at_zero Go.wp_at_succ

/-- A step. -/
structure ActD where
  kind : Nat
  who : Nat
  owner : Int
  at' : Int
  seed : List Int
instance : Inhabited ActD := ⟨⟨0, 0, 0, 0, []⟩⟩
/-- A step's numbers are in their ranges. -/
structure ActOk (x : ActD) : Prop where
  kind : x.kind < 256
  who : x.who < 256
  owner : -128 ≤ x.owner ∧ x.owner ≤ 127
  at' : -128 ≤ x.at' ∧ x.at' ≤ 127
def actCells (p : ActD × Value) : List Value := [.int .u8 p.1.kind, .int .u8 p.1.who, .int .i8 p.1.owner, .int .i8 p.1.at', p.2]
def actsCells (l : List (ActD × Value)) : List Value := l.flatMap actCells
theorem actsCells_cons (a : ActD × Value) (l : List (ActD × Value)) : actsCells (a :: l) = .int .u8 a.1.kind :: .int .u8 a.1.who :: .int .i8 a.1.owner :: .int .i8 a.1.at' :: a.2 :: actsCells l := by simp [actsCells, actCells]
theorem actsCells_at (l : List (ActD × Value)) : ∀ (k : Nat) (h : k < l.length), (actsCells l)[k * 5]? = some (.int .u8 (l[k]).1.kind) ∧ (actsCells l)[k * 5 + 1]? = some (.int .u8 (l[k]).1.who) ∧ (actsCells l)[k * 5 + 2]? = some (.int .i8 (l[k]).1.owner) ∧ (actsCells l)[k * 5 + 3]? = some (.int .i8 (l[k]).1.at') ∧ (actsCells l)[k * 5 + 4]? = some (l[k]).2 := by
  induction l with
  | nil => intro k h; simp at h
  | cons a l ih =>
    intro k h
    cases k with
    | zero => simp [actsCells_cons]
    | succ k =>
      have := ih k (by simpa using h)
      rw [actsCells_cons, show (k + 1) * 5 = k * 5 + 1 + 1 + 1 + 1 + 1 by omega]
      simpa using this
inductive ActsAre (w : World) : List (ActD × Value) → List ActD → Prop
  | nil : ActsAre w [] []
  | cons {p x ps l} : p.1 = x → ActOk x → BytesR w p.2 x.seed → ActsAre w ps l → ActsAre w (p :: ps) (x :: l)
theorem ActsAre.length {w : World} {ps : List (ActD × Value)} {l : List ActD} (h : ActsAre w ps l) : ps.length = l.length := by
  induction h with
  | nil => rfl
  | cons _ _ _ _ ih => simp [ih]
theorem ActsAre.at {w : World} {ps : List (ActD × Value)} {l : List ActD} (h : ActsAre w ps l) : ∀ (i : Nat) (h1 : i < ps.length) (h2 : i < l.length), ps[i].1 = l[i] ∧ ActOk l[i] ∧ BytesR w ps[i].2 l[i].seed := by
  induction h with
  | nil => intro i h1; simp at h1
  | cons h1 h2 h3 _ ih =>
    intro i hi hj
    cases i with
    | zero => exact ⟨h1, h2, h3⟩
    | succ i => exact ih i (by simpa using hi) (by simpa using hj)
/-- A slice of steps. -/
def ActsR (w : World) (v : Value) (l : List ActD) : Prop := ∃ ps, RowR w v 5 (actsCells ps) ps.length ∧ ActsAre w ps l
/-- A step by value. -/
def ActR (w : World) (v : Value) (x : ActD) : Prop := ActOk x ∧ ∃ vs, v = .agg #[.int .u8 x.kind, .int .u8 x.who, .int .i8 x.owner, .int .i8 x.at', vs] ∧ BytesR w vs x.seed
theorem ActR.later {w w' : World} {v : Value} {x : ActD} (h : ActR w v x) (hb : Below w.heap.size w w') : ActR w' v x :=
  let ⟨h0, vs, h1, h2⟩ := h; ⟨h0, vs, h1, h2.later hb⟩
/-- What a row of steps holds at each place. -/
theorem acts_at {w : World} {v : Value} {l : List ActD} (h : ActsR w v l) : ∃ ao n cap, v = .slice ao n cap ∧ n = l.length ∧ n ≤ cap ∧ ∀ j (hj : j < l.length), ∃ b off av kv, ao = some ⟨b, off, none⟩ ∧ b < w.heap.size ∧ ActOk l[j] ∧ BytesR w (.slice av l[j].seed.length kv) l[j].seed ∧
    ∀ wx, Below w.heap.size w wx → wx.cell? ⟨b, off + j * 5, none⟩ = some (.int .u8 l[j].kind) ∧ wx.cell? ⟨b, off + j * 5 + 1, none⟩ = some (.int .u8 l[j].who) ∧ wx.cell? ⟨b, off + j * 5 + 2, none⟩ = some (.int .i8 l[j].owner) ∧ wx.cell? ⟨b, off + j * 5 + 3, none⟩ = some (.int .i8 l[j].at') ∧ wx.cell? ⟨b, off + j * 5 + 4, none⟩ = some (.slice av l[j].seed.length kv) := by
  obtain ⟨ps, ⟨hlen, ao, cap, rfl, hle, hm, hcell⟩, hare⟩ := h
  have hl := hare.length
  refine ⟨ao, _, cap, rfl, hl, hle, fun j hj => ?_⟩
  have hjp : j < ps.length := by omega
  obtain ⟨b, off, rfl, hbb, hcells⟩ := hcell (by omega)
  have hat := actsCells_at ps j hjp
  obtain ⟨e1, e2, e3⟩ := hare.at j hjp hj
  obtain ⟨-, av, kv, hv, -⟩ := id e3.1
  rw [hv] at e3
  refine ⟨b, off, av, kv, rfl, hbb, e2, e3, fun wx hbe => ?_⟩
  have c0 := hcells (j * 5) (by omega)
  have c1 := hcells (j * 5 + 1) (by omega)
  have c2 := hcells (j * 5 + 2) (by omega)
  have c3 := hcells (j * 5 + 3) (by omega)
  have c4 := hcells (j * 5 + 4) (by omega)
  rw [hat.1, e1] at c0
  rw [hat.2.1, e1, ← Nat.add_assoc] at c1
  rw [hat.2.2.1, e1, ← Nat.add_assoc] at c2
  rw [hat.2.2.2.1, e1, ← Nat.add_assoc] at c3
  rw [hat.2.2.2.2, hv, ← Nat.add_assoc] at c4
  exact ⟨by rw [hbe.cell (p := ⟨b, off + j * 5, none⟩) hbb]; exact c0, by rw [hbe.cell (p := ⟨b, off + j * 5 + 1, none⟩) hbb]; exact c1, by rw [hbe.cell (p := ⟨b, off + j * 5 + 2, none⟩) hbb]; exact c2, by rw [hbe.cell (p := ⟨b, off + j * 5 + 3, none⟩) hbb]; exact c3, by rw [hbe.cell (p := ⟨b, off + j * 5 + 4, none⟩) hbb]; exact c4⟩

theorem LedO.six {A : Nat} {w : World} {v : Value} {g : LedD} (h : LedO A w v g) {k : Nat} {c : Array Value} (hk : w.heap[k]? = some (.cells c 26 (0, 0))) (hB : A ≤ k) (u0 u1 u2 u3 u4 u5 : Value) :
    LedO A ((((((w.setCell ⟨k, 0, none⟩ u0).setCell ⟨k, 1, none⟩ u1).setCell ⟨k, 2, none⟩ u2).setCell ⟨k, 3, none⟩ u3).setCell ⟨k, 4, none⟩ u4).setCell ⟨k, 5, none⟩ u5) v g := by
  obtain ⟨v2, v3, v4, v5, B, vs, pss, rfl, h⟩ := h
  exact (h.box6 hk hB u0 u1 u2 u3 u4 u5).o
theorem blk_six_same {w : World} {k : Nat} {c : Array Value} (h : w.heap[k]? = some (.cells c 26 (0, 0))) (u0 u1 u2 u3 u4 u5 : Value) :
    ∃ c', ((((((w.setCell ⟨k, 0, none⟩ u0).setCell ⟨k, 1, none⟩ u1).setCell ⟨k, 2, none⟩ u2).setCell ⟨k, 3, none⟩ u3).setCell ⟨k, 4, none⟩ u4).setCell ⟨k, 5, none⟩ u5).heap[k]? = some (.cells c' 26 (0, 0)) :=
  ⟨_, blk_set (blk_set (blk_set (blk_set (blk_set (blk_set h _ _) _ _) _ _) _ _) _ _) _ _⟩
def LedPA (A : Nat) (w : World) (g : LedD) (n : Int) (e : Ending) (w' : World) : Prop := ∃ o nd p2 l2 q2 p3 l3 q3 p4 l4 q4 p5 l5 q5, e = .returned (.tuple #[.agg #[.int .i64 o, .int .i64 nd, .slice p2 l2 q2, .slice p3 l3 q3, .slice p4 l4 q4, .slice p5 l5 q5], .int .i64 n]) ∧ Hid (LedO A w' (.agg #[.int .i64 o, .int .i64 nd, .slice p2 l2 q2, .slice p3 l3 q3, .slice p4 l4 q4, .slice p5 l5 q5]) g) ∧ Hid (Below w.heap.size w w')
theorem LedO.slices {A : Nat} {w : World} {v : Value} {g : LedD} (h : LedO A w v g) : ∃ o nd p2 l2 q2 p3 l3 q3 p4 l4 q4 p5 l5 q5, v = .agg #[.int .i64 o, .int .i64 nd, .slice p2 l2 q2, .slice p3 l3 q3, .slice p4 l4 q4, .slice p5 l5 q5] := by
  obtain ⟨v2, v3, v4, v5, B, vs, pss, rfl, h⟩ := h
  obtain ⟨a2, k2, rfl⟩ := slice_of_owns h.o2
  obtain ⟨a3, k3, rfl⟩ := slice_of_owns h.o3
  obtain ⟨a4, k4, rfl⟩ := slice_of_owns h.o4
  obtain ⟨a5, k5, rfl⟩ := slice_of_owns h.o5
  exact ⟨_, _, _, _, _, _, _, _, _, _, _, _, _, _, rfl⟩
theorem led_partsA {f : FuncId} {args : Array Value} {A : Nat} {w : World} {g : LedD} {n : Int} (h : Calls Tryz.prog f args w (LedErrA A w g n)) : Calls Tryz.prog f args w (LedPA A w g n) := h.mono fun e w' h => by
  obtain ⟨v', rfl, hl, hb⟩ := h
  obtain ⟨o, nd, p2, l2, q2, p3, l3, q3, p4, l4, q4, p5, l5, q5, rfl⟩ := hl.slices
  exact ⟨_, _, _, _, _, _, _, _, _, _, _, _, _, _, rfl, hl, hb⟩
def LedQA (A : Nat) (w : World) (g : LedD) (e : Ending) (w' : World) : Prop := ∃ o nd p2 l2 q2 p3 l3 q3 p4 l4 q4 p5 l5 q5, e = .returned (.agg #[.int .i64 o, .int .i64 nd, .slice p2 l2 q2, .slice p3 l3 q3, .slice p4 l4 q4, .slice p5 l5 q5]) ∧ Hid (LedO A w' (.agg #[.int .i64 o, .int .i64 nd, .slice p2 l2 q2, .slice p3 l3 q3, .slice p4 l4 q4, .slice p5 l5 q5]) g) ∧ Hid (Below w.heap.size w w')
theorem led_partsA1 {f : FuncId} {args : Array Value} {A : Nat} {w : World} {g : LedD} (h : Calls Tryz.prog f args w (LedRetA A w g)) : Calls Tryz.prog f args w (LedQA A w g) := h.mono fun e w' h => by
  obtain ⟨v', rfl, hl, hb⟩ := h
  obtain ⟨o, nd, p2, l2, q2, p3, l3, q3, p4, l4, q4, p5, l5, q5, rfl⟩ := hl.slices
  exact ⟨_, _, _, _, _, _, _, _, _, _, _, _, _, _, rfl, hl, hb⟩


theorem key32D_bytes {l : List Int} (h : ∀ x ∈ l, 0 ≤ x ∧ x ≤ 255) : ∀ x ∈ key32D l, 0 ≤ x ∧ x ≤ 255 := fun x hx => by
  unfold key32D at hx
  rw [List.mem_append] at hx
  rcases hx with hx | hx
  · exact h x (List.mem_of_mem_take hx)
  · have := List.eq_of_mem_replicate hx; omega
/-! ### start -/
def startD (a b : Nat) : LedD := newD (((1 + a % 5 : Nat) : Int)) (((1 + b % (1 + a % 5) : Nat) : Int))
theorem start_fin {w w2 : World} {c1 c2 : Array Value} {t1 : TypeId} {o nd : Int} {a b c d : Value} {g : LedD} (hF : TwoBox w c1 c2 t1 26 w2) (HL : LedO 0 w2 (.agg #[.int .i64 o, .int .i64 nd, a, b, c, d]) g) (v : Value) (hv : v = .agg #[.int .i64 o, .int .i64 nd, a, b, c, d]) (u0 u1 u2 u3 u4 u5 : Value) :
    LedRetA 0 w g (.returned v) ((((((w2.setCell ⟨w.heap.size + 1, 0, none⟩ u0).setCell ⟨w.heap.size + 1, 1, none⟩ u1).setCell ⟨w.heap.size + 1, 2, none⟩ u2).setCell ⟨w.heap.size + 1, 3, none⟩ u3).setCell ⟨w.heap.size + 1, 4, none⟩ u4).setCell ⟨w.heap.size + 1, 5, none⟩ u5) := by
  subst hv
  exact ⟨_, rfl, HL.six hF.two (Nat.zero_le _) _ _ _ _ _ _, below_six hF.below (by omega) _ _ _ _ _ _⟩
set_option maxRecDepth 100000 in
set_option maxHeartbeats 1000000 in
theorem start_29 (w : World) (a b : Nat) (ha : a < 256) (hb : b < 256) : Calls Tryz.prog 29 #[.agg #[.int .u8 a, .int .u8 b]] w (LedRetA 0 w (startD a b)) := by
  have h1 : ((a : Nat) : Int).tmod 5 = ((a % 5 : Nat) : Int) := by rw [Int.tmod_eq_emod_of_nonneg (by omega)]; omega
  have h2 : ((b : Nat) : Int).tmod (1 + ((a % 5 : Nat) : Int)) = ((b % (1 + a % 5) : Nat) : Int) := by
    rw [Int.tmod_eq_emod_of_nonneg (by omega), show (1 : Int) + ((a % 5 : Nat) : Int) = ((1 + a % 5 : Nat) : Int) by omega]
    exact (Int.natCast_emod _ _).symm
  have C : Hid (∀ wx, Calls Tryz.prog 23 #[.int .i64 (1 + ((a % 5 : Nat) : Int)), .int .i64 (1 + ((b % (1 + a % 5) : Nat) : Int))] wx (LedPA 0 wx (startD a b) (newE (1 + ((a % 5 : Nat) : Int)) (1 + ((b % (1 + a % 5) : Nat) : Int))))) := fun wx => by
    have := new_23A wx 0 (Nat.zero_le _) (1 + ((a % 5 : Nat) : Int)) (1 + ((b % (1 + a % 5) : Nat) : Int))
    unfold startD
    simp only [Int.natCast_add, Int.natCast_one]
    exact led_partsA this
  have h3 : a % 5 < 5 := Nat.mod_lt _ (by omega)
  have h4 : b % (1 + a % 5) < 1 + a % 5 := Nat.mod_lt _ (by omega)
  generalize startD a b = gd at *
  generalize newE (1 + ((a % 5 : Nat) : Int)) (1 + ((b % (1 + a % 5) : Nat) : Int)) = ge at *
  generalize b % (1 + a % 5) = bm at *
  generalize a % 5 = am at *
  have F0 := Lib.hid (TwoBox.laid w #[.int .u8 (a : Int), .int .u8 (b : Int)] #[.int .i64 0, .int .i64 0, .slice none 0 0, .slice none 0 0, .slice none 0 0, .slice none 0 0] 58 26)
  go_enter Tryz.func29, Tryz.ntmps29
  go_upto_region 3 with (go_at_call 23; refine (C.out _).mono ?_; rintro e w1 ⟨o, nd, p2, l2, q2, p3, l3, q3, p4, l4, q4, p5, l5, q5, rfl, HL, HC⟩; have F1 := Lib.hid (F0.out.later HC.out))
  have b2 := (Below.refl w1.heap.size w1).alloc (Nat.le_refl _) (.cells #[.int .i64 o, .int .i64 nd, .slice p2 l2 q2, .slice p3 l3 q3, .slice p4 l4 q4, .slice p5 l5 q5] 26)
  have F2 := Lib.hid (F1.out.later b2)
  have L2 := Lib.hid (HL.out.later b2)
  have N2 := Lib.hid (heap_alloc_new w1 (.cells #[.int .i64 o, .int .i64 nd, .slice p2 l2 q2, .slice p3 l3 q3, .slice p4 l4 q4, .slice p5 l5 q5] 26))
  have hne := F1.out.walk.2.2.2.2
  clear b2 F1 HL HC F0
  generalize w1.alloc (.cells #[.int .i64 o, .int .i64 nd, .slice p2 l2 q2, .slice p3 l3 q3, .slice p4 l4 q4, .slice p5 l5 q5] 26) = W at *
  generalize w1.heap.size = k1 at *
  obtain ⟨c1, c2, c3, c4, c5⟩ := F2.out.walk
  obtain ⟨d1, d2, d3⟩ := box_walk N2.out
  go_wp2
  refine bodyPost_ret (v := .agg #[.int .i64 o, .int .i64 nd, .slice p2 l2 q2, .slice p3 l3 q3, .slice p4 l4 q4, .slice p5 l5 q5]) (by simp [results, Tryz.results29, go_sem, c3]) rfl ?_
  exact start_fin F2.out L2.out _ rfl _ _ _ _ _ _

/-! ### long -/
def longD (l : List ActD) : Bool := (l.take 31).any (fun x => decide (300 < x.seed.length)) || decide (30 < l.length)
set_option maxRecDepth 100000 in
theorem long_28 (w : World) (v : Value) (l : List ActD) (h : ActsR w v l) : Calls Tryz.prog 28 #[v] w fun e w' => e = .returned (.bool (longD l)) ∧ Below w.heap.size w w' := by
  obtain ⟨ao, n, cap, rfl, hn, hle, hat⟩ := acts_at h
  have HAT := Lib.hid hat
  have HT : Hid (∀ k, k < l.length → k < 31 → (∃ h : k < l.length, 300 < l[k].seed.length) → longD l = true) := fun k hk h31 ⟨_, hx⟩ => by
    unfold longD
    rw [Bool.or_eq_true]
    left
    rw [List.any_eq_true]
    refine ⟨l[k], ?_, by simpa using hx⟩
    rw [List.mem_iff_getElem]
    exact ⟨k, by rw [List.length_take]; omega, List.getElem_take ..⟩
  have HF : Hid (∀ k, k ≤ l.length → (k = l.length ∨ 31 ≤ k) → (∀ j (h : j < l.length), j < k → ¬ 300 < l[j].seed.length) → longD l = decide (30 < l.length)) := fun k hk hk2 ha => by
    unfold longD
    rw [show (l.take 31).any (fun x => decide (300 < x.seed.length)) = false from ?_, Bool.false_or]
    rw [List.any_eq_false]
    intro x hx
    obtain ⟨j, hj, rfl⟩ := List.mem_iff_getElem.1 hx
    rw [List.length_take] at hj
    rw [List.getElem_take]
    simpa using ha j (by omega) (by omega)
  have HN := Lib.hid hn
  clear h hat hn
  go_enter Tryz.func28, Tryz.ntmps28
  go_wp2
  go_loopw [3] (fun c wr => ∃ k : Nat, k ≤ n ∧ c = .int .i64 ((k : Nat) : Int) ∧ Hid (Below w.heap.size w wr) ∧ Hid (∀ j (h : j < l.length), j < k → ¬ 300 < l[j].seed.length)) (fun c _ => n - (intOf c).toNat)
  case atStart => exact ⟨0, Nat.zero_le _, rfl, Below.refl _ _, fun j _ hj => absurd hj (by omega)⟩
  case round =>
    obtain ⟨k, hk, rfl, HB, HA⟩ := hrel
    by_cases hlt : k < n
    · by_cases h31 : k < 31
      · have hkl : k < l.length := by rw [← HN.out]; exact hlt
        obtain ⟨b, off, av, kv, rfl, hbb, -, -, hc⟩ := HAT.out k hkl
        obtain ⟨-, -, -, -, c4⟩ := hc wr HB.out
        clear hc
        have hbr : b < wr.heap.size := Nat.lt_of_lt_of_le hbb HB.out.size
        have HX : Hid (300 < l[k].seed.length → longD l = true) := fun hx => HT.out k hkl h31 ⟨hkl, hx⟩
        have HY : Hid (¬ 300 < l[k].seed.length → ∀ j (h : j < l.length), j < k + 1 → ¬ 300 < l[j].seed.length) := fun hx j hj hjk => by
          by_cases hjj : j = k
          · subst hjj; exact hx
          · exact HA.out j hj (by omega)
        generalize l[k].seed.length = sl at *
        by_cases hs : 300 < sl
        · have R := Lib.hid (HX.out hs)
          have hs2 : (300 : Int) < (sl : Int) := by omega
          go_wp2
          go_ret
          exact ⟨by rw [R.out]; rfl, HB.out⟩
        · have R := Lib.hid (HY.out hs)
          have hs2 : ¬ (300 : Int) < (sl : Int) := by omega
          go_wp2
          go_roundw
          case rel => exact ⟨k + 1, by omega, by go_num, HB, R⟩
          case measure => simp [intOf] <;> omega
      · have R := Lib.hid (HF.out k (by have := HN.out; omega) (.inr (by omega)) HA.out)
        have R2 : Hid (longD l = decide ((30 : Int) < (n : Int))) := Lib.hid (by rw [R.out, ← HN.out]; congr 1; simp <;> omega)
        go_wp2
        go_ret
        exact ⟨by rw [R2.out]; rfl, HB.out⟩
    · obtain rfl : k = n := by omega
      have R := Lib.hid (HF.out k (by have := HN.out; omega) (.inl HN.out) HA.out)
      have R2 : Hid (longD l = decide ((30 : Int) < (k : Int))) := Lib.hid (by rw [R.out, ← HN.out]; congr 1; simp <;> omega)
      go_wp2
      go_ret
      exact ⟨by rw [R2.out]; rfl, HB.out⟩
end Go.Proofs.YtpbgipdkaaooeaaGreatDoor
