/- law35.ForgetKeys: the walk. -/
import Derived.Test.YtpbgipdkaaooeaaGreatDoorPD
import Derived.Test.YtpbgipdkaaooeaaGreatDoorZT
import Derived.Test.YtpbgipdkaaooeaaGreatDoorKQ
import Derived.BigQuiet
import Derived.Deep.RegionHeld3
import Derived.Deep.DeepCutAuto
import Derived.Deep.MidRow
open Go Go.Proofs Go.RowKit
namespace Go.Proofs.YtpbgipdkaaooeaaGreatDoor
set_option linter.unusedSimpArgs false
set_option linter.unusedVariables false
attribute [local go_sem ↓] Go.wp_at_zero Go.wp_at_succ

theorem useIt {p q : Prop} (h : p) (f : p → q) : q := f h
theorem useIt2 {p p2 q : Prop} (h : p ∧ p2) (f : p → p2 → q) : q := f h.1 h.2
theorem ActsAre.later' {w w' : World} {ps : List (ActD × Value)} {l : List ActD} (h : ActsAre w ps l) (hb : Below w.heap.size w w') : ActsAre w' ps l := by
  induction h with
  | nil => exact .nil
  | cons h1 h2 h3 _ ih => exact .cons h1 h2 (h3.later hb) ih
theorem ActsR.later' {w w' : World} {v : Value} {l : List ActD} (h : ActsR w v l) (hb : Below w.heap.size w w') : ActsR w' v l := let ⟨ps, h1, h2⟩ := h; ⟨ps, h1.later hb, h2.later' hb⟩
def zK : List (List Int) := List.replicate 4 (List.replicate 32 0)
theorem built67 : Tryz.prog.built 67 [] = some (keysC zK) := by kernel_rfl
theorem built68 : Tryz.prog.built 68 [] = some (whC (List.replicate 4 false)) := by kernel_rfl
theorem zero67 : Tryz.zeroCells67 = keysC zK := by kernel_rfl
theorem keysC_size {ks : List (List Int)} (h : ks.length = 4) (h2 : ∀ k ∈ ks, k.length = 32) : (keysC ks).size = 128 := by
  unfold keysC
  rw [List.size_toArray, keysC_len ks h2, h]
theorem keysC_one (ks : List (List Int)) : (keysC ks).all (·.oneCell') = true := by
  rw [Array.all_eq_true_iff_forall_mem]
  intro x hx
  simp [keysC] at hx
  obtain ⟨y, -, z, -, rfl⟩ := hx
  rfl
theorem size67 : (Tryz.prog.info? 67).map (·.size) = some 128 := by kernel_rfl
theorem zK_size : (Tryz.prog.info? 67).map (·.size) = some (keysC zK).size := by
  rw [size67, keysC_size (ks := zK) (by simp [zK]) (fun k hk => by unfold zK at hk; rw [List.eq_of_mem_replicate hk]; simp)]
theorem wpList_build67 {ops : Array Oper} {rest : List Oper} {o : Oper} {a : Act} {w : World} {Q : Exit → Act → World → Prop} (hg : o.guard = none) (ho : o.op = .build 67 #[])
    (h : wpList Tryz.prog ops Q rest (a.put o.dst (.agg (keysC zK))) w) : wpList Tryz.prog ops Q (o :: rest) a w := by
  have hb : Tryz.prog.built 67 ((#[] : Array (Nat × Operand)).map fun (i, x) => (i, a.eval x)).toList = some (keysC zK) := by
    rw [Array.map_empty]; exact built67
  exact wpList_build hg 67 _ ho (by rw [hb]; rfl) (by rw [hb]; exact h)
theorem wpList_store67_same {ops : Array Oper} {rest : List Oper} {o : Oper} {a : Act} {w : World} {Q : Exit → Act → World → Prop} (hgd : o.guard = none) (x y : Operand) (ho : o.op = .store 67 x y) (k : Nat) (cells : Array Value)
    (hx : a.eval x = .pointer (some ⟨k, 0, none⟩)) (hy : a.eval y = .agg cells) (hg : w.heap[k]? = some (.cells cells 67 (0, 0))) (hi : (Tryz.prog.info? 67).map (·.size) = some cells.size) (h1 : cells.all (·.oneCell') = true)
    (h : wpList Tryz.prog ops Q rest (a.put o.dst undef) w) : wpList Tryz.prog ops Q (o :: rest) a w :=
  wpList_store_row hgd 67 x y ho k cells hx hy 67 cells hg hi rfl h1 (by rw [setRow_same w k cells 67 (0, 0) hg]; exact h)
/-- What the loops of ForgetKeys hold in memory. -/
structure KM (w : World) (c0 c2 : Array Value) (m kK kW : Nat) (o nd : Int) (v2 v3 v4 v5 : Value) (g : LedD) (p : List (List Int) × List Bool) (wr : World) : Prop where
  two : TwoBox w c0 c2 58 66 wr
  led : LedBoxO m o nd v2 v3 v4 v5 g wr
  keys : wr.heap[kK]? = some (.cells (keysC p.1) 67 (0, 0))
  flags : wr.heap[kW]? = some (.cells (whC p.2) 68 (0, 0))
  hm : w.heap.size + 1 < m
  hK : w.heap.size + 1 < kK
  hW : w.heap.size + 1 < kW
theorem KM.later {w : World} {c0 c2 : Array Value} {m kK kW : Nat} {o nd : Int} {v2 v3 v4 v5 : Value} {g : LedD} {p : List (List Int) × List Bool} {wr w' : World} (h : KM w c0 c2 m kK kW o nd v2 v3 v4 v5 g p wr) (hb : Below wr.heap.size wr w') : KM w c0 c2 m kK kW o nd v2 v3 v4 v5 g p w' :=
  ⟨h.two.later hb, h.led.later hb, blk_later h.keys hb, blk_later h.flags hb, h.hm, h.hK, h.hW⟩
theorem two_set {w : World} {c0 c2 : Array Value} {wx : World} (h : TwoBox w c0 c2 58 66 wx) {k : Nat} (hk : w.heap.size + 1 < k) (i : Nat) (u : Value) : TwoBox w c0 c2 58 66 (wx.setCell ⟨k, i, none⟩ u) :=
  ⟨h.below.setCell (by simp; omega) _, (Below.heap_setCell _ _ _ _ (by simp; omega)).trans h.one, (Below.heap_setCell _ _ _ _ (by simp; omega)).trans h.two⟩
theorem ne_types {w : World} {j k : Nat} {c d : Array Value} {s t : TypeId} {f g : Nat × Nat} (h : w.heap[j]? = some (.cells c s f)) (h2 : w.heap[k]? = some (.cells d t g)) (hne : s ≠ t) : j ≠ k := fun e => by
  subst e
  rw [h] at h2
  exact hne (by injection h2 with h2; injection h2)
/-- The ledger's box is written. -/
theorem KM.led_set {w : World} {c0 c2 : Array Value} {m kK kW : Nat} {o nd : Int} {v2 v3 v4 v5 : Value} {g : LedD} {p : List (List Int) × List Bool} {wr : World} (h : KM w c0 c2 m kK kW o nd v2 v3 v4 v5 g p wr)
    {o' nd' : Int} {u2 u3 u4 u5 : Value} {g' : LedD} (hl : LedO 0 wr (.agg #[.int .i64 o', .int .i64 nd', u2, u3, u4, u5]) g') :
    KM w c0 c2 m kK kW o' nd' u2 u3 u4 u5 g' p ((((((wr.setCell ⟨m, 0, none⟩ (.int .i64 o')).setCell ⟨m, 1, none⟩ (.int .i64 nd')).setCell ⟨m, 2, none⟩ u2).setCell ⟨m, 3, none⟩ u3).setCell ⟨m, 4, none⟩ u4).setCell ⟨m, 5, none⟩ u5) := by
  have hm := h.hm
  exact ⟨two_set (two_set (two_set (two_set (two_set (two_set h.two hm _ _) hm _ _) hm _ _) hm _ _) hm _ _) hm _ _, LedBoxO.stored h.led.box hl,
    blk_six h.keys (ne_types h.keys h.led.box (by decide)) _ _ _ _ _ _, blk_six h.flags (ne_types h.flags h.led.box (by decide)) _ _ _ _ _ _, h.hm, h.hK, h.hW⟩
theorem OwnLed.boxT {w : World} {A B : Nat} {v2 v3 v4 v5 : Value} {vs : List Value} {pss : List (List (ByteArray × Int × Value))} {g : LedD} (h : OwnLed w A B v2 v3 v4 v5 vs pss g) {k : Nat} {c : Array Value} {t : TypeId} (hk : w.heap[k]? = some (.cells c t (0, 0))) (ht : t = 67 ∨ t = 68) (hB : A ≤ k) (i : Nat) (u : Value) : OwnLed (w.setCell ⟨k, i, none⟩ u) A B v2 v3 v4 v5 vs pss g := by
  have n1 : (88 : TypeId) ≠ t := by rcases ht with rfl | rfl <;> decide
  have n2 : (56 : TypeId) ≠ t := by rcases ht with rfl | rfl <;> decide
  have n3 : (46 : TypeId) ≠ t := by rcases ht with rfl | rfl <;> decide
  have n4 : (90 : TypeId) ≠ t := by rcases ht with rfl | rfl <;> decide
  have n5 : t ≠ 5 := by rcases ht with rfl | rfl <;> decide
  exact ⟨ownsRow_setCell_other h.o2 (owns_ne_type h.o2 hk n1) u, ownsRow_setCell_other h.o3 (owns_ne_type h.o3 hk n2) u, ownsRow_setCell_other h.o4 (owns_ne_type h.o4 hk n3) u, ownsRow_setCell_other h.o5 (owns_ne_type h.o5 hk n3) u,
   h.ap, h.len, fun i hi => ownsRow_setCell_other (h.rows i hi) (owns_ne_type (h.rows i hi) hk n4) u, by simpa using h.base, h.low, fun w2 h2 k2 => h.are w2 (((Below.refl _ _).setCell hB u).trans h2) ((Keeps5.set hk n5 i u).trans k2), h.apart⟩
theorem LedO.setOther {wr : World} {v : Value} {g : LedD} (h : LedO 0 wr v g) {k : Nat} {c : Array Value} {t : TypeId} (hk : wr.heap[k]? = some (.cells c t (0, 0))) (ht : t = 67 ∨ t = 68) (i : Nat) (u : Value) : LedO 0 (wr.setCell ⟨k, i, none⟩ u) v g := by
  obtain ⟨v2, v3, v4, v5, B, vs, pss, rfl, h⟩ := h
  exact (h.boxT hk ht (Nat.zero_le _) i u).o
theorem LedO.setsOther {v : Value} {g : LedD} {k : Nat} {t : TypeId} (ht : t = 67 ∨ t = 68) : ∀ (vs : List Value) (o : Nat) (wr : World) (c : Array Value), LedO 0 wr v g → wr.heap[k]? = some (.cells c t (0, 0)) → LedO 0 (wr.setCells k o vs) v g
  | [], _, _, _, h, _ => h
  | u :: r, o, wr, c, h, hk => LedO.setsOther ht r (o + 1) _ _ (h.setOther hk ht o u) (blk_set hk o u)
theorem two_sets {w : World} {c0 c2 : Array Value} {k : Nat} (hk : w.heap.size + 1 < k) : ∀ (vs : List Value) (o : Nat) (wx : World), TwoBox w c0 c2 58 66 wx → TwoBox w c0 c2 58 66 (wx.setCells k o vs)
  | [], _, _, h => h
  | u :: r, o, wx, h => two_sets hk r (o + 1) _ (two_set h hk o u)
/-- A flag is written. -/
theorem KM.flag_set {w : World} {c0 c2 : Array Value} {m kK kW : Nat} {o nd : Int} {v2 v3 v4 v5 : Value} {g : LedD} {p : List (List Int) × List Bool} {wr : World} (h : KM w c0 c2 m kK kW o nd v2 v3 v4 v5 g p wr) (k : Nat) (f : Bool) :
    KM w c0 c2 m kK kW o nd v2 v3 v4 v5 g (p.1, p.2.set k f) (wr.setCell ⟨kW, k, none⟩ (.bool f)) := by
  have e : (whC p.2).setIfInBounds k (.bool f) = whC (p.2.set k f) := by unfold whC; apply Array.ext'; simp
  refine ⟨two_set h.two h.hW _ _, ⟨(Below.heap_setCell _ _ _ _ (ne_types h.led.box h.flags (by decide))).trans h.led.box, h.led.led.setOther h.flags (.inr rfl) _ _⟩, (Below.heap_setCell _ _ _ _ (ne_types h.keys h.flags (by decide))).trans h.keys, ?_, h.hm, h.hK, h.hW⟩
  have := blk_set h.flags k (.bool f)
  rw [e] at this
  exact this
/-- A key is written. -/
theorem KM.key_set {w : World} {c0 c2 : Array Value} {m kK kW : Nat} {o nd : Int} {v2 v3 v4 v5 : Value} {g : LedD} {p : List (List Int) × List Bool} {wr : World} (h : KM w c0 c2 m kK kW o nd v2 v3 v4 v5 g p wr) (h4 : Keys4 p) {k : Nat} (hk : k < 4) {kb : List Int} (hb : kb.length = 32) :
    KM w c0 c2 m kK kW o nd v2 v3 v4 v5 g (p.1.set k kb, p.2) (wr.setCells kK (k * 32) (keyC2 kb).toList) ∧ wr.there kK (k * 32) 32 := by
  rw [show (keyC2 kb).toList = kb.map (Value.int .u8) by unfold keyC2; simp]
  have hs := keysC_size h4.len h4.each
  have e : ((keysC p.1).toList.take (k * 32) ++ (kb.map (Value.int .u8) ++ (keysC p.1).toList.drop (k * 32 + (kb.map (Value.int .u8)).length))).toArray = keysC (p.1.set k kb) := by
    unfold keysC
    rw [keysC_set p.1 h4.each k kb (by rw [h4.len]; exact hk) hb, List.length_map, hb]
  have hc := sets_cells (kb.map (Value.int .u8)) (k * 32) wr _ h.keys (by rw [hs, List.length_map, hb]; omega)
  rw [e] at hc
  refine ⟨⟨two_sets h.hK _ _ _ h.two, ⟨(sets_other (ne_types h.led.box h.keys (by decide)) _ _ _).trans h.led.box, LedO.setsOther (.inl rfl) _ _ _ _ h.led.led h.keys⟩, hc, (sets_other (ne_types h.flags h.keys (by decide)) _ _ _).trans h.flags, h.hm, h.hK, h.hW⟩, fun j hj => ?_⟩
  obtain ⟨q1, q2, q3⟩ := box_walk h.keys
  rw [q1, Array.getElem?_eq_getElem (by omega)]
  exact ⟨rfl, q2 _⟩
theorem KM.key_range {w : World} {c0 c2 : Array Value} {m kK kW : Nat} {o nd : Int} {v2 v3 v4 v5 : Value} {g : LedD} {p : List (List Int) × List Bool} {wr : World} (h : KM w c0 c2 m kK kW o nd v2 v3 v4 v5 g p wr) (h4 : Keys4 p) {k : Nat} (hk : k < 4) :
    wr.rangeAt kK (k * 32) ((p.1.getD k []).map (Value.int .u8)) ∧ (p.1.getD k []).length = 32 := by
  have hl : (p.1.getD k []).length = 32 := by
    have := h4.len
    rw [List.getD_eq_getElem?_getD, List.getElem?_eq_getElem (by omega)]
    exact h4.each _ (List.getElem_mem _)
  refine ⟨fun j v hv => ?_, hl⟩
  have hj : j < 32 := by
    have := (List.getElem?_eq_some_iff.1 hv).1
    rwa [List.length_map, hl] at this
  rw [(box_walk h.keys).1, keysC, List.getElem?_toArray, keysC_at p.1 h4.each k j (by have := h4.len; omega) hj]
  exact hv
theorem store_key (wx : World) (k : Nat) (ks : List Int) (hl : ks.length = 32) (hk : wx.heap[k]? = some (.cells zKey 39 (0, 0))) : (storeCells ⟨k, 0, none⟩ (keyC2 ks).toList 0).run Tryz.prog wx = .ok () (wx.setRow k (keyC2 ks)) := by
  have hz : (keyC2 ks).toList.length = 32 := by unfold keyC2; simp [hl]
  have := run_storeCells_from (P := Tryz.prog) k 39 (keyC2 ks).toList 0 zKey wx hk (by rw [hz]; rfl) (fun v hv => (Array.all_eq_true_iff_forall_mem.1 (keyC2_one ks)) v (by simpa using hv))
  simpa using this
theorem key_there (wx : World) (k : Nat) (ks : List Int) (hl : ks.length = 32) (hk : wx.heap[k]? = some (.cells zKey 39 (0, 0))) : wx.there k 0 (ks.map (Value.int .u8)).length := fun j hj => by
  obtain ⟨q1, q2, q3⟩ := box_walk hk
  have hj2 : j < zKey.size := by rw [List.length_map, hl] at hj; exact hj
  rw [q1, Array.getElem?_eq_getElem (by omega)]
  exact ⟨rfl, q2 _⟩
theorem key_sets (wx : World) (k : Nat) (ks : List Int) (hl : ks.length = 32) (hk : wx.heap[k]? = some (.cells zKey 39 (0, 0))) : (wx.setCells k 0 (ks.map (Value.int .u8))).heap[k]? = some (.cells (keyC2 ks) 39 (0, 0)) := by
  have h := sets_cells (ks.map (Value.int .u8)) 0 wx zKey hk (by rw [List.length_map, hl]; decide)
  rw [h, List.length_map, hl]
  have : zKey.toList.drop (0 + 32) = [] := by rfl
  rw [this]
  simp [keyC2]
theorem acts_bytes {w : World} {ps : List (ActD × Value)} {l : List ActD} (h : ActsAre w ps l) : ∀ x ∈ l, Bytes x.seed := by
  induction h with
  | nil => simp
  | cons h1 h2 h3 _ ih =>
    intro x hx
    rcases List.mem_cons.1 hx with rfl | hx
    · exact h3.2
    · exact ih x hx
theorem LedO.nums {A : Nat} {w : World} {o nd : Int} {v2 v3 v4 v5 : Value} {g : LedD} (h : LedO A w (.agg #[.int .i64 o, .int .i64 nd, v2, v3, v4, v5]) g) : o = g.owners ∧ nd = g.need := by
  obtain ⟨_, _, _, _, _, _, _, e, -⟩ := h
  injection e with e
  injection e with e
  simp only [List.cons.injEq, Value.int.injEq] at e
  exact ⟨e.1.2, e.2.1.2⟩
theorem LedBoxO.sets {k : Nat} {o nd : Int} {v2 v3 v4 v5 : Value} {g : LedD} {wx : World} (h : LedBoxO k o nd v2 v3 v4 v5 g wx) {j : Nat} {c : Array Value} (hj : wx.heap[j]? = some (.cells c 67 (0, 0))) (vs : List Value) (i : Nat) : LedBoxO k o nd v2 v3 v4 v5 g (wx.setCells j i vs) :=
  ⟨(sets_other (ne_types h.box hj (by decide)) _ _ _).trans h.box, LedO.setsOther (.inl rfl) _ _ _ _ h.led hj⟩
theorem LedBoxO.setc {k : Nat} {o nd : Int} {v2 v3 v4 v5 : Value} {g : LedD} {wx : World} (h : LedBoxO k o nd v2 v3 v4 v5 g wx) {j : Nat} {c : Array Value} (hj : wx.heap[j]? = some (.cells c 68 (0, 0))) (u : Value) (i : Nat) : LedBoxO k o nd v2 v3 v4 v5 g (wx.setCell ⟨j, i, none⟩ u) :=
  ⟨(Below.heap_setCell _ _ _ _ (ne_types h.box hj (by decide))).trans h.box, h.led.setOther hj (.inr rfl) _ _⟩
theorem KM.flag_at {w : World} {c0 c2 : Array Value} {m kK kW : Nat} {o nd : Int} {v2 v3 v4 v5 : Value} {g : LedD} {p : List (List Int) × List Bool} {wr : World} (h : KM w c0 c2 m kK kW o nd v2 v3 v4 v5 g p wr) (h4 : Keys4 p) {k : Nat} (hk : k < 4) :
    wr.cell? ⟨kW, k, none⟩ = some (.bool (p.2.getD k false)) ∧ wr.frozen? ⟨kW, k, none⟩ = false := by
  obtain ⟨q1, q2, q3⟩ := box_walk h.flags
  refine ⟨?_, q2 _⟩
  have := h4.flags
  rw [q1, whC, List.getElem?_toArray, List.getElem?_map, List.getElem?_eq_getElem (by omega), List.getD_eq_getElem?_getD, List.getElem?_eq_getElem (by omega)]
  rfl
set_option maxRecDepth 100000 in
set_option maxHeartbeats 4000000 in
theorem keys_5 (w : World) (a b : Nat) (vl : Value) (l : List ActD) (d0 d1 d2 d3 d4 : Bool) (ha : a < 256) (hb : b < 256) (hl : ActsR w vl l) :
    Calls Tryz.prog 5 #[.agg #[.int .u8 a, .int .u8 b], vl, .agg #[.bool d0, .bool d1, .bool d2, .bool d3, .bool d4]] w fun e w' => e = .returned (.bool true) ∧ Below w.heap.size w w' := by
  have HLR := Lib.hid hl
  obtain ⟨al, nl, cl, rfl, hnl, hcl, hat⟩ := acts_at hl
  have HAT := Lib.hid hat
  have HNL := Lib.hid hnl
  have HSB : Hid (∀ x ∈ l, Bytes x.seed) := Lib.hid (let ⟨ps, h1, h2⟩ := hl; acts_bytes h2)
  clear hl hat hnl
  have F0 := Lib.hid (TwoBox.laid w #[.int .u8 (a : Int), .int .u8 (b : Int)] #[.bool d0, .bool d1, .bool d2, .bool d3, .bool d4] 58 66)
  have C9 : Hid (∀ wx, Calls Tryz.prog 9 #[] wx fun e w' => e = .returned (.bool true) ∧ Hid (Below wx.heap.size wx w')) := fun wx => sanity_9 wx
  have C28 : Hid (∀ wx, Below w.heap.size w wx → Calls Tryz.prog 28 #[.slice al nl cl] wx fun e w' => e = .returned (.bool (longD l)) ∧ Hid (Below wx.heap.size wx w')) := fun wx hbx => long_28 wx _ l (ActsR.later' HLR.out hbx)
  have C29 : Hid (∀ wx, Calls Tryz.prog 29 #[.agg #[.int .u8 (a : Int), .int .u8 (b : Int)]] wx (LedQA 0 wx (startD a b))) := fun wx => led_partsA1 (start_29 wx a b ha hb)
  have TL : Hid (∀ wx w', Hid (TwoBox w #[.int .u8 (a : Int), .int .u8 (b : Int)] #[.bool d0, .bool d1, .bool d2, .bool d3, .bool d4] 58 66 wx) → Hid (Below wx.heap.size wx w') → Hid (TwoBox w #[.int .u8 (a : Int), .int .u8 (b : Int)] #[.bool d0, .bool d1, .bool d2, .bool d3, .bool d4] 58 66 w')) := fun wx w' h hb => Lib.hid (h.out.later hb.out)
  have TA : Hid (∀ wx ob, Hid (TwoBox w #[.int .u8 (a : Int), .int .u8 (b : Int)] #[.bool d0, .bool d1, .bool d2, .bool d3, .bool d4] 58 66 wx) → Hid (TwoBox w #[.int .u8 (a : Int), .int .u8 (b : Int)] #[.bool d0, .bool d1, .bool d2, .bool d3, .bool d4] 58 66 (wx.alloc ob))) := fun wx ob h => Lib.hid (h.out.later ((Below.refl _ _).alloc (Nat.le_refl _) _))
  clear ha hb
  have HSM := Lib.hid (fun i => small_hist a b l i)
  have HLONG : Hid (longD l = false → l.length ≤ 30) := fun h => by
    unfold longD at h
    simp only [Bool.or_eq_false_iff, decide_eq_false_iff_not] at h
    omega
  go_enter Tryz.func5, Tryz.ntmps5
  rcases hq : longD l with _ | _
  · rw [hq] at C28
    have hl30 : nl ≤ 30 := by rw [HNL.out]; exact HLONG.out hq
    have HLEN := Lib.hid (HLONG.out hq)
    clear hq HLONG
    go_upto_region 4 with (first
      | (go_at_call 9; refine (C9.out _).mono ?_; rintro e w1 ⟨rfl, b1⟩; have F1 := TL.out _ _ F0 b1)
      | (go_at_call 28; refine (C28.out _ F1.out.below).mono ?_; rintro e w2 ⟨rfl, b2⟩; have F2 := TL.out _ _ F1 b2))
    clear F0 F1 b1 b2 C9 C28 HLR
    obtain ⟨c1, c2, c3, c4, c5⟩ := F2.out.walk
    go_upto_region 5 with (go_at_call 29; refine (C29.out _).mono ?_; rintro e w3 ⟨o, nd, r2, s2, t2, r3, s3, t3, r4, s4, t4, r5, s5, t5, rfl, HL, HC⟩; have F3 := TL.out _ _ F2 HC)
    clear c1 c2 c3 c4 c5 F2
    have L3 : Hid (LedBoxO w3.heap.size o nd (.slice r2 s2 t2) (.slice r3 s3 t3) (.slice r4 s4 t4) (.slice r5 s5 t5) (startD a b) (w3.alloc (.cells #[.int .i64 o, .int .i64 nd, .slice r2 s2 t2, .slice r3 s3 t3, .slice r4 s4 t4, .slice r5 s5 t5] 26))) := Lib.hid (LedBoxO.fresh HL.out)
    have HM3 := Lib.hid F3.out.walk.2.2.2.2
    replace F3 := TA.out _ (.cells #[.int .i64 o, .int .i64 nd, .slice r2 s2 t2, .slice r3 s3 t3, .slice r4 s4 t4, .slice r5 s5 t5] 26) F3
    clear HL HC C29
    generalize w3.alloc (.cells #[.int .i64 o, .int .i64 nd, .slice r2 s2 t2, .slice r3 s3 t3, .slice r4 s4 t4, .slice r5 s5 t5] 26) = W4 at *
    generalize w3.heap.size = m at *
    go_upto_region 6 with (first
      | (refine wpList_build67 rfl rfl ?_)
      | (refine wpList_store67_same rfl _ _ rfl W4.heap.size (keysC zK) rfl rfl (by first | exact blk_later (heap_alloc_new W4 _) ((Below.refl _ _).alloc (Nat.le_refl _) _) | (rw [← zero67]; exact blk_later (heap_alloc_new W4 _) ((Below.refl _ _).alloc (Nat.le_refl _) _))) zK_size (keysC_one zK) ?_))
    have bb : Below W4.heap.size W4 ((W4.alloc (.cells Tryz.zeroCells67 67)).alloc (.cells #[.bool false, .bool false, .bool false, .bool false] 68)) := ((Below.refl _ _).alloc (Nat.le_refl _) _).alloc (by simp) _
    have M5 : Hid (KM w #[.int .u8 (a : Int), .int .u8 (b : Int)] #[.bool d0, .bool d1, .bool d2, .bool d3, .bool d4] m W4.heap.size (W4.heap.size + 1) o nd (.slice r2 s2 t2) (.slice r3 s3 t3) (.slice r4 s4 t4) (.slice r5 s5 t5) (startD a b) (kAt (startD a b) l 0) ((W4.alloc (.cells Tryz.zeroCells67 67)).alloc (.cells #[.bool false, .bool false, .bool false, .bool false] 68))) :=
      Lib.hid ⟨F3.out.later bb, L3.out.later bb, by rw [zero67]; exact blk_later (heap_alloc_new W4 _) ((Below.refl _ _).alloc (Nat.le_refl _) _), by
        rw [show W4.heap.size + 1 = (W4.alloc (.cells Tryz.zeroCells67 67)).heap.size by simp]; exact heap_alloc_new _ _, HM3.out, F3.out.walk.2.2.2.2, by have := F3.out.walk.2.2.2.2; omega⟩
    clear bb F3 HM3 L3 TL TA
    generalize (W4.alloc (.cells Tryz.zeroCells67 67)).alloc (.cells #[.bool false, .bool false, .bool false, .bool false] 68) = W5 at *
    generalize W4.heap.size + 1 = kW at *
    generalize W4.heap.size = kK at *
    clear W4 w3
    have C32 : Hid (∀ wx i, i < l.length → ∀ vg av kv, Hid (LedO 0 wx vg (histD (startD a b) l i)) → (hi : i < l.length) → BytesR wx (.slice av l[i].seed.length kv) l[i].seed → ActOk l[i] → Calls Tryz.prog 32 #[vg, .agg #[.int .u8 l[i].kind, .int .u8 l[i].who, .int .i8 l[i].owner, .int .i8 l[i].at', .slice av l[i].seed.length kv]] wx (LedPA 0 wx (histD (startD a b) l (i + 1)) (stepE (histD (startD a b) l i) l[i]))) := fun wx i hi vg av kv hg hi2 hbs hok => by
      have := do_32 wx vg _ (histD (startD a b) l i) l[i] hg.out ((HSM.out i).fits (by have := HLEN.out; omega)) ⟨hok, _, rfl, hbs⟩
      have e : l.getD i default = l[i] := by rw [List.getD_eq_getElem?_getD, List.getElem?_eq_getElem hi]; rfl
      have hd : histD (startD a b) l (i + 1) = doD (histD (startD a b) l i) l[i] := by rw [histD, e]
      rw [hd]
      exact led_partsA this
    go_upto_region 7 with fail
    go_loopw [11] (fun c wr => ∃ (i : Nat) (o nd : Int) (r2 : Option Addr) (s2 t2 : Nat) (r3 : Option Addr) (s3 t3 : Nat) (r4 : Option Addr) (s4 t4 : Nat) (r5 : Option Addr) (s5 t5 : Nat), i ≤ nl ∧ c = .int .i64 ((i : Nat) : Int) ∧ Hid (KM w #[.int .u8 (a : Int), .int .u8 (b : Int)] #[.bool d0, .bool d1, .bool d2, .bool d3, .bool d4] m kK kW o nd (.slice r2 s2 t2) (.slice r3 s3 t3) (.slice r4 s4 t4) (.slice r5 s5 t5) (histD (startD a b) l i) (kAt (startD a b) l i) wr)) (fun c _ => nl - (intOf c).toNat)
    case atStart => exact ⟨0, o, nd, r2, s2, t2, r3, s3, t3, r4, s4, t4, r5, s5, t5, Nat.zero_le _, rfl, M5⟩
    case round =>
      clear M5
      obtain ⟨i, o, nd, r2, s2, t2, r3, s3, t3, r4, s4, t4, r5, s5, t5, hi, rfl, M1⟩ := hrel
      by_cases hlt : i < nl
      · have hil : i < l.length := by rw [← HNL.out]; exact hlt
        obtain ⟨bk, off, av, kv, rfl, hbb, hok, hbs, hc⟩ := HAT.out i hil
        have HB1 := Lib.hid M1.out.two.below
        have HBY := Lib.hid hbs
        have HOK := Lib.hid hok
        have HC1 := Lib.hid hc
        have hkd := hok.kind
        have hwd := hok.who
        have hbr : bk < wr.heap.size := Nat.lt_of_lt_of_le hbb HB1.out.size
        have C : Hid (∀ wx, Hid (Below wr.heap.size wr wx) → Calls Tryz.prog 32 #[.agg #[.int .i64 o, .int .i64 nd, .slice r2 s2 t2, .slice r3 s3 t3, .slice r4 s4 t4, .slice r5 s5 t5], .agg #[.int .u8 l[i].kind, .int .u8 l[i].who, .int .i8 l[i].owner, .int .i8 l[i].at', .slice av l[i].seed.length kv]] wx (LedPA 0 wx (histD (startD a b) l (i + 1)) (stepE (histD (startD a b) l i) l[i]))) := fun wx hx =>
          C32.out wx i hil _ av kv (Lib.hid (M1.out.led.led.later hx.out)) hil (HBY.out.later (below_step HB1.out hx.out)) HOK.out
        have HG : Hid (l.getD i default = l[i]) := Lib.hid (by rw [List.getD_eq_getElem?_getD, List.getElem?_eq_getElem hil]; rfl)
        have HKA : Hid (kAt (startD a b) l (i + 1) = kstep (kAt (startD a b) l i) l[i] (stepE (histD (startD a b) l i) l[i])) := Lib.hid (by rw [kAt, HG.out])
        have HK4 := Lib.hid (keys4_at (startD a b) l i)
        clear hc hok hbs HG
        generalize hG1 : histD (startD a b) l (i + 1) = G1 at *
        have HG1 := Lib.hid hG1
        clear hG1
        generalize histD (startD a b) l i = G at *
        generalize hp1 : kAt (startD a b) l (i + 1) = p1 at *
        have HP1 := Lib.hid hp1
        clear hp1
        generalize kAt (startD a b) l i = p0 at *
        generalize hge : stepE G l[i] = ge at *
        clear hge
        have HKS : Hid (p1 = if ge = 0 ∧ l[i].kind % 4 = 0 then (p0.1.set (l[i].who % 4) (key32D l[i].seed), p0.2.set (l[i].who % 4) true) else if ge = 0 ∧ l[i].kind % 4 = 3 then (p0.1, p0.2.set (l[i].who % 4) false) else p0) := HKA
        clear HKA
        generalize l[i].kind = y1 at *
        generalize l[i].who = y2 at *
        generalize l[i].owner = y3 at *
        generalize l[i].at' = y4 at *
        generalize l[i].seed.length = y5 at *
        generalize l[i].seed = sd at *
        go_upto_region 9 with fail
        have BS : Hid (∀ wx, Hid (Below wr.heap.size wr wx) → (∀ i, wx.cell? ⟨m, i, none⟩ = #[.int .i64 o, .int .i64 nd, .slice r2 s2 t2, .slice r3 s3 t3, .slice r4 s4 t4, .slice r5 s5 t5][i]?) ∧ wx.cell? ⟨bk, off + i * 5, none⟩ = some (.int .u8 (y1 : Int)) ∧ wx.cell? ⟨bk, off + i * 5 + 1, none⟩ = some (.int .u8 (y2 : Int)) ∧ wx.cell? ⟨bk, off + i * 5 + 2, none⟩ = some (.int .i8 y3) ∧ wx.cell? ⟨bk, off + i * 5 + 3, none⟩ = some (.int .i8 y4) ∧ wx.cell? ⟨bk, off + i * 5 + 4, none⟩ = some (.slice av y5 kv)) := fun wx h => ⟨(box_walk (blk_later M1.out.led.box h.out)).1, HC1.out wx (below_step HB1.out h.out)⟩
        have PA : Hid (∀ wx ob, Hid (Below wr.heap.size wr wx) → Hid (Below wr.heap.size wr (wx.alloc ob))) := fun wx ob h => Lib.hid (h.out.alloc h.out.size _)
        have PL : Hid (∀ wx w', Hid (Below wr.heap.size wr wx) → Hid (Below wx.heap.size wx w') → Hid (Below wr.heap.size wr w')) := fun wx w' h hb => Lib.hid (below_step h.out hb.out)
        have PS : Hid (∀ wx k i u, Hid (Below wr.heap.size wr wx) → wr.heap.size ≤ k → Hid (Below wr.heap.size wr (wx.setCell ⟨k, i, none⟩ u))) := fun wx k i u h hk => Lib.hid (h.out.setCell hk _)
        have BD : Hid (∀ w', Hid (Below (wr.alloc (.cells zLed 26)).drew.heap.size (wr.alloc (.cells zLed 26)).drew w') → Hid (w'.heap[wr.heap.size]? = some (.cells zLed 26 (0, 0))) ∧ wr.heap.size ≤ wr.heap.size) := fun w' hb => ⟨Lib.hid (blk_later (show (wr.alloc (.cells zLed 26)).drew.heap[wr.heap.size]? = _ from heap_alloc_new _ _) hb.out), Nat.le_refl _⟩
        have P0 : Hid (Below wr.heap.size wr wr) := Lib.hid (Below.refl _ _)
        have P1 := Lib.hid P0.out.drew
        have P2 := Lib.hid (PA.out _ (.cells zLed 26) P0).out.drew
        clear C32 HOK
        go_cut [12, 13] (fun q e wx => ∃ (k12 : Nat) (o' nd' : Int) (r2' : Option Addr) (s2' t2' : Nat) (r3' : Option Addr) (s3' t3' : Nat) (r4' : Option Addr) (s4' t4' : Nat) (r5' : Option Addr) (s5' t5' : Nat), q = .pointer (some ⟨k12, 0, none⟩) ∧ e = .int .i64 ge ∧ Hid (Below wr.heap.size wr wx) ∧ Hid (LedBoxO k12 o' nd' (.slice r2' s2' t2') (.slice r3' s3' t3') (.slice r4' s4' t4') (.slice r5' s5' t5') G1 wx))
        case first =>
          go_region_held3 (fun w' => (∀ i, w'.cell? ⟨m, i, none⟩ = #[.int .i64 o, .int .i64 nd, .slice r2 s2 t2, .slice r3 s3 t3, .slice r4 s4 t4, .slice r5 s5 t5][i]?) ∧ w'.cell? ⟨bk, off + i * 5, none⟩ = some (.int .u8 (y1 : Int)) ∧ w'.cell? ⟨bk, off + i * 5 + 1, none⟩ = some (.int .u8 (y2 : Int)) ∧ w'.cell? ⟨bk, off + i * 5 + 2, none⟩ = some (.int .i8 y3) ∧ w'.cell? ⟨bk, off + i * 5 + 3, none⟩ = some (.int .i8 y4) ∧ w'.cell? ⟨bk, off + i * 5 + 4, none⟩ = some (.slice av y5 kv)) (exact BS.out _ (by repeat (first | with_reducible assumption | with_reducible apply PA.out | (with_reducible refine PS.out _ _ _ _ ?_ (by first | with_reducible assumption | omega))))) (first | (go_at_call 32; (with_reducible refine (C.out _ (by repeat (first | with_reducible assumption | with_reducible apply PA.out))).mono ?_); rintro e w5 ⟨o', nd', r2', s2', t2', r3', s3', t3', r4', s4', t4', r5', s5', t5', rfl, HL, HC⟩; have Q5 : Hid (Below wr.heap.size wr w5) := PL.out _ _ (by repeat (first | with_reducible assumption | with_reducible apply PA.out)) HC; (first | (with_reducible refine useIt2 (BD.out _ HC) (fun MB hMB => ?_); obtain ⟨m1, m2, m3⟩ := box_walk MB.out) | skip)))
          · go_wp2_with fail
            go_meet
            exact ⟨w5.heap.size, o', nd', r2', s2', t2', r3', s3', t3', r4', s4', t4', r5', s5', t5', rfl, rfl, PA.out _ _ Q5, LedBoxO.fresh HL.out⟩
          · go_wp2_with fail
            go_meet
            exact ⟨wr.heap.size, o', nd', r2', s2', t2', r3', s3', t3', r4', s4', t4', r5', s5', t5', rfl, rfl, Lib.hid (below_six Q5.out hMB _ _ _ _ _ _), LedBoxO.stored MB.out HL.out⟩
        case rest =>
          obtain ⟨k12, o', nd', r2', s2', t2', r3', s3', t3', r4', s4', t4', r5', s5', t5', rfl, rfl, Q9, L9⟩ := hcut
          have M9 := Lib.hid (M1.out.later Q9.out)
          have HB9 := Lib.hid M9.out.two.below
          obtain ⟨c0, c1, c2, c3, c4⟩ := BS.out _ Q9 |>.2
          clear M1 BS PA PL PS BD P0 P1 P2 C Q9 HB1
          obtain ⟨k, hkk, hk4⟩ : ∃ k, k = y2 % 4 ∧ k < 4 := ⟨_, rfl, Nat.mod_lt _ (by omega)⟩
          have hmod : (y2 : Int) % 4 = (k : Int) := by omega
          rw [← hkk] at HKS
          clear hkk
          go_upto_region 11 with fail
          rw [hmod]
          clear hmod
          obtain ⟨q, hqq, hq4⟩ : ∃ q, q = y1 % 4 ∧ q < 4 := ⟨_, rfl, Nat.mod_lt _ (by omega)⟩
          have hmod : (y1 : Int) % 4 = (q : Int) := by omega
          rw [← hqq] at HKS
          clear hqq
          have K13 : Hid (∀ wx, Hid (Below wc.heap.size wc wx) → Calls Tryz.prog 13 #[.slice av y5 kv] wx fun e w' => e = .returned (.agg (keyC2 (key32D sd))) ∧ Hid (Below wx.heap.size wx w')) := fun wx hx => key32_13 wx _ sd (HBY.out.later (below_step HB9.out hx.out))
          have x1 := (box_walk M9.out.led.box).1
          have x2 := (box_walk M9.out.led.box).2.1
          have z1 := (box_walk L9.out.box).1
          by_cases hge : ge = 0
          · subst hge
            have h03 : q = 0 ∨ q = 3 ∨ (q ≠ 0 ∧ q ≠ 3) := by omega
            rcases h03 with rfl | rfl | ⟨hq0, hq3⟩
            · have HE : Hid (p1 = (p0.1.set k (key32D sd), p0.2.set k true)) := Lib.hid (by rw [HKS.out]; simp)
              have Q13 : Hid (Below wc.heap.size wc wc) := Lib.hid (Below.refl _ _)
              have H32 : Hid ((keyC2 (key32D sd)).size = 32) := Lib.hid (by unfold keyC2; rw [List.size_toArray, List.length_map, key32D_length])
              go_upto_region 13 with (first
                | (go_at_call 13; (with_reducible refine (K13.out _ (by assumption)).mono ?_); rintro e w6 ⟨rfl, HC6⟩; have M6 := Lib.hid (M9.out.later HC6.out); have L6 := Lib.hid (L9.out.later HC6.out); have KS6 := Lib.hid (M6.out.key_set HK4.out hk4 (key32D_length sd)))
                | (refine wpList_store_mid rfl 39 _ _ rfl kK (k * 32) (keyC2 (key32D sd)) rfl rfl (by rw [H32.out]; exact KS6.out.2) (keyC2_size _ (key32D_length sd)) (keyC2_one _) ?_; have M7 := Lib.hid KS6.out.1; have L7 := Lib.hid (L6.out.sets M6.out.keys (keyC2 (key32D sd)).toList (k * 32)); clear M6 L6 KS6; generalize w6.setCells kK (k * 32) (keyC2 (key32D sd)).toList = w7 at *; obtain ⟨f1, f2⟩ := M7.out.flag_at ⟨by have := HK4.out.len; simpa using this, fun x hx => by rcases List.mem_or_eq_of_mem_set hx with hx | rfl; exact HK4.out.each x hx; exact key32D_length _, HK4.out.flags⟩ hk4))
              have M8 := Lib.hid (M7.out.flag_set k true)
              have L8 := Lib.hid (L7.out.setc M7.out.flags (.bool true) k)
              clear M7 L7 f1 f2 x1 x2 z1
              generalize w7.setCell ⟨kW, k, none⟩ (.bool true) = w8 at *
              have x1 := (box_walk M8.out.led.box).1
              have x2 := (box_walk M8.out.led.box).2.1
              have z1 := (box_walk L8.out.box).1
              clear c0 c1 c2 c3 c4
              obtain ⟨c0, c1, c2, c3, c4⟩ := HC1.out w8 M8.out.two.below
              go_wp2_with fail
              go_roundw
              case rel => exact ⟨i + 1, o', nd', r2', s2', t2', r3', s3', t3', r4', s4', t4', r5', s5', t5', by omega, by go_num, by
                rw [HG1.out, HP1.out, HE.out]
                exact Lib.hid (M8.out.led_set L8.out.led)⟩
              case measure => simp [intOf] <;> omega
            · have HE : Hid (p1 = (p0.1, p0.2.set k false)) := Lib.hid (by rw [HKS.out]; simp)
              obtain ⟨f1, f2⟩ := M9.out.flag_at HK4.out hk4
              go_upto_region 15 with fail
              have M8 := Lib.hid (M9.out.flag_set k false)
              have L8 := Lib.hid (L9.out.setc M9.out.flags (.bool false) k)
              clear M9 L9 f1 f2 x1 x2 z1
              generalize wc.setCell ⟨kW, k, none⟩ (.bool false) = w8 at *
              have x1 := (box_walk M8.out.led.box).1
              have x2 := (box_walk M8.out.led.box).2.1
              have z1 := (box_walk L8.out.box).1
              clear c0 c1 c2 c3 c4
              obtain ⟨c0, c1, c2, c3, c4⟩ := HC1.out w8 M8.out.two.below
              go_wp2_with fail
              go_roundw
              case rel => exact ⟨i + 1, o', nd', r2', s2', t2', r3', s3', t3', r4', s4', t4', r5', s5', t5', by omega, by go_num, by
                rw [HG1.out, HP1.out, HE.out]
                exact Lib.hid (M8.out.led_set L8.out.led)⟩
              case measure => simp [intOf] <;> omega
            · have g0 : ((q : Int) == 0) = false := by simpa using hq0
              have g3 : ((q : Int) == 3) = false := by simp; omega
              go_wp2_with fail
              go_roundw
              case rel => exact ⟨i + 1, o', nd', r2', s2', t2', r3', s3', t3', r4', s4', t4', r5', s5', t5', by omega, by go_num, by
                have e : p1 = p0 := by rw [HKS.out]; simp [hq0, hq3]
                rw [HG1.out, HP1.out, e]
                exact Lib.hid (M9.out.led_set L9.out.led)⟩
              case measure => simp [intOf] <;> omega
          · have hge' : (ge == 0) = false := by simpa using hge
            go_wp2_with fail
            go_roundw
            case rel => exact ⟨i + 1, o', nd', r2', s2', t2', r3', s3', t3', r4', s4', t4', r5', s5', t5', by omega, by go_num, by
              have e : p1 = p0 := by rw [HKS.out]; simp [hge]
              rw [HG1.out, HP1.out, e]
              exact Lib.hid (M9.out.led_set L9.out.led)⟩
            case measure => simp [intOf] <;> omega
      · obtain rfl : i = nl := by omega
        have HW : Hid (∀ k, k < 4 → (kAt (startD a b) l i).2.getD k false = true → Whole (histD (startD a b) l i) (subjD k) ((kAt (startD a b) l i).1.getD k [])) := Lib.hid (whole_at a b l HSB.out i (by rw [HNL.out]; exact Nat.le_refl _))
        have HV := Lib.hid (valid_hist a b l i)
        have HK4 := Lib.hid (keys4_at (startD a b) l i)
        have HFT := Lib.hid ((HSM.out i).fits (by omega))
        have HBL : Hid (∀ r ∈ (histD (startD a b) l i).shares, ∀ s ∈ r, s.b.length ≤ 4096) := Lib.hid (by_hist a b l i)
        generalize histD (startD a b) l i = G at *
        generalize kAt (startD a b) l i = p0 at *
        clear HSM C32 HAT HNL HLEN hi hl30 hlt HSB
        obtain ⟨rfl, rfl⟩ := M1.out.led.led.nums
        have HP := Lib.hid (valid_parts HV.out)
        obtain ⟨N, hN5, hGO, hGS⟩ : ∃ N : Nat, N ≤ 5 ∧ G.owners = (N : Int) ∧ Hid (G.shares.length = N) := ⟨G.shares.length, by have := HP.out; omega, by have := HP.out; omega, Lib.hid rfl⟩
        have HGO := Lib.hid hGO
        have HM1 := (box_walk M1.out.led.box).1
        rw [hGO] at HM1
        clear hGO
        have HD := Lib.hid M1.out.two.walk.2.2.1
        have HDN : Hid (∀ j, j < 5 → #[.bool d0, .bool d1, .bool d2, .bool d3, .bool d4][j]? = some (Value.bool ([d0, d1, d2, d3, d4].getD j false))) := Lib.hid (fun j hj => by
          have : j = 0 ∨ j = 1 ∨ j = 2 ∨ j = 3 ∨ j = 4 := by omega
          rcases this with rfl | rfl | rfl | rfl | rfl <;> rfl)
        go_upto_region 18 with fail
        go_loop [15, 16] (fun c15 c16 => ∃ j : Nat, j ≤ N ∧ c16 = .int .i64 ((j : Nat) : Int) ∧ c15 = .int .i64 (((ptsD [d0, d1, d2, d3, d4] j).length : Nat) : Int)) (fun _ c16 => N - (intOf c16).toNat)
        case atStart => exact ⟨0, Nat.zero_le _, rfl, rfl⟩
        case round =>
          obtain ⟨j, hj, rfl, rfl⟩ := hrel
          have hpl : (ptsD [d0, d1, d2, d3, d4] j).length ≤ j := by have h1 := (ptsD_up [d0, d1, d2, d3, d4] j).length_le; have h2 : ∀ n, (upN n).length = n := fun n => (by induction n with | zero => rfl | succ n ih => simp [upN, ih]); rw [h2] at h1; exact h1
          by_cases hlt : j < N
          · have hdj := (HD.out j).trans (HDN.out j (by omega))
            have HST : Hid (ptsD [d0, d1, d2, d3, d4] (j + 1) = if [d0, d1, d2, d3, d4].getD j false = false then ptsD [d0, d1, d2, d3, d4] j ++ [j + 1] else ptsD [d0, d1, d2, d3, d4] j) := Lib.hid (by
              rw [ptsD]
              have h5 : ¬ [d0, d1, d2, d3, d4].length ≤ j := by simp; omega
              simp only [h5, false_or])
            generalize [d0, d1, d2, d3, d4].getD j false = dj at *
            have hj5 : j < 5 := by omega
            cases dj with
            | false =>
              go_wp2_with fail
              go_round
              case rel => exact ⟨j + 1, by omega, by go_num, by rw [HST.out, if_pos rfl, List.length_append]; go_num⟩
              case measure => simp [intOf] <;> omega
            | true =>
              go_wp2_with fail
              go_round
              case rel => exact ⟨j + 1, by omega, by go_num, by rw [HST.out, if_neg (by simp)]⟩
              case measure => simp [intOf] <;> omega
          · obtain rfl : j = N := by omega
            clear hlt hj
            have HDB : Hid (BoolsR wr (.slice (some ⟨w.heap.size + 1, 0, none⟩) 5 5) [d0, d1, d2, d3, d4]) := Lib.hid (bools5 M1.out.two.walk.2.2.2.2 HD.out)
            have C19 : Hid (∀ wx k, Hid (Below wr.heap.size wr wx) → Calls Tryz.prog 19 #[.agg #[.int .i64 G.owners, .int .i64 G.need, .slice r2 s2 t2, .slice r3 s3 t3, .slice r4 s4 t4, .slice r5 s5 t5], .string (subjD k), .slice (some ⟨w.heap.size + 1, 0, none⟩) 5 5] wx fun e w' => e = .returned (.tuple #[.agg (keyC2 (keyD G (subjD k) [d0, d1, d2, d3, d4])), .int .i64 (keyE G (subjD k) [d0, d1, d2, d3, d4])]) ∧ Hid (Below wx.heap.size wx w')) := fun wx k hx => key_19 wx _ _ G (subjD k) [d0, d1, d2, d3, d4] (M1.out.led.led.later hx.out).led HFT.out (HDB.out.later hx.out) HBL.out
            have C11 : Hid (∀ wx k, k < 256 → Calls Tryz.prog 11 #[.int .u8 ((k : Nat) : Int)] wx fun e w' => e = .returned (.string (subjD k)) ∧ Hid (Below wx.heap.size wx w')) := fun wx k hk => subject_11 wx k hk
            go_upto_region 23 with fail
            clear HM1
            generalize hal0 : (ptsD [d0, d1, d2, d3, d4] j).length = alv at *
            have HAL := Lib.hid hal0
            clear hal0 hpl
            generalize wr = W2 at *
            go_loopw [17] (fun c wx => ∃ k : Nat, k ≤ 4 ∧ c = .int .i64 ((k : Nat) : Int) ∧ Hid (Below W2.heap.size W2 wx)) (fun c _ => 4 - (intOf c).toNat)
            case atStart => exact ⟨0, Nat.zero_le _, rfl, Lib.hid (Below.refl _ _)⟩
            case round =>
              obtain ⟨k, hk, rfl, HB0⟩ := hrel
              by_cases hlt : k < 4
              · have hk256 : k < 256 := by omega
                have HLAW : Hid (p0.2.getD k false = true → keyE G (subjD k) [d0, d1, d2, d3, d4] = (if G.need ≤ (alv : Int) then 0 else 40) ∧ (G.need ≤ (alv : Int) → keyD G (subjD k) [d0, d1, d2, d3, d4] = p0.1.getD k [])) := Lib.hid (fun h => by
                  have := key_law HV.out (HW.out k hlt h) [d0, d1, d2, d3, d4]
                  rw [hGS.out, HAL.out] at this
                  exact this)
                have HL32 : Hid ((keyD G (subjD k) [d0, d1, d2, d3, d4]).length = 32) := Lib.hid (keyD_length _ _ _)
                have K19 : Hid (∀ wx, Hid (Below wr.heap.size wr wx) → Calls Tryz.prog 19 #[.agg #[.int .i64 G.owners, .int .i64 G.need, .slice r2 s2 t2, .slice r3 s3 t3, .slice r4 s4 t4, .slice r5 s5 t5], .string (subjD k), .slice (some ⟨w.heap.size + 1, 0, none⟩) 5 5] wx fun e w' => e = .returned (.tuple #[.agg (keyC2 (keyD G (subjD k) [d0, d1, d2, d3, d4])), .int .i64 (keyE G (subjD k) [d0, d1, d2, d3, d4])]) ∧ Hid (Below wx.heap.size wx w')) := fun wx hx => C19.out wx k (Lib.hid (below_step HB0.out hx.out))
                have K11 : Hid (∀ wx, Calls Tryz.prog 11 #[.int .u8 ((k : Nat) : Int)] wx fun e w' => e = .returned (.string (subjD k)) ∧ Hid (Below wx.heap.size wx w')) := fun wx => C11.out wx k hk256
                generalize keyD G (subjD k) [d0, d1, d2, d3, d4] = kd at *
                generalize keyE G (subjD k) [d0, d1, d2, d3, d4] = ke at *
                generalize subjD k = t at *
                have BS : Hid (∀ wx, Hid (Below wr.heap.size wr wx) → (∀ i, wx.cell? ⟨m, i, none⟩ = #[.int .i64 G.owners, .int .i64 G.need, .slice r2 s2 t2, .slice r3 s3 t3, .slice r4 s4 t4, .slice r5 s5 t5][i]?)) := fun wx h => (box_walk (blk_later M1.out.led.box (below_step HB0.out h.out))).1
                have PA : Hid (∀ wx ob, Hid (Below wr.heap.size wr wx) → Hid (Below wr.heap.size wr (wx.alloc ob))) := fun wx ob h => Lib.hid (h.out.alloc h.out.size _)
                have PL : Hid (∀ wx w', Hid (Below wr.heap.size wr wx) → Hid (Below wx.heap.size wx w') → Hid (Below wr.heap.size wr w')) := fun wx w' h hb => Lib.hid (below_step h.out hb.out)
                have PR : Hid (∀ wx k i vs, Hid (Below wr.heap.size wr wx) → wr.heap.size ≤ k → Hid (Below wr.heap.size wr (wx.setCells k i vs))) := fun wx k i vs h hk => Lib.hid (below_sets (Below.refl _ wr) hk vs i wx h.out)
                have BD : Hid (∀ w', Hid (Below (wr.alloc (.cells #[.int .u8 0, .int .u8 0, .int .u8 0, .int .u8 0, .int .u8 0, .int .u8 0, .int .u8 0, .int .u8 0, .int .u8 0, .int .u8 0, .int .u8 0, .int .u8 0, .int .u8 0, .int .u8 0, .int .u8 0, .int .u8 0, .int .u8 0, .int .u8 0, .int .u8 0, .int .u8 0, .int .u8 0, .int .u8 0, .int .u8 0, .int .u8 0, .int .u8 0, .int .u8 0, .int .u8 0, .int .u8 0, .int .u8 0, .int .u8 0, .int .u8 0, .int .u8 0] 39)).drew.heap.size (wr.alloc (.cells #[.int .u8 0, .int .u8 0, .int .u8 0, .int .u8 0, .int .u8 0, .int .u8 0, .int .u8 0, .int .u8 0, .int .u8 0, .int .u8 0, .int .u8 0, .int .u8 0, .int .u8 0, .int .u8 0, .int .u8 0, .int .u8 0, .int .u8 0, .int .u8 0, .int .u8 0, .int .u8 0, .int .u8 0, .int .u8 0, .int .u8 0, .int .u8 0, .int .u8 0, .int .u8 0, .int .u8 0, .int .u8 0, .int .u8 0, .int .u8 0, .int .u8 0, .int .u8 0] 39)).drew w') → Hid (w'.heap[wr.heap.size]? = some (.cells zKey 39 (0, 0))) ∧ wr.heap.size ≤ wr.heap.size) := fun w' hb => ⟨Lib.hid (blk_later (show (wr.alloc (.cells zKey 39)).drew.heap[wr.heap.size]? = _ from heap_alloc_new _ _) hb.out), Nat.le_refl _⟩
                have BN : Hid (∀ Y w', Hid (Below wr.heap.size wr Y) → Hid (Below (Y.alloc (.cells #[.int .u8 0, .int .u8 0, .int .u8 0, .int .u8 0, .int .u8 0, .int .u8 0, .int .u8 0, .int .u8 0, .int .u8 0, .int .u8 0, .int .u8 0, .int .u8 0, .int .u8 0, .int .u8 0, .int .u8 0, .int .u8 0, .int .u8 0, .int .u8 0, .int .u8 0, .int .u8 0, .int .u8 0, .int .u8 0, .int .u8 0, .int .u8 0, .int .u8 0, .int .u8 0, .int .u8 0, .int .u8 0, .int .u8 0, .int .u8 0, .int .u8 0, .int .u8 0] 39)).heap.size (Y.alloc (.cells #[.int .u8 0, .int .u8 0, .int .u8 0, .int .u8 0, .int .u8 0, .int .u8 0, .int .u8 0, .int .u8 0, .int .u8 0, .int .u8 0, .int .u8 0, .int .u8 0, .int .u8 0, .int .u8 0, .int .u8 0, .int .u8 0, .int .u8 0, .int .u8 0, .int .u8 0, .int .u8 0, .int .u8 0, .int .u8 0, .int .u8 0, .int .u8 0, .int .u8 0, .int .u8 0, .int .u8 0, .int .u8 0, .int .u8 0, .int .u8 0, .int .u8 0, .int .u8 0] 39)) w') → Hid (w'.heap[Y.heap.size]? = some (.cells zKey 39 (0, 0))) ∧ wr.heap.size ≤ Y.heap.size) := fun Y w' h hb => ⟨Lib.hid (blk_later (show (Y.alloc (.cells zKey 39)).heap[Y.heap.size]? = _ from heap_alloc_new _ _) hb.out), h.out.size⟩
                have BL : Hid (∀ (k : Nat) (wx w' : World), Hid (wx.heap[k]? = some (.cells zKey 39 (0, 0))) → Hid (Below wx.heap.size wx w') → Hid (w'.heap[k]? = some (.cells zKey 39 (0, 0)))) := fun k wx w' h hb => Lib.hid (blk_later h.out hb.out)
                have hsz : (keyC2 kd).size = 32 := by unfold keyC2; rw [List.size_toArray, List.length_map, HL32.out]
                have hwk : IntKind.u8.wrap (k : Int) = (k : Int) := by simp [IntKind.wrap, IntKind.bits, IntKind.signed]; omega
                have HT1 : Hid (∀ wx : World, (wx.alloc (.cells #[.int .u8 0, .int .u8 0, .int .u8 0, .int .u8 0, .int .u8 0, .int .u8 0, .int .u8 0, .int .u8 0, .int .u8 0, .int .u8 0, .int .u8 0, .int .u8 0, .int .u8 0, .int .u8 0, .int .u8 0, .int .u8 0, .int .u8 0, .int .u8 0, .int .u8 0, .int .u8 0, .int .u8 0, .int .u8 0, .int .u8 0, .int .u8 0, .int .u8 0, .int .u8 0, .int .u8 0, .int .u8 0, .int .u8 0, .int .u8 0, .int .u8 0, .int .u8 0] 39)).there wx.heap.size 0 (kd.map (Value.int .u8)).length) := fun wx => key_there _ _ kd HL32.out (heap_alloc_new wx _)
                have HT2 : Hid (∀ (wx : World) (k : Nat), Hid (wx.heap[k]? = some (.cells zKey 39 (0, 0))) → wx.there k 0 (kd.map (Value.int .u8)).length) := fun wx k h => key_there _ _ kd HL32.out h.out
                have hone : ∀ v ∈ kd.map (Value.int .u8), v.oneCell' = true := fun v hv => by obtain ⟨y, -, rfl⟩ := List.mem_map.1 hv; rfl
                have hinf : (Tryz.prog.info? 39).map (·.size) = some (kd.map (Value.int .u8)).length := by rw [List.length_map, HL32.out]; exact size39
                have P0 : Hid (Below wr.heap.size wr wr) := Lib.hid (Below.refl _ _)
                have P1 := Lib.hid P0.out.drew
                have P2 := Lib.hid (PA.out _ (.cells #[.int .u8 0, .int .u8 0, .int .u8 0, .int .u8 0, .int .u8 0, .int .u8 0, .int .u8 0, .int .u8 0, .int .u8 0, .int .u8 0, .int .u8 0, .int .u8 0, .int .u8 0, .int .u8 0, .int .u8 0, .int .u8 0, .int .u8 0, .int .u8 0, .int .u8 0, .int .u8 0, .int .u8 0, .int .u8 0, .int .u8 0, .int .u8 0, .int .u8 0, .int .u8 0, .int .u8 0, .int .u8 0, .int .u8 0, .int .u8 0, .int .u8 0, .int .u8 0] 39) P0).out.drew
                clear C11 C19 HV HW HFT HBL
                go_upto_region 25 with fail
                go_cut [18, 19] (fun q e wx => ∃ k18 : Nat, q = .pointer (some ⟨k18, 0, none⟩) ∧ e = .int .i64 ke ∧ Hid (Below wr.heap.size wr wx) ∧ Hid (wx.heap[k18]? = some (.cells (keyC2 kd) 39 (0, 0))))
                case first =>
                  go_region_held3 (fun w' => (∀ i, w'.cell? ⟨m, i, none⟩ = #[.int .i64 G.owners, .int .i64 G.need, .slice r2 s2 t2, .slice r3 s3 t3, .slice r4 s4 t4, .slice r5 s5 t5][i]?)) (exact BS.out _ (by repeat (first | with_reducible assumption | with_reducible apply PA.out | (with_reducible refine PR.out _ _ _ _ ?_ (by first | with_reducible assumption | (with_reducible exact QK.out.size)))))) (first | (go_at_call 11; (with_reducible refine (K11.out _).mono ?_); rintro e wJ ⟨rfl, HC⟩; have QJ : Hid (Below wr.heap.size wr wJ) := PL.out _ _ (by repeat (first | with_reducible assumption | with_reducible apply PA.out)) HC; (first | (with_reducible refine useIt2 (BD.out _ HC) (fun MB hMB => ?_)) | skip)) | (go_at_call 19; (with_reducible refine (K19.out _ (by repeat (first | with_reducible assumption | with_reducible apply PA.out))).mono ?_); rintro e wK ⟨rfl, HC⟩; have QK : Hid (Below wr.heap.size wr wK) := PL.out _ _ (by repeat (first | with_reducible assumption | with_reducible apply PA.out)) HC; (first | (with_reducible refine useIt2 (BN.out _ _ (by with_reducible assumption) HC) (fun MB hMB => ?_); have hth := HT2.out _ _ MB) | (with_reducible refine useIt (BL.out _ _ _ MB HC) (fun MB => ?_); have hth := HT2.out _ _ MB) | have hth := HT1.out wK)))
                  · go_wp2_with fail
                    go_meet
                    exact ⟨wK.heap.size, rfl, rfl, PR.out _ _ _ _ (PA.out _ _ QK) QK.out.size, key_sets _ _ kd HL32.out (heap_alloc_new wK _)⟩
                  · go_wp2_with fail
                    go_meet
                    exact ⟨wJ.heap.size, rfl, rfl, PR.out _ _ _ _ QK hMB, key_sets _ _ kd HL32.out MB.out⟩
                  · go_wp2_with fail
                    go_meet
                    exact ⟨wr.heap.size, rfl, rfl, PR.out _ _ _ _ QK hMB, key_sets _ _ kd HL32.out MB.out⟩
                case rest =>
                  obtain ⟨k18, rfl, rfl, Q9, K18⟩ := hcut
                  clear BS PA PL PR BD BN BL HT1 HT2 hone hinf P0 P1 P2 K19 K11 hsz hwk
                  have QB : Hid (Below W2.heap.size W2 wc) := Lib.hid (below_step HB0.out Q9.out)
                  have MC := Lib.hid (M1.out.later QB.out)
                  obtain ⟨f1, f2⟩ := MC.out.flag_at HK4.out hlt
                  have HKR := Lib.hid (MC.out.key_range HK4.out hlt)
                  have HKP : Hid ((p0.1.getD k []).length = 32) := Lib.hid HKR.out.2
                  have x1 := (box_walk MC.out.led.box).1
                  have R18 : Hid (∀ w', (∃ n, w' = wc.drewN n) → w'.rangeAt k18 0 (kd.map (Value.int .u8))) := Lib.hid (fun w' ⟨n, h⟩ => by rw [h, rangeAt_drewN]; exact range_key K18.out)
                  have RK : Hid (∀ w', (∃ n, w' = wc.drewN n) → w'.rangeAt kK (k * 32) ((p0.1.getD k []).map (Value.int .u8))) := Lib.hid (fun w' ⟨n, h⟩ => by rw [h, rangeAt_drewN]; exact HKR.out.1)
                  have HDW : ∀ n, Below W2.heap.size W2 (wc.drewN n) := fun n => below_step QB.out ⟨rfl, rfl, rfl, Nat.le_refl _, fun _ _ => rfl⟩
                  have HDW := Lib.hid HDW
                  generalize p0.1.getD k [] = kp at *
                  clear HKR K18 HDB
                  generalize p0.2.getD k false = fk at *
                  go_upto_region 26 with fail
                  cases fk with
                  | false =>
                    clear HLAW R18 RK
                    go_quiet (fail)
                    go_wp2_with fail
                    go_roundw
                    case rel => exact ⟨k + 1, by omega, by go_num, Lib.hid (HDW.out _)⟩
                    case measure => simp [intOf] <;> omega
                  | true =>
                    obtain ⟨hke, hkd⟩ := HLAW.out rfl
                    by_cases hal : G.need ≤ (alv : Int)
                    · rw [if_pos hal] at hke
                      have hkd := hkd hal
                      clear HLAW
                      subst hke hkd
                      have hd1 : decide (G.need ≤ (alv : Int)) = true := decide_eq_true hal
                      have hd2 : decide ((alv : Int) < G.need) = false := decide_eq_false (by omega)
                      refine wp_region_quiet_lit (by kernel_rfl) (by kernel_rfl) ?_
                      repeat (any_goals (first
                        | (refine wpQuiet_load39 rfl _ rfl k18 0 rfl _ HKP.out R18.out ?_)
                        | (refine wpQuiet_load39 rfl _ rfl kK (k * 32) rfl _ HKP.out RK.out ?_)
                        | (refine wpQuiet_neq39 rfl _ _ _ rfl _ _ rfl rfl HKP.out HKP.out ?_; rw [decide_eq_true rfl])
                        | go_big_quiet_step (fail)
                        | quiet_step (fail)))
                      all_goals (refine wpQuiet_nil ?_; intro _ hw'; obtain ⟨nq, hw''⟩ := hw'; subst hw'')
                      go_wp2_with fail
                      go_roundw
                      case rel => exact ⟨k + 1, by omega, by go_num, Lib.hid (HDW.out _)⟩
                      case measure => simp [intOf] <;> omega
                    · rw [if_neg hal] at hke
                      clear HLAW hkd R18 RK
                      subst hke
                      have hd1 : decide (G.need ≤ (alv : Int)) = false := decide_eq_false hal
                      have hd2 : decide ((alv : Int) < G.need) = true := decide_eq_true (by omega)
                      go_quiet (fail)
                      go_wp2_with fail
                      go_roundw
                      case rel => exact ⟨k + 1, by omega, by go_num, Lib.hid (HDW.out _)⟩
                      case measure => simp [intOf] <;> omega
              · obtain rfl : k = 4 := by omega
                go_wp2
                go_ret
                exact ⟨rfl, below_step M1.out.two.below HB0.out⟩
  · rw [hq] at C28
    go_wp2_with (first
      | (go_at_call 9; refine (C9.out _).mono ?_; rintro e w1 ⟨rfl, b1⟩; have F1 := TL.out _ _ F0 b1)
      | (go_at_call 28; refine (C28.out _ F1.out.below).mono ?_; rintro e w2 ⟨rfl, b2⟩; have F2 := TL.out _ _ F1 b2))
    go_ret
    exact ⟨rfl, F2.out.below⟩
end Go.Proofs.YtpbgipdkaaooeaaGreatDoor
