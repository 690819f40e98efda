/- forget.Key. -/
import Derived.Test.YtpbgipdkaaooeaaGreatDoorZP
import Derived.Test.YtpbgipdkaaooeaaGreatDoorX
import Derived.Test.YtpbgipdkaaooeaaGreatDoorM
import Derived.BigQuiet
import Derived.Deep.DeepCutAuto
import Derived.Deep.MidRow
open Go Go.Proofs Go.RowKit Go.Sort
namespace Go.Proofs.YtpbgipdkaaooeaaGreatDoor
set_option linter.unusedSimpArgs false
set_option linter.unusedVariables false
attribute [local go_sem ↓] Go.wp_at_zero Go.wp_at_succ

/-- The shares that Key combines, of the first i owners. -/
def keyAt (t : ByteArray) (down : List Bool) (ss : List (List HeldD)) : Nat → ShareL
  | 0 => []
  | i + 1 => if 0 ≤ idxD (fun h : HeldD => sEq h.subj t) (ss.getD i []) ∧ (down.length ≤ i ∨ down.getD i false = false)
      then keyAt t down ss i ++ [(((ss.getD i []).getD (idxD (fun h : HeldD => sEq h.subj t) (ss.getD i [])).toNat default).x.toNat, ((ss.getD i []).getD (idxD (fun h : HeldD => sEq h.subj t) (ss.getD i [])).toNat default).b)]
      else keyAt t down ss i
def keyL (g : LedD) (t : ByteArray) (down : List Bool) : ShareL := keyAt t down g.shares g.shares.length
def keyC (g : LedD) (t : ByteArray) : Int := firstErr [(!validB g, 1), ((firstD t g.dones).isSome, 351), ((leftD t g.shares : Int) == 0, 4)]
def keyE (g : LedD) (t : ByteArray) (down : List Bool) : Int :=
  if keyC g t ≠ 0 then keyC g t else if combE (keyL g t down) g.need = 0 ∧ (combD (keyL g t down) g.need).length = 32 then 0 else 40
def keyD (g : LedD) (t : ByteArray) (down : List Bool) : List Int := if keyE g t down = 0 then combD (keyL g t down) g.need else List.replicate 32 0
def KeyRet (w : World) (g : LedD) (t : ByteArray) (down : List Bool) (e : Ending) (w' : World) : Prop :=
  e = .returned (.tuple #[.agg ((keyD g t down).map (Value.int .u8)).toArray, .int .i64 (keyE g t down)]) ∧ Below w.heap.size w w'
/-- A slice of bools. -/
def BoolsR (w : World) (v : Value) (l : List Bool) : Prop := RowR w v 1 (l.map Value.bool) l.length

def zKey : Array Value := #[.int .u8 0, .int .u8 0, .int .u8 0, .int .u8 0, .int .u8 0, .int .u8 0, .int .u8 0, .int .u8 0, .int .u8 0, .int .u8 0, .int .u8 0, .int .u8 0, .int .u8 0, .int .u8 0, .int .u8 0, .int .u8 0, .int .u8 0, .int .u8 0, .int .u8 0, .int .u8 0, .int .u8 0, .int .u8 0, .int .u8 0, .int .u8 0, .int .u8 0, .int .u8 0, .int .u8 0, .int .u8 0, .int .u8 0, .int .u8 0, .int .u8 0, .int .u8 0]
theorem zKey_eq : zKey = ((List.replicate 32 (0 : Int)).map (Value.int .u8)).toArray := by rfl
theorem und39 : Tryz.prog.underlying 39 = some (.array 32 5) := by kernel_rfl
theorem size39 : (Tryz.prog.info? 39).map (·.size) = some 32 := by kernel_rfl
theorem built39 : Tryz.prog.built 39 [] = some zKey := by kernel_rfl
/-- What a list of shares with their subjects holds at each place. -/
theorem helds_at {w : World} {v : Value} {l : List HeldD} (h : HeldsR w v l) : ∃ ai n ci, v = .slice ai n ci ∧ n = l.length ∧ ∀ j (hj : j < l.length), ∃ b off av kv, ai = some ⟨b, off, none⟩ ∧ b < w.heap.size ∧ BytesR w (.slice av l[j].b.length kv) l[j].b ∧ (0 ≤ l[j].x ∧ l[j].x ≤ 255) ∧
    ∀ wx, Below w.heap.size w wx → wx.cell? ⟨b, off + j * 3 + 1, none⟩ = some (.int .u8 l[j].x) ∧ wx.cell? ⟨b, off + j * 3 + 1 + 1, none⟩ = some (.slice av l[j].b.length kv) := by
  obtain ⟨ps, ⟨hlen, ao, cap, rfl, hle, hm, hcell⟩, hare⟩ := h
  have hl := hare.length
  refine ⟨ao, ps.length, cap, rfl, hl, fun j hj => ?_⟩
  have hjp : j < ps.length := by omega
  obtain ⟨b, off, rfl, hbb, hcells⟩ := hcell (by omega)
  obtain ⟨e1, e2, e3, e4⟩ := hare.at j hjp hj
  obtain ⟨-, av, kv, hv, -⟩ := id e4.1
  have hat := heldCells_at ps j hjp
  refine ⟨b, off, av, kv, rfl, hbb, by rw [hv] at e4; exact e4, e3, fun wx hbe => ?_⟩
  have c1 := hcells (j * 3 + 1) (by omega)
  have c2 := hcells (j * 3 + 2) (by omega)
  rw [hat.2.1, e2, ← Nat.add_assoc] at c1
  rw [hat.2.2, hv, ← Nat.add_assoc] at c2
  exact ⟨by rw [hbe.cell (p := ⟨b, off + j * 3 + 1, none⟩) hbb]; exact c1, by rw [hbe.cell (p := ⟨b, off + j * 3 + 1 + 1, none⟩) hbb]; exact c2⟩
/-- What the list of the owners' lists holds at each place. -/
theorem rows_at {w : World} {v : Value} {l : List (List HeldD)} (h : SharesR w v l) : ∃ ai n ci, v = .slice ai n ci ∧ n = l.length ∧ ∀ i (hi : i < l.length), ∃ b off vi, ai = some ⟨b, off, none⟩ ∧ b < w.heap.size ∧ HeldsR w vi l[i] ∧ ∀ wx, Below w.heap.size w wx → wx.cell? ⟨b, off + i, none⟩ = some vi := by
  obtain ⟨vs, ⟨hlen, ao, cap, rfl, hle, hm, hcell⟩, hare⟩ := h
  have hl := hare.length
  refine ⟨ao, vs.length, cap, rfl, hl, fun i hi => ?_⟩
  obtain ⟨b, off, rfl, hbb, hcells⟩ := hcell (by omega)
  have hiv : i < vs.length := by omega
  refine ⟨b, off, vs[i], rfl, hbb, hare.at i hiv hi, fun wx hbe => ?_⟩
  rw [hbe.cell (p := ⟨b, off + i, none⟩) hbb, hcells i (by omega), List.getElem?_eq_getElem hiv]
theorem keyAt_len (t : ByteArray) (down : List Bool) (ss : List (List HeldD)) : ∀ i, (keyAt t down ss i).length ≤ i
  | 0 => by simp [keyAt]
  | i + 1 => by
    have := keyAt_len t down ss i
    unfold keyAt
    split
    · simp; omega
    · omega
theorem idxD_form {α : Type} (p : α → Bool) (l : List α) : idxD p l = -1 ∨ ∃ j : Nat, j < l.length ∧ idxD p l = (j : Int) := by
  unfold idxD
  split
  · exact .inr ⟨_, by assumption, rfl⟩
  · exact .inl rfl
theorem keyAt_bytes (t : ByteArray) (down : List Bool) (ss : List (List HeldD)) (hbl : ∀ r ∈ ss, ∀ s ∈ r, s.b.length ≤ 4096) : ∀ i, i ≤ ss.length → ∀ s ∈ keyAt t down ss i, s.2.length ≤ 4096
  | 0 => fun _ s hs => by simp [keyAt] at hs
  | i + 1 => fun hi s hs => by
    unfold keyAt at hs
    split at hs
    · rename_i hc
      rw [List.mem_append] at hs
      rcases hs with hs | hs
      · exact keyAt_bytes t down ss hbl i (by omega) s hs
      · simp only [List.mem_singleton] at hs
        subst hs
        have hg : ss.getD i [] = ss[i] := by rw [List.getD_eq_getElem?_getD, List.getElem?_eq_getElem (by omega)]; rfl
        rw [hg] at hc ⊢
        rcases idxD_form (fun h : HeldD => sEq h.subj t) ss[i] with h1 | ⟨j, hj, h1⟩
        · rw [h1] at hc; omega
        · rw [h1]
          simp only [Int.toNat_natCast]
          rw [List.getD_eq_getElem?_getD, List.getElem?_eq_getElem hj]
          exact hbl _ (List.getElem_mem _) _ (List.getElem_mem hj)
    · exact keyAt_bytes t down ss hbl i (by omega) s hs
/-- Key's loop, at owner i. -/
structure KeyInv (w : World) (A : Array Value) (K : Nat) (g : LedD) (t : ByteArray) (down : List Bool) (i : Nat) (ao : Option Addr) (cp : Nat) (ps : List (Int × Value)) (wr : World) : Prop where
  box : TwoBox w A zKey 26 39 wr
  own : wr.ownsRow K 81 2 (.slice ao ps.length cp) ps.length (shareCells ps)
  are : SharesAre w ps (keyAt t down g.shares i)
  base : w.heap.size + 2 ≤ K
  le : K ≤ wr.heap.size
theorem KeyInv.later {w wr w' : World} {A : Array Value} {K i cp : Nat} {g : LedD} {t : ByteArray} {down : List Bool} {ao : Option Addr} {ps : List (Int × Value)} (h : KeyInv w A K g t down i ao cp ps wr) (hb : Below wr.heap.size wr w') : KeyInv w A K g t down i ao cp ps w' :=
  ⟨h.box.later hb, owns_later h.own hb, h.are, h.base, Nat.le_trans h.le hb.size⟩
theorem TwoBox.kept {w wx w' : World} {c1 c2 : Array Value} {t1 t2 : TypeId} (h : TwoBox w c1 c2 t1 t2 wx) {o : Option Nat} (hg : wx.grownBy w' o) (ho : ∀ k, o = some k → w.heap.size + 2 ≤ k) : TwoBox w c1 c2 t1 t2 w' :=
  have lt1 := lt_of_blk h.one
  have lt2 := lt_of_blk h.two
  ⟨h.below.trans ⟨hg.os, hg.tape, hg.output, hg.size, fun k hk => hg.block k (by omega) (fun e => by have := ho k e.symm; omega)⟩,
   (hg.block _ lt1 (fun e => by have := ho _ e.symm; omega)).trans h.one, (hg.block _ lt2 (fun e => by have := ho _ e.symm; omega)).trans h.two⟩
theorem KeyInv.step {w wr w7 : World} {A : Array Value} {K i cp g' cap' p : Nat} {g : LedD} {t : ByteArray} {down : List Bool} {ao : Option Addr} {ps : List (Int × Value)} {v : Value} {bs : List Int} (h : KeyInv w A K g t down i ao cp ps wr)
    (hk : keyAt t down g.shares (i + 1) = keyAt t down g.shares i ++ [(p, bs)]) (hp : p < 256) (hb : BytesR w v bs)
    (hown : w7.ownsRow K 81 2 (.slice (some ⟨g', 0, none⟩) (ps.length + 1) cap') (ps.length + 1) (shareCells ps ++ [.int .u8 p, v])) (hg : wr.grownBy w7 (Value.slice ao ps.length cp).ownBlock) :
    KeyInv w A K g t down (i + 1) (some ⟨g', 0, none⟩) cap' (ps ++ [((p : Int), v)]) w7 := by
  have hlen : (ps ++ [((p : Int), v)]).length = ps.length + 1 := by simp
  refine ⟨h.box.kept hg (fun k hk => Nat.le_trans h.base (h.own.lt k hk).1), ?_, by rw [hk]; exact h.are.snoc hp hb, h.base, Nat.le_trans h.le hg.size⟩
  rw [hlen, shareCells_snoc]; exact hown
def keyC2 (ks : List Int) : Array Value := (ks.map (Value.int .u8)).toArray
theorem keyC2_one (ks : List Int) : (keyC2 ks).all (·.oneCell') = true := by
  rw [Array.all_eq_true_iff_forall_mem]
  intro x hx
  simp [keyC2] at hx
  obtain ⟨y, -, rfl⟩ := hx
  rfl
theorem keyC2_size (ks : List Int) (h : ks.length = 32) : (Tryz.prog.info? 39).map (·.size) = some (keyC2 ks).size := by rw [size39]; simp [keyC2, h]
/-- Key's result box, and the world at the end. -/
theorem key_end {w w2 : World} {A : Array Value} (F2 : TwoBox w A zKey 26 39 w2) (ks : List Int) (hk : ks.length = 32) :
    (loadVar 39 ⟨w.heap.size + 1, 0, none⟩).run Tryz.prog (w2.setRow (w.heap.size + 1) (keyC2 ks)) = .ok (.agg (keyC2 ks)) (w2.setRow (w.heap.size + 1) (keyC2 ks)) ∧ Below w.heap.size w (w2.setRow (w.heap.size + 1) (keyC2 ks)) :=
  ⟨run_loadVar_row _ _ 39 39 (keyC2 ks) (0, 0) _ (setRow_heap w2 (w.heap.size + 1) zKey (keyC2 ks) 39 (0, 0) F2.two) und39 rfl (keyC2_size ks hk),
   F2.below.trans ⟨rfl, rfl, rfl, by simp, fun k hk => setRow_other w2 (w.heap.size + 1) k _ (by omega)⟩⟩
theorem KeyInv.skip {w wr : World} {A : Array Value} {K i cp : Nat} {g : LedD} {t : ByteArray} {down : List Bool} {ao : Option Addr} {ps : List (Int × Value)} (h : KeyInv w A K g t down i ao cp ps wr)
    (hk : keyAt t down g.shares (i + 1) = keyAt t down g.shares i) : KeyInv w A K g t down (i + 1) ao cp ps wr := ⟨h.box, h.own, by rw [hk]; exact h.are, h.base, h.le⟩
theorem keyAt_no (t : ByteArray) (down : List Bool) (ss : List (List HeldD)) (i : Nat) (hi : i < ss.length) (h : ¬ (0 ≤ idxD (fun h : HeldD => sEq h.subj t) ss[i] ∧ (down.length ≤ i ∨ down.getD i false = false))) : keyAt t down ss (i + 1) = keyAt t down ss i := by
  have hg : ss.getD i [] = ss[i] := by rw [List.getD_eq_getElem?_getD, List.getElem?_eq_getElem hi]; rfl
  rw [keyAt, hg, if_neg h]
theorem keyAt_yes (t : ByteArray) (down : List Bool) (ss : List (List HeldD)) (i j : Nat) (hi : i < ss.length) (hj : j < ss[i].length) (hk : idxD (fun h : HeldD => sEq h.subj t) ss[i] = (j : Int)) (h : down.length ≤ i ∨ down.getD i false = false) :
    keyAt t down ss (i + 1) = keyAt t down ss i ++ [((ss[i][j]).x.toNat, (ss[i][j]).b)] := by
  have hg : ss.getD i [] = ss[i] := by rw [List.getD_eq_getElem?_getD, List.getElem?_eq_getElem hi]; rfl
  rw [keyAt, hg, if_pos ⟨by rw [hk]; omega, h⟩, hk, Int.toNat_natCast]
  rw [List.getD_eq_getElem?_getD, List.getElem?_eq_getElem hj]; rfl
theorem news_two (w : World) (a b : Value) (t : TypeId) (k : Nat) (hk : k = w.heap.size) : ∀ (i : Nat) (u : Value), [a, b][i]? = some u → (w.alloc (.cells #[a, b] t)).cell? ((⟨k, 0, none⟩ : Addr).add i) = some u := by
  subst hk
  intro i u hi
  match i, hi with
  | 0, hi => simp at hi; subst hi; simp [Addr.add]
  | 1, hi => simp at hi; subst hi; simp [Addr.add]
theorem arr_39 (w : World) (a : Option Addr) (c : Nat) : (Instr.arrayAt 39 (.slice a 32 c)).run Tryz.prog w = .ok (.pointer a) w := by
  simp [Instr.arrayAt, run_underlying und39]
theorem bytes_range {w : World} {ab : Option Addr} {cb : Nat} {xs : List Int} (h : BytesR w (.slice ab 32 cb) xs) (hx : xs.length = 32) : ∃ b off, ab = some ⟨b, off, none⟩ ∧ w.rangeAt b off (xs.map (Value.int .u8)) := by
  obtain ⟨⟨-, a', c', hv, -, -, hc⟩, -⟩ := h
  simp only [Value.slice.injEq] at hv
  obtain ⟨rfl, -, -⟩ := hv
  obtain ⟨b, off, rfl, hb, hcell⟩ := hc (by omega)
  refine ⟨b, off, rfl, fun j v hj => ?_⟩
  have hjl : j < xs.length := by
    have := (List.getElem?_eq_some_iff.1 hj).1
    simpa using this
  rw [hcell j (by omega)]; exact hj
set_option maxRecDepth 100000 in
set_option maxHeartbeats 2000000 in
theorem key_19 (w : World) (v vd : Value) (g : LedD) (t : ByteArray) (down : List Bool) (h : LedR w v g) (hf : Fits g) (hd : BoolsR w vd down) (hbl : ∀ r ∈ g.shares, ∀ s ∈ r, s.b.length ≤ 4096) :
    Calls Tryz.prog 19 #[v, .string t, vd] w (KeyRet w g t down) := by
  obtain ⟨v2, v3, v4, v5, rfl, hrest⟩ := id h
  obtain ⟨H2, -, H4, H5⟩ := hrest
  have F0 := TwoBox.laid w #[.int .i64 g.owners, .int .i64 g.need, v2, v3, v4, v5] zKey 26 39
  have AV : Hid (∀ wx, Below w.heap.size w wx → Calls Tryz.prog 41 #[.agg #[.int .i64 g.owners, .int .i64 g.need, v2, v3, v4, v5]] wx fun e w' => e = .returned (.bool (validB g)) ∧ Below wx.heap.size wx w') := fun wx hb => valid_41 wx _ g (h.later hb)
  have AH : Hid (∀ wx, Below w.heap.size w wx → Calls Tryz.prog 42 #[v5, .string t] wx fun e w' => e = .returned (.bool (firstD t g.dones).isSome) ∧ Below wx.heap.size wx w') := fun wx hb => has_42 wx v5 g.dones t (H5.later hb) (by have := hf.e; omega)
  have AL : Hid (∀ wx, Below w.heap.size w wx → Calls Tryz.prog 43 #[.agg #[.int .i64 g.owners, .int .i64 g.need, v2, v3, v4, v5], .string t] wx fun e w' => e = .returned (.int .i64 (leftD t g.shares)) ∧ Below wx.heap.size wx w') := fun wx hb => left_43 wx _ g t (h.later hb) (by have := hf.s; omega) (fun r hr => by have := hf.r r hr; omega)
  have HC : Hid (keyC g t = firstErr [(!validB g, 1), ((firstD t g.dones).isSome, 351), ((leftD t g.shares : Int) == 0, 4)]) := rfl
  have HKE : Hid (keyE g t down = if keyC g t ≠ 0 then keyC g t else if combE (keyL g t down) g.need = 0 ∧ (combD (keyL g t down) g.need).length = 32 then 0 else 40) := rfl
  have HKD : Hid (keyD g t down = if keyE g t down = 0 then combD (keyL g t down) g.need else List.replicate 32 0) := rfl
  obtain ⟨a2, n, c2, rfl, hn2, HR⟩ := rows_at H2
  replace HR := Lib.hid HR
  have HN2 := Lib.hid hn2
  have hn5 : n ≤ 4095 := by have := hf.s; omega
  have HFR : Hid (∀ i (hi : i < g.shares.length), g.shares[i].length ≤ 4095) := fun i hi => hf.r _ (List.getElem_mem hi)
  have HBL : Hid (∀ s ∈ keyL g t down, s.2.length ≤ 4096) := Lib.hid (keyAt_bytes t down g.shares hbl _ (Nat.le_refl _))
  obtain ⟨hdl, ad, cd, rfl, hdle, hdm, hdc⟩ := hd
  have HDC : Hid (∀ i, i < down.length → ∃ b off, ad = some ⟨b, off, none⟩ ∧ b < w.heap.size ∧ ∀ wx, Below w.heap.size w wx → wx.cell? ⟨b, off + i, none⟩ = some (.bool (down.getD i false))) := fun i hi => by
    obtain ⟨b, off, e, hb, hc⟩ := hdc (by omega)
    refine ⟨b, off, e, hb, fun wx hbe => ?_⟩
    rw [hbe.cell (p := ⟨b, off + i, none⟩) hb, hc i (by omega), List.getElem?_map, List.getElem?_eq_getElem hi, List.getD_eq_getElem?_getD, List.getElem?_eq_getElem hi]; rfl
  have HDL : Hid (down.length ≤ cd) := Lib.hid hdle
  have HZ : Hid (zKey.size = 32) := Lib.hid rfl
  clear h hf H2 H4 H5 hbl hdl hdc hdle hdm hn2
  obtain ⟨dl, hdl⟩ : ∃ dl, dl = down.length := ⟨_, rfl⟩
  rw [← hdl] at HDC HDL ⊢
  have HDN := Lib.hid hdl
  clear hdl
  go_enter Tryz.func19, Tryz.ntmps19
  go_upto_region 1 with fail
  have HZK : Hid (zKey = #[.int .u8 0, .int .u8 0, .int .u8 0, .int .u8 0, .int .u8 0, .int .u8 0, .int .u8 0, .int .u8 0, .int .u8 0, .int .u8 0, .int .u8 0, .int .u8 0, .int .u8 0, .int .u8 0, .int .u8 0, .int .u8 0, .int .u8 0, .int .u8 0, .int .u8 0, .int .u8 0, .int .u8 0, .int .u8 0, .int .u8 0, .int .u8 0, .int .u8 0, .int .u8 0, .int .u8 0, .int .u8 0, .int .u8 0, .int .u8 0, .int .u8 0, .int .u8 0]) := Lib.hid rfl
  rw [← HZK.out]
  clear HZK
  generalize hW : (w.alloc (.cells #[.int .i64 g.owners, .int .i64 g.need, .slice a2 n c2, v3, v4, v5] 26)).alloc (.cells zKey 39) = W at *
  clear hW
  have c1 := class_cells F0.one
  have cV := class_call (W := W) (fun wx hb => AV.out wx (below_step F0.below hb))
  have cH := class_call (W := W) (fun wx hb => AH.out wx (below_step F0.below hb))
  have cL := class_call (W := W) (fun wx hb => AL.out wx (below_step F0.below hb))
  refine wp_region_quiet_tail (C := fun w' => ∃ p : Regrown, w' = grow (redrawn W p.d) p.os) 14 (by kernel_rfl) (by kernel_rfl) ⟨⟨W.drawn + 1, #[]⟩, by rw [grow_empty]; rfl⟩ ?_
  dsimp only [List.take, List.drop]
  repeat (go_big_quiet_step (first | with_reducible exact cV _ _ | with_reducible exact cH _ _ | with_reducible exact cL _ _))
  refine wpQuiet_nil ?_
  intro w1 hw1
  have b1 := regrown_below hw1
  clear hw1 c1 cV cH cL AV AH AL
  have F1 := F0.later b1
  clear b1 F0
  have CF := Lib.hid (first_40 (w1.alloc (.cells #[.bool (!validB g), .int .i64 1, .bool (firstD t g.dones).isSome, .int .i64 351, .bool ((leftD t g.shares : Int) == 0), .int .i64 4] 95)) _ [(!validB g, 1), ((firstD t g.dones).isSome, 351), ((leftD t g.shares : Int) == 0, 4)] (checks_r w1 _ 95 _ (by rfl) w1.heap.size 3 rfl rfl (by simp)) (by simp))
  rw [← HC.out] at CF
  generalize keyC g t = fe at *
  have CF2 : Hid (Calls Tryz.prog 40 #[.slice (some ⟨w1.heap.size, 0, none⟩) 3 3] (w1.alloc (.cells #[.bool (!validB g), .int .i64 1, .bool (firstD t g.dones).isSome, .int .i64 351, .bool ((leftD t g.shares : Int) == 0), .int .i64 4] 95)) fun e w2 => e = .returned (.int .i64 fe) ∧ Hid (TwoBox w #[.int .i64 g.owners, .int .i64 g.need, .slice a2 n c2, v3, v4, v5] zKey 26 39 w2)) := Lib.hid (CF.out.mono fun e w2 h =>
    ⟨h.1, F1.later (((Below.refl _ _).alloc (Nat.le_refl _) _).trans (h.2.mono (by simp)))⟩)
  have ONE : zKey.all (·.oneCell') = true := by rw [zKey_eq]; exact keyC2_one _
  have S39 : (Tryz.prog.info? 39).map (·.size) = some zKey.size := by rw [HZ.out]; exact size39
  replace ONE := Lib.hid ONE
  replace S39 := Lib.hid S39
  clear F1 CF
  by_cases hfe : fe = 0
  · subst hfe
    have HE : Hid (keyE g t down = if combE (keyL g t down) g.need = 0 ∧ (combD (keyL g t down) g.need).length = 32 then 0 else 40) := Lib.hid (by rw [HKE.out, if_neg (by simp)])
    clear HKE
    go_upto_region 5 with (go_at_call 40; refine CF2.out.mono ?_; rintro e w2 ⟨rfl, F2⟩)
    obtain ⟨i0, HI0⟩ := info81
    replace HI0 := Lib.hid HI0
    obtain ⟨x1, x2, x3, x4, x5⟩ := F2.out.walk
    obtain ⟨AA, hAA⟩ : ∃ AA : Array Value, AA = #[.int .i64 g.owners, .int .i64 g.need, .slice a2 n c2, v3, v4, v5] := ⟨_, rfl⟩
    have HAA : Hid (AA[1]? = some (.int .i64 g.need)) := Lib.hid (by rw [hAA]; rfl)
    rw [← hAA] at F2
    clear hAA
    have I0 : Hid (KeyInv w AA w2.heap.size g t down 0 none 0 [] w2) := Lib.hid ⟨F2.out, ⟨rfl, .inl ⟨rfl, rfl⟩⟩, .nil, lt_of_blk F2.out.two, Nat.le_refl _⟩
    clear CF2
    generalize w2.heap.size = K at *
    go_wp2
    clear x1 x2 x3 x4 x5
    go_loopw [9, 38] (fun o c wr => ∃ (i : Nat) (ao : Option Addr) (cp : Nat) (ps' : List (Int × Value)), i ≤ n ∧ o = .slice ao ps'.length cp ∧ c = .int .i64 ((i : Nat) : Int) ∧ Hid (KeyInv w AA K g t down i ao cp ps' wr)) (fun _ c _ => n - (intOf c).toNat)
    case atStart => exact ⟨0, none, 0, [], Nat.zero_le _, rfl, rfl, I0⟩
    case round =>
      clear I0
      obtain ⟨i, ao, cp, ps', hi, rfl, rfl, HI'⟩ := hrel
      have hpl := HI'.out.are.length
      have hpl2 := keyAt_len t down g.shares i
      have hpl3 : ps'.length ≤ 4095 := by omega
      clear hpl hpl2
      by_cases hlt : i < n
      · have his : i < g.shares.length := by rw [← HN2.out]; exact hlt
        obtain ⟨b, off, vi, rfl, hbb, hvi, hci⟩ := HR.out i his
        have CX0 := idx_58 (wr.alloc (.cells #[.string t] 9)) vi g.shares[i] t wr.heap.size (hvi.later (HI'.out.box.below.trans ((Below.refl _ _).alloc HI'.out.box.below.size _))) ((blk_cells (heap_alloc_new wr (.cells #[.string t] 9))).1 0) (by simp) (by have := HFR.out i his; omega)
        obtain ⟨ai, ri, ci, rfl, hri, HJ⟩ := helds_at hvi
        replace HJ := Lib.hid HJ
        replace hri := Lib.hid hri
        have c1 := hci wr HI'.out.box.below
        have hbr : b < wr.heap.size := Nat.lt_of_lt_of_le hbb HI'.out.box.below.size
        clear hci hvi
        obtain ⟨kk, hkk⟩ : ∃ kk, kk = idxD (fun h : HeldD => sEq h.subj t) g.shares[i] := ⟨_, rfl⟩
        rw [← hkk] at CX0
        have CX : Hid (Calls Tryz.prog 58 #[.slice ai ri ci, .func (.func 85) #[] #[.pointer (some ⟨wr.heap.size, 0, none⟩)]] (wr.alloc (.cells #[.string t] 9)) fun e w5 => e = .returned (.int .i64 kk) ∧ Hid (KeyInv w AA K g t down i ao cp ps' w5) ∧ Hid (Below w.heap.size w w5)) := Lib.hid (CX0.mono fun e w5 h => by
          have hb1 := below_step ((Below.refl wr.heap.size wr).alloc (Nat.le_refl _) (.cells #[.string t] 9)) h.2
          exact ⟨h.1, HI'.out.later hb1, below_step HI'.out.box.below hb1⟩)
        clear CX0
        have hkf := idxD_form (fun h : HeldD => sEq h.subj t) g.shares[i]
        rcases hkf with h1 | ⟨j, hj, h1⟩
        · have HNO := Lib.hid (keyAt_no t down g.shares i his (by rw [h1]; omega))
          rw [h1] at hkk
          subst hkk
          clear h1 HJ HR
          obtain ⟨pl, hpl⟩ : ∃ pl, pl = ps'.length := ⟨_, rfl⟩
          rw [← hpl]
          rw [← hpl] at hpl3
          replace hpl := Lib.hid hpl
          go_wp2_with (first
            | (go_at_call 54; refine (of_54 _ _).mono ?_; rintro e w3 ⟨rfl, rfl⟩)
            | (go_at_call 58; refine CX.out.mono ?_; rintro e w5 ⟨rfl, hi5, hb5⟩))
          have HX := Lib.hid (hi5.out.skip HNO.out)
          go_roundw
          case rel => exact ⟨i + 1, ao, cp, ps', by omega, by rw [hpl.out], by go_num, HX⟩
          case measure => simp [intOf] <;> omega
        · rw [h1] at hkk
          subst hkk
          obtain ⟨bj, oj, av, kv, hai, hbb2, hbj, hx, hcj⟩ := HJ.out j hj
          obtain ⟨p, hpx0⟩ : ∃ p : Nat, g.shares[i][j].x = (p : Int) := ⟨g.shares[i][j].x.toNat, by omega⟩
          have HKY0 := Lib.hid (keyAt_yes t down g.shares i j his hj h1)
          rw [hpx0, Int.toNat_natCast] at HKY0
          have hp : p < 256 := by omega
          rw [hpx0] at hcj
          have hjr : j < ri := by rw [hri.out]; exact hj
          have HN1 := Lib.hid (keyAt_no t down g.shares i his)
          rw [h1] at HN1
          clear h1 HJ HR hx
          subst hai
          generalize g.shares[i][j].b = bs at *
          generalize bs.length = lb at *
          by_cases hdi : dl ≤ i
          · have HKY := Lib.hid (HKY0.out (.inl (by rw [← HDN.out]; exact hdi)))
            clear HKY0 HDC HN1
            have STEP : Hid (∀ (w5 w7 : World) (g' cap' : Nat), Hid (KeyInv w AA K g t down i ao cp ps' w5) → w7.ownsRow K 81 2 (.slice (some ⟨g', 0, none⟩) (ps'.length + 1) cap') (ps'.length + 1) (shareCells ps' ++ [.int .u8 (p : Int), .slice av lb kv]) → (w5.alloc (.cells #[.int .u8 (p : Int), .slice av lb kv] 81)).grownBy w7 (Value.slice ao ps'.length cp).ownBlock → Hid (KeyInv w AA K g t down (i + 1) (some ⟨g', 0, none⟩) cap' (ps' ++ [((p : Int), .slice av lb kv)]) w7)) := fun w5 w7 g' cap' h1 h2 h3 => (h1.out.later ((Below.refl _ _).alloc (Nat.le_refl _) _)).step HKY.out hp hbj h2 h3
            have OWN : Hid (∀ w5, Hid (KeyInv w AA K g t down i ao cp ps' w5) → (w5.alloc (.cells #[.int .u8 (p : Int), .slice av lb kv] 81)).ownsRow K 81 2 (.slice ao ps'.length cp) ps'.length (shareCells ps') ∧ K ≤ (w5.alloc (.cells #[.int .u8 (p : Int), .slice av lb kv] 81)).heap.size) := fun w5 h1 => ⟨(h1.out.later ((Below.refl _ _).alloc (Nat.le_refl _) _)).own, (h1.out.later ((Below.refl _ _).alloc (Nat.le_refl _) _)).le⟩
            have HONE : Hid (∀ u ∈ [Value.int .u8 (p : Int), .slice av lb kv], u.oneCell' = true) := by
              refine Lib.hid ?_
              intro u hu; simp at hu; rcases hu with rfl | rfl <;> rfl
            have HLP : Hid ((ps' ++ [((p : Int), Value.slice av lb kv)]).length = ps'.length + 1) := Lib.hid (by simp)
            have HIB := Lib.hid HI'.out.box.below
            have HCJ := Lib.hid hcj
            replace hbb2 := Lib.hid hbb2
            clear hcj HKY hbj
            generalize hpx : ps' ++ [((p : Int), Value.slice av lb kv)] = px at *
            generalize shareCells ps' = sc at *
            generalize ps'.length = pl at *
            go_wp2_with (first
              | (go_at_call 54; refine (of_54 _ _).mono ?_; rintro e w3 ⟨rfl, rfl⟩)
              | (go_at_call 58; refine CX.out.mono ?_; rintro e w5 ⟨rfl, hi5, hb5⟩; clear c1; obtain ⟨c1, c2⟩ := HCJ.out w5 hb5.out; have c3 := Nat.lt_of_lt_of_le hbb2.out hb5.out.size
                 obtain ⟨ow5, kw5⟩ := OWN.out w5 hi5)
              | (refine wpList_append_lies _ rfl (.tmp 62) (.tmp 68) 71 rfl K 81 i0 _ 2 32 und71 HI0.out.1 HI0.out.2.1 HI0.out.2.2.1 HI0.out.2.2.2 rfl (by decide) (.slice ao pl cp) pl sc (by simp [Act.eval, Act.put]) ow5 ⟨w5.heap.size, 0, none⟩ 1 1 [.int .u8 (p : Int), .slice av lb kv] (by simp [Act.eval, Act.put]) rfl (news_two w5 _ _ 81 _ rfl) HONE.out (by omega) (by unfold maxLen; omega) (by omega) kw5 _ rfl ?_; intro g' cap' w7 hown hg hat hlt7; have HX := STEP.out w5 w7 g' cap' hi5 hown hg))
            go_roundw
            case rel => exact ⟨i + 1, some ⟨g', 0, none⟩, cap', px, by omega, by rw [HLP.out], by go_num, HX⟩
            case measure => simp [intOf] <;> omega
          · obtain ⟨bd, od, rfl, hbd, hcd⟩ := HDC.out i (by omega)
            have HD1 := Lib.hid hcd
            replace hbd := Lib.hid hbd
            clear hcd
            have hdi2 : i < dl := by omega
            rcases hq : down.getD i false with _ | _
            · have HKY := Lib.hid (HKY0.out (.inr hq))
              rw [hq] at HD1
              clear HKY0 hq HN1
              have STEP : Hid (∀ (w5 w7 : World) (g' cap' : Nat), Hid (KeyInv w AA K g t down i ao cp ps' w5) → w7.ownsRow K 81 2 (.slice (some ⟨g', 0, none⟩) (ps'.length + 1) cap') (ps'.length + 1) (shareCells ps' ++ [.int .u8 (p : Int), .slice av lb kv]) → (w5.alloc (.cells #[.int .u8 (p : Int), .slice av lb kv] 81)).grownBy w7 (Value.slice ao ps'.length cp).ownBlock → Hid (KeyInv w AA K g t down (i + 1) (some ⟨g', 0, none⟩) cap' (ps' ++ [((p : Int), .slice av lb kv)]) w7)) := fun w5 w7 g' cap' h1 h2 h3 => (h1.out.later ((Below.refl _ _).alloc (Nat.le_refl _) _)).step HKY.out hp hbj h2 h3
              have OWN : Hid (∀ w5, Hid (KeyInv w AA K g t down i ao cp ps' w5) → (w5.alloc (.cells #[.int .u8 (p : Int), .slice av lb kv] 81)).ownsRow K 81 2 (.slice ao ps'.length cp) ps'.length (shareCells ps') ∧ K ≤ (w5.alloc (.cells #[.int .u8 (p : Int), .slice av lb kv] 81)).heap.size) := fun w5 h1 => ⟨(h1.out.later ((Below.refl _ _).alloc (Nat.le_refl _) _)).own, (h1.out.later ((Below.refl _ _).alloc (Nat.le_refl _) _)).le⟩
              have HONE : Hid (∀ u ∈ [Value.int .u8 (p : Int), .slice av lb kv], u.oneCell' = true) := by
                refine Lib.hid ?_
                intro u hu; simp at hu; rcases hu with rfl | rfl <;> rfl
              have HLP : Hid ((ps' ++ [((p : Int), Value.slice av lb kv)]).length = ps'.length + 1) := Lib.hid (by simp)
              have HIB := Lib.hid HI'.out.box.below
              have HCJ := Lib.hid hcj
              replace hbb2 := Lib.hid hbb2
              clear hcj HKY hbj
              generalize hpx : ps' ++ [((p : Int), Value.slice av lb kv)] = px at *
              generalize shareCells ps' = sc at *
              generalize ps'.length = pl at *
              go_wp2_with (first
                | (go_at_call 54; refine (of_54 _ _).mono ?_; rintro e w3 ⟨rfl, rfl⟩)
                | (go_at_call 58; refine CX.out.mono ?_; rintro e w5 ⟨rfl, hi5, hb5⟩; clear c1; obtain ⟨c1, c2⟩ := HCJ.out w5 hb5.out; have c3 := Nat.lt_of_lt_of_le hbb2.out hb5.out.size
                   obtain ⟨ow5, kw5⟩ := OWN.out w5 hi5; have d1 := HD1.out w5 hb5.out; have d2 := Nat.lt_of_lt_of_le hbd.out hb5.out.size)
                | (refine wpList_append_lies _ rfl (.tmp 62) (.tmp 68) 71 rfl K 81 i0 _ 2 32 und71 HI0.out.1 HI0.out.2.1 HI0.out.2.2.1 HI0.out.2.2.2 rfl (by decide) (.slice ao pl cp) pl sc (by simp [Act.eval, Act.put]) ow5 ⟨w5.heap.size, 0, none⟩ 1 1 [.int .u8 (p : Int), .slice av lb kv] (by simp [Act.eval, Act.put]) rfl (news_two w5 _ _ 81 _ rfl) HONE.out (by omega) (by unfold maxLen; omega) (by omega) kw5 _ rfl ?_; intro g' cap' w7 hown hg hat hlt7; have HX := STEP.out w5 w7 g' cap' hi5 hown hg))
              go_roundw
              case rel => exact ⟨i + 1, some ⟨g', 0, none⟩, cap', px, by omega, by rw [HLP.out], by go_num, HX⟩
              case measure => simp [intOf] <;> omega
            · have HNO := Lib.hid (HN1.out (by have := HDN.out; rw [hq]; simp; omega))
              rw [hq] at HD1
              clear HKY0 hq HN1 hcj hbj
              obtain ⟨pl, hpl⟩ : ∃ pl, pl = ps'.length := ⟨_, rfl⟩
              rw [← hpl]
              rw [← hpl] at hpl3
              replace hpl := Lib.hid hpl
              go_wp2_with (first
                | (go_at_call 54; refine (of_54 _ _).mono ?_; rintro e w3 ⟨rfl, rfl⟩)
                | (go_at_call 58; refine CX.out.mono ?_; rintro e w5 ⟨rfl, hi5, hb5⟩; have d1 := HD1.out w5 hb5.out; have d2 := Nat.lt_of_lt_of_le hbd.out hb5.out.size))
              have HX := Lib.hid (hi5.out.skip HNO.out)
              go_roundw
              case rel => exact ⟨i + 1, ao, cp, ps', by omega, by rw [hpl.out], by go_num, HX⟩
              case measure => simp [intOf] <;> omega
      · obtain rfl : i = n := by omega
        have HLL : Hid (keyAt t down g.shares i = keyL g t down) := Lib.hid (by unfold keyL; rw [← HN2.out])
        have CB0 := comb_59 wr (.slice ao ps'.length cp) ps' (keyL g t down) g.need (RowR.of_owns HI'.out.own) (by rw [← HLL.out]; exact HI'.out.are.later HI'.out.box.below) (by omega) HBL.out
        have CB : Hid (Calls Tryz.prog 59 #[.slice ao ps'.length cp, .int .i64 g.need] wr fun e w5 => ∃ ab cb, e = .returned (.tuple #[.slice ab (combD (keyL g t down) g.need).length cb, .int .i64 (combE (keyL g t down) g.need)]) ∧ Hid (BytesR w5 (.slice ab (combD (keyL g t down) g.need).length cb) (combD (keyL g t down) g.need)) ∧ Hid (TwoBox w AA zKey 26 39 w5)) := Lib.hid (CB0.mono fun e w5 h => by
          obtain ⟨v', rfl, hb, hbe⟩ := h
          obtain ⟨-, ab, cb, rfl, -⟩ := id hb.1
          exact ⟨ab, cb, rfl, hb, HI'.out.box.later hbe⟩)
        obtain ⟨x1, x2, x3, x4, x5⟩ := HI'.out.box.walk
        have c1 := (x1 1).trans HAA.out
        clear x1 x2 x3 x4 CB0 HLL HBL HDC HFR HR
        have hks : Hid (∀ y ∈ combD (keyL g t down) g.need, True) := fun _ _ => trivial
        generalize combD (keyL g t down) g.need = ks at *
        generalize combE (keyL g t down) g.need = ce at *
        generalize ps'.length = pl at *
        by_cases hce : ce = 0
        · by_cases hlb : ks.length = 32
          · subst hce
            rw [if_pos ⟨rfl, hlb⟩] at HE
            rw [if_pos HE.out] at HKD
            have HLB := Lib.hid hlb
            rw [hlb] at CB
            clear hlb
            go_upto_region 15 with (go_at_call 59; refine CB.out.mono ?_; rintro e w5 ⟨ab, cb, rfl, hby, F5⟩)
            obtain ⟨bk, ok, rfl, hrng⟩ := bytes_range hby.out HLB.out
            have harr := arr_39 w5 (some ⟨bk, ok, none⟩) cb
            have hrng := Lib.hid hrng
            have SK := Lib.hid (keyC2_size ks HLB.out)
            have OK := Lib.hid (keyC2_one ks)
            have SK2 : Hid ((Tryz.prog.info? 39).map (·.size) = some (ks.map (Value.int .u8)).length) := Lib.hid (by rw [size39]; simp [HLB.out])
            have HZS : Hid (zKey.size = (keyC2 ks).size) := Lib.hid (by rw [HZ.out]; simp [keyC2, HLB.out])
            go_wp2_with (first
              | (refine wpList_load_mid rfl 39 _ rfl bk ok rfl (ks.map (Value.int .u8)) _ hrng.out und39 rfl SK2.out ?_)
              | (refine wpList_store_row rfl 39 _ _ rfl (w.heap.size + 1) (keyC2 ks) rfl rfl 39 zKey F5.out.two SK.out HZS.out OK.out ?_))
            obtain ⟨hld, hbe⟩ := key_end F5.out ks HLB.out
            refine bodyPost_ret (v := .tuple #[.agg (keyC2 ks), .int .i64 0]) (by simp [results, Tryz.results19, asAddr, hld]) rfl ⟨?_, hbe⟩
            rw [HE.out, HKD.out]; rfl
          · subst hce
            have HE2 : Hid (keyE g t down = 40) := Lib.hid (by rw [HE.out, if_neg (fun h => hlb h.2)])
            have HD2 : Hid (keyD g t down = List.replicate 32 0) := Lib.hid (by rw [HKD.out, if_neg (by rw [HE2.out]; decide)])
            have hlb2 : ¬ ((ks.length : Int) = 32) := by omega
            clear HE HKD hlb
            go_upto_region 14 with (go_at_call 59; refine CB.out.mono ?_; rintro e w5 ⟨ab, cb, rfl, hby, F5⟩)
            go_wp2_with (refine wpList_store_row rfl 39 _ _ rfl (w.heap.size + 1) zKey rfl rfl 39 zKey F5.out.two S39.out rfl ONE.out ?_)
            obtain ⟨hld, hbe⟩ := key_end F5.out (List.replicate 32 0) (by simp)
            rw [show keyC2 (List.replicate 32 0) = zKey by rw [zKey_eq]; rfl] at hld hbe
            refine bodyPost_ret (v := .tuple #[.agg zKey, .int .i64 40]) (by simp [results, Tryz.results19, asAddr, hld]) rfl ⟨?_, hbe⟩
            rw [HE2.out, HD2.out, ← zKey_eq]
        · have HE2 : Hid (keyE g t down = 40) := Lib.hid (by rw [HE.out, if_neg (fun h => hce h.1)])
          have HD2 : Hid (keyD g t down = List.replicate 32 0) := Lib.hid (by rw [HKD.out, if_neg (by rw [HE2.out]; decide)])
          clear HE HKD
          go_upto_region 14 with (go_at_call 59; refine CB.out.mono ?_; rintro e w5 ⟨ab, cb, rfl, hby, F5⟩)
          go_wp2_with (refine wpList_store_row rfl 39 _ _ rfl (w.heap.size + 1) zKey rfl rfl 39 zKey F5.out.two S39.out rfl ONE.out ?_)
          obtain ⟨hld, hbe⟩ := key_end F5.out (List.replicate 32 0) (by simp)
          rw [show keyC2 (List.replicate 32 0) = zKey by rw [zKey_eq]; rfl] at hld hbe
          refine bodyPost_ret (v := .tuple #[.agg zKey, .int .i64 40]) (by simp [results, Tryz.results19, asAddr, hld]) rfl ⟨?_, hbe⟩
          rw [HE2.out, HD2.out, ← zKey_eq]
  · have HE : Hid (keyE g t down = fe) := Lib.hid (by rw [HKE.out, if_pos hfe])
    have HD : Hid (keyD g t down = List.replicate 32 0) := Lib.hid (by rw [HKD.out, if_neg (by rw [HE.out]; exact hfe)])
    clear HKE HKD
    go_upto_region 3 with (go_at_call 40; refine CF2.out.mono ?_; rintro e w2 ⟨rfl, F2⟩)
    go_wp2_with (refine wpList_store_row rfl 39 _ _ rfl (w.heap.size + 1) zKey rfl rfl 39 zKey F2.out.two S39.out rfl ONE.out ?_)
    obtain ⟨hld, hbe⟩ := key_end F2.out (List.replicate 32 0) (by simp)
    rw [show keyC2 (List.replicate 32 0) = zKey by rw [zKey_eq]; rfl] at hld hbe
    refine bodyPost_ret (v := .tuple #[.agg zKey, .int .i64 fe]) (by simp [results, Tryz.results19, asAddr, hld]) rfl ⟨?_, hbe⟩
    rw [HE.out, HD.out, ← zKey_eq]
end Go.Proofs.YtpbgipdkaaooeaaGreatDoor
