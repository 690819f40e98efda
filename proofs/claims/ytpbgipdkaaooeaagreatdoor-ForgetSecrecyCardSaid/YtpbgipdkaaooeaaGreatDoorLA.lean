/- law35.left: the shares of a subject that remain. -/
import Derived.Test.YtpbgipdkaaooeaaGreatDoorZK
import Derived.BigQuiet
import Derived.Deep.DeepCutAuto
open Go Go.Proofs Go.RowKit
namespace Go.Proofs.YtpbgipdkaaooeaaGreatDoor
set_option linter.unusedSimpArgs false
set_option linter.unusedVariables false
attribute [local go_sem ↓] Go.wp_at_zero Go.wp_at_succ

theorem helds_at3 {w : World} {v : Value} {l : List HeldD} (h : HeldsR w v l) : ∃ ai n ci, v = .slice ai n ci ∧ n = l.length ∧ ∀ j (hj : j < l.length), ∃ b off av kv, ai = some ⟨b, off, none⟩ ∧ b < w.heap.size ∧ BytesR w (.slice av l[j].b.length kv) l[j].b ∧ (0 ≤ l[j].x ∧ l[j].x ≤ 255) ∧
    ∀ wx, Below w.heap.size w wx → wx.cell? ⟨b, off + j * 3, none⟩ = some (.string l[j].subj) ∧ wx.cell? ⟨b, off + j * 3 + 1, none⟩ = some (.int .u8 l[j].x) ∧ wx.cell? ⟨b, off + j * 3 + 1 + 1, none⟩ = some (.slice av l[j].b.length kv) := by
  obtain ⟨ps, ⟨hlen, ao, cap, rfl, hle, hm, hcell⟩, hare⟩ := h
  have hl := hare.length
  refine ⟨ao, ps.length, cap, rfl, hl, fun j hj => ?_⟩
  have hjp : j < ps.length := by omega
  obtain ⟨b, off, rfl, hbb, hcells⟩ := hcell (by omega)
  obtain ⟨e1, e2, e3, e4⟩ := hare.at j hjp hj
  obtain ⟨-, av, kv, hv, -⟩ := id e4.1
  have hat := heldCells_at ps j hjp
  refine ⟨b, off, av, kv, rfl, hbb, by rw [hv] at e4; exact e4, e3, fun wx hbe => ?_⟩
  have c0 := hcells (j * 3) (by omega)
  have c1 := hcells (j * 3 + 1) (by omega)
  have c2 := hcells (j * 3 + 2) (by omega)
  rw [hat.1, e1] at c0
  rw [hat.2.1, e2, ← Nat.add_assoc] at c1
  rw [hat.2.2, hv, ← Nat.add_assoc] at c2
  exact ⟨by rw [hbe.cell (p := ⟨b, off + j * 3, none⟩) hbb]; exact c0, by rw [hbe.cell (p := ⟨b, off + j * 3 + 1, none⟩) hbb]; exact c1, by rw [hbe.cell (p := ⟨b, off + j * 3 + 1 + 1, none⟩) hbb]; exact c2⟩
/-- The shares of a subject among the first k of a row. -/
def leftRow (t : ByteArray) (r : List HeldD) : Nat → ShareL
  | 0 => []
  | k + 1 => if sEq (r.getD k default).subj t then leftRow t r k ++ [((r.getD k default).x.toNat, (r.getD k default).b)] else leftRow t r k
def leftAt (t : ByteArray) (ss : List (List HeldD)) : Nat → ShareL
  | 0 => []
  | i + 1 => leftAt t ss i ++ leftRow t (ss.getD i []) (ss.getD i []).length
def leftL (t : ByteArray) (ss : List (List HeldD)) : ShareL := leftAt t ss ss.length
theorem leftRow_len (t : ByteArray) (r : List HeldD) : ∀ k, (leftRow t r k).length ≤ k
  | 0 => Nat.le_refl _
  | k + 1 => by
    have := leftRow_len t r k
    unfold leftRow
    split
    · simp; omega
    · omega
theorem leftAt_len (t : ByteArray) (ss : List (List HeldD)) (hr : ∀ r ∈ ss, r.length ≤ 4095) : ∀ i, (leftAt t ss i).length ≤ i * 4095
  | 0 => by simp [leftAt]
  | i + 1 => by
    have h1 := leftAt_len t ss hr i
    have h2 := leftRow_len t (ss.getD i []) (ss.getD i []).length
    have h3 : (ss.getD i []).length ≤ 4095 := by
      rw [List.getD_eq_getElem?_getD]
      by_cases hi : i < ss.length
      · rw [List.getElem?_eq_getElem hi]; exact hr _ (List.getElem_mem hi)
      · rw [List.getElem?_eq_none (by omega)]; simp
    unfold leftAt
    rw [List.length_append]
    omega
/-- left's loops: the box, the list that grows. -/
structure LInv (w : World) (A : Array Value) (K : Nat) (L : ShareL) (ao : Option Addr) (cp : Nat) (ps : List (Int × Value)) (wr : World) : Prop where
  below : Below w.heap.size w wr
  box : wr.heap[w.heap.size]? = some (.cells A 26 (0, 0))
  own : wr.ownsRow K 81 2 (.slice ao ps.length cp) ps.length (shareCells ps)
  are : SharesAre w ps L
  base : w.heap.size + 1 ≤ K
  le : K ≤ wr.heap.size
theorem LInv.later {w wr w' : World} {A : Array Value} {K cp : Nat} {L : ShareL} {ao : Option Addr} {ps : List (Int × Value)} (h : LInv w A K L ao cp ps wr) (hb : Below wr.heap.size wr w') : LInv w A K L ao cp ps w' :=
  ⟨below_step h.below hb, blk_later h.box hb, owns_later h.own hb, h.are, h.base, Nat.le_trans h.le hb.size⟩
theorem LInv.step {w wr w7 : World} {A : Array Value} {K cp g' cap' p : Nat} {L : ShareL} {ao : Option Addr} {ps : List (Int × Value)} {v : Value} {bs : List Int} (h : LInv w A K L ao cp ps wr)
    (hp : p < 256) (hb : BytesR w v bs)
    (hown : w7.ownsRow K 81 2 (.slice (some ⟨g', 0, none⟩) (ps.length + 1) cap') (ps.length + 1) (shareCells ps ++ [.int .u8 p, v])) (hg : wr.grownBy w7 (Value.slice ao ps.length cp).ownBlock) :
    LInv w A K (L ++ [(p, bs)]) (some ⟨g', 0, none⟩) cap' (ps ++ [((p : Int), v)]) w7 := by
  have hlen : (ps ++ [((p : Int), v)]).length = ps.length + 1 := by simp
  have lt1 := lt_of_blk h.box
  have ho : ∀ k, (Value.slice ao ps.length cp).ownBlock = some k → w.heap.size + 1 ≤ k := fun k hk => Nat.le_trans h.base (h.own.lt k hk).1
  refine ⟨h.below.trans ⟨hg.os, hg.tape, hg.output, hg.size, fun k hk => hg.block k (by have := h.below.size; omega) (fun e => by have := ho k e.symm; omega)⟩, (hg.block _ lt1 (fun e => by have := ho _ e.symm; omega)).trans h.box, ?_, h.are.snoc hp hb, h.base, Nat.le_trans h.le hg.size⟩
  rw [hlen, shareCells_snoc]; exact hown
def LeftRet (w : World) (L : ShareL) (e : Ending) (w' : World) : Prop := ∃ ao cp ps, e = .returned (.slice ao ps.length cp) ∧ RowR w' (.slice ao ps.length cp) 2 (shareCells ps) ps.length ∧ SharesAre w' ps L ∧ Below w.heap.size w w'
theorem LInv.ret {w wr : World} {A : Array Value} {K cp : Nat} {L : ShareL} {ao : Option Addr} {ps : List (Int × Value)} (h : LInv w A K L ao cp ps wr) : LeftRet w L (.returned (.slice ao ps.length cp)) wr :=
  ⟨ao, cp, ps, rfl, RowR.of_owns h.own, h.are.later h.below, h.below⟩
set_option maxRecDepth 100000 in
set_option maxHeartbeats 2000000 in
theorem left_34 (w : World) (v : Value) (g : LedD) (t : ByteArray) (h : LedR w v g) (hs : g.shares.length ≤ 5) (hr : ∀ r ∈ g.shares, r.length ≤ 4095) :
    Calls Tryz.prog 34 #[v, .string t] w (LeftRet w (leftL t g.shares)) := by
  obtain ⟨v2, v3, v4, v5, rfl, H2, -⟩ := h
  obtain ⟨a2, n, c2, rfl, hn, hrows⟩ := rows_at H2
  have HR := Lib.hid hrows
  have HN := Lib.hid hn
  have HRL : Hid (∀ i (hi : i < g.shares.length), g.shares[i].length ≤ 4095) := Lib.hid (fun i hi => hr _ (List.getElem_mem hi))
  have HLL : Hid (∀ i, (leftAt t g.shares i).length ≤ i * 4095) := Lib.hid (leftAt_len t g.shares hr)
  have hn5 : n ≤ 5 := by omega
  clear H2 hrows hn hs hr
  go_enter Tryz.func34, Tryz.ntmps34
  go_upto_region 3 with fail
  obtain ⟨i0, HI0⟩ := info81
  replace HI0 := Lib.hid HI0
  obtain ⟨AA, hAA⟩ : ∃ AA : Array Value, AA = #[.int .i64 g.owners, .int .i64 g.need, .slice a2 n c2, v3, v4, v5] := ⟨_, rfl⟩
  have HA2 : Hid (AA[2]? = some (.slice a2 n c2)) := Lib.hid (by rw [hAA]; rfl)
  rw [← hAA]
  clear hAA
  have I0 : Hid (LInv w AA (w.heap.size + 1) [] (some ⟨w.heap.size + 1, 0, none⟩) 0 [] ((w.alloc (.cells AA 26)).alloc (.cells #[] 81))) := by
    have hb : Below w.heap.size w ((w.alloc (.cells AA 26)).alloc (.cells #[] 81)) := ((Below.refl _ _).alloc (Nat.le_refl _) _).alloc (by simp) _
    have h2 : ((w.alloc (.cells AA 26)).alloc (.cells #[] 81)).heap[w.heap.size + 1]? = some (.cells #[] 81 (0, 0)) := by
      rw [show w.heap.size + 1 = (w.alloc (.cells AA 26)).heap.size by simp]; exact heap_alloc_new _ _
    exact Lib.hid ⟨hb, blk_later (heap_alloc_new w _) ((Below.refl _ _).alloc (Nat.le_refl _) _), ⟨rfl, .inr ⟨w.heap.size + 1, 0, #[], rfl, Nat.le_refl _, h2, Nat.le_refl _, by unfold maxLen; omega, by simp, by simp [shareCells]⟩⟩, .nil, Nat.le_refl _, by simp⟩
  generalize (w.alloc (.cells AA 26)).alloc (.cells #[] 81) = W1 at *
  go_loopw [5, 6] (fun o c wr => ∃ (i : Nat) (ao : Option Addr) (cp : Nat) (ps' : List (Int × Value)), i ≤ n ∧ o = .slice ao ps'.length cp ∧ c = .int .i64 ((i : Nat) : Int) ∧ Hid (LInv w AA (w.heap.size + 1) (leftAt t g.shares i) ao cp ps' wr)) (fun _ c _ => n - (intOf c).toNat)
  case atStart => exact ⟨0, some ⟨w.heap.size + 1, 0, none⟩, 0, [], Nat.zero_le _, rfl, rfl, I0⟩
  case round =>
    clear I0
    obtain ⟨i, ao, cp, ps', hi, rfl, rfl, HI'⟩ := hrel
    have x1 := ((box_walk HI'.out.box).1 2).trans HA2.out
    by_cases hlt : i < n
    · have his : i < g.shares.length := by rw [← HN.out]; exact hlt
      obtain ⟨b, off, vi, rfl, hbb, hvi, hci⟩ := HR.out i his
      obtain ⟨ai, ri, ci, rfl, hri, HJ⟩ := helds_at3 hvi
      replace HJ := Lib.hid HJ
      replace hri := Lib.hid hri
      have HCI := Lib.hid hci
      have hri5 : ri ≤ 4095 := by rw [hri.out]; exact HRL.out i his
      have HLI := Lib.hid (HLL.out i)
      have HN1 : Hid (leftAt t g.shares (i + 1) = leftAt t g.shares i ++ leftRow t g.shares[i] g.shares[i].length) := Lib.hid (by
        rw [leftAt, show g.shares.getD i [] = g.shares[i] by rw [List.getD_eq_getElem?_getD, List.getElem?_eq_getElem his]; rfl])
      generalize leftAt t g.shares i = L0 at *
      generalize g.shares[i] = row at *
      clear hci hvi HR HRL HLL
      go_upto_region 6 with fail
      go_loopw [5, 7] (fun o c wr => ∃ (k : Nat) (ao : Option Addr) (cp : Nat) (ps' : List (Int × Value)), k ≤ ri ∧ o = .slice ao ps'.length cp ∧ c = .int .i64 ((k : Nat) : Int) ∧ Hid (LInv w AA (w.heap.size + 1) (L0 ++ leftRow t row k) ao cp ps' wr)) (fun _ c _ => ri - (intOf c).toNat)
      case atStart => exact ⟨0, ao, cp, ps', Nat.zero_le _, rfl, rfl, by rw [leftRow, List.append_nil]; exact HI'⟩
      case round =>
        clear HI' x1
        obtain ⟨k, ao, cp, ps', hk, rfl, rfl, HI'⟩ := hrel
        have x1 := ((box_walk HI'.out.box).1 2).trans HA2.out
        have c1 := HCI.out _ HI'.out.below
        have hbr := Nat.lt_of_lt_of_le hbb HI'.out.below.size
        by_cases hltk : k < ri
        · have hkl : k < row.length := by rw [← hri.out]; exact hltk
          obtain ⟨bj, oj, av, kv, hai, hbb2, hbj, hx, hcj⟩ := HJ.out k hkl
          subst hai
          obtain ⟨p, hpx0⟩ : ∃ p : Nat, row[k].x = (p : Int) := ⟨row[k].x.toNat, by omega⟩
          have hp : p < 256 := by omega
          rw [hpx0] at hcj
          have HST : Hid (leftRow t row (k + 1) = if sEq row[k].subj t = true then leftRow t row k ++ [(p, row[k].b)] else leftRow t row k) := Lib.hid (by
            rw [leftRow, show row.getD k default = row[k] by rw [List.getD_eq_getElem?_getD, List.getElem?_eq_getElem hkl]; rfl, hpx0, Int.toNat_natCast])
          have hpl := HI'.out.are.length
          have hpl2 := leftRow_len t row k
          have hpl3 : ps'.length ≤ 60000 := by rw [List.length_append] at hpl; have := HLI.out; omega
          have HLI2 : Hid (LInv w AA (w.heap.size + 1) (L0 ++ leftRow t row k) ao cp ps' wr) := HI'
          obtain ⟨d1, d2, d3⟩ := hcj wr HI'.out.below
          have d4 := Nat.lt_of_lt_of_le hbb2 HI'.out.below.size
          generalize leftRow t row k = L1 at *
          clear hpl hpl2 hcj hx hpx0 HJ
          generalize row[k].subj = sj at *
          generalize row[k].b = bs at *
          replace hbj := Lib.hid hbj
          generalize bs.length = lb at *
          cases hq : sEq sj t with
          | false =>
            rw [hq, if_neg (by decide)] at HST
            have hq2 : (sj.toList == t.toList) = false := hq
            clear hq
            obtain ⟨pl, hpl⟩ : ∃ pl, pl = ps'.length := ⟨_, rfl⟩
            rw [← hpl]
            replace hpl := Lib.hid hpl
            clear hpl3
            go_wp2_with fail
            go_roundw
            case rel => exact ⟨k + 1, ao, cp, ps', by omega, by rw [hpl.out], by go_num, by rw [HST.out]; exact HLI2⟩
            case measure => simp [intOf] <;> omega
          | true =>
            rw [hq, if_pos rfl] at HST
            have hq2 : (sj.toList == t.toList) = true := hq
            clear hq
            have STEP : Hid (∀ (w7 : World) (g' cap' : Nat), w7.ownsRow (w.heap.size + 1) 81 2 (.slice (some ⟨g', 0, none⟩) (ps'.length + 1) cap') (ps'.length + 1) (shareCells ps' ++ [.int .u8 (p : Int), .slice av lb kv]) → (wr.alloc (.cells #[.int .u8 (p : Int), .slice av lb kv] 81)).grownBy w7 (Value.slice ao ps'.length cp).ownBlock → Hid (LInv w AA (w.heap.size + 1) (L0 ++ L1 ++ [(p, bs)]) (some ⟨g', 0, none⟩) cap' (ps' ++ [((p : Int), .slice av lb kv)]) w7)) := fun w7 g' cap' h2 h3 => Lib.hid ((HI'.out.later ((Below.refl _ _).alloc (Nat.le_refl _) _)).step hp hbj.out h2 h3)
            obtain ⟨ow5, kw5⟩ : (wr.alloc (.cells #[.int .u8 (p : Int), .slice av lb kv] 81)).ownsRow (w.heap.size + 1) 81 2 (.slice ao ps'.length cp) ps'.length (shareCells ps') ∧ w.heap.size + 1 ≤ (wr.alloc (.cells #[.int .u8 (p : Int), .slice av lb kv] 81)).heap.size := ⟨(HI'.out.later ((Below.refl _ _).alloc (Nat.le_refl _) _)).own, (HI'.out.later ((Below.refl _ _).alloc (Nat.le_refl _) _)).le⟩
            have OW := Lib.hid ow5
            have KW := Lib.hid kw5
            have HONE : Hid (∀ u ∈ [Value.int .u8 (p : Int), .slice av lb kv], u.oneCell' = true) := by
              refine Lib.hid ?_
              intro u hu; simp at hu; rcases hu with rfl | rfl <;> rfl
            have HLP : Hid ((ps' ++ [((p : Int), Value.slice av lb kv)]).length = ps'.length + 1) := Lib.hid (by simp)
            clear ow5 kw5 hbj
            generalize hpx : ps' ++ [((p : Int), Value.slice av lb kv)] = px at *
            generalize shareCells ps' = sc at *
            generalize ps'.length = pl at *
            go_wp2_with (refine wpList_append_lies _ rfl (.tmp 37) (.tmp 47) 71 rfl (w.heap.size + 1) 81 i0 _ 2 32 und71 HI0.out.1 HI0.out.2.1 HI0.out.2.2.1 HI0.out.2.2.2 rfl (by decide) (.slice ao pl cp) pl sc (by simp [Act.eval, Act.put]) OW.out ⟨wr.heap.size, 0, none⟩ 1 1 [.int .u8 (p : Int), .slice av lb kv] (by simp [Act.eval, Act.put]) rfl (news_two wr _ _ 81 _ rfl) HONE.out (by omega) (by unfold maxLen; omega) (by omega) KW.out _ rfl ?_; intro g' cap' w7 hown hg hat hlt7; have HX := STEP.out w7 g' cap' hown hg)
            go_roundw
            case rel => exact ⟨k + 1, some ⟨g', 0, none⟩, cap', px, by omega, by rw [HLP.out], by go_num, by rw [HST.out, ← List.append_assoc]; exact HX⟩
            case measure => simp [intOf] <;> omega
        · obtain rfl : k = ri := by omega
          obtain ⟨pl, hpl⟩ : ∃ pl, pl = ps'.length := ⟨_, rfl⟩
          rw [← hpl]
          replace hpl := Lib.hid hpl
          go_wp2_with fail
          go_roundw
          case rel => exact ⟨i + 1, ao, cp, ps', by omega, by rw [hpl.out], by go_num, by rw [HN1.out, ← hri.out]; exact HI'⟩
          case measure => simp [intOf] <;> omega
    · obtain rfl : i = n := by omega
      have HR2 : Hid (LeftRet w (leftL t g.shares) (.returned (.slice ao ps'.length cp)) wr) := Lib.hid (by unfold leftL; rw [← HN.out]; exact HI'.out.ret)
      generalize ps'.length = pl at *
      go_wp2
      go_ret
      exact HR2.out
end Go.Proofs.YtpbgipdkaaooeaaGreatDoor
