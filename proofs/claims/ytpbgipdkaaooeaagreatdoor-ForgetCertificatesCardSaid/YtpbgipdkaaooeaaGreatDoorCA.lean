/- law35.ForgetCertificates: the walk. -/
import Derived.Test.YtpbgipdkaaooeaaGreatDoorPE
import Derived.Test.YtpbgipdkaaooeaaGreatDoorWE
import Derived.Test.YtpbgipdkaaooeaaGreatDoorKA
open Go Go.Proofs Go.RowKit
namespace Go.Proofs.YtpbgipdkaaooeaaGreatDoor
set_option linter.unusedSimpArgs false
set_option linter.unusedVariables false
attribute [local go_sem ↓] Go.wp_at_zero Go.wp_at_succ

/-- What the loops of ForgetCertificates hold in memory. -/
structure CM (w : World) (c0 : Array Value) (m kW : Nat) (o nd : Int) (v2 v3 v4 v5 : Value) (g : LedD) (p : List Bool) (wr : World) : Prop where
  below : Below w.heap.size w wr
  one : wr.heap[w.heap.size]? = some (.cells c0 58 (0, 0))
  led : LedBoxO m o nd v2 v3 v4 v5 g wr
  flags : wr.heap[kW]? = some (.cells (whC p) 68 (0, 0))
  hm : w.heap.size < m
  hW : w.heap.size < kW
theorem CM.later {w : World} {c0 : Array Value} {m kW : Nat} {o nd : Int} {v2 v3 v4 v5 : Value} {g : LedD} {p : List Bool} {wr w' : World} (h : CM w c0 m kW o nd v2 v3 v4 v5 g p wr) (hb : Below wr.heap.size wr w') : CM w c0 m kW o nd v2 v3 v4 v5 g p w' :=
  ⟨below_step h.below hb, blk_later h.one hb, h.led.later hb, blk_later h.flags hb, h.hm, h.hW⟩
theorem CM.led_set {w : World} {c0 : Array Value} {m kW : Nat} {o nd : Int} {v2 v3 v4 v5 : Value} {g : LedD} {p : List Bool} {wr : World} (h : CM w c0 m kW o nd v2 v3 v4 v5 g p wr)
    {o' nd' : Int} {u2 u3 u4 u5 : Value} {g' : LedD} (hl : LedO 0 wr (.agg #[.int .i64 o', .int .i64 nd', u2, u3, u4, u5]) g') :
    CM w c0 m kW o' nd' u2 u3 u4 u5 g' p ((((((wr.setCell ⟨m, 0, none⟩ (.int .i64 o')).setCell ⟨m, 1, none⟩ (.int .i64 nd')).setCell ⟨m, 2, none⟩ u2).setCell ⟨m, 3, none⟩ u3).setCell ⟨m, 4, none⟩ u4).setCell ⟨m, 5, none⟩ u5) :=
  ⟨below_six h.below (Nat.le_of_lt h.hm) _ _ _ _ _ _, blk_six h.one (Nat.ne_of_lt h.hm) _ _ _ _ _ _, LedBoxO.stored h.led.box hl, blk_six h.flags (ne_types h.flags h.led.box (by decide)) _ _ _ _ _ _, h.hm, h.hW⟩
theorem CM.flag_set {w : World} {c0 : Array Value} {m kW : Nat} {o nd : Int} {v2 v3 v4 v5 : Value} {g : LedD} {p : List Bool} {wr : World} (h : CM w c0 m kW o nd v2 v3 v4 v5 g p wr) (k : Nat) (f : Bool) :
    CM w c0 m kW o nd v2 v3 v4 v5 g (p.set k f) (wr.setCell ⟨kW, k, none⟩ (.bool f)) := by
  have e : (whC p).setIfInBounds k (.bool f) = whC (p.set k f) := by unfold whC; apply Array.ext'; simp
  refine ⟨h.below.setCell (Nat.le_of_lt h.hW) _, (Below.heap_setCell _ _ _ _ (Nat.ne_of_lt h.hW)).trans h.one, h.led.setc h.flags _ _, ?_, h.hm, h.hW⟩
  have := blk_set h.flags k (.bool f)
  rw [e] at this
  exact this
theorem CM.flag_at {w : World} {c0 : Array Value} {m kW : Nat} {o nd : Int} {v2 v3 v4 v5 : Value} {g : LedD} {p : List Bool} {wr : World} (h : CM w c0 m kW o nd v2 v3 v4 v5 g p wr) (h4 : p.length = 4) {k : Nat} (hk : k < 4) :
    wr.cell? ⟨kW, k, none⟩ = some (.bool (p.getD k false)) ∧ wr.frozen? ⟨kW, k, none⟩ = false := by
  obtain ⟨q1, q2, q3⟩ := box_walk h.flags
  refine ⟨?_, q2 _⟩
  rw [q1, whC, List.getElem?_toArray, List.getElem?_map, List.getElem?_eq_getElem (by omega), List.getD_eq_getElem?_getD, List.getElem?_eq_getElem (by omega)]
  rfl
def LeftP (w : World) (L : ShareL) (e : Ending) (w' : World) : Prop := ∃ ao n cp ps, e = .returned (.slice ao n cp) ∧ Hid (n = ps.length ∧ n = L.length) ∧ Hid (RowR w' (.slice ao n cp) 2 (shareCells ps) ps.length) ∧ Hid (SharesAre w' ps L) ∧ Hid (Below w.heap.size w w')
theorem left_parts {f : FuncId} {args : Array Value} {w : World} {L : ShareL} (h : Calls Tryz.prog f args w (LeftRet w L)) : Calls Tryz.prog f args w (LeftP w L) := h.mono fun e w' h => by
  obtain ⟨ao, cp, ps, rfl, h1, h2, h3⟩ := h
  exact ⟨ao, ps.length, cp, ps, rfl, Lib.hid ⟨rfl, h2.length⟩, Lib.hid h1, Lib.hid h2, Lib.hid h3⟩
def zKL : List Int := List.replicate 32 0
theorem wpList_build39z {ops : Array Oper} {rest : List Oper} {o : Oper} {a : Act} {w : World} {Q : Exit → Act → World → Prop} (hg : o.guard = none) (ho : o.op = .build 39 #[])
    (h : wpList Tryz.prog ops Q rest (a.put o.dst (.agg (keyC2 zKL))) w) : wpList Tryz.prog ops Q (o :: rest) a w := by
  have hb : Tryz.prog.built 39 ((#[] : Array (Nat × Operand)).map fun (i, x) => (i, a.eval x)).toList = some (keyC2 zKL) := by
    rw [Array.map_empty]; exact built39
  exact wpList_build hg 39 _ ho (by rw [hb]; rfl) (by rw [hb]; exact h)
set_option maxRecDepth 100000 in
set_option maxHeartbeats 4000000 in
theorem certs_7 (w : World) (a b : Nat) (vl vd : Value) (l : List ActD) (down : List Bool) (ha : a < 256) (hb : b < 256) (hl : ActsR w vl l) (hd : BoolsR w vd down) :
    Calls Tryz.prog 7 #[.agg #[.int .u8 a, .int .u8 b], vl, vd] w fun e w' => e = .returned (.bool true) ∧ Below w.heap.size w w' := by
  have HLR := Lib.hid hl
  have HDR := Lib.hid hd
  obtain ⟨-, ad, cd, rfl, -⟩ := hd
  obtain ⟨ld, hld⟩ : ∃ ld, ld = down.length := ⟨_, rfl⟩
  rw [← hld] at HDR ⊢
  clear hld
  obtain ⟨al, nl, cl, rfl, hnl, hcl, hat⟩ := acts_at hl
  have HAT := Lib.hid hat
  have HNL := Lib.hid hnl
  clear hl hat hnl
  have B0 : Hid (Below w.heap.size w (w.alloc (.cells #[.int .u8 (a : Int), .int .u8 (b : Int)] 58))) := Lib.hid ((Below.refl _ _).alloc (Nat.le_refl _) _)
  have N0 : Hid ((w.alloc (.cells #[.int .u8 (a : Int), .int .u8 (b : Int)] 58)).heap[w.heap.size]? = some (.cells #[.int .u8 (a : Int), .int .u8 (b : Int)] 58 (0, 0))) := Lib.hid (heap_alloc_new _ _)
  have C9 : Hid (∀ wx, Calls Tryz.prog 9 #[] wx fun e w' => e = .returned (.bool true) ∧ Hid (Below wx.heap.size wx w')) := fun wx => sanity_9 wx
  have C28 : Hid (∀ wx, Hid (Below w.heap.size w wx) → Calls Tryz.prog 28 #[.slice al nl cl] wx fun e w' => e = .returned (.bool (longD l)) ∧ Hid (Below wx.heap.size wx w')) := fun wx hbx => long_28 wx _ l (ActsR.later' HLR.out hbx.out)
  have C29 : Hid (∀ wx, Calls Tryz.prog 29 #[.agg #[.int .u8 (a : Int), .int .u8 (b : Int)]] wx (LedQA 0 wx (startD a b))) := fun wx => led_partsA1 (start_29 wx a b ha hb)
  clear ha hb
  have HSM := Lib.hid (fun i => small_hist a b l i)
  have HLONG : Hid (longD l = false → l.length ≤ 30) := fun h => by
    unfold longD at h
    simp only [Bool.or_eq_false_iff, decide_eq_false_iff_not] at h
    omega
  go_enter Tryz.func7, Tryz.ntmps7
  rcases hq : longD l with _ | _
  · rw [hq] at C28
    have hl30 : nl ≤ 30 := by rw [HNL.out]; exact HLONG.out hq
    have HLEN := Lib.hid (HLONG.out hq)
    clear hq HLONG
    go_upto_region 4 with (first
      | (go_at_call 9; refine (C9.out _).mono ?_; rintro e w1 ⟨rfl, b1⟩; have B1 := Lib.hid (below_step B0.out b1.out); have N1 := Lib.hid (blk_later N0.out b1.out))
      | (go_at_call 28; refine (C28.out _ B1).mono ?_; rintro e w2 ⟨rfl, b2⟩; have B2 := Lib.hid (below_step B1.out b2.out); have N2 := Lib.hid (blk_later N1.out b2.out)))
    clear B0 N0 B1 N1 b1 b2 C9 C28 HLR
    obtain ⟨c1, c2, c3⟩ := box_walk N2.out
    go_upto_region 5 with (go_at_call 29; refine (C29.out _).mono ?_; rintro e w3 ⟨o, nd, r2, s2, t2, r3, s3, t3, r4, s4, t4, r5, s5, t5, rfl, HL, HC⟩; have B3 := Lib.hid (below_step B2.out HC.out); have N3 := Lib.hid (blk_later N2.out HC.out))
    have L3 : Hid (LedBoxO w3.heap.size o nd (.slice r2 s2 t2) (.slice r3 s3 t3) (.slice r4 s4 t4) (.slice r5 s5 t5) (startD a b) (w3.alloc (.cells #[.int .i64 o, .int .i64 nd, .slice r2 s2 t2, .slice r3 s3 t3, .slice r4 s4 t4, .slice r5 s5 t5] 26))) := Lib.hid (LedBoxO.fresh HL.out)
    have HM3 : Hid (w.heap.size < w3.heap.size) := Lib.hid (lt_of_blk N3.out)
    replace B3 := Lib.hid (B3.out.alloc B3.out.size (.cells #[.int .i64 o, .int .i64 nd, .slice r2 s2 t2, .slice r3 s3 t3, .slice r4 s4 t4, .slice r5 s5 t5] 26))
    replace N3 := Lib.hid (blk_later N3.out ((Below.refl _ _).alloc (Nat.le_refl _) (.cells #[.int .i64 o, .int .i64 nd, .slice r2 s2 t2, .slice r3 s3 t3, .slice r4 s4 t4, .slice r5 s5 t5] 26)))
    clear HL HC C29 c1 c2 c3 B2 N2
    generalize w3.alloc (.cells #[.int .i64 o, .int .i64 nd, .slice r2 s2 t2, .slice r3 s3 t3, .slice r4 s4 t4, .slice r5 s5 t5] 26) = W4 at *
    generalize w3.heap.size = m at *
    go_upto_region 6 with fail
    have bb : Below W4.heap.size W4 (W4.alloc (.cells #[.bool false, .bool false, .bool false, .bool false] 68)) := (Below.refl _ _).alloc (Nat.le_refl _) _
    have M5 : Hid (CM w #[.int .u8 (a : Int), .int .u8 (b : Int)] m W4.heap.size o nd (.slice r2 s2 t2) (.slice r3 s3 t3) (.slice r4 s4 t4) (.slice r5 s5 t5) (startD a b) (knAt (startD a b) l 0) (W4.alloc (.cells #[.bool false, .bool false, .bool false, .bool false] 68))) :=
      Lib.hid ⟨below_step B3.out bb, blk_later N3.out bb, L3.out.later bb, heap_alloc_new _ _, HM3.out, lt_of_blk N3.out⟩
    clear bb B3 N3 L3 HM3
    generalize W4.alloc (.cells #[.bool false, .bool false, .bool false, .bool false] 68) = W5 at *
    generalize W4.heap.size = kW at *
    clear W4 w3
    have C32 : Hid (∀ wx i, i < l.length → ∀ vg av kv, Hid (LedO 0 wx vg (histD (startD a b) l i)) → (hi : i < l.length) → BytesR wx (.slice av l[i].seed.length kv) l[i].seed → ActOk l[i] → Calls Tryz.prog 32 #[vg, .agg #[.int .u8 l[i].kind, .int .u8 l[i].who, .int .i8 l[i].owner, .int .i8 l[i].at', .slice av l[i].seed.length kv]] wx (LedPA 0 wx (histD (startD a b) l (i + 1)) (stepE (histD (startD a b) l i) l[i]))) := fun wx i hi vg av kv hg hi2 hbs hok => by
      have := do_32 wx vg _ (histD (startD a b) l i) l[i] hg.out ((HSM.out i).fits (by have := HLEN.out; omega)) ⟨hok, _, rfl, hbs⟩
      have e : l.getD i default = l[i] := by rw [List.getD_eq_getElem?_getD, List.getElem?_eq_getElem hi]; rfl
      have hd : histD (startD a b) l (i + 1) = doD (histD (startD a b) l i) l[i] := by rw [histD, e]
      rw [hd]
      exact led_partsA this
    go_upto_region 7 with fail
    go_loopw [10] (fun c wr => ∃ (i : Nat) (o nd : Int) (r2 : Option Addr) (s2 t2 : Nat) (r3 : Option Addr) (s3 t3 : Nat) (r4 : Option Addr) (s4 t4 : Nat) (r5 : Option Addr) (s5 t5 : Nat), i ≤ nl ∧ c = .int .i64 ((i : Nat) : Int) ∧ Hid (CM w #[.int .u8 (a : Int), .int .u8 (b : Int)] m kW o nd (.slice r2 s2 t2) (.slice r3 s3 t3) (.slice r4 s4 t4) (.slice r5 s5 t5) (histD (startD a b) l i) (knAt (startD a b) l i) wr)) (fun c _ => nl - (intOf c).toNat)
    case atStart => exact ⟨0, o, nd, r2, s2, t2, r3, s3, t3, r4, s4, t4, r5, s5, t5, Nat.zero_le _, rfl, M5⟩
    case round =>
      clear M5
      obtain ⟨i, o, nd, r2, s2, t2, r3, s3, t3, r4, s4, t4, r5, s5, t5, hi, rfl, M1⟩ := hrel
      by_cases hlt : i < nl
      · have hil : i < l.length := by rw [← HNL.out]; exact hlt
        obtain ⟨bk, off, av, kv, rfl, hbb, hok, hbs, hc⟩ := HAT.out i hil
        have HB1 := Lib.hid M1.out.below
        have HC1 := Lib.hid hc
        have hkd := hok.kind
        have hwd := hok.who
        have hbr : bk < wr.heap.size := Nat.lt_of_lt_of_le hbb HB1.out.size
        have C := Lib.hid (C32.out wr.drew i hil (.agg #[.int .i64 o, .int .i64 nd, .slice r2 s2 t2, .slice r3 s3 t3, .slice r4 s4 t4, .slice r5 s5 t5]) av kv (Lib.hid (M1.out.led.led.later (Below.refl _ _).drew)) hil (hbs.later HB1.out.drew) hok)
        have HG : Hid (l.getD i default = l[i]) := Lib.hid (by rw [List.getD_eq_getElem?_getD, List.getElem?_eq_getElem hil]; rfl)
        have HKA : Hid (knAt (startD a b) l (i + 1) = if stepE (histD (startD a b) l i) l[i] = 0 ∧ l[i].kind % 4 = 0 then (knAt (startD a b) l i).set (l[i].who % 4) true else knAt (startD a b) l i) := Lib.hid (by rw [knAt, HG.out])
        have HK4 := Lib.hid (knAt_length (startD a b) l i)
        have HK5 := Lib.hid (knAt_length (startD a b) l (i + 1))
        have HCE : Hid (∀ k, k < 4 → Cert (histD (startD a b) l (i + 1)) (subjD k) ((knAt (startD a b) l (i + 1)).getD k false)) := Lib.hid (fun k hk => cert_at a b l (i + 1) k hk)
        have HV1 := Lib.hid (valid_hist a b l (i + 1))
        have HFT := Lib.hid ((HSM.out (i + 1)).fits (by omega))
        have HSM1 := Lib.hid (HSM.out (i + 1))
        have HBL : Hid (∀ r ∈ (histD (startD a b) l (i + 1)).shares, ∀ s ∈ r, s.b.length ≤ 4096) := Lib.hid (by_hist a b l (i + 1))
        clear hc hok hbs HG C32
        generalize hG1 : histD (startD a b) l (i + 1) = G1 at *
        have HG1 := Lib.hid hG1
        clear hG1
        generalize histD (startD a b) l i = G at *
        generalize hp1 : knAt (startD a b) l (i + 1) = p1 at *
        have HP1 := Lib.hid hp1
        clear hp1
        generalize knAt (startD a b) l i = p0 at *
        generalize hge : stepE G l[i] = ge at *
        clear hge
        generalize l[i].kind = y1 at *
        generalize l[i].who = y2 at *
        generalize l[i].owner = y3 at *
        generalize l[i].at' = y4 at *
        generalize l[i].seed.length = y5 at *
        obtain ⟨d1, d2, d3⟩ := box_walk (show wr.drew.heap[m]? = _ from M1.out.led.box)
        obtain ⟨c0, c1, c2, c3, c4⟩ := HC1.out wr.drew HB1.out.drew
        go_upto_region 10 with fail
        go_cut [11] (fun e wx => ∃ (o' nd' : Int) (r2' : Option Addr) (s2' t2' : Nat) (r3' : Option Addr) (s3' t3' : Nat) (r4' : Option Addr) (s4' t4' : Nat) (r5' : Option Addr) (s5' t5' : Nat), e = .int .i64 ge ∧ Hid (CM w #[.int .u8 (a : Int), .int .u8 (b : Int)] m kW o' nd' (.slice r2' s2' t2') (.slice r3' s3' t3') (.slice r4' s4' t4') (.slice r5' s5' t5') G1 p0 wx))
        case first =>
          go_region_with (go_at_call 32; refine C.out.mono ?_; rintro e w5 ⟨o', nd', r2', s2', t2', r3', s3', t3', r4', s4', t4', r5', s5', t5', rfl, HL, HC⟩; have MC := Lib.hid (M1.out.later (below_step ((Below.refl _ _).drew) HC.out)); obtain ⟨e1, e2, e3⟩ := box_walk MC.out.led.box)
          all_goals
            go_wp2_with fail
            go_meet
            exact ⟨o', nd', r2', s2', t2', r3', s3', t3', r4', s4', t4', r5', s5', t5', rfl, Lib.hid (MC.out.led_set HL.out)⟩
        case rest =>
          obtain ⟨o', nd', r2', s2', t2', r3', s3', t3', r4', s4', t4', r5', s5', t5', rfl, M9⟩ := hcut
          clear d1 d2 d3 c0 c1 c2 c3 c4 M1 C
          have HB9 := Lib.hid M9.out.below
          obtain ⟨c0, c1, c2, c3, c4⟩ := HC1.out wc M9.out.below
          have hbw : bk < wc.heap.size := Nat.lt_of_lt_of_le hbb HB9.out.size
          go_upto_region 11 with fail
          go_cut [55] (fun s55 wx => ∃ e0 : Bool, s55 = .bool e0 ∧ Hid (e0 = decide (ge = 0 ∧ y1 % 4 = 0)) ∧ Hid (CM w #[.int .u8 (a : Int), .int .u8 (b : Int)] m kW o' nd' (.slice r2' s2' t2') (.slice r3' s3' t3') (.slice r4' s4' t4') (.slice r5' s5' t5') G1 p0 wx))
          case first =>
            by_cases hge : ge = 0
            · subst hge
              by_cases hq0 : y1 % 4 = 0
              · have hmod : (y1 : Int) % 4 = 0 := by omega
                go_wp2_with fail
                go_meet
                exact ⟨true, rfl, Lib.hid (by simp [hq0]), M9⟩
              · have hmod : ((y1 : Int) % 4 == 0) = false := by simp; omega
                go_wp2_with fail
                go_meet
                exact ⟨false, rfl, Lib.hid (by simp [hq0]), M9⟩
            · have hge' : (ge == 0) = false := by simpa using hge
              go_wp2_with fail
              go_meet
              exact ⟨false, rfl, Lib.hid (by simp [hge]), M9⟩
          case rest =>
            obtain ⟨e0, rfl, HE0, M10⟩ := hcut
            clear M9 HB9 c0 c1 c2 c3 c4 hbw
            have HB10 := Lib.hid M10.out.below
            obtain ⟨c0, c1, c2, c3, c4⟩ := HC1.out wc M10.out.below
            have hbw : bk < wc.heap.size := Nat.lt_of_lt_of_le hbb HB10.out.size
            obtain ⟨k, hkk, hk4⟩ : ∃ k, k = y2 % 4 ∧ k < 4 := ⟨_, rfl, Nat.mod_lt _ (by omega)⟩
            obtain ⟨f1, f2⟩ := M10.out.flag_at HK4.out hk4
            rw [hkk] at f1 f2
            go_upto_if 55 with (fail)
            go_cut [] (fun wx => Hid (CM w #[.int .u8 (a : Int), .int .u8 (b : Int)] m kW o' nd' (.slice r2' s2' t2') (.slice r3' s3' t3') (.slice r4' s4' t4') (.slice r5' s5' t5') G1 p1 wx))
            case first =>
              cases e0 with
              | true =>
                have hp : Hid (p1 = p0.set (y2 % 4) true) := Lib.hid (by rw [HKA.out, if_pos (of_decide_eq_true HE0.out.symm)])
                go_wp2_with fail
                go_meet
                rw [hp.out]
                exact Lib.hid (M10.out.flag_set (y2 % 4) true)
              | false =>
                have hp : Hid (p1 = p0) := Lib.hid (by rw [HKA.out, if_neg (of_decide_eq_false HE0.out.symm)])
                go_wp2_with fail
                go_meet
                rw [hp.out]
                exact M10
            case rest =>
              have M11 := hcut
              clear hcut M10 HB10 c0 c1 c2 c3 c4 hbw f1 f2 HE0 HKA HC1 HB1 hkd hwd HK4
              obtain ⟨rfl, rfl⟩ := M11.out.led.led.nums
              obtain ⟨nd, hnd⟩ : ∃ nd, G1.need = nd := ⟨_, rfl⟩
              have HND := Lib.hid hnd
              rw [hnd] at M11
              clear hnd
              obtain ⟨ow, how⟩ : ∃ ow, G1.owners = ow := ⟨_, rfl⟩
              rw [how] at M11
              clear how
              generalize wc = W2 at *
              go_upto_region 14 with fail
              go_loopw [12] (fun c wx => ∃ k : Nat, k ≤ 4 ∧ c = .int .i64 ((k : Nat) : Int) ∧ Hid (Below W2.heap.size W2 wx)) (fun c _ => 4 - (intOf c).toNat)
              case atStart => exact ⟨0, Nat.zero_le _, rfl, Lib.hid (Below.refl _ _)⟩
              case round =>
                obtain ⟨k, hk, rfl, HB0⟩ := hrel
                by_cases hlt : k < 4
                · obtain ⟨kb, hkb⟩ : ∃ kb, p1.getD k false = kb := ⟨_, rfl⟩
                  have HKB := Lib.hid hkb
                  have HCK : Hid (Cert G1 (subjD k) kb) := Lib.hid (by have := HCE.out k hlt; rw [hkb] at this; exact this)
                  clear hkb
                  have HIS : Hid ((firstD (subjD k) G1.dones).isSome = (kb && decide (((leftL (subjD k) G1.shares).length : Int) < nd))) := Lib.hid (by have h := HCK.out.is; rw [leftL_count HCK.out]; rw [HND.out] at h; exact h)
                  have K11 : Hid (∀ wx, Calls Tryz.prog 11 #[.int .u8 ((k : Nat) : Int)] wx fun e w' => e = .returned (.string (subjD k)) ∧ Hid (Below wx.heap.size wx w')) := fun wx => subject_11 wx k (by omega)
                  have K34 : Hid (∀ wx, Hid (Below W2.heap.size W2 wx) → Calls Tryz.prog 34 #[.agg #[.int .i64 ow, .int .i64 nd, .slice r2' s2' t2', .slice r3' s3' t3', .slice r4' s4' t4', .slice r5' s5' t5'], .string (subjD k)] wx (LeftP wx (leftL (subjD k) G1.shares))) := fun wx hx => left_parts (left_34 wx _ G1 (subjD k) (M11.out.led.led.later hx.out).led HSM1.out.s (fun r hr => Nat.le_trans (HSM1.out.r r hr) (by omega)))
                  have K21 : Hid (∀ wx, Hid (Below W2.heap.size W2 wx) → Calls Tryz.prog 21 #[.agg #[.int .i64 ow, .int .i64 nd, .slice r2' s2' t2', .slice r3' s3' t3', .slice r4' s4' t4', .slice r5' s5' t5'], .string (subjD k)] wx fun e w' => e = .returned (.tuple #[firstV (firstD (subjD k) G1.dones), .bool (firstD (subjD k) G1.dones).isSome]) ∧ Below wx.heap.size wx w') := fun wx hx => cert_21 wx _ G1 (subjD k) (M11.out.led.led.later hx.out).led HFT.out
                  have K19 : Hid (∀ wx, Hid (Below W2.heap.size W2 wx) → Calls Tryz.prog 19 #[.agg #[.int .i64 ow, .int .i64 nd, .slice r2' s2' t2', .slice r3' s3' t3', .slice r4' s4' t4', .slice r5' s5' t5'], .string (subjD k), .slice ad ld cd] wx fun e w' => e = .returned (.tuple #[.agg (keyC2 (keyD G1 (subjD k) down)), .int .i64 (keyE G1 (subjD k) down)]) ∧ Hid (Below wx.heap.size wx w')) := fun wx hx => key_19 wx _ _ G1 (subjD k) down (M11.out.led.led.later hx.out).led HFT.out (HDR.out.later (below_step M11.out.below hx.out)) HBL.out
                  have HL32 : Hid ((keyD G1 (subjD k) down).length = 32) := Lib.hid (keyD_length _ _ _)
                  have HMB : Hid (∀ wx, Hid (Below W2.heap.size W2 wx) → wx.heap[m]? = some (.cells #[.int .i64 ow, .int .i64 nd, .slice r2' s2' t2', .slice r3' s3' t3', .slice r4' s4' t4', .slice r5' s5' t5'] 26 (0, 0))) := fun wx hx => blk_later M11.out.led.box hx.out
                  have HFL : Hid (∀ wx, Hid (Below W2.heap.size W2 wx) → wx.cell? ⟨kW, k, none⟩ = some (.bool kb)) := fun wx hx => by have := ((M11.out.later hx.out).flag_at HK5.out hlt).1; rw [HKB.out] at this; exact this
                  obtain ⟨j1, j2, j3⟩ := box_walk (HMB.out _ HB0)
                  go_upto_region 18 with (first
                    | (go_at_call 11; (with_reducible refine (K11.out _).mono ?_); rintro e wJ ⟨rfl, HC⟩; have QJ : Hid (Below W2.heap.size W2 wJ) := Lib.hid (below_step HB0.out HC.out); clear j1 j2 j3; obtain ⟨j1, j2, j3⟩ := box_walk (HMB.out _ QJ))
                    | (go_at_call 34; (with_reducible refine (K34.out _ QJ).mono ?_); rintro e wK ⟨aL, nL, cL, psL, rfl, HNLL, HRW, HSA, HC2⟩; have QK : Hid (Below W2.heap.size W2 wK) := Lib.hid (below_step QJ.out HC2.out); clear j1 j2 j3; obtain ⟨j1, j2, j3⟩ := box_walk (HMB.out _ QK)))
                  clear K34 K11
                  cases hfd : firstD (subjD k) G1.dones with
                  | none =>
                    have HKN : Hid (kb && decide ((nL : Int) < nd)) = Hid (false = true) → True := fun _ => trivial
                    clear HKN
                    have HDN : Hid (kb = true → decide ((nL : Int) < nd) = false) := Lib.hid (fun h => by
                      have h2 := HIS.out
                      rw [hfd, h, Bool.true_and, ← HNLL.out.2] at h2
                      exact h2.symm)
                    have C21 : Hid (Calls Tryz.prog 21 #[.agg #[.int .i64 ow, .int .i64 nd, .slice r2' s2' t2', .slice r3' s3' t3', .slice r4' s4' t4', .slice r5' s5' t5'], .string (subjD k)] wK fun e w' => e = .returned (.tuple #[.agg #[.string ⟨#[]⟩, .int .i64 0], .bool false]) ∧ Hid (Below wK.heap.size wK w')) := Lib.hid (cert_no (K21.out _ QK) (by rw [hfd]; rfl))
                    clear hfd HIS K21 K19 HCK
                    generalize subjD k = t at *
                    go_upto_region 19 with (go_at_call 21; refine C21.out.mono ?_; rintro e wM ⟨rfl, HC3⟩; have QM : Hid (Below W2.heap.size W2 wM) := Lib.hid (below_step QK.out HC3.out))
                    have QN : Hid (Below W2.heap.size W2 (wM.alloc (.cells #[.string ⟨#[]⟩, .int .i64 0] 46))) := Lib.hid (QM.out.alloc QM.out.size _)
                    clear j1 j2 j3
                    obtain ⟨j1, j2, j3⟩ := box_walk (HMB.out _ QN)
                    have f1 := HFL.out _ QN
                    generalize wM.alloc (.cells #[.string ⟨#[]⟩, .int .i64 0] 46) = wN at *
                    cases kb with
                    | false =>
                      clear HDN
                      go_wp2_with fail
                      go_roundw
                      case rel => exact ⟨k + 1, by omega, by go_num, QN⟩
                      case measure => simp [intOf] <;> omega
                    | true =>
                      have hdn := HDN.out rfl
                      go_wp2_with fail
                      go_roundw
                      case rel => exact ⟨k + 1, by omega, by go_num, QN⟩
                      case measure => simp [intOf] <;> omega
                  | some pp =>
                    obtain ⟨tt, a0⟩ := pp
                    have htt : tt = subjD k := first_subj hfd
                    subst htt
                    have hsome : (firstD (subjD k) G1.dones).isSome = true := by rw [hfd]; rfl
                    obtain ⟨rfl, hdn⟩ : kb = true ∧ decide ((nL : Int) < nd) = true := by
                      have h2 := HIS.out
                      rw [hsome, ← HNLL.out.2] at h2
                      have h2 := h2.symm
                      rw [Bool.and_eq_true] at h2
                      exact h2
                    have HFEW : Hid (((leftL (subjD k) G1.shares).length : Int) < nd) := Lib.hid (by rw [← HNLL.out.2]; exact of_decide_eq_true hdn)
                    have C21 : Hid (Calls Tryz.prog 21 #[.agg #[.int .i64 ow, .int .i64 nd, .slice r2' s2' t2', .slice r3' s3' t3', .slice r4' s4' t4', .slice r5' s5' t5'], .string (subjD k)] wK fun e w' => e = .returned (.tuple #[.agg #[.string (subjD k), .int .i64 a0], .bool true]) ∧ Hid (Below wK.heap.size wK w')) := Lib.hid (cert_yes (K21.out _ QK) hfd)
                    have HKE : Hid (keyE G1 (subjD k) down = 351) := Lib.hid (cert_key HV1.out hsome down)
                    have HEE : Hid (enrollE G1 (subjD k) = 351) := Lib.hid (cert_enroll HV1.out hsome)
                    have K12 : Hid (∀ wx, Hid (Below W2.heap.size W2 wx) → Calls Tryz.prog 12 #[.agg #[.int .i64 ow, .int .i64 nd, .slice r2' s2' t2', .slice r3' s3' t3', .slice r4' s4' t4', .slice r5' s5' t5'], .string (subjD k), .agg (keyC2 zKL), .slice none 0 0] wx (LedPA 0 wx (enrollD G1 (subjD k) zKL []) 351)) := fun wx hx => by
                      have := enroll_12A wx _ _ G1 (subjD k) zKL [] 0 (Nat.zero_le _) (M11.out.led.led.later hx.out).at HFT.out (by simp [zKL]) (by intro x hx; unfold zKL at hx; rw [List.eq_of_mem_replicate hx]; omega) (bytes_nil wx)
                      rw [HEE.out] at this
                      exact led_partsA this
                    have K35 : Hid (∀ wx, Hid (Below wK.heap.size wK wx) → Calls Tryz.prog 35 #[.slice aL nL cL, .int .i64 nd] wx fun e w' => e = .returned (.tuple #[.slice none 0 0, .int .i64 40]) ∧ Hid (Below wx.heap.size wx w')) := fun wx hx => comb_35_few wx _ psL (leftL (subjD k) G1.shares) nd (HRW.out.later hx.out) (HSA.out.later hx.out) (by have h1 := HNLL.out.2; have h2 := HNLL.out.1; have h3 := leftAt_len (subjD k) G1.shares (fun r hr => Nat.le_trans (HSM1.out.r r hr) (by omega)) G1.shares.length; have h4 := HSM1.out.s; unfold leftL at h1; omega) (by have := valid_parts HV1.out; rw [HND.out] at this; omega) (by have := valid_parts HV1.out; rw [HND.out] at this; omega) HFEW.out
                    have K19' : Hid (∀ wx, Hid (Below W2.heap.size W2 wx) → Calls Tryz.prog 19 #[.agg #[.int .i64 ow, .int .i64 nd, .slice r2' s2' t2', .slice r3' s3' t3', .slice r4' s4' t4', .slice r5' s5' t5'], .string (subjD k), .slice ad ld cd] wx fun e w' => e = .returned (.tuple #[.agg (keyC2 (keyD G1 (subjD k) down)), .int .i64 351]) ∧ Hid (Below wx.heap.size wx w')) := fun wx hx => by have := K19.out wx hx; rw [HKE.out] at this; exact this
                    clear hfd HIS K21 K19 HCK HKE HEE hsome HFEW HRW HSA HNLL
                    generalize enrollD G1 (subjD k) zKL [] = ge1 at *
                    generalize keyD G1 (subjD k) down = kd at *
                    have hsz : (keyC2 kd).size = 32 := by unfold keyC2; rw [List.size_toArray, List.length_map, HL32.out]
                    have HSC : Hid (∀ wx : World, (storeCells ⟨wx.heap.size, 0, none⟩ (keyC2 kd).toList 0).run Tryz.prog (wx.alloc (.cells #[.int .u8 0, .int .u8 0, .int .u8 0, .int .u8 0, .int .u8 0, .int .u8 0, .int .u8 0, .int .u8 0, .int .u8 0, .int .u8 0, .int .u8 0, .int .u8 0, .int .u8 0, .int .u8 0, .int .u8 0, .int .u8 0, .int .u8 0, .int .u8 0, .int .u8 0, .int .u8 0, .int .u8 0, .int .u8 0, .int .u8 0, .int .u8 0, .int .u8 0, .int .u8 0, .int .u8 0, .int .u8 0, .int .u8 0, .int .u8 0, .int .u8 0, .int .u8 0] 39)) = .ok () (wx.alloc (.cells (keyC2 kd) 39))) := fun wx => run_storeCells_new wx 39 zKey (keyC2 kd) (keyC2_size kd HL32.out) (by rw [hsz]; rfl) (keyC2_one kd)
                    generalize subjD k = t at *
                    go_upto_region 19 with (go_at_call 21; refine C21.out.mono ?_; rintro e wM ⟨rfl, HC3⟩)
                    have PN : Hid (Below wK.heap.size wK (wM.alloc (.cells #[.string t, .int .i64 a0] 46))) := Lib.hid (HC3.out.alloc HC3.out.size _)
                    have QN : Hid (Below W2.heap.size W2 (wM.alloc (.cells #[.string t, .int .i64 a0] 46))) := Lib.hid (below_step QK.out PN.out)
                    clear j1 j2 j3
                    obtain ⟨j1, j2, j3⟩ := box_walk (HMB.out _ QN)
                    obtain ⟨i1, i2, i3⟩ := box_walk (heap_alloc_new wM (.cells #[.string t, .int .i64 a0] 46))
                    have f1 := HFL.out _ QN
                    generalize wM.alloc (.cells #[.string t, .int .i64 a0] 46) = wN at *
                    generalize wM.heap.size = kN at *
                    go_upto_region 22 with fail
                    clear i1 i2 i3 f1
                    go_upto_region 23 with (go_at_call 19; (with_reducible refine (K19'.out _ QN).mono ?_); rintro e wO ⟨rfl, HC4⟩; have hsc := HSC.out wO)
                    have PO : Hid (Below wK.heap.size wK (wO.alloc (.cells (keyC2 kd) 39))) := Lib.hid ((below_step PN.out HC4.out).alloc (below_step PN.out HC4.out).size _)
                    have QO : Hid (Below W2.heap.size W2 (wO.alloc (.cells (keyC2 kd) 39))) := Lib.hid (below_step QK.out PO.out)
                    clear hsc HSC hsz
                    clear j1 j2 j3
                    obtain ⟨j1, j2, j3⟩ := box_walk (HMB.out _ QO)
                    generalize wO.alloc (.cells (keyC2 kd) 39) = wP at *
                    generalize wO.heap.size = kO at *
                    go_upto_region 24 with (first
                      | (refine wpList_build39z rfl rfl ?_)
                      | (go_at_call 12; (with_reducible refine (K12.out _ QO).mono ?_); rintro e wR ⟨oE, nE, a2, b2, c2, a3, b3, c3, a4, b4, c4, a5, b5, c5, rfl, HLE, HC5⟩))
                    have PR : Hid (Below wK.heap.size wK (wR.alloc (.cells #[.int .i64 oE, .int .i64 nE, .slice a2 b2 c2, .slice a3 b3 c3, .slice a4 b4 c4, .slice a5 b5 c5] 26))) := Lib.hid ((below_step PO.out HC5.out).alloc (below_step PO.out HC5.out).size _)
                    have QR : Hid (Below W2.heap.size W2 (wR.alloc (.cells #[.int .i64 oE, .int .i64 nE, .slice a2 b2 c2, .slice a3 b3 c3, .slice a4 b4 c4, .slice a5 b5 c5] 26))) := Lib.hid (below_step QK.out PR.out)
                    clear j1 j2 j3
                    obtain ⟨j1, j2, j3⟩ := box_walk (HMB.out _ QR)
                    generalize wR.alloc (.cells #[.int .i64 oE, .int .i64 nE, .slice a2 b2 c2, .slice a3 b3 c3, .slice a4 b4 c4, .slice a5 b5 c5] 26) = wS at *
                    generalize wR.heap.size = kR at *
                    go_wp2_with (go_at_call 35; (with_reducible refine (K35.out _ PR).mono ?_); rintro e wT ⟨rfl, HC6⟩; have QT : Hid (Below W2.heap.size W2 wT) := Lib.hid (below_step QR.out HC6.out))
                    go_roundw
                    case rel => exact ⟨k + 1, by omega, by go_num, QT⟩
                    case measure => simp [intOf] <;> omega
                · obtain rfl : k = 4 := by omega
                  go_wp2_with fail
                  go_roundw
                  case rel => exact ⟨i + 1, ow, nd, r2', s2', t2', r3', s3', t3', r4', s4', t4', r5', s5', t5', by omega, by go_num, by rw [HG1.out, HP1.out]; exact Lib.hid (M11.out.later HB0.out)⟩
                  case measure => simp [intOf] <;> omega
      · obtain rfl : i = nl := by omega
        go_wp2
        go_ret
        exact ⟨rfl, M1.out.below⟩
  · rw [hq] at C28
    go_wp2_with (first
      | (go_at_call 9; refine (C9.out _).mono ?_; rintro e w1 ⟨rfl, b1⟩; have B1 := Lib.hid (below_step B0.out b1.out))
      | (go_at_call 28; refine (C28.out _ B1).mono ?_; rintro e w2 ⟨rfl, b2⟩; have B2 := Lib.hid (below_step B1.out b2.out)))
    go_ret
    exact ⟨rfl, B2.out⟩
end Go.Proofs.YtpbgipdkaaooeaaGreatDoor
