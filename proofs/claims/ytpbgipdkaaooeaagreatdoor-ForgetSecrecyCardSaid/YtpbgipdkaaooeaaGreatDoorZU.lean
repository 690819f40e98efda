/- fenlandref35.Subject, Key32; law35.long, start. -/
import Derived.Test.YtpbgipdkaaooeaaGreatDoorZQ
import Derived.Test.YtpbgipdkaaooeaaGreatDoorY
import Derived.Laws.CopyRow
import Derived.Laws.IdiomCopy
import Derived.Deep.WholeRow
open Go Go.Proofs Go.RowKit
namespace Go.Proofs.YtpbgipdkaaooeaaGreatDoor
set_option linter.unusedSimpArgs false
set_option linter.unusedVariables false
attribute [local go_sem ↓] Go.wp_at_zero Go.wp_at_succ

def subjD (who : Nat) : ByteArray := if who % 4 = 0 then ⟨#[97]⟩ else if who % 4 = 1 then ⟨#[97, 98]⟩ else if who % 4 = 2 then ⟨#[98]⟩ else ⟨#[99]⟩
theorem names_39 (w : World) : Calls Tryz.prog 39 #[] w fun e w' => e = .returned (.slice (some ⟨w.heap.size, 0, none⟩) 5 5) ∧ w' = w.alloc (.cells #[.string ⟨#[]⟩, .string ⟨#[97]⟩, .string ⟨#[97, 98]⟩, .string ⟨#[98]⟩, .string ⟨#[99]⟩] 9) := by
  go_enter Tryz.func39, Tryz.ntmps39
  go_wp2
  go_ret
  exact ⟨rfl, rfl⟩
theorem subject_11 (w : World) (who : Nat) (h : who < 256) : Calls Tryz.prog 11 #[.int .u8 who] w fun e w' => e = .returned (.string (subjD who)) ∧ Below w.heap.size w w' := by
  have hb := (Below.refl w.heap.size w).alloc (Nat.le_refl _) (.cells #[.string ⟨#[]⟩, .string ⟨#[97]⟩, .string ⟨#[97, 98]⟩, .string ⟨#[98]⟩, .string ⟨#[99]⟩] 9)
  obtain ⟨q, hq⟩ : ∃ q, q = who / 4 := ⟨_, rfl⟩
  have h4 : who % 4 = 0 ∨ who % 4 = 1 ∨ who % 4 = 2 ∨ who % 4 = 3 := by omega
  rcases h4 with h4 | h4 | h4 | h4
  all_goals
    have hS : Hid (subjD who = subjD (who % 4)) := Lib.hid (by unfold subjD; rw [Nat.mod_mod])
    rw [h4] at hS
    have hr : ((who : Nat) : Int).tmod 4 = ((who % 4 : Nat) : Int) := by
      rw [Int.tmod_eq_emod_of_nonneg (by omega)]; omega
    rw [h4] at hr
    go_enter Tryz.func11, Tryz.ntmps11
    go_wp2_with (go_at_call 39; refine (names_39 _).mono ?_; rintro e w1 ⟨rfl, rfl⟩)
    go_ret
    exact ⟨by rw [hS.out]; rfl, hb⟩

/-! ### Key32 -/
def key32D (seed : List Int) : List Int := seed.take 32 ++ List.replicate (32 - seed.length) 0
theorem key32D_length (seed : List Int) : (key32D seed).length = 32 := by simp [key32D]; omega
theorem below_setRow {k g : Nat} {w wx : World} (h : Below k w wx) (hg : k ≤ g) (cs : Array Value) : Below k w (wx.setRow g cs) :=
  h.trans ⟨rfl, rfl, rfl, by simp, fun j hj => setRow_other wx g j cs (by omega)⟩
theorem setRow_same (w : World) (g : Nat) (cs : Array Value) (t : TypeId) (fr : Nat × Nat) (hg : w.heap[g]? = some (.cells cs t fr)) : w.setRow g cs = w := by
  have hlt : g < w.heap.size := (Array.getElem?_eq_some_iff.1 hg).1
  have hv : w.heap[g] = .cells cs t fr := (Array.getElem?_eq_some_iff.1 hg).2
  have he : (w.setRow g cs).heap = w.heap := by
    apply Array.ext
    · simp
    · intro i h1 h2
      by_cases hi : g = i
      · subst hi
        have := setRow_heap w g cs cs t fr hg
        rw [Array.getElem?_eq_getElem h1] at this
        rw [Option.some.inj this, hv]
      · have := setRow_other w g i cs (fun h => hi h.symm)
        rw [Array.getElem?_eq_getElem h1, Array.getElem?_eq_getElem h2] at this
        exact Option.some.inj this
  cases w
  unfold World.setRow at he ⊢
  simp only at he ⊢
  rw [he]
theorem wpList_store39_same {ops : Array Oper} {rest : List Oper} {o : Oper} {a : Act} {w : World} {Q : Exit → Act → World → Prop} (hgd : o.guard = none) (x y : Operand) (ho : o.op = .store 39 x y) (k : Nat) (cells : Array Value)
    (hx : a.eval x = .pointer (some ⟨k, 0, none⟩)) (hy : a.eval y = .agg cells) (hg : w.heap[k]? = some (.cells cells 39 (0, 0))) (hi : (Tryz.prog.info? 39).map (·.size) = some cells.size) (h1 : cells.all (·.oneCell') = true)
    (h : wpList Tryz.prog ops Q rest (a.put o.dst undef) w) : wpList Tryz.prog ops Q (o :: rest) a w :=
  wpList_store_row hgd 39 x y ho k cells hx hy 39 cells hg hi rfl h1 (by rw [setRow_same w k cells 39 (0, 0) hg]; exact h)
theorem copy_39 (w : World) (g : Nat) (a : Option Addr) (n c : Nat) (seed : List Int) (ty : TypeId) (hg : w.heap[g]? = some (.cells zKey 39 (0, 0))) (hb : BytesR w (.slice a n c) seed) :
    ∃ m : Nat, (Builtin.copy_ #[28, 28] ty #[.slice (some ⟨g, 0, none⟩) 32 32, .slice a n c]).run Tryz.prog w = .ok (goInt m) (w.setRow g (keyC2 (key32D seed))) := by
  have s5 : (Tryz.prog.info? 5).map (·.size) = some 1 := by kernel_rfl
  obtain ⟨⟨hl, a', c', hv, hle, hm, hc⟩, hx⟩ := hb
  simp only [Value.slice.injEq] at hv
  obtain ⟨rfl, rfl, rfl⟩ := hv
  by_cases h0 : 0 < seed.length
  · obtain ⟨b, off, rfl, hbb, hcells⟩ := hc h0
    have := run_copy_row (P := Tryz.prog) w 28 28 ty 5 g 0 32 32 ⟨b, off, none⟩ seed.length c zKey 39 ((seed.take 32).map (Value.int .u8)) und28 s5 hg (by rw [List.length_map, List.length_take]; exact Nat.min_comm _ _) (fun j v hj => by
      have hjl : j < (seed.take 32).length := by
        have := (List.getElem?_eq_some_iff.1 hj).1
        simpa using this
      rw [List.length_take] at hjl
      have hadd : (⟨b, off, none⟩ : Addr).add j = ⟨b, off + j, none⟩ := by unfold Addr.add; split <;> simp_all
      rw [hadd, hcells j (by omega), ← hj, List.getElem?_map, List.getElem?_map, List.getElem?_take_of_lt (by omega)]) (by simp; exact Nat.min_le_left _ _) (fun v hv => by obtain ⟨y, -, rfl⟩ := List.mem_map.1 hv; rfl)
    have he : (zKey.toList.take 0 ++ (seed.take 32).map (Value.int .u8) ++ zKey.toList.drop (0 + ((seed.take 32).map (Value.int .u8)).length)).toArray = keyC2 (key32D seed) := by
      have hz : zKey.toList = List.replicate 32 (.int .u8 0) := by rw [zKey_eq]; simp
      have hk : 32 - (0 + ((seed.take 32).map (Value.int .u8)).length) = 32 - seed.length := by rw [List.length_map, List.length_take]; omega
      unfold keyC2 key32D
      rw [hz, List.take_zero, List.nil_append, List.drop_replicate, hk, List.map_append, List.map_replicate]
    rw [he] at this
    exact ⟨_, this⟩
  · obtain rfl : seed = [] := List.length_eq_zero_iff.1 (by omega)
    refine ⟨0, (run_copy_none (P := Tryz.prog) w 28 28 ty 5 _ a 32 32 _ c und28 s5 (by simp)).trans ?_⟩
    rw [show keyC2 (key32D []) = zKey by rw [zKey_eq]; rfl, setRow_same w g zKey 39 (0, 0) hg]
    rfl

set_option maxRecDepth 100000 in
theorem key32_13 (w : World) (v : Value) (seed : List Int) (hb : BytesR w v seed) : Calls Tryz.prog 13 #[v] w fun e w' => e = .returned (.agg (keyC2 (key32D seed))) ∧ Below w.heap.size w w' := by
  obtain ⟨-, a, c, rfl, -⟩ := id hb.1
  have F0 := TwoBox.laid w zKey zKey 39 39
  have HB0 := Lib.hid (hb.later F0.below)
  have HZK : Hid (zKey = #[.int .u8 0, .int .u8 0, .int .u8 0, .int .u8 0, .int .u8 0, .int .u8 0, .int .u8 0, .int .u8 0, .int .u8 0, .int .u8 0, .int .u8 0, .int .u8 0, .int .u8 0, .int .u8 0, .int .u8 0, .int .u8 0, .int .u8 0, .int .u8 0, .int .u8 0, .int .u8 0, .int .u8 0, .int .u8 0, .int .u8 0, .int .u8 0, .int .u8 0, .int .u8 0, .int .u8 0, .int .u8 0, .int .u8 0, .int .u8 0, .int .u8 0, .int .u8 0]) := Lib.hid rfl
  have SZ : Hid ((Tryz.prog.info? 39).map (·.size) = some zKey.size) := Lib.hid (by rw [size39]; rfl)
  have OZ : Hid (zKey.all (·.oneCell') = true) := Lib.hid (by rw [zKey_eq]; exact keyC2_one _)
  have KL := Lib.hid (key32D_length seed)
  have SK := Lib.hid (keyC2_size (key32D seed) KL.out)
  have OK := Lib.hid (keyC2_one (key32D seed))
  have F0 := Lib.hid F0
  obtain ⟨n, hn⟩ : ∃ n, n = seed.length := ⟨_, rfl⟩
  rw [← hn] at HB0 ⊢
  clear hn hb
  go_enter Tryz.func13, Tryz.ntmps13
  go_upto_region 1 with fail
  go_upto_region 2 with (refine wpList_store39_same rfl _ _ rfl (w.heap.size + 1) zKey rfl rfl F0.out.two SZ.out OZ.out ?_)
  rw [← HZK.out]
  generalize hW : (w.alloc (.cells zKey 39)).alloc (.cells zKey 39) = W at *
  clear hW
  obtain ⟨m, hcp⟩ := copy_39 W (w.heap.size + 1) a n c seed 3 F0.out.two HB0.out
  have T2 : Hid ((W.setRow (w.heap.size + 1) (keyC2 (key32D seed))).heap[w.heap.size + 1]? = some (.cells (keyC2 (key32D seed)) 39 (0, 0))) := Lib.hid (setRow_heap W _ zKey _ 39 (0, 0) F0.out.two)
  have T1 : Hid ((W.setRow (w.heap.size + 1) (keyC2 (key32D seed))).heap[w.heap.size]? = some (.cells zKey 39 (0, 0))) := Lib.hid ((setRow_other W (w.heap.size + 1) w.heap.size _ (by omega)).trans F0.out.one)
  have HZS : Hid (zKey.size = (keyC2 (key32D seed)).size) := Lib.hid (by simp [keyC2, KL.out]; rfl)
  go_upto_region 3 with fail
  obtain ⟨hld, hbe⟩ : (loadVar 39 ⟨w.heap.size, 0, none⟩).run Tryz.prog ((W.setRow (w.heap.size + 1) (keyC2 (key32D seed))).setRow w.heap.size (keyC2 (key32D seed))) = .ok (.agg (keyC2 (key32D seed))) ((W.setRow (w.heap.size + 1) (keyC2 (key32D seed))).setRow w.heap.size (keyC2 (key32D seed))) ∧ Below w.heap.size w ((W.setRow (w.heap.size + 1) (keyC2 (key32D seed))).setRow w.heap.size (keyC2 (key32D seed))) :=
    ⟨run_loadVar_row _ _ 39 39 _ (0, 0) _ (setRow_heap _ w.heap.size zKey _ 39 (0, 0) T1.out) und39 rfl SK.out,
     below_setRow (below_setRow F0.out.below (by omega) _) (Nat.le_refl _) _⟩
  have hld := Lib.hid hld
  clear hcp
  go_wp2_with (first
    | (refine wpList_load_row rfl 39 _ rfl (w.heap.size + 1) rfl 39 (keyC2 (key32D seed)) (0, 0) _ T2.out und39 rfl SK.out ?_)
    | (refine wpList_store_row rfl 39 _ _ rfl w.heap.size (keyC2 (key32D seed)) rfl rfl 39 zKey T1.out SK.out HZS.out OK.out ?_))
  have hld := hld.out
  refine bodyPost_ret (v := .agg (keyC2 (key32D seed))) (by simp [results, Tryz.results13, asAddr, Act.put, hld]) rfl ⟨rfl, hbe⟩
end Go.Proofs.YtpbgipdkaaooeaaGreatDoor
