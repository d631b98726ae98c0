/- Lemmas on the way to the card of TextLays, joined from: TextChecksy2 TSpec TJoin BSpec TRChk TBuilder TWords TCont TChk TNorm TPcs BTaken TDraw TRNorm TOwn BLine BKeep. Conditions: as each lemma says. -/
import Derived.Test.YtogidacejbjljaaGreatDoorZTextLaysg
import Derived.Outline
import Derived.Lib.Hide
import Derived.IntWalk
import Derived.Test.YtogidacejbjljaaGreatDoorProg
import Derived.WalkKit
import Derived.Lib.Builder
import Derived.Laws.Externs
import Derived.Laws.IdiomCopy
import Derived.KernelRfl
import Derived.Lib.AppendStr
import Derived.Lib.UnsafeStr
import Derived.Deep.LoopGhost
import Derived.Shelf.GgClosure.StringsIndexFuncTop
import Derived.Laws.RangeAny
import Derived.Deep.RegionHeld3
import Derived.Laws.CopyRow
import Derived.Lib.SliceRun
import Derived.BigRegion
import Derived.RegionTactic
import Derived.Still
import Derived.Below
import Derived.ArgAppend
section
-- by the kit's print program, over a listing in which some functions are constants; their contracts are proved in other texts
namespace Go.Proofs.YtogidacejbjljaaGreatDoor.PTextChecks
open Go.RowKit Go.Proofs.YtogidacejbjljaaGreatDoorW.PrintWords Go.Proofs.YtogidacejbjljaaGreatDoorW.PrintLast Go.Proofs.YtogidacejbjljaaGreatDoorW.PrintMore
set_option linter.unusedVariables false
set_option linter.unusedSimpArgs false
attribute [local go_sem high] eqA40 eqA42
/-! ### r18_wide: function 98 -/
mutual
def r18_wide.j0 : Nat → Int → Int → Bool → Bool → Bool → Int → Int → Option (Int)
 | 0, _, _, _, _, _, _, _ => none
 | k + 1, x3, x205000, x205001, x205002, x205003, x205004, x205005 => (r18_in.f (wrap64 (x205000)) 65 90).bind fun t206 => (if t206 = true then (r18_wide.j1 k x3 true x205000 x205001 x205002 x205003 x205004 x205005) else ((r18_holds.f k (⟨#[109, 119, 64, 35]⟩ : ByteArray) x205000).bind fun t207 => (r18_wide.j1 k x3 t207 x205000 x205001 x205002 x205003 x205004 x205005)))
def r18_wide.j1 : Nat → Int → Bool → Int → Bool → Bool → Bool → Int → Int → Option (Int)
 | 0, _, _, _, _, _, _, _, _ => none
 | k + 1, x3, x19, x205000, x205001, x205002, x205003, x205004, x205005 => if x19 = true then (if x205001 = true then (some (wrap64 ((wrap64 (x205004 * 3)) + 1))) else (some (wrap64 (x205004 * 3)))) else (if x205001 = true then (some (wrap64 ((wrap64 (x205004 * x3)) + 1))) else (some (wrap64 (x205004 * x3))))
end
def r18_wide.f (k : Nat) (a0_0 : Int) (a0_1 : Bool) (a0_2 : Bool) (a0_3 : Bool) (a0_4 : Int) (a0_5 : Int) : Option (Int) := if a0_0 = 10 then (some 0) else ((r18_holds.f k (⟨#[105, 108, 46, 44, 39, 33, 124, 58, 32]⟩ : ByteArray) a0_0).bind fun t205 => (if t205 = true then (r18_wide.j0 k 1 a0_0 a0_1 a0_2 a0_3 a0_4 a0_5) else (r18_wide.j0 k 2 a0_0 a0_1 a0_2 a0_3 a0_4 a0_5)))
theorem r18_wide.mono_l : ∀ k, (∀ y0 y1 y2 y3 y4 y5 y6, LeO (r18_wide.j0 k y0 y1 y2 y3 y4 y5 y6) (r18_wide.j0 (k + 1) y0 y1 y2 y3 y4 y5 y6)) ∧ (∀ y0 y1 y2 y3 y4 y5 y6 y7, LeO (r18_wide.j1 k y0 y1 y2 y3 y4 y5 y6 y7) (r18_wide.j1 (k + 1) y0 y1 y2 y3 y4 y5 y6 y7))
 | 0 => ⟨fun _ _ _ _ _ _ _ r h => by simp [r18_wide.j0] at h, fun _ _ _ _ _ _ _ _ r h => by simp [r18_wide.j1] at h⟩
 | k + 1 => by
  obtain ⟨ih0, ih1⟩ := r18_wide.mono_l k
  refine ⟨?_, ?_⟩
  ·intro y0 y1 y2 y3 y4 y5 y6
   unfold r18_wide.j0
   repeat' first
   | (with_reducible exact ih0 _ _ _ _ _ _ _)
   | (with_reducible exact ih1 _ _ _ _ _ _ _ _)
   | (with_reducible exact r18_holds.mono _ _ _)
   | (with_reducible exact LeO.refl _)
   | (with_reducible exact LeO.none _)
   | (with_reducible refine LeO.ite ?_ ?_)
   | (with_reducible refine LeO.bind ?_ (fun _ => ?_))
   | exact ih0 _ _ _ _ _ _ _
   | exact ih1 _ _ _ _ _ _ _ _
   | exact r18_holds.mono _ _ _
   | exact LeO.none _
   | refine LeO.ite ?_ ?_
   | refine LeO.bind ?_ (fun _ => ?_)
  ·intro y0 y1 y2 y3 y4 y5 y6 y7
   unfold r18_wide.j1
   repeat' first
   | (with_reducible exact ih0 _ _ _ _ _ _ _)
   | (with_reducible exact ih1 _ _ _ _ _ _ _ _)
   | (with_reducible exact r18_holds.mono _ _ _)
   | (with_reducible exact LeO.refl _)
   | (with_reducible exact LeO.none _)
   | (with_reducible refine LeO.ite ?_ ?_)
   | (with_reducible refine LeO.bind ?_ (fun _ => ?_))
   | exact ih0 _ _ _ _ _ _ _
   | exact ih1 _ _ _ _ _ _ _ _
   | exact r18_holds.mono _ _ _
   | exact LeO.none _
   | refine LeO.ite ?_ ?_
   | refine LeO.bind ?_ (fun _ => ?_)
theorem r18_wide.mono : ∀ a0 a1 a2 a3 a4 a5 k, LeO (r18_wide.f k a0 a1 a2 a3 a4 a5) (r18_wide.f (k + 1) a0 a1 a2 a3 a4 a5) := by
 intro a0 a1 a2 a3 a4 a5 k
 obtain ⟨ih0, ih1⟩ := r18_wide.mono_l k
 unfold r18_wide.f
 repeat' first
   | (with_reducible exact ih0 _ _ _ _ _ _ _)
   | (with_reducible exact ih1 _ _ _ _ _ _ _ _)
   | (with_reducible exact r18_holds.mono _ _ _)
   | (with_reducible exact LeO.refl _)
   | (with_reducible exact LeO.none _)
   | (with_reducible refine LeO.ite ?_ ?_)
   | (with_reducible refine LeO.bind ?_ (fun _ => ?_))
   | exact ih0 _ _ _ _ _ _ _
   | exact ih1 _ _ _ _ _ _ _ _
   | exact r18_holds.mono _ _ _
   | exact LeO.none _
   | refine LeO.ite ?_ ?_
   | refine LeO.bind ?_ (fun _ => ?_)
set_option maxHeartbeats 8000000 in
set_option maxRecDepth 100000 in
theorem r18_wide.calls (k : Nat) (a0_0 : Int) (a0_1 : Bool) (a0_2 : Bool) (a0_3 : Bool) (a0_4 : Int) (a0_5 : Int) (r : Int) (w : World) (h : r18_wide.f k a0_0 a0_1 a0_2 a0_3 a0_4 a0_5 = some r) :
  Calls Tryz.prog 98 #[.agg #[.int .u8 a0_0, .bool a0_1, .bool a0_2, .bool a0_3, .int .i64 a0_4, .int .i64 a0_5]] w fun e w' => e = .returned (.int .i64 r) ∧ Below w.heap.size w w' := by
 have hu81 := Tryz.underlying81
 have HB := Aside0.mk (Below.refl w.heap.size w)
 have H : (if a0_0 = 10 then (some 0) else ((r18_holds.f k (⟨#[105, 108, 46, 44, 39, 33, 124, 58, 32]⟩ : ByteArray) a0_0).bind fun t205 => (if t205 = true then (r18_wide.j0 k 1 a0_0 a0_1 a0_2 a0_3 a0_4 a0_5) else (r18_wide.j0 k 2 a0_0 a0_1 a0_2 a0_3 a0_4 a0_5)))) = some r := h
 clear h
 by_cases c2 : a0_0 = 10
 ·rw [if_pos c2] at H
  have c2b0 : (a0_0 == 10) = true := beq_iff_eq.mpr c2
  have c2b1 : (a0_0 != 10) = false := bne_eq_false_iff_eq.mpr c2
  clear c2
  obtain rfl := Option.some.inj H
  go_enter Tryz.func98, Tryz.ntmps98
  go_wp2_with (first | ((with_reducible refine gate_dst (N := 1) rfl ?_); refine box_event ?hg (N := 1) ?hd (cs := #[.int .u8 a0_0, .bool a0_1, .bool a0_2, .bool a0_3, .int .i64 a0_4, .int .i64 a0_5]) (t := 81) ?hr ?_; (case hd => rfl); (case hg => rfl); (case hr => first | (go_simp; done) | (go_simp; rfl)); intro gb204 hg w3 hbox hb; have n0_ := Aside0.mk (below_step (by repeat (first | (with_reducible first | exact HB.out | apply below_alloc | apply pw_below_drewN | apply below_drew1) | exact HB.out)) hb); have n1_ := Aside0.mk (hbox); have n2_ := Aside0.mk ((by rw [hg]; exact (below_size (by repeat (first | (with_reducible first | exact HB.out | apply below_alloc | apply pw_below_drewN | apply below_drew1) | exact HB.out))) : w.heap.size ≤ gb204)); have n3_ := Aside0.mk ((by rw [hg]; exact (below_size (by repeat (first | (with_reducible first | exact HB.out | apply below_alloc | apply pw_below_drewN | apply below_drew1) | exact HB.out))) : w.heap.size ≤ gb204)); clear HB; have HB := n0_; have BK204 := n1_; have GW204 := n2_; have GE204 := n3_; clear n0_ n1_ n2_ n3_; clear hb hbox hg; have hcz4_0 : w3.cell? ⟨gb204, 0, none⟩ = some (.int .u8 a0_0) := (blk_cell BK204.out 0).trans rfl; have hcz4_1 : w3.cell? ⟨gb204, 1, none⟩ = some (.bool a0_1) := (blk_cell BK204.out 1).trans rfl; have hcz4_2 : w3.cell? ⟨gb204, 2, none⟩ = some (.bool a0_2) := (blk_cell BK204.out 2).trans rfl; have hcz4_3 : w3.cell? ⟨gb204, 3, none⟩ = some (.bool a0_3) := (blk_cell BK204.out 3).trans rfl; have hcz4_4 : w3.cell? ⟨gb204, 4, none⟩ = some (.int .i64 a0_4) := (blk_cell BK204.out 4).trans rfl; have hcz4_5 : w3.cell? ⟨gb204, 5, none⟩ = some (.int .i64 a0_5) := (blk_cell BK204.out 5).trans rfl; have hfz4_0 := blk_frozen BK204.out 0; have hfz4_1 := blk_frozen BK204.out 1; have hfz4_2 := blk_frozen BK204.out 2; have hfz4_3 := blk_frozen BK204.out 3; have hfz4_4 := blk_frozen BK204.out 4; have hfz4_5 := blk_frozen BK204.out 5))
  go_ret
  exact ⟨by first | rfl | (simp [errW_none, errW_some] <;> rfl) | (simp [*, errW_none, errW_some] <;> rfl), by repeat (first | (with_reducible first | exact HB.out | apply below_alloc | apply pw_below_drewN | apply below_drew1 | refine below_set ?_ GE204.out) | exact HB.out)⟩
 ·rw [if_neg c2] at H
  have c2b0 : (a0_0 == 10) = false := beq_eq_false_iff_ne.mpr c2
  have c2b1 : (a0_0 != 10) = true := bne_iff_ne.mpr c2
  replace H := Option.bind_eq_some_iff.mp H
  obtain ⟨t205, A50, H⟩ := H
  replace H : (if t205 = true then (r18_wide.j0 k 1 a0_0 a0_1 a0_2 a0_3 a0_4 a0_5) else (r18_wide.j0 k 2 a0_0 a0_1 a0_2 a0_3 a0_4 a0_5)) = some r := H
  have A5 := Aside0.mk A50
  clear A50
  have HC6 := Aside0.mk H
  clear H
  go_enter Tryz.func98, Tryz.ntmps98
  go_upto_if 10 with (first | ((with_reducible refine gate_dst (N := 1) rfl ?_); refine box_event ?hg (N := 1) ?hd (cs := #[.int .u8 a0_0, .bool a0_1, .bool a0_2, .bool a0_3, .int .i64 a0_4, .int .i64 a0_5]) (t := 81) ?hr ?_; (case hd => rfl); (case hg => rfl); (case hr => first | (go_simp; done) | (go_simp; rfl)); intro gb204 hg w7 hbox hb; have n0_ := Aside0.mk (below_step (by repeat (first | (with_reducible first | exact HB.out | apply below_alloc | apply pw_below_drewN | apply below_drew1) | exact HB.out)) hb); have n1_ := Aside0.mk (hbox); have n2_ := Aside0.mk ((by rw [hg]; exact (below_size (by repeat (first | (with_reducible first | exact HB.out | apply below_alloc | apply pw_below_drewN | apply below_drew1) | exact HB.out))) : w.heap.size ≤ gb204)); have n3_ := Aside0.mk ((by rw [hg]; exact (below_size (by repeat (first | (with_reducible first | exact HB.out | apply below_alloc | apply pw_below_drewN | apply below_drew1) | exact HB.out))) : w.heap.size ≤ gb204)); clear HB; have HB := n0_; have BK204 := n1_; have GW204 := n2_; have GE204 := n3_; clear n0_ n1_ n2_ n3_; clear hb hbox hg; have hcz8_0 : w7.cell? ⟨gb204, 0, none⟩ = some (.int .u8 a0_0) := (blk_cell BK204.out 0).trans rfl; have hcz8_1 : w7.cell? ⟨gb204, 1, none⟩ = some (.bool a0_1) := (blk_cell BK204.out 1).trans rfl; have hcz8_2 : w7.cell? ⟨gb204, 2, none⟩ = some (.bool a0_2) := (blk_cell BK204.out 2).trans rfl; have hcz8_3 : w7.cell? ⟨gb204, 3, none⟩ = some (.bool a0_3) := (blk_cell BK204.out 3).trans rfl; have hcz8_4 : w7.cell? ⟨gb204, 4, none⟩ = some (.int .i64 a0_4) := (blk_cell BK204.out 4).trans rfl; have hcz8_5 : w7.cell? ⟨gb204, 5, none⟩ = some (.int .i64 a0_5) := (blk_cell BK204.out 5).trans rfl; have hfz8_0 := blk_frozen BK204.out 0; have hfz8_1 := blk_frozen BK204.out 1; have hfz8_2 := blk_frozen BK204.out 2; have hfz8_3 := blk_frozen BK204.out 3; have hfz8_4 := blk_frozen BK204.out 4; have hfz8_5 := blk_frozen BK204.out 5) | ((with_reducible refine gate_callee (f := 125) rfl ?_); refine goesL_ (some 10) rfl rfl Tryz.func125 (by kernel_rfl) rfl #[.string (⟨#[105, 108, 46, 44, 39, 33, 124, 58, 32]⟩ : ByteArray), .int .u8 a0_0] rfl (by (try simp only [List.map_toArray, List.map_cons, List.map_nil]); first | done | rfl | (simp only [List.length_drop, List.length_take]; rfl)) ?_; (with_reducible refine (r18_holds.calls k (⟨#[105, 108, 46, 44, 39, 33, 124, 58, 32]⟩ : ByteArray) a0_0 t205 _ A5.out).mono ?_); rintro e w' ⟨rfl, ⟨nd, rfl⟩⟩; refine ⟨_, rfl, ?_⟩))
  (try simp only [Act.put, List.setIfInBounds_toArray, List.set_cons_zero, List.set_cons_succ])
  go_cut [3] (fun v3 wc => ∃ (kq : Nat) (x3_5 : Int), v3 = .int .i64 x3_5 ∧ Aside0 (r18_wide.j0 kq x3_5 a0_0 a0_1 a0_2 a0_3 a0_4 a0_5 = some r) ∧ Aside0 (kq ≤ k) ∧ Aside0 (wc.heap[gb204]? = some (.cells #[.int .u8 a0_0, .bool a0_1, .bool a0_2, .bool a0_3, .int .i64 a0_4, .int .i64 a0_5] 81 (0, 0))) ∧ Aside0 (Below w.heap.size w wc))
  case first =>
   have H := HC6.out
   clear HC6
   by_cases c9 : t205 = true
   ·subst c9
    have H1 : (r18_wide.j0 k 1 a0_0 a0_1 a0_2 a0_3 a0_4 a0_5) = some r := by rw [if_pos rfl] at H; exact H
    clear H
    have H := H1
    clear H1
    have H' := Aside0.mk H
    clear H
    go_wp2
    go_meet
    case rel => exact ⟨_, (1), (by first | rfl | (simp; done) | (simp [*]; done)), H', ⟨by first | omega | exact Nat.le_refl _⟩, ⟨by (with_reducible repeat (first | refine blk_drewN ?_ _ | refine blk_drew ?_ | refine blk_alloc ?_ _)); exact BK204.out⟩, ⟨by repeat (first | (with_reducible first | exact HB.out | apply below_alloc | apply pw_below_drewN | apply below_drew1 | refine below_set ?_ GE204.out) | exact HB.out)⟩⟩
   ·replace c9 := Bool.eq_false_iff.mpr c9
    subst c9
    have H1 : (r18_wide.j0 k 2 a0_0 a0_1 a0_2 a0_3 a0_4 a0_5) = some r := by rw [if_neg (show ¬ (false = true) by decide)] at H; exact H
    clear H
    have H := H1
    clear H1
    have H' := Aside0.mk H
    clear H
    go_wp2
    go_meet
    case rel => exact ⟨_, (2), (by first | rfl | (simp; done) | (simp [*]; done)), H', ⟨by first | omega | exact Nat.le_refl _⟩, ⟨by (with_reducible repeat (first | refine blk_drewN ?_ _ | refine blk_drew ?_ | refine blk_alloc ?_ _)); exact BK204.out⟩, ⟨by repeat (first | (with_reducible first | exact HB.out | apply below_alloc | apply pw_below_drewN | apply below_drew1 | refine below_set ?_ GE204.out) | exact HB.out)⟩⟩
  case rest =>
   clear HC6
   try clear c1
   try clear c2
   try clear c2b0
   try clear c2b1
   try clear p2
   try clear c9
   try clear hcz4_0
   try clear hcz4_1
   try clear hcz4_2
   try clear hcz4_3
   try clear hcz4_4
   try clear hcz4_5
   try clear hcz8_0
   try clear hcz8_1
   try clear hcz8_2
   try clear hcz8_3
   try clear hcz8_4
   try clear hcz8_5
   try clear hfz4_0
   try clear hfz4_1
   try clear hfz4_2
   try clear hfz4_3
   try clear hfz4_4
   try clear hfz4_5
   try clear hfz8_0
   try clear hfz8_1
   try clear hfz8_2
   try clear hfz8_3
   try clear hfz8_4
   try clear hfz8_5
   obtain ⟨kq, x3_5, rfl, HA, HJ5, BK204, HB⟩ := hcut
   cases kq with
   | zero => exact absurd HA.out (by simp [r18_wide.j0])
   | succ kj5 =>
    have H := HA.out
    clear HA
    simp only [r18_wide.j0] at H
    have HC10 := Aside0.mk H
    clear H
    go_upto_region 6 with (fail)
    go_cut [19] (fun v19 wc => ∃ (kq : Nat) (x19_9 : Bool), v19 = .bool x19_9 ∧ Aside0 (r18_wide.j1 kq x3_5 x19_9 a0_0 a0_1 a0_2 a0_3 a0_4 a0_5 = some r) ∧ Aside0 (kq ≤ kj5) ∧ Aside0 (wc.heap[gb204]? = some (.cells #[.int .u8 a0_0, .bool a0_1, .bool a0_2, .bool a0_3, .int .i64 a0_4, .int .i64 a0_5] 81 (0, 0))) ∧ Aside0 (Below w.heap.size w wc))
    case first =>
     have H := HC10.out
     clear HC10
     replace H := Option.bind_eq_some_iff.mp H
     obtain ⟨t206, A110, H⟩ := H
     replace H : (if t206 = true then (r18_wide.j1 kj5 x3_5 true a0_0 a0_1 a0_2 a0_3 a0_4 a0_5) else ((r18_holds.f kj5 (⟨#[109, 119, 64, 35]⟩ : ByteArray) a0_0).bind fun t207 => (r18_wide.j1 kj5 x3_5 t207 a0_0 a0_1 a0_2 a0_3 a0_4 a0_5))) = some r := H
     have A11 := Aside0.mk A110
     clear A110
     by_cases c12 : t206 = true
     ·subst c12
      have H1 : (r18_wide.j1 kj5 x3_5 true a0_0 a0_1 a0_2 a0_3 a0_4 a0_5) = some r := by rw [if_pos rfl] at H; exact H
      clear H
      have H := H1
      clear H1
      have H' := Aside0.mk H
      clear H
      have hcz13_0 : wc.cell? ⟨gb204, 0, none⟩ = some (.int .u8 a0_0) := (blk_cell BK204.out 0).trans rfl
      have hcz13_1 : wc.cell? ⟨gb204, 1, none⟩ = some (.bool a0_1) := (blk_cell BK204.out 1).trans rfl
      have hcz13_2 : wc.cell? ⟨gb204, 2, none⟩ = some (.bool a0_2) := (blk_cell BK204.out 2).trans rfl
      have hcz13_3 : wc.cell? ⟨gb204, 3, none⟩ = some (.bool a0_3) := (blk_cell BK204.out 3).trans rfl
      have hcz13_4 : wc.cell? ⟨gb204, 4, none⟩ = some (.int .i64 a0_4) := (blk_cell BK204.out 4).trans rfl
      have hcz13_5 : wc.cell? ⟨gb204, 5, none⟩ = some (.int .i64 a0_5) := (blk_cell BK204.out 5).trans rfl
      have hfz13_0 := blk_frozen BK204.out 0
      have hfz13_1 := blk_frozen BK204.out 1
      have hfz13_2 := blk_frozen BK204.out 2
      have hfz13_3 := blk_frozen BK204.out 3
      have hfz13_4 := blk_frozen BK204.out 4
      have hfz13_5 := blk_frozen BK204.out 5
      go_wp2_with (first | ((with_reducible refine gate_callee (f := 51) rfl ?_); refine goesL_ (some 14) rfl rfl Tryz.func51 (by kernel_rfl) rfl #[.int .i64 (wrap64 (a0_0)), .int .i64 65, .int .i64 90] rfl (by (try simp only [List.map_toArray, List.map_cons, List.map_nil]); first | done | rfl | (simp only [List.length_drop, List.length_take]; rfl)) ?_; (with_reducible refine (r18_in.calls (wrap64 (a0_0)) 65 90 true _ A11.out).mono ?_); rintro e w' ⟨rfl, ⟨nd, rfl⟩⟩; refine ⟨_, rfl, ?_⟩))
      go_meet
      case rel => exact ⟨_, (true), (by first | rfl | (simp; done) | (simp [*]; done)), H', ⟨by have := HJ5.out; first | omega | exact Nat.le_refl _⟩, ⟨by (with_reducible repeat (first | refine blk_drewN ?_ _ | refine blk_drew ?_ | refine blk_alloc ?_ _)); exact BK204.out⟩, ⟨by repeat (first | (with_reducible first | exact HB.out | apply below_alloc | apply pw_below_drewN | apply below_drew1 | refine below_set ?_ GE204.out) | exact HB.out)⟩⟩
     ·replace c12 := Bool.eq_false_iff.mpr c12
      subst c12
      have H1 : ((r18_holds.f kj5 (⟨#[109, 119, 64, 35]⟩ : ByteArray) a0_0).bind fun t207 => (r18_wide.j1 kj5 x3_5 t207 a0_0 a0_1 a0_2 a0_3 a0_4 a0_5)) = some r := by rw [if_neg (show ¬ (false = true) by decide)] at H; exact H
      clear H
      have H := H1
      clear H1
      replace H := Option.bind_eq_some_iff.mp H
      obtain ⟨t207, A140, H⟩ := H
      replace H : (r18_wide.j1 kj5 x3_5 t207 a0_0 a0_1 a0_2 a0_3 a0_4 a0_5) = some r := H
      have A14 := Aside0.mk A140
      clear A140
      have H' := Aside0.mk H
      clear H
      have hcz15_0 : wc.cell? ⟨gb204, 0, none⟩ = some (.int .u8 a0_0) := (blk_cell BK204.out 0).trans rfl
      have hcz15_1 : wc.cell? ⟨gb204, 1, none⟩ = some (.bool a0_1) := (blk_cell BK204.out 1).trans rfl
      have hcz15_2 : wc.cell? ⟨gb204, 2, none⟩ = some (.bool a0_2) := (blk_cell BK204.out 2).trans rfl
      have hcz15_3 : wc.cell? ⟨gb204, 3, none⟩ = some (.bool a0_3) := (blk_cell BK204.out 3).trans rfl
      have hcz15_4 : wc.cell? ⟨gb204, 4, none⟩ = some (.int .i64 a0_4) := (blk_cell BK204.out 4).trans rfl
      have hcz15_5 : wc.cell? ⟨gb204, 5, none⟩ = some (.int .i64 a0_5) := (blk_cell BK204.out 5).trans rfl
      have hfz15_0 := blk_frozen BK204.out 0
      have hfz15_1 := blk_frozen BK204.out 1
      have hfz15_2 := blk_frozen BK204.out 2
      have hfz15_3 := blk_frozen BK204.out 3
      have hfz15_4 := blk_frozen BK204.out 4
      have hfz15_5 := blk_frozen BK204.out 5
      go_wp2_with (first | ((with_reducible refine gate_callee (f := 51) rfl ?_); refine goesL_ (some 14) rfl rfl Tryz.func51 (by kernel_rfl) rfl #[.int .i64 (wrap64 (a0_0)), .int .i64 65, .int .i64 90] rfl (by (try simp only [List.map_toArray, List.map_cons, List.map_nil]); first | done | rfl | (simp only [List.length_drop, List.length_take]; rfl)) ?_; (with_reducible refine (r18_in.calls (wrap64 (a0_0)) 65 90 false _ A11.out).mono ?_); rintro e w' ⟨rfl, ⟨nd, rfl⟩⟩; refine ⟨_, rfl, ?_⟩) | (go_at_call 125; (with_reducible refine (r18_holds.calls kj5 (⟨#[109, 119, 64, 35]⟩ : ByteArray) a0_0 t207 _ A14.out).mono ?_); rintro e w' ⟨rfl, ⟨nd, rfl⟩⟩))
      go_meet
      case rel => exact ⟨_, (t207), (by first | rfl | (simp; done) | (simp [*]; done)), H', ⟨by have := HJ5.out; first | omega | exact Nat.le_refl _⟩, ⟨by (with_reducible repeat (first | refine blk_drewN ?_ _ | refine blk_drew ?_ | refine blk_alloc ?_ _)); exact BK204.out⟩, ⟨by repeat (first | (with_reducible first | exact HB.out | apply below_alloc | apply pw_below_drewN | apply below_drew1 | refine below_set ?_ GE204.out) | exact HB.out)⟩⟩
    case rest =>
     clear HC10
     try clear c1
     try clear c2
     try clear c2b0
     try clear c2b1
     try clear p2
     try clear c5
     try clear p6
     try clear c9
     try clear c12
     try clear hcz13_0
     try clear hcz13_1
     try clear hcz13_2
     try clear hcz13_3
     try clear hcz13_4
     try clear hcz13_5
     try clear hcz15_0
     try clear hcz15_1
     try clear hcz15_2
     try clear hcz15_3
     try clear hcz15_4
     try clear hcz15_5
     try clear hcz4_0
     try clear hcz4_1
     try clear hcz4_2
     try clear hcz4_3
     try clear hcz4_4
     try clear hcz4_5
     try clear hcz8_0
     try clear hcz8_1
     try clear hcz8_2
     try clear hcz8_3
     try clear hcz8_4
     try clear hcz8_5
     try clear hfz13_0
     try clear hfz13_1
     try clear hfz13_2
     try clear hfz13_3
     try clear hfz13_4
     try clear hfz13_5
     try clear hfz15_0
     try clear hfz15_1
     try clear hfz15_2
     try clear hfz15_3
     try clear hfz15_4
     try clear hfz15_5
     try clear hfz4_0
     try clear hfz4_1
     try clear hfz4_2
     try clear hfz4_3
     try clear hfz4_4
     try clear hfz4_5
     try clear hfz8_0
     try clear hfz8_1
     try clear hfz8_2
     try clear hfz8_3
     try clear hfz8_4
     try clear hfz8_5
     try clear p2
     obtain ⟨kq, x19_9, rfl, HA, HJ9, BK204, HB⟩ := hcut
     cases kq with
     | zero => exact absurd HA.out (by simp [r18_wide.j1])
     | succ kj9 =>
      have H := HA.out
      clear HA
      simp only [r18_wide.j1] at H
      by_cases c16 : x19_9 = true
      ·subst c16
       have H1 : (if a0_1 = true then (some (wrap64 ((wrap64 (a0_4 * 3)) + 1))) else (some (wrap64 (a0_4 * 3)))) = some r := by rw [if_pos rfl] at H; exact H
       clear H
       have H := H1
       clear H1
       by_cases c17 : a0_1 = true
       ·subst c17
        have H1 : (some (wrap64 ((wrap64 (a0_4 * 3)) + 1))) = some r := by rw [if_pos rfl] at H; exact H
        clear H
        have H := H1
        clear H1
        obtain rfl := Option.some.inj H
        have hcz18_0 : wc.cell? ⟨gb204, 0, none⟩ = some (.int .u8 a0_0) := (blk_cell BK204.out 0).trans rfl
        have hcz18_1 : wc.cell? ⟨gb204, 1, none⟩ = some (.bool true) := (blk_cell BK204.out 1).trans rfl
        have hcz18_2 : wc.cell? ⟨gb204, 2, none⟩ = some (.bool a0_2) := (blk_cell BK204.out 2).trans rfl
        have hcz18_3 : wc.cell? ⟨gb204, 3, none⟩ = some (.bool a0_3) := (blk_cell BK204.out 3).trans rfl
        have hcz18_4 : wc.cell? ⟨gb204, 4, none⟩ = some (.int .i64 a0_4) := (blk_cell BK204.out 4).trans rfl
        have hcz18_5 : wc.cell? ⟨gb204, 5, none⟩ = some (.int .i64 a0_5) := (blk_cell BK204.out 5).trans rfl
        have hfz18_0 := blk_frozen BK204.out 0
        have hfz18_1 := blk_frozen BK204.out 1
        have hfz18_2 := blk_frozen BK204.out 2
        have hfz18_3 := blk_frozen BK204.out 3
        have hfz18_4 := blk_frozen BK204.out 4
        have hfz18_5 := blk_frozen BK204.out 5
        go_wp2
        go_ret
        exact ⟨by first | rfl | (simp [errW_none, errW_some] <;> rfl) | (simp [*, errW_none, errW_some] <;> rfl), by repeat (first | (with_reducible first | exact HB.out | apply below_alloc | apply pw_below_drewN | apply below_drew1 | refine below_set ?_ GE204.out) | exact HB.out)⟩
       ·replace c17 := Bool.eq_false_iff.mpr c17
        subst c17
        have H1 : (some (wrap64 (a0_4 * 3))) = some r := by rw [if_neg (show ¬ (false = true) by decide)] at H; exact H
        clear H
        have H := H1
        clear H1
        obtain rfl := Option.some.inj H
        have hcz19_0 : wc.cell? ⟨gb204, 0, none⟩ = some (.int .u8 a0_0) := (blk_cell BK204.out 0).trans rfl
        have hcz19_1 : wc.cell? ⟨gb204, 1, none⟩ = some (.bool false) := (blk_cell BK204.out 1).trans rfl
        have hcz19_2 : wc.cell? ⟨gb204, 2, none⟩ = some (.bool a0_2) := (blk_cell BK204.out 2).trans rfl
        have hcz19_3 : wc.cell? ⟨gb204, 3, none⟩ = some (.bool a0_3) := (blk_cell BK204.out 3).trans rfl
        have hcz19_4 : wc.cell? ⟨gb204, 4, none⟩ = some (.int .i64 a0_4) := (blk_cell BK204.out 4).trans rfl
        have hcz19_5 : wc.cell? ⟨gb204, 5, none⟩ = some (.int .i64 a0_5) := (blk_cell BK204.out 5).trans rfl
        have hfz19_0 := blk_frozen BK204.out 0
        have hfz19_1 := blk_frozen BK204.out 1
        have hfz19_2 := blk_frozen BK204.out 2
        have hfz19_3 := blk_frozen BK204.out 3
        have hfz19_4 := blk_frozen BK204.out 4
        have hfz19_5 := blk_frozen BK204.out 5
        go_wp2
        go_ret
        exact ⟨by first | rfl | (simp [errW_none, errW_some] <;> rfl) | (simp [*, errW_none, errW_some] <;> rfl), by repeat (first | (with_reducible first | exact HB.out | apply below_alloc | apply pw_below_drewN | apply below_drew1 | refine below_set ?_ GE204.out) | exact HB.out)⟩
      ·replace c16 := Bool.eq_false_iff.mpr c16
       subst c16
       have H1 : (if a0_1 = true then (some (wrap64 ((wrap64 (a0_4 * x3_5)) + 1))) else (some (wrap64 (a0_4 * x3_5)))) = some r := by rw [if_neg (show ¬ (false = true) by decide)] at H; exact H
       clear H
       have H := H1
       clear H1
       by_cases c20 : a0_1 = true
       ·subst c20
        have H1 : (some (wrap64 ((wrap64 (a0_4 * x3_5)) + 1))) = some r := by rw [if_pos rfl] at H; exact H
        clear H
        have H := H1
        clear H1
        obtain rfl := Option.some.inj H
        have hcz21_0 : wc.cell? ⟨gb204, 0, none⟩ = some (.int .u8 a0_0) := (blk_cell BK204.out 0).trans rfl
        have hcz21_1 : wc.cell? ⟨gb204, 1, none⟩ = some (.bool true) := (blk_cell BK204.out 1).trans rfl
        have hcz21_2 : wc.cell? ⟨gb204, 2, none⟩ = some (.bool a0_2) := (blk_cell BK204.out 2).trans rfl
        have hcz21_3 : wc.cell? ⟨gb204, 3, none⟩ = some (.bool a0_3) := (blk_cell BK204.out 3).trans rfl
        have hcz21_4 : wc.cell? ⟨gb204, 4, none⟩ = some (.int .i64 a0_4) := (blk_cell BK204.out 4).trans rfl
        have hcz21_5 : wc.cell? ⟨gb204, 5, none⟩ = some (.int .i64 a0_5) := (blk_cell BK204.out 5).trans rfl
        have hfz21_0 := blk_frozen BK204.out 0
        have hfz21_1 := blk_frozen BK204.out 1
        have hfz21_2 := blk_frozen BK204.out 2
        have hfz21_3 := blk_frozen BK204.out 3
        have hfz21_4 := blk_frozen BK204.out 4
        have hfz21_5 := blk_frozen BK204.out 5
        go_wp2
        go_ret
        exact ⟨by first | rfl | (simp [errW_none, errW_some] <;> rfl) | (simp [*, errW_none, errW_some] <;> rfl), by repeat (first | (with_reducible first | exact HB.out | apply below_alloc | apply pw_below_drewN | apply below_drew1 | refine below_set ?_ GE204.out) | exact HB.out)⟩
       ·replace c20 := Bool.eq_false_iff.mpr c20
        subst c20
        have H1 : (some (wrap64 (a0_4 * x3_5))) = some r := by rw [if_neg (show ¬ (false = true) by decide)] at H; exact H
        clear H
        have H := H1
        clear H1
        obtain rfl := Option.some.inj H
        have hcz22_0 : wc.cell? ⟨gb204, 0, none⟩ = some (.int .u8 a0_0) := (blk_cell BK204.out 0).trans rfl
        have hcz22_1 : wc.cell? ⟨gb204, 1, none⟩ = some (.bool false) := (blk_cell BK204.out 1).trans rfl
        have hcz22_2 : wc.cell? ⟨gb204, 2, none⟩ = some (.bool a0_2) := (blk_cell BK204.out 2).trans rfl
        have hcz22_3 : wc.cell? ⟨gb204, 3, none⟩ = some (.bool a0_3) := (blk_cell BK204.out 3).trans rfl
        have hcz22_4 : wc.cell? ⟨gb204, 4, none⟩ = some (.int .i64 a0_4) := (blk_cell BK204.out 4).trans rfl
        have hcz22_5 : wc.cell? ⟨gb204, 5, none⟩ = some (.int .i64 a0_5) := (blk_cell BK204.out 5).trans rfl
        have hfz22_0 := blk_frozen BK204.out 0
        have hfz22_1 := blk_frozen BK204.out 1
        have hfz22_2 := blk_frozen BK204.out 2
        have hfz22_3 := blk_frozen BK204.out 3
        have hfz22_4 := blk_frozen BK204.out 4
        have hfz22_5 := blk_frozen BK204.out 5
        go_wp2
        go_ret
        exact ⟨by first | rfl | (simp [errW_none, errW_some] <;> rfl) | (simp [*, errW_none, errW_some] <;> rfl), by repeat (first | (with_reducible first | exact HB.out | apply below_alloc | apply pw_below_drewN | apply below_drew1 | refine below_set ?_ GE204.out) | exact HB.out)⟩


/-! ### r18_length: function 61 -/
def r18_length.l0 : Nat → List (S81) → Int → Int → Option (Int)
 | 0, _, _, _ => none
 | k + 1, x0, x3, x4 => if x4 < (x0.length : Int) then (if 0 ≤ x4 then ((r18_wide.f k ((rd_T81 x0 x4).f0) ((rd_T81 x0 x4).f1.f0) ((rd_T81 x0 x4).f1.f1) ((rd_T81 x0 x4).f1.f2) ((rd_T81 x0 x4).f1.f3) ((rd_T81 x0 x4).f1.f4)).bind fun t209 => (r18_length.l0 k x0 (wrap64 (x3 + t209)) (wrap64 (x4 + 1)))) else (none)) else (some x3)
def r18_length.f (k : Nat) (l0 : List (S81)) : Option (Int) := r18_length.l0 k l0 0 0
set_option maxHeartbeats 8000000 in
set_option maxRecDepth 100000 in
theorem r18_length.calls (k : Nat) (A0 : Option Addr) (c0 : Nat) (l0 : List (S81)) (r : Int) (w : World) (hr0 : Kd.C k81 w A0 l0.length l0) (hc0 : l0.length ≤ c0) (h : r18_length.f k l0 = some r) :
  Calls Tryz.prog 61 #[.slice A0 l0.length c0] w fun e w' => e = .returned (.int .i64 r) ∧ Below w.heap.size w w' := by
 have hu81 := Tryz.underlying81
 have HR0 := Aside0.mk hr0
 have HC0 := Aside0.mk hc0
 clear hr0 hc0
 have HB := Aside0.mk (Below.refl w.heap.size w)
 have H : (r18_length.l0 k l0 0 0) = some r := h
 clear h
 have H' := Aside0.mk H
 clear H
 go_enter Tryz.func61, Tryz.ntmps61
 go_wp2
 go_loopg [3, 4] k (fun kq v3 v4 w' => ∃ (x3_1 : Int) (x4_1 : Int), v3 = .int .i64 x3_1 ∧ v4 = .int .i64 x4_1 ∧ Aside0 (r18_length.l0 kq l0 x3_1 x4_1 = some r) ∧ Aside0 (kq ≤ k) ∧ Aside0 (Below w.heap.size w w'))
 case atStart => exact ⟨(0), (0), (by first | rfl | (simp; done) | (simp [*]; done)), (by first | rfl | (simp; done) | (simp [*]; done)), H', ⟨Nat.le_refl _⟩, ⟨by repeat (first | (with_reducible first | exact HB.out | apply below_alloc | apply pw_below_drewN | apply below_drew1) | exact HB.out)⟩⟩
 case round =>
  clear H'
  obtain ⟨x3_1, x4_1, rfl, rfl, HA, HK1, HB⟩ := hrel
  cases gk with
  | zero => exact absurd HA.out (by simp [r18_length.l0])
  | succ k1 =>
   have H := HA.out
   clear HA
   simp only [r18_length.l0] at H
   by_cases c2 : x4_1 < (l0.length : Int)
   ·rw [if_pos c2] at H
    have c2b0 : decide (x4_1 < (l0.length : Int)) = true := decide_eq_true c2
    clear c2
    by_cases c3 : 0 ≤ x4_1
    ·rw [if_pos c3] at H
     have c3b0 : decide (0 ≤ x4_1) = true := decide_eq_true c3
     clear c3
     replace H := Option.bind_eq_some_iff.mp H
     obtain ⟨t209, A40, H⟩ := H
     replace H : (r18_length.l0 k1 l0 (wrap64 (x3_1 + t209)) (wrap64 (x4_1 + 1))) = some r := H
     have A4 := Aside0.mk A40
     clear A40
     have H' := Aside0.mk H
     clear H
     have p208 : 0 ≤ (x4_1 : Int) := of_decide_eq_true (by first | (with_reducible assumption) | assumption)
     have q208 : x4_1 < (l0.length : Int) := of_decide_eq_true (by first | (with_reducible assumption) | assumption)
     obtain ⟨ad208, e208, hx208_0, hx208_1, hx208_2, hx208_3, hx208_4, hx208_5⟩ := at_T81 HR0.out x4_1 p208 q208
     cases e208
     replace hx208_0 := (HB.out.cell (World.block_lt_of_cell? w _ hx208_0)).trans hx208_0
     replace hx208_1 := (HB.out.cell (World.block_lt_of_cell? w _ hx208_1)).trans hx208_1
     replace hx208_2 := (HB.out.cell (World.block_lt_of_cell? w _ hx208_2)).trans hx208_2
     replace hx208_3 := (HB.out.cell (World.block_lt_of_cell? w _ hx208_3)).trans hx208_3
     replace hx208_4 := (HB.out.cell (World.block_lt_of_cell? w _ hx208_4)).trans hx208_4
     replace hx208_5 := (HB.out.cell (World.block_lt_of_cell? w _ hx208_5)).trans hx208_5
     replace p208 := eq_true p208
     replace q208 := eq_true q208
     go_wp2_with (first | ((with_reducible refine gate_callee (f := 98) rfl ?_); refine goesL_ (some 16) rfl rfl Tryz.func98 (by kernel_rfl) rfl #[.agg #[.int .u8 ((rd_T81 l0 x4_1).f0), .bool ((rd_T81 l0 x4_1).f1.f0), .bool ((rd_T81 l0 x4_1).f1.f1), .bool ((rd_T81 l0 x4_1).f1.f2), .int .i64 ((rd_T81 l0 x4_1).f1.f3), .int .i64 ((rd_T81 l0 x4_1).f1.f4)]] rfl (by (try simp only [List.map_toArray, List.map_cons, List.map_nil]); first | done | rfl | (simp only [List.length_drop, List.length_take]; rfl)) ?_; (with_reducible refine (r18_wide.calls k1 ((rd_T81 l0 x4_1).f0) ((rd_T81 l0 x4_1).f1.f0) ((rd_T81 l0 x4_1).f1.f1) ((rd_T81 l0 x4_1).f1.f2) ((rd_T81 l0 x4_1).f1.f3) ((rd_T81 l0 x4_1).f1.f4) t209 _ A4.out).mono ?_); rintro e w5 ⟨rfl, hb⟩; refine ⟨_, rfl, ?_⟩; have n0_ := Aside0.mk (below_step (by repeat (first | (with_reducible first | exact HB.out | apply below_alloc | apply pw_below_drewN | apply below_drew1) | exact HB.out)) hb); clear HB; have HB := n0_; clear n0_; (try clear hb); (try clear hb2); (try clear hk); (try clear hi)))
     go_roundg k1
     case measure => have := HK1.out; omega
     case rel => exact ⟨(wrap64 (x3_1 + t209)), (wrap64 (x4_1 + 1)), (by first | rfl | (simp; done) | (simp [*]; done)), (by first | rfl | (simp; done) | (simp [*]; done)), H', ⟨by have := HK1.out; omega⟩, ⟨by repeat (first | (with_reducible first | exact HB.out | apply below_alloc | apply pw_below_drewN | apply below_drew1) | exact HB.out)⟩⟩
    ·rw [if_neg c3] at H
     exact absurd H (by simp)
   ·rw [if_neg c2] at H
    have c2b0 : decide (x4_1 < (l0.length : Int)) = false := decide_eq_false c2
    clear c2
    obtain rfl := Option.some.inj H
    go_wp2
    go_ret
    exact ⟨by first | rfl | (simp [errW_none, errW_some] <;> rfl) | (simp [*, errW_none, errW_some] <;> rfl), by repeat (first | (with_reducible first | exact HB.out | apply below_alloc | apply pw_below_drewN | apply below_drew1) | exact HB.out)⟩


/-! ### r18_Width: function 24 -/


/-! ### r18_Lines: function 28 -/
def r18_Lines.l0 : Nat → ByteArray → Int → Int → Option (Int)
 | 0, _, _, _ => none
 | k + 1, x3, x4, x5 => if x5 < (x3.size : Int) then (if 0 ≤ x5 then (if (bt x3 x5) = 10 then (r18_Lines.l0 k x3 (wrap64 (x4 + 1)) (wrap64 (x5 + 1))) else (r18_Lines.l0 k x3 x4 (wrap64 (x5 + 1)))) else (none)) else (some x4)
def r18_Lines.f (k : Nat) (a0_0 : Int) (a0_1 : Int) (a0_2 : Int) (l0_3 : List (S42)) : Option (Int) := (r18_Words.f k a0_0 a0_1 a0_2 l0_3).bind fun t219 => (r18_Lines.l0 k t219 1 0)
set_option maxHeartbeats 8000000 in
set_option maxRecDepth 100000 in
theorem r18_Lines.calls (k : Nat) (a0_0 : Int) (a0_1 : Int) (a0_2 : Int) (A0_3 : Option Addr) (c0_3 : Nat) (l0_3 : List (S42)) (r : Int) (w : World) (hr0_3 : Kd.C k42 w A0_3 l0_3.length l0_3) (hc0_3 : l0_3.length ≤ c0_3) (h : r18_Lines.f k a0_0 a0_1 a0_2 l0_3 = some r) :
  Calls Tryz.prog 28 #[.agg #[.int .i64 a0_0, .int .i64 a0_1, .int .i64 a0_2, .slice A0_3 l0_3.length c0_3]] w fun e w' => e = .returned (.int .i64 r) ∧ Below w.heap.size w w' := by
 have hu25 := Tryz.underlying25
 have HR0_3 := Aside0.mk hr0_3
 have HC0_3 := Aside0.mk hc0_3
 clear hr0_3 hc0_3
 have HB := Aside0.mk (Below.refl w.heap.size w)
 have H : ((r18_Words.f k a0_0 a0_1 a0_2 l0_3).bind fun t219 => (r18_Lines.l0 k t219 1 0)) = some r := h
 clear h
 replace H := Option.bind_eq_some_iff.mp H
 obtain ⟨t219, A20, H⟩ := H
 replace H : (r18_Lines.l0 k t219 1 0) = some r := H
 have A2 := Aside0.mk A20
 clear A20
 have H' := Aside0.mk H
 clear H
 go_enter Tryz.func28, Tryz.ntmps28
 go_wp2_with (first | ((with_reducible refine gate_dst (N := 1) rfl ?_); refine box_event ?hg (N := 1) ?hd (cs := #[.int .i64 a0_0, .int .i64 a0_1, .int .i64 a0_2, .slice A0_3 l0_3.length c0_3]) (t := 25) ?hr ?_; (case hd => rfl); (case hg => rfl); (case hr => first | (go_simp; done) | (go_simp; rfl)); intro gb218 hg w3 hbox hb; have n0_ := Aside0.mk (below_step (by repeat (first | (with_reducible first | exact HB.out | apply below_alloc | apply pw_below_drewN | apply below_drew1) | exact HB.out)) hb); have n1_ := Aside0.mk (hbox); have n2_ := Aside0.mk ((by rw [hg]; exact (below_size (by repeat (first | (with_reducible first | exact HB.out | apply below_alloc | apply pw_below_drewN | apply below_drew1) | exact HB.out))) : w.heap.size ≤ gb218)); have n3_ := Aside0.mk ((by rw [hg]; exact (below_size (by repeat (first | (with_reducible first | exact HB.out | apply below_alloc | apply pw_below_drewN | apply below_drew1) | exact HB.out))) : w.heap.size ≤ gb218)); clear HB; have HB := n0_; have BK218 := n1_; have GW218 := n2_; have GE218 := n3_; clear n0_ n1_ n2_ n3_; clear hb hbox hg; have hcz4_0 : w3.cell? ⟨gb218, 0, none⟩ = some (.int .i64 a0_0) := (blk_cell BK218.out 0).trans rfl; have hcz4_1 : w3.cell? ⟨gb218, 1, none⟩ = some (.int .i64 a0_1) := (blk_cell BK218.out 1).trans rfl; have hcz4_2 : w3.cell? ⟨gb218, 2, none⟩ = some (.int .i64 a0_2) := (blk_cell BK218.out 2).trans rfl; have hcz4_3 : w3.cell? ⟨gb218, 3, none⟩ = some (.slice A0_3 l0_3.length c0_3) := (blk_cell BK218.out 3).trans rfl; have hfz4_0 := blk_frozen BK218.out 0; have hfz4_1 := blk_frozen BK218.out 1; have hfz4_2 := blk_frozen BK218.out 2; have hfz4_3 := blk_frozen BK218.out 3) | ((with_reducible refine gate_callee (f := 30) rfl ?_); refine goesL_ (some 7) rfl rfl Tryz.func30 (by kernel_rfl) rfl #[.agg #[.int .i64 a0_0, .int .i64 a0_1, .int .i64 a0_2, .slice A0_3 l0_3.length c0_3]] rfl (by (try simp only [List.map_toArray, List.map_cons, List.map_nil]); first | done | rfl | (simp only [List.length_drop, List.length_take]; rfl)) ?_; (with_reducible refine (r18_Words.calls k a0_0 a0_1 a0_2 _ _ l0_3 t219 _ ?side1 ?side2 A2.out).mono ?_); (case side1 => repeat (first | exact (Kd.C_below HR0_3.out HB.out) | (with_reducible refine Kd.C_alloc ?_ _) | (with_reducible refine Kd.C_drewN ?_ _) | (with_reducible refine Kd.C_drew ?_))); (case side2 => exact HC0_3.out); rintro e w5 ⟨rfl, hb⟩; refine ⟨_, rfl, ?_⟩; have n0_ := Aside0.mk (blk_below (g := gb218) (o := .cells #[.int .i64 a0_0, .int .i64 a0_1, .int .i64 a0_2, .slice A0_3 l0_3.length c0_3] 25 (0, 0)) (by (with_reducible repeat (first | refine blk_drewN ?_ _ | refine blk_drew ?_ | refine blk_alloc ?_ _)); exact BK218.out) hb); have n1_ := Aside0.mk (below_step (by repeat (first | (with_reducible first | exact HB.out | apply below_alloc | apply pw_below_drewN | apply below_drew1 | refine below_set ?_ GE218.out) | exact HB.out)) hb); clear BK218; clear HB; have BK218 := n0_; have HB := n1_; clear n0_ n1_; (try clear hb); (try clear hb2); (try clear hk); (try clear hi)))
 go_loopg [4, 5] k (fun kq v4 v5 w' => ∃ (x4_1 : Int) (x5_1 : Int), v4 = .int .i64 x4_1 ∧ v5 = .int .i64 x5_1 ∧ Aside0 (r18_Lines.l0 kq t219 x4_1 x5_1 = some r) ∧ Aside0 (kq ≤ k) ∧ Aside0 (w'.heap[gb218]? = some (.cells #[.int .i64 a0_0, .int .i64 a0_1, .int .i64 a0_2, (.slice A0_3 l0_3.length c0_3)] 25 (0, 0))) ∧ Aside0 (Below w.heap.size w w'))
 case atStart => exact ⟨(1), (0), (by first | rfl | (simp; done) | (simp [*]; done)), (by first | rfl | (simp; done) | (simp [*]; done)), H', ⟨Nat.le_refl _⟩, ⟨by (with_reducible repeat (first | refine blk_drewN ?_ _ | refine blk_drew ?_ | refine blk_alloc ?_ _)); exact BK218.out⟩, ⟨by repeat (first | (with_reducible first | exact HB.out | apply below_alloc | apply pw_below_drewN | apply below_drew1 | refine below_set ?_ GE218.out) | exact HB.out)⟩⟩
 case round =>
  clear H'
  try clear c2
  try clear p2
  try clear c3
  try clear hcz4_0
  try clear hcz4_1
  try clear hcz4_2
  try clear hcz4_3
  try clear hfz4_0
  try clear hfz4_1
  try clear hfz4_2
  try clear hfz4_3
  obtain ⟨x4_1, x5_1, rfl, rfl, HA, HK1, BK218, HB⟩ := hrel
  cases gk with
  | zero => exact absurd HA.out (by simp [r18_Lines.l0])
  | succ k1 =>
   have H := HA.out
   clear HA
   simp only [r18_Lines.l0] at H
   by_cases c6 : x5_1 < (t219.size : Int)
   ·rw [if_pos c6] at H
    have c6b0 : decide (x5_1 < (t219.size : Int)) = true := decide_eq_true c6
    clear c6
    by_cases c7 : 0 ≤ x5_1
    ·rw [if_pos c7] at H
     have c7b0 : decide (0 ≤ x5_1) = true := decide_eq_true c7
     clear c7
     by_cases c9 : (bt t219 x5_1) = 10
     ·rw [if_pos c9] at H
      have c9b0 : ((bt t219 x5_1) == 10) = true := beq_iff_eq.mpr c9
      have c9b1 : ((bt t219 x5_1) != 10) = false := bne_eq_false_iff_eq.mpr c9
      clear c9
      have H' := Aside0.mk H
      clear H
      have p8 : 0 ≤ (x5_1 : Int) := of_decide_eq_true (by first | (with_reducible assumption) | assumption)
      have q8 : x5_1 < (t219.size : Int) := of_decide_eq_true (by first | (with_reducible assumption) | assumption)
      have hx8 := bt_at t219 x5_1
      replace p8 := eq_true p8
      replace q8 := eq_true q8
      go_wp2
      go_roundg k1
      case measure => have := HK1.out; omega
      case rel => exact ⟨(wrap64 (x4_1 + 1)), (wrap64 (x5_1 + 1)), (by first | rfl | (simp; done) | (simp [*]; done)), (by first | rfl | (simp; done) | (simp [*]; done)), H', ⟨by have := HK1.out; omega⟩, ⟨by (with_reducible repeat (first | refine blk_drewN ?_ _ | refine blk_drew ?_ | refine blk_alloc ?_ _)); exact BK218.out⟩, ⟨by repeat (first | (with_reducible first | exact HB.out | apply below_alloc | apply pw_below_drewN | apply below_drew1 | refine below_set ?_ GE218.out) | exact HB.out)⟩⟩
     ·rw [if_neg c9] at H
      have c9b0 : ((bt t219 x5_1) == 10) = false := beq_eq_false_iff_ne.mpr c9
      have c9b1 : ((bt t219 x5_1) != 10) = true := bne_iff_ne.mpr c9
      have H' := Aside0.mk H
      clear H
      have p8 : 0 ≤ (x5_1 : Int) := of_decide_eq_true (by first | (with_reducible assumption) | assumption)
      have q8 : x5_1 < (t219.size : Int) := of_decide_eq_true (by first | (with_reducible assumption) | assumption)
      have hx8 := bt_at t219 x5_1
      replace p8 := eq_true p8
      replace q8 := eq_true q8
      go_wp2
      go_roundg k1
      case measure => have := HK1.out; omega
      case rel => exact ⟨(x4_1), (wrap64 (x5_1 + 1)), (by first | rfl | (simp; done) | (simp [*]; done)), (by first | rfl | (simp; done) | (simp [*]; done)), H', ⟨by have := HK1.out; omega⟩, ⟨by (with_reducible repeat (first | refine blk_drewN ?_ _ | refine blk_drew ?_ | refine blk_alloc ?_ _)); exact BK218.out⟩, ⟨by repeat (first | (with_reducible first | exact HB.out | apply below_alloc | apply pw_below_drewN | apply below_drew1 | refine below_set ?_ GE218.out) | exact HB.out)⟩⟩
    ·rw [if_neg c7] at H
     exact absurd H (by simp)
   ·rw [if_neg c6] at H
    have c6b0 : decide (x5_1 < (t219.size : Int)) = false := decide_eq_false c6
    clear c6
    obtain rfl := Option.some.inj H
    go_wp2
    go_ret
    exact ⟨by first | rfl | (simp [errW_none, errW_some] <;> rfl) | (simp [*, errW_none, errW_some] <;> rfl), by repeat (first | (with_reducible first | exact HB.out | apply below_alloc | apply pw_below_drewN | apply below_drew1 | refine below_set ?_ GE218.out) | exact HB.out)⟩


/-! ### r18_isText: function 67 -/
def r18_isText.l0 : Nat → ByteArray → Int → Option (Bool)
 | 0, _, _ => none
 | k + 1, x0, x3 => if x3 < (x0.size : Int) then (if 0 ≤ x3 then (if (bt x0 x3) = 10 then (r18_isText.l0 k x0 (wrap64 (x3 + 1))) else ((r18_in.f (wrap64 (bt x0 x3)) 32 126).bind fun t220 => (if t220 = true then (r18_isText.l0 k x0 (wrap64 (x3 + 1))) else (some false)))) else (none)) else (some (decide ((x0.size : Int) > 0)))
def r18_isText.f (k : Nat) (a0 : ByteArray) : Option (Bool) := r18_isText.l0 k a0 0
set_option maxHeartbeats 8000000 in
set_option maxRecDepth 100000 in
theorem r18_isText.calls (k : Nat) (a0 : ByteArray) (r : Bool) (w : World) (h : r18_isText.f k a0 = some r) :
  Calls Tryz.prog 67 #[.string a0] w fun e w' => e = .returned (.bool r) ∧ Drawn0 w w' := by
 have H : (r18_isText.l0 k a0 0) = some r := h
 clear h
 have H' := Aside0.mk H
 clear H
 go_enter Tryz.func67, Tryz.ntmps67
 go_wp2
 go_loopg [3] k (fun kq v3 w' => ∃ (x3_1 : Int), v3 = .int .i64 x3_1 ∧ Aside0 (r18_isText.l0 kq a0 x3_1 = some r) ∧ Aside0 (kq ≤ k) ∧ Drawn0 w w')
 case atStart => exact ⟨(0), (by first | rfl | (simp; done) | (simp [*]; done)), H', ⟨Nat.le_refl _⟩, by repeat (first | exact Drawn0.refl _ | apply Drawn0.step)⟩
 case round =>
  clear H'
  obtain ⟨x3_1, rfl, HA, HK1, ⟨m1, rfl⟩⟩ := hrel
  cases gk with
  | zero => exact absurd HA.out (by simp [r18_isText.l0])
  | succ k1 =>
   have H := HA.out
   clear HA
   simp only [r18_isText.l0] at H
   by_cases c2 : x3_1 < (a0.size : Int)
   ·rw [if_pos c2] at H
    have c2b0 : decide (x3_1 < (a0.size : Int)) = true := decide_eq_true c2
    clear c2
    by_cases c3 : 0 ≤ x3_1
    ·rw [if_pos c3] at H
     have c3b0 : decide (0 ≤ x3_1) = true := decide_eq_true c3
     clear c3
     by_cases c5 : (bt a0 x3_1) = 10
     ·rw [if_pos c5] at H
      have c5b0 : ((bt a0 x3_1) == 10) = true := beq_iff_eq.mpr c5
      have c5b1 : ((bt a0 x3_1) != 10) = false := bne_eq_false_iff_eq.mpr c5
      clear c5
      have H' := Aside0.mk H
      clear H
      have p4 : 0 ≤ (x3_1 : Int) := of_decide_eq_true (by first | (with_reducible assumption) | assumption)
      have q4 : x3_1 < (a0.size : Int) := of_decide_eq_true (by first | (with_reducible assumption) | assumption)
      have hx4 := bt_at a0 x3_1
      replace p4 := eq_true p4
      replace q4 := eq_true q4
      go_wp2
      go_roundg k1
      case measure => have := HK1.out; omega
      case rel => exact ⟨(wrap64 (x3_1 + 1)), (by first | rfl | (simp; done) | (simp [*]; done)), H', ⟨by have := HK1.out; omega⟩, by repeat (first | exact Drawn0.refl _ | apply Drawn0.step)⟩
     ·rw [if_neg c5] at H
      have c5b0 : ((bt a0 x3_1) == 10) = false := beq_eq_false_iff_ne.mpr c5
      have c5b1 : ((bt a0 x3_1) != 10) = true := bne_iff_ne.mpr c5
      replace H := Option.bind_eq_some_iff.mp H
      obtain ⟨t220, A70, H⟩ := H
      replace H : (if t220 = true then (r18_isText.l0 k1 a0 (wrap64 (x3_1 + 1))) else (some false)) = some r := H
      have A7 := Aside0.mk A70
      clear A70
      by_cases c8 : t220 = true
      ·subst c8
       have H1 : (r18_isText.l0 k1 a0 (wrap64 (x3_1 + 1))) = some r := by rw [if_pos rfl] at H; exact H
       clear H
       have H := H1
       clear H1
       have H' := Aside0.mk H
       clear H
       have p4 : 0 ≤ (x3_1 : Int) := of_decide_eq_true (by first | (with_reducible assumption) | assumption)
       have q4 : x3_1 < (a0.size : Int) := of_decide_eq_true (by first | (with_reducible assumption) | assumption)
       have hx4 := bt_at a0 x3_1
       replace p4 := eq_true p4
       replace q4 := eq_true q4
       have p6 : 0 ≤ (x3_1 : Int) := of_decide_eq_true (by first | (with_reducible assumption) | assumption)
       have q6 : x3_1 < (a0.size : Int) := of_decide_eq_true (by first | (with_reducible assumption) | assumption)
       have hx6 := bt_at a0 x3_1
       replace p6 := eq_true p6
       replace q6 := eq_true q6
       go_wp2_with (first | (go_at_call 51; (with_reducible refine (r18_in.calls (wrap64 (bt a0 x3_1)) 32 126 true _ A7.out).mono ?_); rintro e w' ⟨rfl, ⟨nd, rfl⟩⟩))
       go_roundg k1
       case measure => have := HK1.out; omega
       case rel => exact ⟨(wrap64 (x3_1 + 1)), (by first | rfl | (simp; done) | (simp [*]; done)), H', ⟨by have := HK1.out; omega⟩, by repeat (first | exact Drawn0.refl _ | apply Drawn0.step)⟩
      ·replace c8 := Bool.eq_false_iff.mpr c8
       subst c8
       have H1 : (some false) = some r := by rw [if_neg (show ¬ (false = true) by decide)] at H; exact H
       clear H
       have H := H1
       clear H1
       obtain rfl := Option.some.inj H
       have p4 : 0 ≤ (x3_1 : Int) := of_decide_eq_true (by first | (with_reducible assumption) | assumption)
       have q4 : x3_1 < (a0.size : Int) := of_decide_eq_true (by first | (with_reducible assumption) | assumption)
       have hx4 := bt_at a0 x3_1
       replace p4 := eq_true p4
       replace q4 := eq_true q4
       have p6 : 0 ≤ (x3_1 : Int) := of_decide_eq_true (by first | (with_reducible assumption) | assumption)
       have q6 : x3_1 < (a0.size : Int) := of_decide_eq_true (by first | (with_reducible assumption) | assumption)
       have hx6 := bt_at a0 x3_1
       replace p6 := eq_true p6
       replace q6 := eq_true q6
       go_wp2_with (first | (go_at_call 51; (with_reducible refine (r18_in.calls (wrap64 (bt a0 x3_1)) 32 126 false _ A7.out).mono ?_); rintro e w' ⟨rfl, ⟨nd, rfl⟩⟩))
       go_ret
       exact ⟨by first | rfl | (simp; done) | (simp [*]; done), by repeat (first | exact Drawn0.refl _ | apply Drawn0.step)⟩
    ·rw [if_neg c3] at H
     exact absurd H (by simp)
   ·rw [if_neg c2] at H
    have c2b0 : decide (x3_1 < (a0.size : Int)) = false := decide_eq_false c2
    clear c2
    obtain rfl := Option.some.inj H
    go_wp2
    go_ret
    exact ⟨by first | rfl | (simp; done) | (simp [*]; done), by repeat (first | exact Drawn0.refl _ | apply Drawn0.step)⟩


/-! ### r18_Plain: function 34 -/


end Go.Proofs.YtogidacejbjljaaGreatDoor.PTextChecks
end
section
/- The text laws' plain side: what the functions compute, in lists and numbers; the printed functions compute it. -/
set_option linter.unusedVariables false
set_option linter.unusedSimpArgs false
namespace Go.Proofs.YtogidacejbjljaaGreatDoor.PTextChecks
open Go.RowKit Go.Proofs.YtogidacejbjljaaGreatDoorW.PrintWords Go.Proofs.YtogidacejbjljaaGreatDoorW.PrintLast Go.Proofs.YtogidacejbjljaaGreatDoorW.PrintMore

/-! ### words of this side -/
theorem leO_up {α : Type} {g : Nat → Option α} (hg : ∀ k, LeO (g k) (g (k + 1))) {n : Nat} {r : α} (h : g n = some r) : ∀ k, n ≤ k → g k = some r := by
 intro k hk
 induction k with
 | zero => obtain rfl : n = 0 := by omega
           exact h
 | succ k ih =>
  rcases Nat.lt_or_ge n (k + 1) with h1 | h1
  ·exact hg k r (ih (by omega))
  ·obtain rfl : n = k + 1 := by omega
   exact h
def bs (s : ByteArray) : List UInt8 := s.data.toList
theorem bs_length (s : ByteArray) : (bs s).length = s.size := Array.length_toList
theorem bt_bs (s : ByteArray) (i : Nat) (h : i < s.size) : bt s (i : Int) = (((bs s)[i]'(by rw [bs_length]; exact h)).toNat : Int) := by
 have := bt_at s (i : Int) (by simpa using h)
 rw [← this]
 simp only [Int.toNat_natCast]
 rfl
def byteAt (s : ByteArray) (i : Nat) (h : i < s.size) : UInt8 := (bs s)[i]'(by rw [bs_length]; exact h)
theorem bt_at' (s : ByteArray) (i : Nat) (h : i < s.size) : bt s (i : Int) = ((byteAt s i h).toNat : Int) := bt_bs s i h
theorem drop_bs (s : ByteArray) (i : Nat) (h : i < s.size) : (bs s).drop i = byteAt s i h :: (bs s).drop (i + 1) :=
 List.drop_eq_getElem_cons _
theorem wsucc {i n : Nat} (h : i < n) (hn : n ≤ 4611686018427387904) : wrap64 ((i : Int) + 1) = ((i + 1 : Nat) : Int) := by unfold wrap64; omega
theorem bs_append (a b : ByteArray) : bs (a ++ b) = bs a ++ bs b := by simp [bs, ByteArray.data_append]

def inB (a lo hi : Int) : Bool := decide (lo ≤ a) && decide (a ≤ hi)
theorem in_run (a lo hi : Int) : r18_in.f a lo hi = some (inB a lo hi) := by
 unfold r18_in.f inB
 by_cases h : a ≥ lo
 ·rw [if_pos h]; simp [show lo ≤ a from h]
 ·rw [if_neg h]; simp [show ¬ lo ≤ a from h]
theorem within_run (a lo hi : Int) : text_within.f a lo hi = some (inB a lo hi) := by
 unfold text_within.f inB
 by_cases h : a ≥ lo
 ·rw [if_pos h]; simp [show lo ≤ a from h]
 ·rw [if_neg h]; simp [show ¬ lo ≤ a from h]
def eqS (a b : S40) : Bool := (a.f0 == b.f0 && (a.f1 == b.f1 && (a.f2 == b.f2 && (a.f3 == b.f3 && (a.f4 == b.f4)))))
theorem eqS_iff (a b : S40) : eqS a b = true ↔ a = b := by
 cases a; cases b
 simp only [eqS, Bool.and_eq_true, beq_iff_eq, S40.mk.injEq]
theorem eqS_comm (a b : S40) : eqS a b = eqS b a := by
 rw [Bool.eq_iff_iff, eqS_iff, eqS_iff]; exact eq_comm
def headB (a b c : Int) : Bool := inB a 0 7 && (inB b 1 9 && inB c 0 100)
def styB (s : S40) : Bool := inB s.f3 1 8 && inB s.f4 0 15
theorem headed_run (a b c : Int) (l : List S42) : text_headed.f a b c l = some (headB a b c) := by
 unfold text_headed.f headB
 rw [within_run, within_run, within_run]
 cases inB a 0 7 <;> cases inB b 1 9 <;> cases inB c 0 100 <;> rfl
theorem styled_run (s : S40) : text_styled.f s.f0 s.f1 s.f2 s.f3 s.f4 = some (styB s) := by
 unfold text_styled.f styB
 rw [within_run, within_run]
 cases inB s.f3 1 8 <;> cases inB s.f4 0 15 <;> rfl

/-! ### the words, the lines -/
def wordsOf (l : List S42) : ByteArray := l.foldl (fun s p => s ++ p.f0) ⟨#[]⟩
def wordsLen (l : List S42) : Nat := (l.map fun p => p.f0.size).sum
theorem foldl_size (l : List S42) (s : ByteArray) : (l.foldl (fun s p => s ++ p.f0) s).size = s.size + wordsLen l := by
 induction l generalizing s with
 | nil => simp [wordsLen]
 | cons p l ih => rw [List.foldl_cons, ih, ByteArray.size_append]; simp [wordsLen, Nat.add_assoc]
theorem wordsOf_size (l : List S42) : (wordsOf l).size = wordsLen l := by rw [wordsOf, foldl_size]; simp [ByteArray.size]
theorem wordsLen_mem {l : List S42} {p : S42} (h : p ∈ l) : p.f0.size ≤ wordsLen l := by
 induction l with
 | nil => simp at h
 | cons q l ih =>
  have e : wordsLen (q :: l) = q.f0.size + wordsLen l := by simp [wordsLen]
  rw [e]
  rcases List.mem_cons.1 h with rfl | h
  ·omega
  ·have := ih h; omega
theorem wordsLen_take (l : List S42) (n : Nat) : wordsLen (l.take n) ≤ wordsLen l := by
 induction l generalizing n with
 | nil => simp [wordsLen]
 | cons q l ih =>
  cases n with
  | zero => simp [wordsLen]
  | succ n => have := ih n; simp [wordsLen] at *; omega
theorem rd42_drop (l : List S42) (i : Nat) (h : i < l.length) : l.drop i = rd_T42 l (i : Int) :: l.drop (i + 1) := by
 rw [List.drop_eq_getElem_cons h]
 congr 1
 simp [rd_T42, List.getElem?_eq_getElem h]
theorem words_loop {l : List S42} (hl : l.length ≤ 140737488351232) (a b c : Int) :
  ∀ (d i k : Nat) (s : ByteArray), i + d = l.length → s.size + wordsLen (l.drop i) ≤ 9223372036854775807 → d < k → r18_Words.l0 k s (i : Int) a b c l = some ((l.drop i).foldl (fun s p => s ++ p.f0) s) := by
 intro d
 induction d with
 | zero =>
  intro i k s hi hs hk
  obtain ⟨k, rfl⟩ : ∃ m, k = m + 1 := ⟨k - 1, by omega⟩
  unfold r18_Words.l0
  rw [if_neg (by omega), List.drop_of_length_le (by omega)]
  rfl
 | succ d ih =>
  intro i k s hi hs hk
  obtain ⟨k, rfl⟩ : ∃ m, k = m + 1 := ⟨k - 1, by omega⟩
  have hlt : i < l.length := by omega
  rw [rd42_drop l i hlt] at hs ⊢
  have e : wordsLen (rd_T42 l (i : Int) :: l.drop (i + 1)) = (rd_T42 l (i : Int)).f0.size + wordsLen (l.drop (i + 1)) := by simp [wordsLen]
  rw [e] at hs
  unfold r18_Words.l0
  rw [if_pos (by omega), if_pos (by omega), if_pos (by omega), wsucc hlt (by omega), ih (i + 1) k _ (by omega) (by rw [ByteArray.size_append]; omega) (by omega)]
  rfl
theorem rWords_big {l : List S42} (hl : l.length ≤ 140737488351232) (hw : wordsLen l ≤ 9223372036854775807) (a b c : Int) (k : Nat) (hk : l.length < k) : r18_Words.f k a b c l = some (wordsOf l) :=
 words_loop hl a b c l.length 0 k ⟨#[]⟩ (by omega) (by simpa [ByteArray.size] using hw) hk
theorem rWords_run {l : List S42} (hl : l.length ≤ 140737488351232) (hw : wordsLen l ≤ 1000000) (a b c : Int) (k : Nat) (hk : l.length < k) : r18_Words.f k a b c l = some (wordsOf l) := by
 exact rWords_big hl (by omega) a b c k hk
def nlf (l : List UInt8) : Nat := (l.filter fun c => c == 10).length
theorem nlf_le (l : List UInt8) : nlf l ≤ l.length := List.length_filter_le _ _
theorem lines_loop {s : ByteArray} (hs : s.size ≤ 1000000) :
  ∀ (d i k n : Nat), i + d = s.size → n ≤ i + 1 → d < k → r18_Lines.l0 k s (n : Int) (i : Int) = some (((n + nlf ((bs s).drop i) : Nat) : Int)) := by
 intro d
 induction d with
 | zero =>
  intro i k n hi hn hk
  obtain ⟨k, rfl⟩ : ∃ m, k = m + 1 := ⟨k - 1, by omega⟩
  unfold r18_Lines.l0
  rw [if_neg (by omega), List.drop_of_length_le (by rw [bs_length]; omega)]
  rfl
 | succ d ih =>
  intro i k n hi hn hk
  obtain ⟨k, rfl⟩ : ∃ m, k = m + 1 := ⟨k - 1, by omega⟩
  have hlt : i < s.size := by omega
  rw [drop_bs s i hlt]
  unfold r18_Lines.l0
  rw [if_pos (by omega), if_pos (by omega), bt_at' s i hlt, wsucc hlt (by omega)]
  generalize byteAt s i hlt = c
  by_cases h : c = 10
  ·rw [if_pos (by rw [h]; rfl), wsucc (n := s.size + 1) (by omega) (by omega), ih (i + 1) k (n + 1) (by omega) (by omega) (by omega)]
   simp [nlf, h]; omega
  ·rw [if_neg (by intro e; exact h (UInt8.toNat_inj.1 (by show c.toNat = 10; omega))), ih (i + 1) k n (by omega) (by omega) (by omega)]
   simp [nlf, h]
theorem rLines_run {l : List S42} (hl : l.length ≤ 140737488351232) (hw : wordsLen l ≤ 1000000) (a b c : Int) (k : Nat) (hk : l.length < k) (hk2 : wordsLen l < k) :
  r18_Lines.f k a b c l = some ((nlf (bs (wordsOf l)) : Int) + 1) := by
 unfold r18_Lines.f
 rw [rWords_run hl hw a b c k hk]
 simp only [Option.bind_some]
 have := lines_loop (s := wordsOf l) (by rw [wordsOf_size]; exact hw) (wordsOf l).size 0 k 1 (by omega) (by omega) (by rw [wordsOf_size]; exact hk2)
 simp only [List.drop_zero] at this
 rw [show ((0 : Nat) : Int) = 0 from rfl, show ((1 : Nat) : Int) = 1 from rfl] at this
 rw [this]
 congr 1; omega

/-! ### valid text -/
def okByte (n : Nat) : Bool := n == 10 || (decide (32 ≤ n) && decide (n ≤ 126))
def isTextB (s : ByteArray) : Bool := (bs s).all (fun b => okByte b.toNat) && decide (0 < s.size)
theorem isText_loop {s : ByteArray} (hs : s.size ≤ 1000000) :
  ∀ (d i k : Nat), i + d = s.size → d < k → r18_isText.l0 k s (i : Int) = some (((bs s).drop i).all (fun b => okByte b.toNat) && decide (0 < s.size)) := by
 intro d
 induction d with
 | zero =>
  intro i k hi hk
  obtain ⟨k, rfl⟩ : ∃ m, k = m + 1 := ⟨k - 1, by omega⟩
  unfold r18_isText.l0
  rw [if_neg (by omega), List.drop_of_length_le (by rw [bs_length]; omega)]
  simp
 | succ d ih =>
  intro i k hi hk
  obtain ⟨k, rfl⟩ : ∃ m, k = m + 1 := ⟨k - 1, by omega⟩
  have hlt : i < s.size := by omega
  rw [drop_bs s i hlt]
  have hb : (byteAt s i hlt).toNat < 256 := UInt8.toNat_lt _
  unfold r18_isText.l0
  rw [if_pos (by omega), if_pos (by omega), bt_at' s i hlt, wsucc hlt (by omega)]
  generalize byteAt s i hlt = c at hb
  by_cases h : (c.toNat : Int) = 10
  ·rw [if_pos h, ih (i + 1) k (by omega) (by omega)]
   have : okByte c.toNat = true := by simp [okByte, show c.toNat = 10 from by omega]
   simp [this]
  ·rw [if_neg h, in_run, show wrap64 (c.toNat : Int) = (c.toNat : Int) from by unfold wrap64; omega]
   simp only [Option.bind_some]
   have e : okByte c.toNat = inB (c.toNat : Int) 32 126 := by
    simp [okByte, inB, show c.toNat ≠ 10 from by omega]; rw [Bool.eq_iff_iff]; simp; omega
   cases hq : inB (c.toNat : Int) 32 126
   ·simp [e, hq]
   ·rw [if_pos rfl, ih (i + 1) k (by omega) (by omega)]; simp [e, hq]
theorem isText_run {s : ByteArray} (hs : s.size ≤ 1000000) (k : Nat) (hk : s.size < k) : r18_isText.f k s = some (isTextB s) := by
 have := isText_loop hs s.size 0 k (by omega) hk
 exact this

/-! ### the widths -/
def clsN (n : Nat) : Int := if n = 10 then 0 else if n = 105 ∨ n = 108 ∨ n = 46 ∨ n = 44 ∨ n = 39 ∨ n = 33 ∨ n = 124 ∨ n = 58 ∨ n = 32 then 1 else if (65 ≤ n ∧ n ≤ 90) ∨ n = 109 ∨ n = 119 ∨ n = 64 ∨ n = 35 then 3 else 2
theorem class_run : ∀ n : Fin 256, text_class.f (n.val : Int) = some (clsN n.val) := by decide +kernel
def wideS (n : Nat) (s : S40) : Int := if n = 10 then 0 else if s.f0 = true then wrap64 (wrap64 (s.f3 * clsN n) + 1) else wrap64 (s.f3 * clsN n)
theorem wide_run (n : Nat) (hn : n < 256) (s : S40) : text_wide.f (n : Int) s.f0 s.f1 s.f2 s.f3 s.f4 = some (wideS n s) := by
 unfold text_wide.f wideS
 rw [class_run ⟨n, hn⟩]
 simp only [Option.bind_some]
 by_cases h : n = 10
 ·subst h; simp [clsN, wrap64]
 ·have h' : ¬ (n : Int) = 10 := by omega
  rw [if_neg h, if_neg h']
  cases s.f0 <;> simp
theorem holds1 : ∀ n : Fin 256, r18_holds.f 12 ⟨#[105, 108, 46, 44, 39, 33, 124, 58, 32]⟩ (n.val : Int) = some (decide (n.val = 105 ∨ n.val = 108 ∨ n.val = 46 ∨ n.val = 44 ∨ n.val = 39 ∨ n.val = 33 ∨ n.val = 124 ∨ n.val = 58 ∨ n.val = 32)) := by decide +kernel
theorem holds2 : ∀ n : Fin 256, r18_holds.f 12 ⟨#[109, 119, 64, 35]⟩ (n.val : Int) = some (decide (n.val = 109 ∨ n.val = 119 ∨ n.val = 64 ∨ n.val = 35)) := by decide +kernel
theorem rwide_run (n : Nat) (hn : n < 256) (s : S40) (k : Nat) (hk : 12 ≤ k) : r18_wide.f (k + 2) (n : Int) s.f0 s.f1 s.f2 s.f3 s.f4 = some (wideS n s) := by
 unfold r18_wide.f wideS
 by_cases h : n = 10
 ·rw [if_pos (by omega), if_pos h]
 ·rw [if_neg (by omega), if_neg h]
  have g1 := leO_up (r18_holds.mono _ _) (holds1 ⟨n, hn⟩) (k + 2) (by omega)
  have g2 := leO_up (r18_holds.mono _ _) (holds2 ⟨n, hn⟩) (k + 1) (by omega)
  simp only at g1 g2
  rw [g1]
  simp only [Option.bind_some]
  have hw : wrap64 (n : Int) = (n : Int) := by unfold wrap64; omega
  have hj : ∀ x : Int, r18_wide.j0 (k + 2) x (n : Int) s.f0 s.f1 s.f2 s.f3 s.f4 = some (if s.f0 = true then wrap64 (wrap64 (s.f3 * (if (65 ≤ n ∧ n ≤ 90) ∨ n = 109 ∨ n = 119 ∨ n = 64 ∨ n = 35 then 3 else x)) + 1) else wrap64 (s.f3 * (if (65 ≤ n ∧ n ≤ 90) ∨ n = 109 ∨ n = 119 ∨ n = 64 ∨ n = 35 then 3 else x))) := by
   intro x
   rw [show k + 2 = (k + 1) + 1 from rfl]
   unfold r18_wide.j0
   simp only
   rw [hw, in_run, g2]
   simp only [Option.bind_some]
   by_cases q : 65 ≤ n ∧ n ≤ 90
   ·rw [if_pos (by simp [inB]; omega)]
    simp only [r18_wide.j1, if_true]
    simp only [if_pos (Or.inl q : (65 ≤ n ∧ n ≤ 90) ∨ n = 109 ∨ n = 119 ∨ n = 64 ∨ n = 35)]
    cases s.f0 <;> simp
   ·rw [if_neg (by simp [inB]; omega)]
    by_cases r : n = 109 ∨ n = 119 ∨ n = 64 ∨ n = 35
    ·rw [decide_eq_true r]
     simp only [r18_wide.j1, if_true]
     simp only [if_pos (Or.inr r : (65 ≤ n ∧ n ≤ 90) ∨ n = 109 ∨ n = 119 ∨ n = 64 ∨ n = 35)]
     cases s.f0 <;> simp
    ·rw [decide_eq_false r]
     simp only [r18_wide.j1]
     have : ¬ ((65 ≤ n ∧ n ≤ 90) ∨ n = 109 ∨ n = 119 ∨ n = 64 ∨ n = 35) := fun e => e.elim q r
     simp only [if_neg this]
     cases s.f0 <;> simp
  by_cases q : n = 105 ∨ n = 108 ∨ n = 46 ∨ n = 44 ∨ n = 39 ∨ n = 33 ∨ n = 124 ∨ n = 58 ∨ n = 32
  ·have q2 : ¬ ((65 ≤ n ∧ n ≤ 90) ∨ n = 109 ∨ n = 119 ∨ n = 64 ∨ n = 35) := by omega
   rw [decide_eq_true q, if_pos rfl, hj]
   simp only [clsN, if_neg h, if_pos q, if_neg q2]
  ·rw [decide_eq_false q, if_neg (by decide), hj]
   simp only [clsN, if_neg h, if_neg q]
def sumW (l : List S81) (z : Int) : Int := l.foldl (fun z x => wrap64 (z + wideS x.f0.toNat x.f1)) z
def Byt (l : List S81) : Prop := ∀ x ∈ l, 0 ≤ x.f0 ∧ x.f0 < 256
theorem rd81_drop (l : List S81) (i : Nat) (h : i < l.length) : l.drop i = rd_T81 l (i : Int) :: l.drop (i + 1) := by
 rw [List.drop_eq_getElem_cons h]
 congr 1
 simp [rd_T81, List.getElem?_eq_getElem h]
theorem rd81_mem (l : List S81) (i : Nat) (h : i < l.length) : rd_T81 l (i : Int) ∈ l := by
 rw [show rd_T81 l (i : Int) = l[i] from by simp [rd_T81, List.getElem?_eq_getElem h]]
 exact List.getElem_mem h
theorem length_loop {l : List S81} (hl : l.length ≤ 1000000) (hb : Byt l) :
  ∀ (d i k : Nat) (z : Int), i + d = l.length → d + 14 < k → r18_length.l0 k l z (i : Int) = some (sumW (l.drop i) z) := by
 intro d
 induction d with
 | zero =>
  intro i k z hi hk
  obtain ⟨k, rfl⟩ : ∃ m, k = m + 1 := ⟨k - 1, by omega⟩
  unfold r18_length.l0
  rw [if_neg (by omega), List.drop_of_length_le (by omega)]
  rfl
 | succ d ih =>
  intro i k z hi hk
  obtain ⟨k, rfl⟩ : ∃ m, k = m + 1 := ⟨k - 1, by omega⟩
  have hlt : i < l.length := by omega
  rw [rd81_drop l i hlt]
  have hx := hb _ (rd81_mem l i hlt)
  generalize hxx : rd_T81 l (i : Int) = x at hx
  obtain ⟨n, hn⟩ : ∃ n : Nat, x.f0 = (n : Int) := ⟨x.f0.toNat, by omega⟩
  unfold r18_length.l0
  rw [if_pos (by omega), if_pos (by omega), hxx, hn, leO_up (r18_wide.mono _ _ _ _ _ _) (rwide_run n (by omega) x.f1 12 (by omega)) k (by omega)]
  simp only [Option.bind_some]
  rw [wsucc hlt (by omega), ih (i + 1) k _ (by omega) (by omega)]
  simp [sumW, hn]
def lettersOf (l : List S42) : List S81 := l.flatMap fun p => (bs p.f0).map fun c => ⟨(c.toNat : Int), p.f1⟩
theorem lettersOf_length (l : List S42) : (lettersOf l).length = wordsLen l := by
 induction l with
 | nil => rfl
 | cons p l ih => simp only [lettersOf, List.flatMap_cons, List.length_append, List.length_map, bs_length, wordsLen, List.map_cons, List.sum_cons] at *; rw [ih]
def rowOf (p : S42) : List S81 := (bs p.f0).map fun c => ⟨(c.toNat : Int), p.f1⟩
theorem letters_loop {l : List S42} (hl : l.length ≤ 140737488351232) (hw : wordsLen l ≤ 1000000) (a b c : Int) :
  ∀ (d i : Nat), i + d = l.length → ∀ (k : Nat) (out : List S81), out.length + wordsLen (l.drop i) ≤ 1000000 → 2 * d + wordsLen (l.drop i) < k →
   r18_letters.l0 k out (i : Int) a b c l = some (out ++ lettersOf (l.drop i)) := by
 intro d
 induction d with
 | zero =>
  intro i hi k out ho hk
  obtain ⟨k, rfl⟩ : ∃ m, k = m + 1 := ⟨k - 1, by omega⟩
  unfold r18_letters.l0
  rw [if_neg (by omega), List.drop_of_length_le (by omega)]
  simp [lettersOf]
 | succ d ih =>
  intro i hi k out ho hk
  obtain ⟨k, rfl⟩ : ∃ m, k = m + 1 := ⟨k - 1, by omega⟩
  have hlt : i < l.length := by omega
  have hd := rd42_drop l i hlt
  rw [hd] at ho hk ⊢
  generalize hp : rd_T42 l (i : Int) = p at ho hk
  have e : wordsLen (p :: l.drop (i + 1)) = p.f0.size + wordsLen (l.drop (i + 1)) := by simp [wordsLen]
  rw [e] at ho hk
  unfold r18_letters.l0
  rw [if_pos (by omega)]
  have inner : ∀ (d2 j : Nat), j + d2 = p.f0.size → ∀ (k : Nat) (out : List S81), out.length + d2 + wordsLen (l.drop (i + 1)) ≤ 1000000 → d2 + 1 + (2 * d + wordsLen (l.drop (i + 1))) < k →
    r18_letters.l1 k out (i : Int) (j : Int) a b c l = some (out ++ ((bs p.f0).drop j).map (fun c => (⟨(c.toNat : Int), p.f1⟩ : S81)) ++ lettersOf (l.drop (i + 1))) := by
   intro d2
   induction d2 with
   | zero =>
    intro j hj k out ho hk
    obtain ⟨k, rfl⟩ : ∃ m, k = m + 1 := ⟨k - 1, by omega⟩
    have e2 : (bs p.f0).drop j = [] := List.drop_of_length_le (by rw [bs_length]; omega)
    unfold r18_letters.l1
    rw [if_pos (by omega), if_pos (by omega), hp, if_neg (by omega), wsucc hlt (by omega), ih (i + 1) (by omega) k out (by omega) (by omega), e2]
    simp
   | succ d2 ih2 =>
    intro j hj k out ho hk
    obtain ⟨k, rfl⟩ : ∃ m, k = m + 1 := ⟨k - 1, by omega⟩
    have hjl : j < p.f0.size := by omega
    unfold r18_letters.l1
    rw [if_pos (by omega), if_pos (by omega), hp, if_pos (by omega), if_pos (by omega), if_pos (by omega), wsucc hjl (by omega), ih2 (j + 1) (by omega) k _ (by simp; omega) (by omega), drop_bs p.f0 j hjl, bt_at' p.f0 j hjl]
    simp
  have := inner p.f0.size 0 (by omega) k out (by omega) (by omega)
  rw [show ((0 : Nat) : Int) = 0 from rfl] at this
  rw [this]
  simp [lettersOf]
theorem rletters_run {l : List S42} (hl : l.length ≤ 140737488351232) (hw : wordsLen l ≤ 1000000) (a b c : Int) (k : Nat) (hk : 2 * l.length + wordsLen l < k) : r18_letters.f k a b c l = some (lettersOf l) := by
 have := letters_loop hl hw a b c l.length 0 (by omega) k [] (by simpa using hw) (by simpa using hk)
 rw [List.nil_append, List.drop_zero] at this
 exact this
end Go.Proofs.YtogidacejbjljaaGreatDoor.PTextChecks
end
section
/- Neighbours of one style joined: pieces and letters. -/
set_option linter.unusedVariables false
set_option linter.unusedSimpArgs false
namespace Go.Proofs.YtogidacejbjljaaGreatDoor.PTextChecks
open Go.RowKit Go.Proofs.YtogidacejbjljaaGreatDoorW.PrintWords Go.Proofs.YtogidacejbjljaaGreatDoorW.PrintLast Go.Proofs.YtogidacejbjljaaGreatDoorW.PrintMore
def lastP (out : List S42) : S42 := out.getD (out.length - 1) z42
def joinP (out : List S42) (p : S42) : List S42 :=
 if 0 < out.length then (if eqS (lastP out).f1 p.f1 = true then out.set (out.length - 1) ⟨(lastP out).f0 ++ p.f0, (lastP out).f1⟩ else out ++ [p]) else out ++ [p]
def joinS (l : List S42) : List S42 := l.foldl joinP []
def chP (x : S81) : S42 := ⟨⟨#[x.f0.toNat.toUInt8]⟩, x.f1⟩
def piecesS (ls : List S81) : List S42 := ls.foldl (fun out x => joinP out (chP x)) []

theorem lastP_snoc (out : List S42) (p : S42) : lastP (out ++ [p]) = p := by simp [lastP]
theorem lastP_set (out : List S42) (p : S42) (h : 0 < out.length) : lastP (out.set (out.length - 1) p) = p := by
 unfold lastP
 rw [List.length_set, List.getD_eq_getElem?_getD, List.getElem?_set_self (by omega)]
 rfl
theorem joinP_pos (out : List S42) (p : S42) : 0 < (joinP out p).length := by
 unfold joinP; split
 ·split <;> simp <;> omega
 ·simp
theorem lastP_join (out : List S42) (p : S42) : (lastP (joinP out p)).f1 = p.f1 := by
 unfold joinP
 split
 ·split
  ·rename_i h1 h2; rw [lastP_set _ _ h1]; exact (eqS_iff _ _).1 h2
  ·rw [lastP_snoc]
 ·rw [lastP_snoc]
theorem wl_append (a b : List S42) : wordsLen (a ++ b) = wordsLen a + wordsLen b := by simp [wordsLen]
theorem wl_set : ∀ (out : List S42) (i : Nat) (p : S42), i < out.length → wordsLen (out.set i p) + (out.getD i z42).f0.size = wordsLen out + p.f0.size
 | [], i, p, h => by simp at h
 | q :: l, 0, p, _ => by simp [wordsLen]; omega
 | q :: l, i + 1, p, h => by
  have := wl_set l i p (by simpa using h)
  simp [wordsLen] at this ⊢
  omega
theorem joinP_wl (out : List S42) (p : S42) : wordsLen (joinP out p) = wordsLen out + p.f0.size := by
 unfold joinP
 split
 ·rename_i h
  split
  ·have := wl_set out (out.length - 1) ⟨(lastP out).f0 ++ p.f0, (lastP out).f1⟩ (by omega)
   simp only [ByteArray.size_append] at this
   unfold lastP at this ⊢
   omega
  ·rw [wl_append]; simp [wordsLen]
 ·rw [wl_append]; simp [wordsLen]
theorem joinP_len (out : List S42) (p : S42) : (joinP out p).length ≤ out.length + 1 := by
 unfold joinP; split
 ·split <;> simp
 ·simp
theorem joined_loop {l : List S42} (hl : l.length ≤ 1000000) (hw : wordsLen l ≤ 1000000) :
  ∀ (d i k : Nat) (out : List S42), i + d = l.length → out.length ≤ i → wordsLen out + wordsLen (l.drop i) ≤ 1000000 → d < k → text_joined.l0 k out l (l.length : Int) (i : Int) = some ((l.drop i).foldl joinP out) := by
 intro d
 induction d with
 | zero =>
  intro i k out hi ho hs hk
  obtain ⟨k, rfl⟩ : ∃ m, k = m + 1 := ⟨k - 1, by omega⟩
  unfold text_joined.l0
  rw [if_neg (by omega), List.drop_of_length_le (by omega)]
  rfl
 | succ d ih =>
  intro i k out hi ho hs hk
  obtain ⟨k, rfl⟩ : ∃ m, k = m + 1 := ⟨k - 1, by omega⟩
  have hlt : i < l.length := by omega
  have hd := rd42_drop l i hlt
  rw [hd] at hs ⊢
  generalize hp : rd_T42 l (i : Int) = p at hs
  have e : wordsLen (p :: l.drop (i + 1)) = p.f0.size + wordsLen (l.drop (i + 1)) := by simp [wordsLen]
  rw [e] at hs
  have hn := ih (i + 1) k (joinP out p) (by omega) (by have := joinP_len out p; omega) (by rw [joinP_wl]; omega) (by omega)
  unfold text_joined.l0
  rw [if_pos (by omega), if_pos (by omega), if_pos (by omega), hp, wsucc hlt (by omega)]
  rw [List.foldl_cons, ← hn]
  by_cases h : 0 < out.length
  ·have hwr : wrap64 ((out.length : Int) - 1) = ((out.length - 1 : Nat) : Int) := by unfold wrap64; omega
   have hlast : rd_T42 out ((out.length - 1 : Nat) : Int) = lastP out := by simp [rd_T42, lastP]
   rw [if_pos (by omega), hwr, if_pos (by omega), if_pos (by omega), hlast]
   have hsz : (lastP out).f0.size ≤ wordsLen out := by
    unfold lastP; rw [List.getD_eq_getElem?_getD, List.getElem?_eq_getElem (by omega)]
    exact wordsLen_mem (List.getElem_mem _)
   by_cases he : eqS (lastP out).f1 p.f1 = true
   ·rw [if_pos (by unfold eqS at he; exact he), if_pos (by omega)]
    simp only [joinP, if_pos h, if_pos he, Int.toNat_natCast]
   ·rw [if_neg (by unfold eqS at he; exact he), if_pos (by omega)]
    simp only [joinP, if_pos h, if_neg he]
  ·rw [if_neg (by omega), if_pos (by omega)]
   simp only [joinP, if_neg h]
theorem joined_run {l : List S42} (hl : l.length ≤ 1000000) (hw : wordsLen l ≤ 1000000) (k : Nat) (hk : l.length < k) : text_joined.f k l = some (joinS l) := by
 have := joined_loop hl hw l.length 0 k [] (by omega) (by simp) (by simpa [wordsLen] using hw) hk
 exact this
end Go.Proofs.YtogidacejbjljaaGreatDoor.PTextChecks
end
section
/- The plain side of breaking: letters into lines of a width. -/
set_option linter.unusedVariables false
set_option linter.unusedSimpArgs false
namespace Go.Proofs.YtogidacejbjljaaGreatDoor.PTextChecks
open Go.RowKit Go.Proofs.YtogidacejbjljaaGreatDoorW.PrintWords Go.Proofs.YtogidacejbjljaaGreatDoorW.PrintLast Go.Proofs.YtogidacejbjljaaGreatDoorW.PrintMore
def wd (x : S81) : Int := wideS x.f0.toNat x.f1
def takeF (room : Int) : List S81 → Int → Nat → Nat → Nat
 | [], _, i, _ => i
 | x :: r, sum, i, blank =>
  if decide (room < wrap64 (sum + wd x)) && decide (0 < i) then (if 0 < blank then blank else i)
  else takeF room r (wrap64 (sum + wd x)) (i + 1) (if x.f0 = 32 then i + 1 else blank)
def takenS (l : List S81) (room : Int) : Nat := takeF room l 0 0 0
theorem takeF_le (room : Int) : ∀ (l : List S81) (sum : Int) (i blank : Nat), blank ≤ i → takeF room l sum i blank ≤ i + l.length
 | [], _, i, _, _ => Nat.le_refl _
 | x :: r, sum, i, blank, hb => by
  unfold takeF
  split
  ·split <;> simp only [List.length_cons] <;> omega
  ·have := takeF_le room r (wrap64 (sum + wd x)) (i + 1) (if x.f0 = 32 then i + 1 else blank) (by split <;> omega)
   simp only [List.length_cons]
   omega
theorem takeF_pos (room : Int) : ∀ (l : List S81) (sum : Int) (i blank : Nat), 0 < i + l.length → 0 < takeF room l sum i blank
 | [], _, i, _, h => by simpa [takeF] using h
 | x :: r, sum, i, blank, h => by
  unfold takeF
  split
  ·rename_i hc
   rw [Bool.and_eq_true, decide_eq_true_iff, decide_eq_true_iff] at hc
   split <;> omega
  ·exact takeF_pos room r _ _ _ (by omega)
theorem takenS_le (l : List S81) (room : Int) : takenS l room ≤ l.length := by
 have := takeF_le room l 0 0 0 (Nat.le_refl _)
 simpa [takenS] using this
theorem takenS_pos {l : List S81} (h : l ≠ []) (room : Int) : 0 < takenS l room :=
 takeF_pos room l 0 0 0 (by have := List.length_pos_iff.2 h; omega)
theorem takenS_nil (room : Int) : takenS [] room = 0 := rfl
def brkF (room : Int) : Nat → List S81 → List (List S81)
 | 0, _ => []
 | k + 1, l => if l.isEmpty then [] else l.take (takenS l room) :: brkF room k (l.drop (takenS l room))
theorem brkF_eq (room : Int) : ∀ (k m : Nat) (l : List S81), l.length ≤ k → l.length ≤ m → brkF room k l = brkF room m l
 | 0, m, l, hk, hm => by
  obtain rfl : l = [] := List.eq_nil_of_length_eq_zero (by omega)
  cases m <;> rfl
 | k + 1, 0, l, hk, hm => by
  obtain rfl : l = [] := List.eq_nil_of_length_eq_zero (by omega)
  rfl
 | k + 1, m + 1, l, hk, hm => by
  unfold brkF
  cases l with
  | nil => rfl
  | cons x r =>
   have := takenS_pos (l := x :: r) (by simp) room
   have hlen : ((x :: r).drop (takenS (x :: r) room)).length ≤ r.length := by rw [List.length_drop]; simp only [List.length_cons]; omega
   simp only [List.length_cons] at hk hm
   rw [brkF_eq room k m _ (by omega) (by omega)]
def brk (room : Int) (l : List S81) : List (List S81) := brkF room l.length l
theorem brk_nil (room : Int) : brk room [] = [] := rfl
theorem brk_cons {l : List S81} (h : l ≠ []) (room : Int) : brk room l = l.take (takenS l room) :: brk room (l.drop (takenS l room)) := by
 unfold brk
 have hp := takenS_pos h room
 have hl := List.length_pos_iff.2 h
 obtain ⟨n, hn⟩ : ∃ n, l.length = n + 1 := ⟨l.length - 1, by omega⟩
 rw [hn]
 conv => lhs; unfold brkF
 rw [if_neg (by simp [h])]
 congr 1
 exact brkF_eq room _ _ _ (by rw [List.length_drop]; omega) (Nat.le_refl _)
def topS (l : List S81) : Int := l.foldl (fun m x => max m x.f1.f3) 0
def heightS (l : List S81) : Int := 4 * topS l
/-- The lines of one stretch between line feeds; sz is the size of an empty one. -/
def flushS (room : Int) (l : List S81) (sz : Int) : List (List S81 × Int) := if l.isEmpty then [([], 4 * sz)] else (brk room l).map fun r => (r, heightS r)
def segsF : List S81 → List S81 → Int → List (List S81 × Int)
 | [], cur, sz => [(cur, sz)]
 | x :: r, cur, _ => if x.f0 = 10 then (cur, x.f1.f3) :: segsF r [] x.f1.f3 else segsF r (cur ++ [x]) x.f1.f3
def restS (room : Int) (l cur : List S81) (sz : Int) : List (List S81 × Int) := (segsF l cur sz).flatMap fun s => flushS room s.1 s.2
def linesS (room : Int) (l : List S81) : List (List S81 × Int) := restS room l [] 2
theorem restS_nil (room : Int) (cur : List S81) (sz : Int) : restS room [] cur sz = flushS room cur sz := by simp [restS, segsF]
theorem restS_nl (room : Int) (x : S81) (r cur : List S81) (sz : Int) (h : x.f0 = 10) : restS room (x :: r) cur sz = flushS room cur x.f1.f3 ++ restS room r [] x.f1.f3 := by simp [restS, segsF, h]
theorem restS_no (room : Int) (x : S81) (r cur : List S81) (sz : Int) (h : x.f0 ≠ 10) : restS room (x :: r) cur sz = restS room r (cur ++ [x]) x.f1.f3 := by simp [restS, segsF, h]
theorem restS_sz (room : Int) (l cur : List S81) (sz sz' : Int) (h : l ≠ []) : restS room l cur sz = restS room l cur sz' := by
 cases l with
 | nil => exact absurd rfl h
 | cons x r => rfl
theorem lettersOf_cons (p : S42) (l : List S42) : lettersOf (p :: l) = rowOf p ++ lettersOf l := rfl
theorem rowOf_drop (p : S42) (j : Nat) (h : j < p.f0.size) : (rowOf p).drop j = ⟨((byteAt p.f0 j h).toNat : Int), p.f1⟩ :: (rowOf p).drop (j + 1) := by
 unfold rowOf
 rw [← List.map_drop, drop_bs p.f0 j h, List.map_cons, List.map_drop]
theorem rowOf_length (p : S42) : (rowOf p).length = p.f0.size := by simp [rowOf, bs_length]
theorem pieces_map (l : List S81) : piecesS l = joinS (l.map chP) := by
 unfold piecesS joinS
 rw [List.foldl_map]
/-- How many lines there may be. -/
theorem brkF_len (room : Int) : ∀ (k : Nat) (l : List S81), (brkF room k l).length ≤ k
 | 0, _ => Nat.le_refl _
 | k + 1, l => by
  unfold brkF
  split
  ·exact Nat.zero_le _
  ·have := brkF_len room k (l.drop (takenS l room)); simp only [List.length_cons]; omega
theorem brk_len (room : Int) (l : List S81) : (brk room l).length ≤ l.length := brkF_len room _ _
theorem flushS_len (room : Int) (l : List S81) (sz : Int) : (flushS room l sz).length ≤ l.length + 1 := by
 unfold flushS
 split
 ·simp
 ·rw [List.length_map]; have := brk_len room l; omega
theorem restS_len (room : Int) : ∀ (l cur : List S81) (sz : Int), (restS room l cur sz).length ≤ cur.length + 2 * l.length + 1
 | [], cur, sz => by rw [restS_nil]; have := flushS_len room cur sz; simp only [List.length_nil]; omega
 | x :: r, cur, sz => by
  by_cases h : x.f0 = 10
  ·rw [restS_nl room x r cur sz h, List.length_append]
   have h1 := flushS_len room cur x.f1.f3
   have h2 := restS_len room r [] x.f1.f3
   simp only [List.length_cons, List.length_nil] at h2 ⊢
   omega
  ·rw [restS_no room x r cur sz h]
   have h2 := restS_len room r (cur ++ [x]) x.f1.f3
   simp only [List.length_append, List.length_cons, List.length_nil] at h2 ⊢
   omega
theorem linesS_len (room : Int) (l : List S81) : (linesS room l).length ≤ 2 * l.length + 1 := by
 have := restS_len room l [] 2
 simp only [List.length_nil] at this
 unfold linesS
 omega
end Go.Proofs.YtogidacejbjljaaGreatDoor.PTextChecks
end
section
/- The reference's Check: what it computes (checkS). -/
set_option linter.unusedVariables false
set_option linter.unusedSimpArgs false
namespace Go.Proofs.YtogidacejbjljaaGreatDoor.PTextChecks
open Go.RowKit Go.Proofs.YtogidacejbjljaaGreatDoorW.PrintWords Go.Proofs.YtogidacejbjljaaGreatDoorW.PrintLast Go.Proofs.YtogidacejbjljaaGreatDoorW.PrintMore
def chk : Option S40 → List S42 → Int
 | _, [] => 0
 | prev, p :: l => bif !isTextB p.f0 then 4 else bif !(inB p.f1.f3 1 8) || !(inB p.f1.f4 0 15) || (match prev with | some q => eqS q p.f1 | none => false) then 180 else chk (some p.f1) l
def checkS (a b c : Int) (l : List S42) : Int :=
 bif !(headB a b c) then 1 else bif decide (100 < l.length) || (decide (2000 < wordsLen l) || decide (20 < nlf (bs (wordsOf l)) + 1)) then 2 else chk none l
theorem bcell {W w1 : World} (hb : Below W.heap.size W w1) : (∀ b o, b < W.heap.size → w1.cell? ⟨b, o, none⟩ = W.cell? ⟨b, o, none⟩) ∧ (∀ b o, b < W.heap.size → w1.frozen? ⟨b, o, none⟩ = W.frozen? ⟨b, o, none⟩) :=
 ⟨fun b o h => hb.cell (p := ⟨b, o, none⟩) h, fun b o h => hb.frozen (p := ⟨b, o, none⟩) h⟩
theorem bdrewN {B : Nat} {w w' : World} (h : Below B w w') (n : Nat) : Below B w (w'.drewN n) := by
 induction n with
 | zero => exact h
 | succ n ih => exact ih.drew
attribute [local go_sem high] eqA40
theorem in_calls' (a lo hi : Int) (w : World) : Calls Tryz.prog 51 #[.int .i64 a, .int .i64 lo, .int .i64 hi] w fun e w' => e = .returned (.bool (inB a lo hi)) ∧ w' = w := by
 unfold inB
 by_cases h : lo ≤ a
 ·have hd : decide (lo ≤ a) = true := decide_eq_true h
  go_enter Tryz.func51, Tryz.ntmps51
  go_wp2
  go_ret
  simp [h]
 ·have hd : decide (lo ≤ a) = false := decide_eq_false h
  go_enter Tryz.func51, Tryz.ntmps51
  go_wp2
  go_ret
  simp [h]
theorem in_calls (a lo hi : Int) (w : World) : Calls Tryz.prog 51 #[.int .i64 a, .int .i64 lo, .int .i64 hi] w fun e w' => e = .returned (.bool (inB a lo hi)) ∧ w = w' := (in_calls' a lo hi w).mono fun _ _ h => ⟨h.1, h.2.symm⟩
theorem isText_calls (s : ByteArray) (hs : s.size ≤ 1000000) (w : World) : Calls Tryz.prog 67 #[.string s] w fun e w' => e = .returned (.bool (isTextB s)) ∧ Below w.heap.size w w' :=
 (r18_isText.calls (s.size + 1) s _ w (isText_run hs _ (by omega))).mono fun _ _ h => ⟨h.1, h.2.below⟩
/-- What a cue's pieces must be for these functions: not too many, not too long. -/
def Fit (l : List S42) : Prop := l.length ≤ 140737488351232 ∧ wordsLen l ≤ 1000000
theorem rWords_calls (a b c : Int) (A : Option Addr) (cap : Nat) (l : List S42) (w : World) (hr : Kd.C k42 w A l.length l) (hc : l.length ≤ cap) (hf : Fit l) :
  Calls Tryz.prog 30 #[.agg #[.int .i64 a, .int .i64 b, .int .i64 c, .slice A l.length cap]] w fun e w' => e = .returned (.string (wordsOf l)) ∧ Below w.heap.size w w' :=
 r18_Words.calls (l.length + 1) a b c A cap l _ w hr hc (rWords_run hf.1 hf.2 a b c _ (by omega))
theorem rLines_calls (a b c : Int) (A : Option Addr) (cap : Nat) (l : List S42) (w : World) (hr : Kd.C k42 w A l.length l) (hc : l.length ≤ cap) (hf : Fit l) :
  Calls Tryz.prog 28 #[.agg #[.int .i64 a, .int .i64 b, .int .i64 c, .slice A l.length cap]] w fun e w' => e = .returned (.int .i64 ((nlf (bs (wordsOf l)) : Int) + 1)) ∧ Below w.heap.size w w' :=
 r18_Lines.calls (l.length + wordsLen l + 1) a b c A cap l _ w hr hc (rLines_run hf.1 hf.2 a b c _ (by omega) (by omega))
def prevOf (l : List S42) (n : Nat) : Option S40 := if n = 0 then none else some (l.getD (n - 1) z42).f1
def ChkRel (l : List S42) (w2 : World) (n : Nat) (wr : World) : Prop := Below w2.heap.size w2 wr ∧ chk (prevOf l n) (l.drop n) = chk none l
theorem ret_int {k : IntKind} {a b : Int} (h : a = b) : Ending.returned (.int k a) = .returned (.int k b) := by rw [h]
theorem chk_4 {l : List S42} {n : Nat} {p : S42} {r : List S42} (h : Hid (chk (prevOf l n) (l.drop n) = chk none l)) (hd : Hid (l.drop n = p :: r)) (hT : isTextB p.f0 = false) : 4 = chk none l := by
 rw [← h.out, hd.out]; simp [chk, hT]
theorem chk_st {l : List S42} {n : Nat} {p : S42} {r : List S42} (h : Hid (chk (prevOf l n) (l.drop n) = chk none l)) (hd : Hid (l.drop n = p :: r)) (hT : isTextB p.f0 = true)
  (hs : inB p.f1.f3 1 8 = false ∨ inB p.f1.f4 0 15 = false) : 180 = chk none l := by
 rw [← h.out, hd.out]; rcases hs with hs | hs <;> simp [chk, hT, hs]
theorem chk_eq {l : List S42} {n : Nat} {p v : S42} {r : List S42} (h : Hid (chk (prevOf l n) (l.drop n) = chk none l)) (hd : Hid (l.drop n = p :: r)) (hT : isTextB p.f0 = true)
  (h0 : 0 < n) (hv : Hid (rd_T42 l ((n - 1 : Nat) : Int) = v)) (hs : eqS p.f1 v.f1 = true) : 180 = chk none l := by
 have hv := hv.out
 simp only [rd_T42, Int.toNat_natCast, List.getD_eq_getElem?_getD] at hv
 rw [← h.out, hd.out]
 simp [chk, hT, prevOf, show n ≠ 0 from by omega, hv, eqS_comm v.f1 p.f1, hs]
theorem chk_next {l : List S42} {n : Nat} {p : S42} {r : List S42} (h : Hid (chk (prevOf l n) (l.drop n) = chk none l)) (hd : Hid (l.drop n = p :: l.drop (n + 1))) (hp : Hid (l.getD n z42 = p)) (hT : isTextB p.f0 = true)
  (e1 : inB p.f1.f3 1 8 = true) (e2 : inB p.f1.f4 0 15 = true) (hs : (match prevOf l n with | some q => eqS q p.f1 | none => false) = false) : chk (prevOf l (n + 1)) (l.drop (n + 1)) = chk none l := by
 rw [← h.out, hd.out]
 conv => rhs; unfold chk
 rw [hs]
 have hp := hp.out
 rw [List.getD_eq_getElem?_getD] at hp
 simp [hT, e1, e2, prevOf, hp]
set_option maxHeartbeats 4000000 in
set_option maxRecDepth 100000 in
theorem chk_loop (a b c : Int) (A : Option Addr) (cap : Nat) (l : List S42) (w : World) (hr : Kd.C k42 w A l.length l) (hc : l.length ≤ cap) (h0 : inB a 0 7 = true) (h1 : inB b 1 9 = true) (h2 : inB c 0 100 = true)
  (rw_ : ByteArray) (rl : Int)
  (hW : ∀ cap w, Kd.C k42 w A l.length l → l.length ≤ cap → Calls Tryz.prog 30 #[.agg #[.int .i64 a, .int .i64 b, .int .i64 c, .slice A l.length cap]] w fun e w' => e = .returned (.string rw_) ∧ Below w.heap.size w w')
  (hL : ∀ cap w, Kd.C k42 w A l.length l → l.length ≤ cap → Calls Tryz.prog 28 #[.agg #[.int .i64 a, .int .i64 b, .int .i64 c, .slice A l.length cap]] w fun e w' => e = .returned (.int .i64 rl) ∧ Below w.heap.size w w')
  (hl : l.length ≤ 100) (hw1 : rw_.size ≤ 2000) (hrl : rl ≤ 20) (hsz : ∀ s ∈ l, s.f0.size ≤ 1000000) :
  Calls Tryz.prog 26 #[.agg #[.int .i64 a, .int .i64 b, .int .i64 c, .slice A l.length cap]] w fun e w' => e = .returned (.int .i64 (chk none l)) ∧ Below w.heap.size w w' := by
 have t1 : decide ((100 : Int) < (l.length : Int)) = false := decide_eq_false (by omega)
 have t2 : decide ((2000 : Int) < (rw_.size : Int)) = false := decide_eq_false (by omega)
 have t3 : decide ((20 : Int) < rl) = false := decide_eq_false (by omega)
 go_enter Tryz.func26, Tryz.ntmps26
 go_wp2_with (first | (go_at_call 51; refine (in_calls _ _ _ _).mono ?_; simp only [h0, h1, h2]; rintro e w' ⟨rfl, rfl⟩) | (go_at_call 30; refine (hW _ _ ?s1 ?s2).mono ?_; (case s1 => exact Kd.C_alloc hr _); (case s2 => exact hc); rintro e w1 ⟨rfl, hb1⟩; obtain ⟨hc1, hf1⟩ := bcell hb1; have hz1 := hb1.size; simp at hz1) | (go_at_call 28; refine (hL _ _ ?s1 ?s2).mono ?_; (case s1 => exact Kd.C_below (Kd.C_alloc hr _) hb1); (case s2 => exact hc); rintro e w2 ⟨rfl, hb2⟩))
 have hz2 := hb2.size
 have hb12 : Below (w.alloc (.cells #[.int .i64 a, .int .i64 b, .int .i64 c, .slice A l.length cap] 25)).heap.size (w.alloc (.cells #[.int .i64 a, .int .i64 b, .int .i64 c, .slice A l.length cap] 25)) w2 := hb1.trans (hb2.mono hb1.size)
 have hbw : Below w.heap.size w w2 := ((Below.refl _ w).alloc (Nat.le_refl _) _).trans (hb12.mono (by simp))
 have hr2 : Kd.C k42 w2 A l.length l := Kd.C_below hr hbw
 have b3 : w2.cell? ⟨w.heap.size, 3, none⟩ = some (.slice A l.length cap) := by
  rw [hb12.cell (p := ⟨w.heap.size, 3, none⟩) (by simp)]; simp
 clear hc1 hf1 hb1 hb2 hb12 hW hL hr t1 t2 t3
 have hlt2 : w.heap.size < w2.heap.size := by omega
 clear hz1 hz2
 go_loopw [3] (fun i wr => ∃ n : Nat, n ≤ l.length ∧ i = .int .i64 n ∧ ChkRel l w2 n wr) (fun i wr => l.length - (intOf i).toNat)
 case atStart => exact ⟨0, by omega, rfl, Below.refl _ _, rfl⟩
 case round =>
  obtain ⟨n, hn, rfl, hbr, hch⟩ := hrel
  have c3 : wr.cell? ⟨w.heap.size, 3, none⟩ = some (.slice A l.length cap) := by rw [hbr.cell (p := ⟨w.heap.size, 3, none⟩) hlt2]; exact b3
  have hz := hbr.size
  by_cases hlt : n < l.length
  ·have hr3 := Kd.C_below hr2 hbr
   obtain ⟨ad, rfl, d0, d1, d2, d3, d4, d5⟩ := at_T42 hr3 (n : Int) (by omega) (by omega)
   have hp : ∃ p, rd_T42 l (n : Int) = p := ⟨_, rfl⟩
   obtain ⟨p, hp⟩ := hp
   rw [hp] at d0 d1 d2 d3 d4 d5
   have hlp : l.getD n z42 = p := by rw [← hp]; simp [rd_T42]
   have hpl : p ∈ l := by rw [← hlp, List.getD_eq_getElem?_getD, List.getElem?_eq_getElem hlt]; exact List.getElem_mem hlt
   have hdr : l.drop n = p :: l.drop (n + 1) := by
    rw [List.drop_eq_getElem_cons hlt]; congr 1; rw [← hlp, List.getD_eq_getElem?_getD, List.getElem?_eq_getElem hlt]; rfl
   have hps := hsz p hpl
   have HCH := Lib.hid hch
   have HDR := Lib.hid hdr
   have HLP := Lib.hid hlp
   clear hch hdr hlp hp hsz hpl
   simp only [Int.toNat_natCast] at d0 d1 d2 d3 d4 d5
   have BL : ∀ W, Below (wr.alloc (.cells #[.string p.f0, .bool p.f1.f0, .bool p.f1.f1, .bool p.f1.f2, .int .i64 p.f1.f3, .int .i64 p.f1.f4] 42)).heap.size (wr.alloc (.cells #[.string p.f0, .bool p.f1.f0, .bool p.f1.f1, .bool p.f1.f2, .int .i64 p.f1.f3, .int .i64 p.f1.f4] 42)) W → Below w2.heap.size w2 W :=
    fun W h => hbr.trans (((Below.refl _ wr).alloc (Nat.le_refl _) _).mono hz |>.trans (h.mono (by simp; omega)))
   have BW : ∀ W, Below w2.heap.size w2 W → Below w.heap.size w W := fun W h => hbw.trans (h.mono (by omega))
   cases hT : isTextB p.f0
   ·go_wp2_with (go_at_call 67; refine (isText_calls _ hps _).mono ?_; simp only [hT]; rintro e W ⟨rfl, hbW⟩)
    go_ret
    exact ⟨ret_int (chk_4 HCH HDR hT), BW _ (BL _ hbW)⟩
   ·have hst : (inB p.f1.f3 1 8 = false) ∨ (inB p.f1.f3 1 8 = true ∧ inB p.f1.f4 0 15 = false) ∨ (inB p.f1.f3 1 8 = true ∧ inB p.f1.f4 0 15 = true ∧ n = 0) ∨ (inB p.f1.f3 1 8 = true ∧ inB p.f1.f4 0 15 = true ∧ 0 < n) := by
     cases inB p.f1.f3 1 8 <;> cases inB p.f1.f4 0 15 <;> simp <;> omega
    rcases hst with e1 | ⟨e1, e2⟩ | ⟨e1, e2, e3⟩ | ⟨e1, e2, e3⟩
    ·go_wp2_with (go_at_call 67; refine (isText_calls _ hps _).mono ?_; simp only [hT]; rintro e W ⟨rfl, hbW⟩)
     obtain ⟨hcW, hfW⟩ := bcell hbW
     go_quiet ((go_at_call 51; exact Calls.quiet_of_same (in_calls' _ _ _ _)))
     go_wp2
     go_ret
     exact ⟨ret_int (chk_st HCH HDR hT (.inl e1)), bdrewN (BW _ (BL _ hbW)) _⟩
    ·go_wp2_with (go_at_call 67; refine (isText_calls _ hps _).mono ?_; simp only [hT]; rintro e W ⟨rfl, hbW⟩)
     obtain ⟨hcW, hfW⟩ := bcell hbW
     go_quiet ((go_at_call 51; exact Calls.quiet_of_same (in_calls' _ _ _ _)))
     go_wp2
     go_ret
     exact ⟨ret_int (chk_st HCH HDR hT (.inr e2)), bdrewN (BW _ (BL _ hbW)) _⟩
    ·have td : decide ((0 : Int) < (n : Int)) = false := decide_eq_false (by omega)
     have td' : decide (0 < n) = false := decide_eq_false (by omega)
     have E3 := Lib.hid e3
     clear e3
     go_wp2_with (go_at_call 67; refine (isText_calls _ hps _).mono ?_; simp only [hT]; rintro e W ⟨rfl, hbW⟩)
     obtain ⟨hcW, hfW⟩ := bcell hbW
     go_quiet ((go_at_call 51; exact Calls.quiet_of_same (in_calls' _ _ _ _)))
     go_wp2
     go_roundw
     case rel => exact ⟨n + 1, by omega, by go_num, bdrewN (BL _ hbW) _, chk_next (r := []) HCH HDR HLP hT e1 e2 (by rw [E3.out]; rfl)⟩
     case measure => simp [intOf]; omega
    ·have td : decide ((0 : Int) < (n : Int)) = true := decide_eq_true (by omega)
     have hpv : ∃ v, rd_T42 l ((n - 1 : Nat) : Int) = v := ⟨_, rfl⟩
     obtain ⟨v, hpv⟩ := hpv
     go_wp2_with (go_at_call 67; refine (isText_calls _ hps _).mono ?_; simp only [hT]; rintro e W ⟨rfl, hbW⟩)
     obtain ⟨hcW, hfW⟩ := bcell hbW
     have hbW' : Below wr.heap.size wr W := ((Below.refl _ wr).alloc (Nat.le_refl _) _).trans (hbW.mono (by simp))
     have c3W : W.cell? ⟨w.heap.size, 3, none⟩ = some (.slice (some ad) l.length cap) := (hbW'.cell (p := ⟨w.heap.size, 3, none⟩) (by show w.heap.size < wr.heap.size; omega)).trans c3
     have hr4 : Kd.C k42 W (some ad) l.length l := Kd.C_below (Kd.C_alloc hr3 _) hbW
     obtain ⟨ad', hae, g0, g1, g2, g3, g4, g5⟩ := at_T42 hr4 ((n - 1 : Nat) : Int) (by omega) (by omega)
     obtain rfl : ad' = ad := by injection hae with hae; exact hae.symm
     rw [hpv] at g0 g1 g2 g3 g4 g5
     simp only [Int.toNat_natCast] at g0 g1 g2 g3 g4 g5
     have HPV := Lib.hid hpv
     clear hpv
     have BLW := BL _ hbW
     clear BL
     have wr1 : IntKind.i64.wrap ((n : Int) - 1) = (n : Int) - 1 := IntWalk.i64_in _ (by omega)
     have wr2 : (0 : Int) ≤ (n : Int) - 1 := by omega
     have wr3 : (n : Int) - 1 < (l.length : Int) := by omega
     have wr4 : 1 ≤ n := by omega
     have wr5 : (1 : Int) ≤ (n : Int) := by omega
     have wr6 : ¬ ((n : Int) - 1 < 0) := by omega
     have wr7 : ((n : Int) - 1).toNat < l.length := by omega
     have wr8 : n - 1 < l.length := by omega
     cases hq : eqS p.f1 v.f1
     all_goals
      have hq' := hq
      unfold eqS at hq'
      go_quiet ((go_at_call 51; exact Calls.quiet_of_same (in_calls' _ _ _ _)))
      clear wr1 wr2 wr3 wr4 wr5 wr6 wr7 wr8
      go_wp2
     ·go_roundw
      case rel => exact ⟨n + 1, by omega, by go_num, bdrewN BLW _, chk_next (r := []) HCH HDR HLP hT e1 e2 (by have hv := HPV.out; simp only [rd_T42, Int.toNat_natCast, List.getD_eq_getElem?_getD] at hv; simp [prevOf, show n ≠ 0 from by omega, hv, eqS_comm v.f1 p.f1, hq])⟩
      case measure => simp [intOf]; omega
     ·go_ret
      exact ⟨ret_int (chk_eq HCH HDR hT e3 HPV hq), bdrewN (BW _ BLW) _⟩
  ·go_wp2
   go_ret
   exact ⟨ret_int (by rw [← hch, List.drop_of_length_le (by omega)]; rfl), hbw.trans (hbr.mono (by omega))⟩

set_option maxHeartbeats 4000000 in
set_option maxRecDepth 100000 in
theorem chk_head (a b c : Int) (A : Option Addr) (cap : Nat) (l : List S42) (w : World) (hh : headB a b c = false) :
  Calls Tryz.prog 26 #[.agg #[.int .i64 a, .int .i64 b, .int .i64 c, .slice A l.length cap]] w fun e w' => e = .returned (.int .i64 1) ∧ Below w.heap.size w w' := by
 unfold headB at hh
 cases h0 : inB a 0 7 <;> cases h1 : inB b 1 9 <;> cases h2 : inB c 0 100 <;> simp [h0, h1, h2] at hh
 all_goals
  go_enter Tryz.func26, Tryz.ntmps26
  go_wp2_with (go_at_call 51; refine (in_calls _ _ _ _).mono ?_; simp only [h0, h1, h2]; rintro e w' ⟨rfl, rfl⟩)
  go_ret
  exact ⟨rfl, (Below.refl _ w).alloc (Nat.le_refl _) _⟩
set_option maxHeartbeats 4000000 in
set_option maxRecDepth 100000 in
theorem chk_limit (a b c : Int) (A : Option Addr) (cap : Nat) (l : List S42) (w : World) (hr : Kd.C k42 w A l.length l) (hc : l.length ≤ cap) (h0 : inB a 0 7 = true) (h1 : inB b 1 9 = true) (h2 : inB c 0 100 = true)
  (rw_ : ByteArray) (rl : Int)
  (hW : ∀ cap w, Kd.C k42 w A l.length l → l.length ≤ cap → Calls Tryz.prog 30 #[.agg #[.int .i64 a, .int .i64 b, .int .i64 c, .slice A l.length cap]] w fun e w' => e = .returned (.string rw_) ∧ Below w.heap.size w w')
  (hL : ∀ cap w, Kd.C k42 w A l.length l → l.length ≤ cap → Calls Tryz.prog 28 #[.agg #[.int .i64 a, .int .i64 b, .int .i64 c, .slice A l.length cap]] w fun e w' => e = .returned (.int .i64 rl) ∧ Below w.heap.size w w')
  (hl : 100 < l.length ∨ (l.length ≤ 100 ∧ 2000 < rw_.size) ∨ (l.length ≤ 100 ∧ rw_.size ≤ 2000 ∧ 20 < rl)) :
  Calls Tryz.prog 26 #[.agg #[.int .i64 a, .int .i64 b, .int .i64 c, .slice A l.length cap]] w fun e w' => e = .returned (.int .i64 2) ∧ Below w.heap.size w w' := by
 have fin : ∀ e w1 w2 : World, Below (w.alloc (.cells #[.int .i64 a, .int .i64 b, .int .i64 c, .slice A l.length cap] 25)).heap.size (w.alloc (.cells #[.int .i64 a, .int .i64 b, .int .i64 c, .slice A l.length cap] 25)) w1 → Below w.heap.size w w1 := fun _ w1 _ h => ((Below.refl _ w).alloc (Nat.le_refl _) _).trans (h.mono (by simp))
 rcases hl with hl | ⟨hl, hw1⟩ | ⟨hl, hw1, hrl⟩
 ·have t1 : decide ((100 : Int) < (l.length : Int)) = true := decide_eq_true (by omega)
  go_enter Tryz.func26, Tryz.ntmps26
  go_wp2_with (first | (go_at_call 51; refine (in_calls _ _ _ _).mono ?_; simp only [h0, h1, h2]; rintro e w' ⟨rfl, rfl⟩))
  go_ret
  exact ⟨rfl, (Below.refl _ w).alloc (Nat.le_refl _) _⟩
 ·have t1 : decide ((100 : Int) < (l.length : Int)) = false := decide_eq_false (by omega)
  have t2 : decide ((2000 : Int) < (rw_.size : Int)) = true := decide_eq_true (by omega)
  go_enter Tryz.func26, Tryz.ntmps26
  go_wp2_with (first | (go_at_call 51; refine (in_calls _ _ _ _).mono ?_; simp only [h0, h1, h2]; rintro e w' ⟨rfl, rfl⟩) | (go_at_call 30; refine (hW _ _ ?s1 ?s2).mono ?_; (case s1 => exact Kd.C_alloc hr _); (case s2 => exact hc); rintro e w1 ⟨rfl, hb1⟩))
  go_ret
  exact ⟨rfl, fin w w1 w hb1⟩
 ·have t1 : decide ((100 : Int) < (l.length : Int)) = false := decide_eq_false (by omega)
  have t2 : decide ((2000 : Int) < (rw_.size : Int)) = false := decide_eq_false (by omega)
  have t3 : decide ((20 : Int) < rl) = true := decide_eq_true (by omega)
  go_enter Tryz.func26, Tryz.ntmps26
  go_wp2_with (first | (go_at_call 51; refine (in_calls _ _ _ _).mono ?_; simp only [h0, h1, h2]; rintro e w' ⟨rfl, rfl⟩) | (go_at_call 30; refine (hW _ _ ?s1 ?s2).mono ?_; (case s1 => exact Kd.C_alloc hr _); (case s2 => exact hc); rintro e w1 ⟨rfl, hb1⟩; obtain ⟨hc1, hf1⟩ := bcell hb1; have hz1 := hb1.size; simp at hz1) | (go_at_call 28; refine (hL _ _ ?s1 ?s2).mono ?_; (case s1 => exact Kd.C_below (Kd.C_alloc hr _) hb1); (case s2 => exact hc); rintro e w2 ⟨rfl, hb2⟩))
  go_ret
  exact ⟨rfl, fin w w2 w (hb1.trans (hb2.mono hb1.size))⟩
theorem rCheck_calls (a b c : Int) (A : Option Addr) (cap : Nat) (l : List S42) (w : World) (hr : Kd.C k42 w A l.length l) (hc : l.length ≤ cap) (hf : Fit l) :
  Calls Tryz.prog 26 #[.agg #[.int .i64 a, .int .i64 b, .int .i64 c, .slice A l.length cap]] w fun e w' => e = .returned (.int .i64 (checkS a b c l)) ∧ Below w.heap.size w w' := by
 have hsz : ∀ s ∈ l, s.f0.size ≤ 1000000 := fun s hs => Nat.le_trans (wordsLen_mem hs) hf.2
 have hs := wordsOf_size l
 cases hh : headB a b c
 ·rw [show checkS a b c l = 1 from by simp [checkS, hh]]
  exact chk_head a b c A cap l w hh
 ·have hh' := hh
  simp only [headB, Bool.and_eq_true] at hh'
  obtain ⟨h0, h1, h2⟩ := hh'
  have hW := fun cap w hr hc => rWords_calls a b c A cap l w hr hc hf
  have hL := fun cap w hr hc => rLines_calls a b c A cap l w hr hc hf
  by_cases h : 100 < l.length ∨ 2000 < wordsLen l ∨ 20 < nlf (bs (wordsOf l)) + 1
  ·rw [show checkS a b c l = 2 from by
    have : (decide (100 < l.length) || (decide (2000 < wordsLen l) || decide (20 < nlf (bs (wordsOf l)) + 1))) = true := by simp only [Bool.or_eq_true, decide_eq_true_eq]; exact h
    unfold checkS; rw [hh, this]; rfl]
   exact chk_limit a b c A cap l w hr hc h0 h1 h2 _ _ hW hL (by omega)
  ·rw [show checkS a b c l = chk none l from by
    have : (decide (100 < l.length) || (decide (2000 < wordsLen l) || decide (20 < nlf (bs (wordsOf l)) + 1))) = false := by simp only [Bool.or_eq_false_iff, decide_eq_false_iff_not]; omega
    unfold checkS; rw [hh, this]; rfl]
   exact chk_loop a b c A cap l w hr hc h0 h1 h2 _ _ hW hL (by omega) (by omega) (by omega) hsz
end Go.Proofs.YtogidacejbjljaaGreatDoor.PTextChecks
end
section
/- strings.Builder at the text seat: copyCheck, after the shelf's proof. -/
set_option linter.unusedVariables false
namespace Go.Proofs.YtogidacejbjljaaGreatDoor
open Go.RowKit

theorem sizeBuilder : (Tryz.prog.info? 96).map (fun i => i.size) = some 2 := by kernel_rfl

set_option maxHeartbeats 1000000 in
set_option maxRecDepth 100000 in
theorem copyCheck_used (b : Nat) (w : World) (h0 : w.cell? ⟨b, 0, none⟩ = some (.pointer (some ⟨b, 0, none⟩))) :
  Calls Tryz.prog 103 #[.pointer (some ⟨b, 0, none⟩)] w fun e w' => e = .returned (.tuple #[]) ∧ w' = w := by
 obtain ⟨j, hj, _⟩ := Option.map_eq_some_iff.1 sizeBuilder
 go_enter Tryz.func103, Tryz.ntmps103
 go_wp2
 rw [Lib.run_neq_ptr_same w _ Tryz.underlying93 hj]
 go_wp2
 go_end0
 exact ⟨rfl, rfl⟩

set_option maxHeartbeats 1000000 in
set_option maxRecDepth 100000 in
theorem copyCheck_fresh (b : Nat) (w : World) (h0 : w.cell? ⟨b, 0, none⟩ = some (.pointer none)) (hsh : w.shape? b = some (96, 2)) (hfz : w.frozen? ⟨b, 0, none⟩ = false) :
  Calls Tryz.prog 103 #[.pointer (some ⟨b, 0, none⟩)] w fun e w' => e = .returned (.tuple #[]) ∧ w' = w.setCell ⟨b, 0, none⟩ (.pointer (some ⟨b, 0, none⟩)) := by
 obtain ⟨j, hj, hjs⟩ := Option.map_eq_some_iff.1 sizeBuilder
 go_enter Tryz.func103, Tryz.ntmps103
 go_wp2
 rw [Lib.run_to_unsafe w ⟨b, 0, none⟩ Tryz.underlying93 Tryz.underlying187 hj (by rw [hjs]; decide) hsh (Nat.zero_lt_succ 1)]
 simp only [Result.andThen]
 rw [Oper.upon_value]
 go_wp2
 rw [run_callFunc_extern Tryz.func128 (by kernel_rfl) (by kernel_rfl) (by kernel_rfl) (e := Extern.AbiNoEscape.same) (by kernel_rfl)]
 rw [Lib.run_noEscape]
 simp only [Result.andThen]
 rw [Oper.upon_value]
 go_wp2
 rw [Lib.run_from_unsafe w ⟨b, 0, none⟩ Tryz.underlying187 Tryz.underlying93 hj hsh (by kernel_rfl)]
 simp only [Result.andThen]
 rw [Oper.upon_value]
 go_wp2
 go_end0
 exact ⟨rfl, rfl⟩

theorem copyCheck_calls (B b : Nat) (bs : List Value) (w : World) (h : Lib.IsBuilder 96 5 B b bs w) :
  Calls Tryz.prog 103 #[.pointer (some ⟨b, 0, none⟩)] w fun e w' => e = .returned (.tuple #[]) ∧ (Lib.BuilderAt 96 5 B b (.pointer (some ⟨b, 0, none⟩)) bs w' ∧ Below B w w') := by
 rcases h with h | h
 ·refine (copyCheck_fresh b w h.cell0 h.shape h.frozen0).mono ?_
  rintro e w' ⟨rfl, rfl⟩
  exact ⟨rfl, h.used _, (Below.refl B w).setCell (p := ⟨b, 0, none⟩) h.1 _⟩
 ·refine (copyCheck_used b w h.cell0).mono ?_
  rintro e w' ⟨rfl, rfl⟩
  exact ⟨rfl, h, Below.refl B _⟩

theorem infoByte : (Tryz.prog.info? 5).map (fun i => (i.zero, i.size, i.bytes)) = some (some (.int .u8 0), 1, 1) := by kernel_rfl
set_option maxHeartbeats 1000000 in
set_option maxRecDepth 100000 in
theorem writeString_calls (B b : Nat) (bs : List Value) (s : ByteArray) (w : World) (h : Lib.IsBuilder 96 5 B b bs w) (hlen : bs.length + s.size ≤ 140737488355328) (hBw : B ≤ w.heap.size) :
  Calls Tryz.prog 69 #[.pointer (some ⟨b, 0, none⟩), .string s] w fun e w' => e = .returned (.tuple #[.int .i64 s.size, .nilIface]) ∧ (Lib.BuilderAt 96 5 B b (.pointer (some ⟨b, 0, none⟩)) (bs ++ Lib.strCells s) w' ∧ Below B w w') := by
 obtain ⟨i0, hi, hii⟩ := Option.map_eq_some_iff.1 infoByte
 simp only [Prod.mk.injEq] at hii
 obtain ⟨hz0, hz1, hz2⟩ := hii
 go_enter Tryz.func69, Tryz.ntmps69
 go_wp2_with (go_at_call 103; refine (copyCheck_calls B b bs _ h).mono ?_)
 rintro e w1 ⟨rfl, h1, hb1⟩
 obtain ⟨hB, v, hbk, hown, hne⟩ := h1
 have c0 : w1.cell? ⟨b, 0, none⟩ = some (.pointer (some ⟨b, 0, none⟩)) := by rw [Lib.cell_of_heap hbk]; rfl
 have c1 : w1.cell? ⟨b, 1, none⟩ = some v := by rw [Lib.cell_of_heap hbk]; rfl
 go_wp2_with (at_builtin; refine Lib.wpList_append_own_string _ rfl _ _ 94 9 rfl B 5 i0 Tryz.underlying94 Tryz.underlying9 hi hz0 hz1 hz2 _ _ _ rfl hown s rfl ?c3 ?c4 ?c5 ?_)
 case c3 => unfold maxLen; omega
 case c4 => omega
 case c5 => have := hb1.size; omega
 intro v' w2 hown' hgrow _
 have hlt : b < w1.heap.size := by
  rcases Nat.lt_or_ge b w1.heap.size with h' | h'
  ·exact h'
  ·simp [Array.getElem?_eq_none h'] at hbk
 have hb2 : w2.heap[b]? = some (.cells #[.pointer (some ⟨b, 0, none⟩), v] 96 (0, 0)) := by
  rw [hgrow.block b hlt (fun e => hne e.symm)]
  exact hbk
 have d0 : w2.cell? ⟨b, 0, none⟩ = some (.pointer (some ⟨b, 0, none⟩)) := by rw [Lib.cell_of_heap hb2]; rfl
 have d1 : w2.cell? ⟨b, 1, none⟩ = some v := by rw [Lib.cell_of_heap hb2]; rfl
 have f1 : w2.frozen? ⟨b, 1, none⟩ = false := Lib.frozen_of_heap hb2 1
 obtain ⟨ao, n', cap, rfl⟩ : ∃ ao n' cap, v' = .slice ao n' cap := by
  rcases hown'.2 with ⟨hv, _⟩ | ⟨g, cap, cur, hv, _⟩
  ·exact ⟨_, _, _, hv⟩
  ·exact ⟨_, _, _, hv⟩
 go_wp2
 go_ret2
 refine ⟨rfl, ?_, ?_⟩
 ·exact Lib.BuilderAt.put (T := 96) (e := 5) hB hb2 (bs' := bs ++ Lib.strCells s) (by simpa [Lib.strCells_length] using hown') (by decide)
 ·exact (hb1.grown hgrow (by have := hb1.size; omega) (fun k hk => (hown.lt k hk).1)).setCell (p := ⟨b, 1, none⟩) hB _
end Go.Proofs.YtogidacejbjljaaGreatDoor
end
section
/- The program's Words and Lines: what they compute. -/
set_option linter.unusedVariables false
set_option linter.unusedSimpArgs false
namespace Go.Proofs.YtogidacejbjljaaGreatDoor.PTextChecks
open Go.RowKit Go.Proofs.YtogidacejbjljaaGreatDoorW.PrintWords Go.Proofs.YtogidacejbjljaaGreatDoorW.PrintLast Go.Proofs.YtogidacejbjljaaGreatDoorW.PrintMore
theorem BuilderAt_alloc {T e : TypeId} {B b : Nat} {p : Value} {bs : List Value} {w : World} (h : Lib.BuilderAt T e B b p bs w) (o : Obj) : Lib.BuilderAt T e B b p bs (w.alloc o) := by
 have hlt := h.lt
 obtain ⟨hB, v, hb, hown, hne⟩ := h
 exact ⟨hB, v, by simp only [World.alloc, Array.getElem?_push, if_neg (Nat.ne_of_lt hlt)]; exact hb, hown.alloc _, hne⟩
theorem IsBuilder_alloc {T e : TypeId} {B b : Nat} {bs : List Value} {w : World} (h : Lib.IsBuilder T e B b bs w) (o : Obj) : Lib.IsBuilder T e B b bs (w.alloc o) :=
 h.elim (fun h => .inl (BuilderAt_alloc h o)) (fun h => .inr (BuilderAt_alloc h o))
def upto (l : List S42) (n : Nat) : List UInt8 := bs (wordsOf (l.take n))
theorem upto_succ (l : List S42) (n : Nat) (h : n < l.length) : upto l (n + 1) = upto l n ++ bs (rd_T42 l (n : Int)).f0 := by
 unfold upto
 rw [List.take_succ_eq_append_getElem h, wordsOf, List.foldl_append, List.foldl_cons, List.foldl_nil, bs_append, show rd_T42 l (n : Int) = l[n] from by simp [rd_T42, List.getElem?_eq_getElem h]]
 rfl
theorem upto_length (l : List S42) (n : Nat) : (upto l n).length ≤ wordsLen l := by
 unfold upto; rw [bs_length, wordsOf_size]; exact wordsLen_take l n
def WRel (l : List S42) (w : World) (n : Nat) (wr : World) : Prop := Lib.IsBuilder 96 5 (w.heap.size + 1) (w.heap.size + 1) (Lib.byteCells (upto l n)) wr ∧ Below w.heap.size w wr ∧ w.heap.size + 2 ≤ wr.heap.size
set_option maxHeartbeats 4000000 in
set_option maxRecDepth 100000 in
theorem tWords_calls (a b c : Int) (A : Option Addr) (cap : Nat) (l : List S42) (w : World) (hr : Kd.C k42 w A l.length l) (hc : l.length ≤ cap) (hf : Fit l) :
  Calls Tryz.prog 29 #[.agg #[.int .i64 a, .int .i64 b, .int .i64 c, .slice A l.length cap]] w fun e w' => e = .returned (.string (wordsOf l)) ∧ Below w.heap.size w w' := by
 have hl := hf.1
 go_enter Tryz.func29, Tryz.ntmps29
 go_wp2
 go_loopw [9] (fun i wr => ∃ n : Nat, n ≤ l.length ∧ i = .int .i64 n ∧ WRel l w n wr) (fun i wr => l.length - (intOf i).toNat)
 case atStart =>
  refine ⟨0, by omega, rfl, ?_, ((Below.refl _ w).alloc (Nat.le_refl _) _).alloc (by simp) _, by simp⟩
  have h := Lib.fresh_isBuilder 96 5 (w.alloc (.cells #[.int .i64 a, .int .i64 b, .int .i64 c, .slice A l.length cap] 25))
  simpa [upto, wordsOf, bs, Lib.byteCells] using h
 case round =>
  obtain ⟨n, hn, rfl, hI, hb, hz⟩ := hrel
  by_cases hlt : n < l.length
  ·have hr3 := Kd.C_below hr hb
   obtain ⟨ad, rfl, d0, d1, d2, d3, d4, d5⟩ := at_T42 hr3 (n : Int) (by omega) (by omega)
   have hup := upto_succ l n hlt
   have hl1 := upto_length l (n + 1)
   obtain ⟨p, hp⟩ : ∃ p, rd_T42 l (n : Int) = p := ⟨_, rfl⟩
   rw [hp] at d0 d1 d2 d3 d4 d5 hup
   simp only [Int.toNat_natCast] at d0 d1 d2 d3 d4 d5
   have hlen : (Lib.byteCells (upto l n)).length + p.f0.size ≤ 140737488355328 := by
    have := hf.2
    rw [Lib.byteCells_length]; rw [hup, List.length_append, bs_length] at hl1; omega
   have HUP := Lib.hid hup
   clear hup hl1 hp hr3
   have cS := fun o => writeString_calls (w.heap.size + 1) (w.heap.size + 1) (Lib.byteCells (upto l n)) p.f0 (wr.alloc o) (IsBuilder_alloc hI o) hlen (by simp; omega)
   have hbo : ∀ o, Below w.heap.size w (wr.alloc o) := fun o => hb.alloc (by omega) o
   clear hI hb
   go_wp2_with (go_at_call 69; refine (cS _).mono ?_; rintro e W ⟨rfl, hI2, hbW⟩)
   go_roundw
   case rel =>
    refine ⟨n + 1, by omega, by go_num, .inr ?_, (hbo _).trans (hbW.mono (by omega)), ?_⟩
    ·rw [HUP.out, Lib.byteCells_append]; exact hI2
    ·have := hbW.size; simp at this; omega
   case measure => simp [intOf]; omega
  ·have hnl : n = l.length := by omega
   have hw : (⟨(upto l n).toArray⟩ : ByteArray) = wordsOf l := by
    rw [hnl]; simp only [upto, List.take_length, bs]
   have HW := Lib.hid hw
   have cS := Tryz.Builder_String_any (w.heap.size + 1) (w.heap.size + 1) (upto l n) wr hI (by omega)
   clear hI hw hnl
   go_wp2_with (go_at_call 70; refine cS.mono ?_; rintro e W ⟨rfl, hbW⟩)
   go_ret
   exact ⟨by rw [HW.out]; rfl, hb.trans (hbW.mono (by omega))⟩
theorem countByte_nlf (l : List UInt8) : Lib.countByte l 10 = nlf l := by
 unfold Lib.countByte nlf List.count
 exact List.countP_eq_length_filter
set_option maxHeartbeats 4000000 in
theorem tLines_calls (a b c : Int) (A : Option Addr) (cap : Nat) (l : List S42) (w : World) (hr : Kd.C k42 w A l.length l) (hc : l.length ≤ cap) (hf : Fit l) :
  Calls Tryz.prog 27 #[.agg #[.int .i64 a, .int .i64 b, .int .i64 c, .slice A l.length cap]] w fun e w' => e = .returned (.int .i64 ((nlf (bs (wordsOf l)) : Int) + 1)) ∧ Below w.heap.size w w' := by
 have hn : nlf (bs (wordsOf l)) ≤ 1000000 := Nat.le_trans (nlf_le _) (by rw [bs_length, wordsOf_size]; exact hf.2)
 have hq : Lib.countByte (wordsOf l).data.toList 10 = nlf (bs (wordsOf l)) := countByte_nlf _
 obtain ⟨q, hqq⟩ : ∃ q : Nat, nlf (bs (wordsOf l)) = q := ⟨_, rfl⟩
 rw [hqq] at hn hq ⊢
 have cW := fun W (h : Kd.C k42 W A l.length l) => tWords_calls a b c A cap l W h hc hf
 have cC := fun W => Tryz.strings_Count_one (wordsOf l) 10 W
 rw [hq] at cC
 generalize wordsOf l = s at cW cC
 clear hq hqq
 go_enter Tryz.func27, Tryz.ntmps27
 go_wp2_with (first | (go_at_call 29; refine (cW _ ?s1).mono ?_; (case s1 => exact Kd.C_alloc hr _); rintro e W ⟨rfl, hbW⟩) | (go_at_call 68; refine (cC _).mono ?_; rintro e W2 ⟨rfl, rfl⟩))
 go_ret
 exact ⟨rfl, ((Below.refl _ w).alloc (Nat.le_refl _) _).trans (hbW.mono (by simp))⟩
end Go.Proofs.YtogidacejbjljaaGreatDoor.PTextChecks
end
section
/- strings.ContainsFunc at the closure of text.Check: whether a text has a rune that may not be. -/
set_option linter.unusedVariables false
set_option linter.unusedSimpArgs false
namespace Go.Proofs.YtogidacejbjljaaGreatDoor.PTextChecks
open Go.RowKit Go.Proofs.YtogidacejbjljaaGreatDoorW.PrintWords Go.Proofs.YtogidacejbjljaaGreatDoorW.PrintLast Go.Proofs.YtogidacejbjljaaGreatDoorW.PrintMore
def badRune (r : Nat) : Bool := !okByte r
theorem may_calls (r : Nat) (hr : r ≤ 1114111) (w : World) : Calls Tryz.prog 65 #[.int .i32 (r : Int)] w fun e w' => e = .returned (.bool (okByte r)) ∧ w = w' := by
 by_cases h0 : r = 10
 ·have e1 : ((r : Int) == 10) = true := by simp [h0]
  have H := Lib.hid h0; clear h0
  go_enter Tryz.func65, Tryz.ntmps65
  go_wp2
  go_ret
  exact ⟨by have := H.out; subst this; rfl, rfl⟩
 ·have e1 : ((r : Int) == 10) = false := beq_eq_false_iff_ne.2 (by omega)
  by_cases h1 : 32 ≤ r
  ·have e2 : decide ((32 : Int) ≤ (r : Int)) = true := decide_eq_true (by omega)
   have H := Lib.hid h0; have H1 := Lib.hid h1; clear h0 h1
   go_enter Tryz.func65, Tryz.ntmps65
   go_wp2
   go_ret
   exact ⟨by have h := H.out; have h1 := H1.out; have e3 : decide ((r : Int) ≤ 126) = decide (r ≤ 126) := by rw [Bool.eq_iff_iff]; simp; omega
             simp [okByte, h, h1, e3], rfl⟩
  ·have e2 : decide ((32 : Int) ≤ (r : Int)) = false := decide_eq_false (by omega)
   have H := Lib.hid h0; have H1 := Lib.hid h1; clear h0 h1
   go_enter Tryz.func65, Tryz.ntmps65
   go_wp2
   go_ret
   exact ⟨by have := H.out; have := H1.out; simp [okByte, *], rfl⟩
theorem clos64_calls (r : Nat) (hr : r ≤ 1114111) (w : World) : Calls Tryz.prog 64 #[.int .i32 (r : Int)] w fun e w' => e = .returned (.bool (badRune r)) ∧ w = w' := by
 have cM := fun W => may_calls r hr W
 cases hb : okByte r
 all_goals
  rw [hb] at cM
  go_enter Tryz.func64, Tryz.ntmps64
  go_wp2_with (go_at_call 65; refine (cM _).mono ?_; rintro e W ⟨rfl, rfl⟩)
  go_ret
  exact ⟨by simp [badRune, hb], rfl⟩
set_option maxHeartbeats 2000000 in
set_option maxRecDepth 1000000 in
theorem indexFunc_calls (s : ByteArray) (w : World) :
  Calls Tryz.prog 126 #[.string s, .func (.func 64) #[] #[], .bool true] w fun e w' => e = .returned (.int .i64 (Lib.idxFunc badRune true s)) ∧ Below w.heap.size w w' := by
 go_enter Tryz.func126, Tryz.ntmps126
 go_wp2
 go_loopg [] s.size (fun gf wx => ∃ pos : Nat, wx.heap[w.heap.size]? = some (.stringIter s pos) ∧ Below w.heap.size w wx ∧ Lib.idxFuncFrom badRune true s gf pos = Lib.idxFunc badRune true s ∧ s.size ≤ pos + gf)
 case atStart => exact ⟨0, World.iter_heap w s 0, (Below.refl _ w).alloc (Nat.le_refl _) _, rfl, by omega⟩
 case round =>
  obtain ⟨pos, hit, hbw, hleft, hfu⟩ := hrel
  by_cases hps : pos < s.size
  ·obtain ⟨g', rfl⟩ : ∃ g', gk = g' + 1 := ⟨gk - 1, by omega⟩
   have hnx : ∀ ty, (Instr.next (.pointer (some ⟨w.heap.size, 0, none⟩)) true ty).run Tryz.prog wr = _ := fun ty => Lib.run_next_any_at wr w.heap.size s pos ty hit hps
   have hwd := Lib.width_pos s pos
   obtain ⟨R, hR⟩ : ∃ R, (Utf8.decode s pos).1 = R := ⟨_, rfl⟩
   obtain ⟨K, hK⟩ : ∃ K, (Utf8.decode s pos).2 = K := ⟨_, rfl⟩
   simp only [Lib.idxFuncFrom, hps, if_true, hR, hK] at hleft
   rw [hR, hK] at hnx
   rw [hK] at hwd
   have hRle : R ≤ 1114111 := by rw [← hR]; exact Lib.rune_le s pos
   have hit2 := Lib.iterAt_heap wr w.heap.size s pos (pos + K) hit
   have hbw2 := Lib.below_iterAt hbw (k := w.heap.size) (Nat.le_refl _) s (pos + K)
   obtain ⟨W, hWd⟩ : ∃ W, wr.iterAt w.heap.size s (pos + K) = W := ⟨_, rfl⟩
   rw [hWd] at hnx hit2 hbw2
   have cS := clos64_calls R hRle W
   cases hsp : badRune R <;> rw [hsp] at cS <;> simp only [hsp, if_true, Bool.false_eq_true, if_false] at hleft
   ·go_wp2_with (go_at_call 64; refine cS.mono ?_; rintro e W' ⟨rfl, rfl⟩)
    go_roundg g'
    case measure => omega
    case rel => exact ⟨pos + K, hit2, hbw2, hleft, by omega⟩
   ·go_wp2_with (go_at_call 64; refine cS.mono ?_; rintro e W' ⟨rfl, rfl⟩)
    go_ret
    exact ⟨by rw [← hleft] <;> rfl, hbw2⟩
  ·have hnx : ∀ ty, (Instr.next (.pointer (some ⟨w.heap.size, 0, none⟩)) true ty).run Tryz.prog wr = _ := fun ty => Lib.run_next_end_at wr w.heap.size s pos ty hit hps
   rw [Lib.idxFuncFrom_end badRune true s gk pos hps] at hleft
   go_wp2
   go_ret
   exact ⟨by rw [← hleft] <;> rfl, hbw⟩
theorem IndexFunc_calls (s : ByteArray) (w : World) :
  Calls Tryz.prog 99 #[.string s, .func (.func 64) #[] #[]] w fun e w' => e = .returned (.int .i64 (Lib.idxFunc badRune true s)) ∧ Below w.heap.size w w' := by
 go_enter Tryz.func99, Tryz.ntmps99
 go_wp2_with (go_at_call 126; refine (indexFunc_calls _ _).mono ?_; rintro e W ⟨rfl, hb⟩)
 go_ret
 exact ⟨rfl, hb⟩
theorem ContainsFunc_calls (s : ByteArray) (w : World) :
  Calls Tryz.prog 63 #[.string s, .func (.func 64) #[] #[]] w fun e w' => e = .returned (.bool (decide (0 ≤ Lib.idxFunc badRune true s))) ∧ Below w.heap.size w w' := by
 go_enter Tryz.func63, Tryz.ntmps63
 go_wp2_with (go_at_call 99; refine (IndexFunc_calls _ _).mono ?_; rintro e W ⟨rfl, hb⟩)
 go_ret
 exact ⟨by simp, hb⟩
theorem badRune_high {r : Nat} (h : 128 ≤ r) : badRune r = true := by
 have : okByte r = false := by unfold okByte; rw [Bool.or_eq_false_iff, Bool.and_eq_false_iff]; exact ⟨beq_eq_false_iff_ne.2 (by omega), .inr (decide_eq_false (by omega))⟩
 unfold badRune; rw [this]; rfl
theorem idx_bad (s : ByteArray) : ∀ (f pos : Nat), s.size ≤ pos + f → decide (0 ≤ Lib.idxFuncFrom badRune true s f pos) = !((bs s).drop pos).all fun c => okByte c.toNat := by
 intro f
 induction f with
 | zero =>
  intro pos h
  rw [List.drop_of_length_le (by rw [bs_length]; omega)]
  rfl
 | succ f ih =>
  intro pos h
  by_cases hp : pos < s.size
  ·rw [drop_bs s pos hp]
   have hb : (s[pos]'hp) = byteAt s pos hp := rfl
   simp only [Lib.idxFuncFrom, if_pos hp, List.all_cons]
   by_cases ha : (byteAt s pos hp).toNat < 128
   ·rw [decode_ascii s pos hp (by rw [hb]; exact ha), hb]
    simp only
    cases hk : okByte (byteAt s pos hp).toNat
    ·rw [if_pos (by simp [badRune, hk])]; simp
    ·rw [if_neg (by simp [badRune, hk]), ih (pos + 1) (by omega)]; simp
   ·obtain ⟨h1, _⟩ := decode_high s pos hp (by rw [hb]; omega)
    rw [if_pos (badRune_high h1)]
    have : okByte (byteAt s pos hp).toNat = false := by have := badRune_high (r := (byteAt s pos hp).toNat) (by omega); simpa [badRune] using this
    simp [this]
  ·rw [Lib.idxFuncFrom_end _ _ _ _ _ hp, List.drop_of_length_le (by rw [bs_length]; omega)]
   rfl
theorem contains_bad (s : ByteArray) (w : World) :
  Calls Tryz.prog 63 #[.string s, .func (.func 64) #[] #[]] w fun e w' => e = .returned (.bool (!(bs s).all fun c => okByte c.toNat)) ∧ Below w.heap.size w w' := by
 have h := idx_bad s s.size 0 (by omega)
 rw [List.drop_zero] at h
 rw [← h]
 exact ContainsFunc_calls s w
end Go.Proofs.YtogidacejbjljaaGreatDoor.PTextChecks
end
section
/- The program's Check: it computes checkS too. -/
set_option linter.unusedVariables false
set_option linter.unusedSimpArgs false
namespace Go.Proofs.YtogidacejbjljaaGreatDoor.PTextChecks
open Go.RowKit Go.Proofs.YtogidacejbjljaaGreatDoorW.PrintWords Go.Proofs.YtogidacejbjljaaGreatDoorW.PrintLast Go.Proofs.YtogidacejbjljaaGreatDoorW.PrintMore
attribute [local go_sem high] eqA40
theorem headed_calls (a b c : Int) (A : Option Addr) (cap : Nat) (l : List S42) (w : World) (hr : Kd.C k42 w A l.length l) (hc : l.length ≤ cap) :
  Calls Tryz.prog 62 #[.agg #[.int .i64 a, .int .i64 b, .int .i64 c, .slice A l.length cap]] w fun e w' => e = .returned (.bool (headB a b c)) ∧ Below w.heap.size w w' :=
 text_headed.calls a b c A cap l _ w hr hc (headed_run a b c l)
theorem styled_calls (s : S40) (w : World) :
  Calls Tryz.prog 66 #[.agg #[.bool s.f0, .bool s.f1, .bool s.f2, .int .i64 s.f3, .int .i64 s.f4]] w fun e w' => e = .returned (.bool (styB s)) ∧ Below w.heap.size w w' :=
 text_styled.calls _ _ _ _ _ _ w (styled_run s)
theorem cell_later {W w1 : World} (hb : Below W.heap.size W w1) {a : Addr} {v : Value} (h : W.cell? a = some v) : w1.cell? a = some v := (hb.cell (World.block_lt_of_cell? W _ h)).trans h
/-- The worlds in which all that lay in W lies unturned. -/
def Ext (W : World) : Type := { w' : World // Below W.heap.size W w' }
instance (W : World) : Nonempty (Ext W) := ⟨⟨W, Below.refl _ W⟩⟩
def Ext.w {W : World} (x : Ext W) : World := x.1
theorem Ext.cell {W : World} (x : Ext W) {b o : Nat} {v : Value} (h : W.cell? ⟨b, o, none⟩ = some v) : x.w.cell? ⟨b, o, none⟩ = some v := by
 have hlt : b < W.heap.size := World.block_lt_of_cell? W _ h
 exact (x.2.cell (p := ⟨b, o, none⟩) hlt).trans h
theorem wp_region_ext {P : Program} {id : Nat} {Q : Exit → Act → World → Prop} {a : Act} {W : World} {l : List Oper} (hm : P.follows .mixedOrders = true) (hB : Region.lexB .any l.toArray = true)
  (h : wpQuiet P l.toArray (fun w' => ∃ x : Ext W, w' = x.w) (fun a' => ∀ w', (∃ x : Ext W, w' = x.w) → Q .normal a' w') l a) : (Code.region id l.toArray true).wp P Q a W :=
 wp_region_quiet (C := fun w' => ∃ x : Ext W, w' = x.w) hm hB ⟨⟨W.drew, (Below.refl _ W).drew⟩, rfl⟩ (by simpa using h)
theorem Calls.ext {P : Program} {f : FuncId} {args : Array Value} {W : World} {x : Ext W} {v : Value} (h : Calls P f args x.w fun e w' => e = .returned v ∧ Below x.w.heap.size x.w w') :
  Calls P f args x.w fun e w'' => e = .returned v ∧ ∃ y : Ext W, w'' = y.w :=
 h.mono fun _ w' ⟨he, hb⟩ => ⟨he, ⟨⟨w', x.2.trans (hb.mono x.2.size)⟩, rfl⟩⟩
theorem box6 {w W : World} {v0 v1 v2 v3 v4 v5 : Value} {t : TypeId} (hb : Below (w.alloc (.cells #[v0, v1, v2, v3, v4, v5] t)).heap.size (w.alloc (.cells #[v0, v1, v2, v3, v4, v5] t)) W) :
  W.cell? ⟨w.heap.size, 0, none⟩ = some v0 ∧ W.cell? ⟨w.heap.size, 1, none⟩ = some v1 ∧ W.cell? ⟨w.heap.size, 2, none⟩ = some v2 ∧ W.cell? ⟨w.heap.size, 3, none⟩ = some v3 ∧ W.cell? ⟨w.heap.size, 4, none⟩ = some v4 ∧ W.cell? ⟨w.heap.size, 5, none⟩ = some v5 := by
 refine ⟨?_, ?_, ?_, ?_, ?_, ?_⟩ <;> (rw [hb.cell (by simp)]; simp)
theorem box4 {w W : World} {v0 v1 v2 v3 : Value} {t : TypeId} (hb : Below (w.alloc (.cells #[v0, v1, v2, v3] t)).heap.size (w.alloc (.cells #[v0, v1, v2, v3] t)) W) :
  W.cell? ⟨w.heap.size, 0, none⟩ = some v0 ∧ W.cell? ⟨w.heap.size, 1, none⟩ = some v1 ∧ W.cell? ⟨w.heap.size, 2, none⟩ = some v2 ∧ W.cell? ⟨w.heap.size, 3, none⟩ = some v3 := by
 refine ⟨?_, ?_, ?_, ?_⟩ <;> (rw [hb.cell (by simp)]; simp)
set_option maxHeartbeats 4000000 in
set_option maxRecDepth 100000 in
theorem tchk_head (a b c : Int) (A : Option Addr) (cap : Nat) (l : List S42) (w : World) (hr : Kd.C k42 w A l.length l) (hc : l.length ≤ cap) (hh : headB a b c = false) :
  Calls Tryz.prog 25 #[.agg #[.int .i64 a, .int .i64 b, .int .i64 c, .slice A l.length cap]] w fun e w' => e = .returned (.int .i64 1) ∧ Below w.heap.size w w' := by
 have cH := fun W (h : Kd.C k42 W A l.length l) => headed_calls a b c A cap l W h hc
 rw [hh] at cH
 go_enter Tryz.func25, Tryz.ntmps25
 go_wp2_with (go_at_call 62; refine (cH _ ?s1).mono ?_; (case s1 => exact Kd.C_alloc hr _); rintro e W ⟨rfl, hbW⟩)
 go_ret
 exact ⟨rfl, ((Below.refl _ w).alloc (Nat.le_refl _) _).trans (hbW.mono (by simp))⟩
set_option maxHeartbeats 4000000 in
set_option maxRecDepth 100000 in
theorem tchk_limit (a b c : Int) (A : Option Addr) (cap : Nat) (l : List S42) (w : World) (hr : Kd.C k42 w A l.length l) (hc : l.length ≤ cap) (hh : headB a b c = true)
  (rw_ : ByteArray) (rl : Int)
  (hW : ∀ cap w, Kd.C k42 w A l.length l → l.length ≤ cap → Calls Tryz.prog 29 #[.agg #[.int .i64 a, .int .i64 b, .int .i64 c, .slice A l.length cap]] w fun e w' => e = .returned (.string rw_) ∧ Below w.heap.size w w')
  (hL : ∀ cap w, Kd.C k42 w A l.length l → l.length ≤ cap → Calls Tryz.prog 27 #[.agg #[.int .i64 a, .int .i64 b, .int .i64 c, .slice A l.length cap]] w fun e w' => e = .returned (.int .i64 rl) ∧ Below w.heap.size w w')
  (hl : 100 < l.length ∨ (l.length ≤ 100 ∧ 2000 < rw_.size) ∨ (l.length ≤ 100 ∧ rw_.size ≤ 2000 ∧ 20 < rl)) :
  Calls Tryz.prog 25 #[.agg #[.int .i64 a, .int .i64 b, .int .i64 c, .slice A l.length cap]] w fun e w' => e = .returned (.int .i64 2) ∧ Below w.heap.size w w' := by
 have cH := fun W (h : Kd.C k42 W A l.length l) => headed_calls a b c A cap l W h hc
 rw [hh] at cH
 have fin : ∀ w1 : World, Below (w.alloc (.cells #[.int .i64 a, .int .i64 b, .int .i64 c, .slice A l.length cap] 25)).heap.size (w.alloc (.cells #[.int .i64 a, .int .i64 b, .int .i64 c, .slice A l.length cap] 25)) w1 → Below w.heap.size w w1 := fun w1 h => ((Below.refl _ w).alloc (Nat.le_refl _) _).trans (h.mono (by simp))
 rcases hl with hl | ⟨hl, hw1⟩ | ⟨hl, hw1, hrl⟩
 ·have t1 : decide ((100 : Int) < (l.length : Int)) = true := decide_eq_true (by omega)
  go_enter Tryz.func25, Tryz.ntmps25
  go_wp2_with (first | (go_at_call 62; refine (cH _ ?s1).mono ?_; (case s1 => exact Kd.C_alloc hr _); rintro e W ⟨rfl, hbW⟩; obtain ⟨f0, f1, f2, f3⟩ := box4 hbW))
  go_ret
  exact ⟨rfl, fin _ hbW⟩
 ·have t1 : decide ((100 : Int) < (l.length : Int)) = false := decide_eq_false (by omega)
  have t2 : decide ((2000 : Int) < (rw_.size : Int)) = true := decide_eq_true (by omega)
  go_enter Tryz.func25, Tryz.ntmps25
  go_wp2_with (first | (go_at_call 62; refine (cH _ ?s1).mono ?_; (case s1 => exact Kd.C_alloc hr _); rintro e W ⟨rfl, hbW⟩; obtain ⟨f0, f1, f2, f3⟩ := box4 hbW) | (go_at_call 29; refine (hW _ _ ?s1 ?s2).mono ?_; (case s1 => exact Kd.C_below (Kd.C_alloc hr _) hbW); (case s2 => exact hc); rintro e w1 ⟨rfl, hb1⟩))
  go_ret
  exact ⟨rfl, fin _ (hbW.trans (hb1.mono hbW.size))⟩
 ·have t1 : decide ((100 : Int) < (l.length : Int)) = false := decide_eq_false (by omega)
  have t2 : decide ((2000 : Int) < (rw_.size : Int)) = false := decide_eq_false (by omega)
  have t3 : decide ((20 : Int) < rl) = true := decide_eq_true (by omega)
  go_enter Tryz.func25, Tryz.ntmps25
  go_wp2_with (first | (go_at_call 62; refine (cH _ ?s1).mono ?_; (case s1 => exact Kd.C_alloc hr _); rintro e W ⟨rfl, hbW⟩; obtain ⟨f0, f1, f2, f3⟩ := box4 hbW) | (go_at_call 29; refine (hW _ _ ?s1 ?s2).mono ?_; (case s1 => exact Kd.C_below (Kd.C_alloc hr _) hbW); (case s2 => exact hc); rintro e w1 ⟨rfl, hb1⟩; obtain ⟨g0, g1, g2, g3⟩ := box4 (hbW.trans (hb1.mono hbW.size))) | (go_at_call 27; refine (hL _ _ ?s1 ?s2).mono ?_; (case s1 => exact Kd.C_below (Kd.C_below (Kd.C_alloc hr _) hbW) hb1); (case s2 => exact hc); rintro e w2 ⟨rfl, hb2⟩))
  go_ret
  exact ⟨rfl, fin _ (hbW.trans ((hb1.trans (hb2.mono hb1.size)).mono hbW.size))⟩
set_option maxHeartbeats 8000000 in
set_option maxRecDepth 100000 in
theorem tchk_loop (a b c : Int) (A : Option Addr) (cap : Nat) (l : List S42) (w : World) (hr : Kd.C k42 w A l.length l) (hc : l.length ≤ cap) (hh : headB a b c = true)
  (rw_ : ByteArray) (rl : Int)
  (hW : ∀ cap w, Kd.C k42 w A l.length l → l.length ≤ cap → Calls Tryz.prog 29 #[.agg #[.int .i64 a, .int .i64 b, .int .i64 c, .slice A l.length cap]] w fun e w' => e = .returned (.string rw_) ∧ Below w.heap.size w w')
  (hL : ∀ cap w, Kd.C k42 w A l.length l → l.length ≤ cap → Calls Tryz.prog 27 #[.agg #[.int .i64 a, .int .i64 b, .int .i64 c, .slice A l.length cap]] w fun e w' => e = .returned (.int .i64 rl) ∧ Below w.heap.size w w')
  (hl : l.length ≤ 100) (hw1 : rw_.size ≤ 2000) (hrl : rl ≤ 20) :
  Calls Tryz.prog 25 #[.agg #[.int .i64 a, .int .i64 b, .int .i64 c, .slice A l.length cap]] w fun e w' => e = .returned (.int .i64 (chk none l)) ∧ Below w.heap.size w w' := by
 have cH := fun W (h : Kd.C k42 W A l.length l) => headed_calls a b c A cap l W h hc
 rw [hh] at cH
 have t1 : decide ((100 : Int) < (l.length : Int)) = false := decide_eq_false (by omega)
 have t2 : decide ((2000 : Int) < (rw_.size : Int)) = false := decide_eq_false (by omega)
 have t3 : decide ((20 : Int) < rl) = false := decide_eq_false (by omega)
 go_enter Tryz.func25, Tryz.ntmps25
 go_wp2_with (first | (go_at_call 62; refine (cH _ ?s1).mono ?_; (case s1 => exact Kd.C_alloc hr _); rintro e W ⟨rfl, hbW⟩; obtain ⟨f0, f1, f2, f3⟩ := box4 hbW) | (go_at_call 29; refine (hW _ _ ?s1 ?s2).mono ?_; (case s1 => exact Kd.C_below (Kd.C_alloc hr _) hbW); (case s2 => exact hc); rintro e w1 ⟨rfl, hb1⟩; obtain ⟨g0, g1, g2, g3⟩ := box4 (hbW.trans (hb1.mono hbW.size))) | (go_at_call 27; refine (hL _ _ ?s1 ?s2).mono ?_; (case s1 => exact Kd.C_below (Kd.C_below (Kd.C_alloc hr _) hbW) hb1); (case s2 => exact hc); rintro e w2 ⟨rfl, hb2⟩; obtain ⟨h0, h1, h2, h3⟩ := box4 (hbW.trans ((hb1.trans (hb2.mono hb1.size)).mono hbW.size))))
 have hzW := hbW.size
 have hz1 := hb1.size
 have hz2 := hb2.size
 simp at hzW
 have hb12 : Below (w.alloc (.cells #[.int .i64 a, .int .i64 b, .int .i64 c, .slice A l.length cap] 25)).heap.size (w.alloc (.cells #[.int .i64 a, .int .i64 b, .int .i64 c, .slice A l.length cap] 25)) w2 := hbW.trans ((hb1.trans (hb2.mono hb1.size)).mono hbW.size)
 have hbw : Below w.heap.size w w2 := ((Below.refl _ w).alloc (Nat.le_refl _) _).trans (hb12.mono (by simp))
 have hr2 : Kd.C k42 w2 A l.length l := Kd.C_below hr hbw
 have b3 : w2.cell? ⟨w.heap.size, 3, none⟩ = some (.slice A l.length cap) := h3
 have hlt2 : w.heap.size < w2.heap.size := by omega
 clear f0 f1 f2 f3 g0 g1 g2 g3 h0 h1 h2 h3 hbW hb1 hb2 hb12 hr t1 t2 t3 cH hW hL hzW hz1 hz2
 go_loopw [26] (fun i wr => ∃ n : Nat, n ≤ l.length ∧ i = .int .i64 n ∧ ChkRel l w2 n wr) (fun i wr => l.length - (intOf i).toNat)
 case atStart => exact ⟨0, by omega, rfl, Below.refl _ _, rfl⟩
 case round =>
  obtain ⟨n, hn, rfl, hbr, hch⟩ := hrel
  have c3 : wr.cell? ⟨w.heap.size, 3, none⟩ = some (.slice A l.length cap) := by rw [hbr.cell (p := ⟨w.heap.size, 3, none⟩) hlt2]; exact b3
  have hz := hbr.size
  by_cases hlt : n < l.length
  ·have hr3 := Kd.C_below hr2 hbr
   obtain ⟨ad, rfl, d0, d1, d2, d3, d4, d5⟩ := at_T42 hr3 (n : Int) (by omega) (by omega)
   obtain ⟨p, hp⟩ : ∃ p, rd_T42 l (n : Int) = p := ⟨_, rfl⟩
   rw [hp] at d0 d1 d2 d3 d4 d5
   have hlp : l.getD n z42 = p := by rw [← hp]; simp [rd_T42]
   have hdr : l.drop n = p :: l.drop (n + 1) := by rw [rd42_drop l n hlt, hp]
   have HCH := Lib.hid hch
   have HDR := Lib.hid hdr
   have HLP := Lib.hid hlp
   clear hch hdr hlp hp
   simp only [Int.toNat_natCast] at d0 d1 d2 d3 d4 d5
   have BL : ∀ W, Below (wr.alloc (.cells #[.string p.f0, .bool p.f1.f0, .bool p.f1.f1, .bool p.f1.f2, .int .i64 p.f1.f3, .int .i64 p.f1.f4] 42)).heap.size (wr.alloc (.cells #[.string p.f0, .bool p.f1.f0, .bool p.f1.f1, .bool p.f1.f2, .int .i64 p.f1.f3, .int .i64 p.f1.f4] 42)) W → Below w2.heap.size w2 W :=
    fun W h => hbr.trans (((Below.refl _ wr).alloc (Nat.le_refl _) _).mono hz |>.trans (h.mono (by simp; omega)))
   have BW : ∀ W, Below w2.heap.size w2 W → Below w.heap.size w W := fun W h => hbw.trans (h.mono (by omega))
   by_cases hem : p.f0.size = 0
   ·have hT : isTextB p.f0 = false := by simp [isTextB, hem]
    have hemp : p.f0.toList = [] := by rw [ByteArray.toList_eq]; exact List.eq_nil_of_length_eq_zero (by rw [Array.length_toList]; exact hem)
    have hemp2 : p.f0.toList.isEmpty = true := by rw [hemp]; rfl
    go_wp2_with fail
    go_ret
    exact ⟨ret_int (chk_4 HCH HDR hT), BW _ (BL _ (Below.refl _ _))⟩
   ·have hne : p.f0.toList ≠ [] := by rw [ByteArray.toList_eq]; intro h; exact hem (by have := congrArg List.length h; rw [Array.length_toList] at this; exact this)
    have hne2 : p.f0.toList.isEmpty = false := by cases h : p.f0.toList with | nil => exact absurd h hne | cons _ _ => rfl
    have cB := contains_bad p.f0
    cases hT : isTextB p.f0
    ·have hall : (bs p.f0).all (fun c => okByte c.toNat) = false := by
      unfold isTextB at hT; rw [decide_eq_true (by omega), Bool.and_true] at hT; exact hT
     rw [hall] at cB
     clear hall
     go_wp2_with (go_at_call 63; refine (cB _).mono ?_; rintro e W ⟨rfl, hbW⟩)
     go_ret
     exact ⟨ret_int (chk_4 HCH HDR hT), BW _ (BL _ hbW)⟩
    ·have hall : (bs p.f0).all (fun c => okByte c.toNat) = true := by
      unfold isTextB at hT; rw [Bool.and_eq_true] at hT; exact hT.1
     rw [hall] at cB
     clear hall
     have cSt := fun W => styled_calls p.f1 W
     cases hst : styB p.f1
     ·rw [hst] at cSt
      go_wp2_with (go_at_call 63; refine (cB _).mono ?_; rintro e W ⟨rfl, hbW⟩)
      obtain ⟨k0, k1, k2, k3, k4, k5⟩ := box6 hbW
      have e1 := fun x : Ext W => x.cell k1
      have e2 := fun x : Ext W => x.cell k2
      have e3 := fun x : Ext W => x.cell k3
      have e4 := fun x : Ext W => x.cell k4
      have e5 := fun x : Ext W => x.cell k5
      refine wp_region_ext (by kernel_rfl) (by kernel_rfl) ?_
      repeat (go_big_quiet_step ((go_at_call 66; exact Calls.ext (cSt _))))
      refine wpQuiet_nil ?_
      rintro _ ⟨x, rfl⟩
      have hbx : Below w2.heap.size w2 x.w := BL _ (hbW.trans (x.2.mono hbW.size))
      generalize x.w = X at hbx
      go_wp2
      go_ret
      exact ⟨ret_int (chk_st HCH HDR hT (by unfold styB at hst; rw [Bool.and_eq_false_iff] at hst; exact hst)), BW _ hbx⟩
     ·rw [hst] at cSt
      have est : inB p.f1.f3 1 8 = true ∧ inB p.f1.f4 0 15 = true := by unfold styB at hst; rw [Bool.and_eq_true] at hst; exact hst
      obtain ⟨e1, e2⟩ := est
      rcases Nat.eq_zero_or_pos n with h0 | h0
      ·have td : decide ((0 : Int) < (n : Int)) = false := decide_eq_false (by omega)
       have td' : decide (0 < n) = false := decide_eq_false (by omega)
       have E3 := Lib.hid h0
       clear h0
       go_wp2_with (go_at_call 63; refine (cB _).mono ?_; rintro e W ⟨rfl, hbW⟩)
       obtain ⟨k0, k1, k2, k3, k4, k5⟩ := box6 hbW
       have e1' := fun x : Ext W => x.cell k1
       have e2' := fun x : Ext W => x.cell k2
       have e3' := fun x : Ext W => x.cell k3
       have e4' := fun x : Ext W => x.cell k4
       have e5' := fun x : Ext W => x.cell k5
       refine wp_region_ext (by kernel_rfl) (by kernel_rfl) ?_
       repeat (go_big_quiet_step ((go_at_call 66; exact Calls.ext (cSt _))))
       refine wpQuiet_nil ?_
       rintro _ ⟨x, rfl⟩
       have hbx : Below w2.heap.size w2 x.w := BL _ (hbW.trans (x.2.mono hbW.size))
       generalize x.w = X at hbx
       clear k0 k1 k2 k3 k4 k5 e1' e2' e3' e4' e5'
       go_wp2
       go_roundw
       case rel => exact ⟨n + 1, by omega, by go_num, hbx, chk_next (r := []) HCH HDR HLP hT e1 e2 (by rw [E3.out]; rfl)⟩
       case measure => simp [intOf]; omega
      ·have td : decide ((0 : Int) < (n : Int)) = true := decide_eq_true (by omega)
       have td' : decide (0 < n) = true := decide_eq_true (by omega)
       obtain ⟨v, hpv⟩ : ∃ v, rd_T42 l ((n - 1 : Nat) : Int) = v := ⟨_, rfl⟩
       go_wp2_with (go_at_call 63; refine (cB _).mono ?_; rintro e W ⟨rfl, hbW⟩)
       obtain ⟨k0, k1, k2, k3, k4, k5⟩ := box6 hbW
       have hbW' : Below wr.heap.size wr W := ((Below.refl _ wr).alloc (Nat.le_refl _) _).trans (hbW.mono (by simp))
       have hr4 : Kd.C k42 wr (some ad) l.length l := hr3
       obtain ⟨ad', hae, g0, g1, g2, g3, g4, g5⟩ := at_T42 hr4 ((n - 1 : Nat) : Int) (by omega) (by omega)
       obtain rfl : ad' = ad := by injection hae with hae; exact hae.symm
       rw [hpv] at g0 g1 g2 g3 g4 g5
       simp only [Int.toNat_natCast] at g0 g1 g2 g3 g4 g5
       have HPV := Lib.hid hpv
       clear hpv
       have BLW := fun X (h : Below W.heap.size W X) => BL X (hbW.trans (h.mono hbW.size))
       have cc : ∀ {ad : Addr} {u : Value}, wr.cell? ad = some u → ∀ x : Ext W, x.w.cell? ad = some u := fun h x =>
        cell_later (hbW'.trans (x.2.mono hbW'.size)) h
       have c3' := cc c3
       have g0' := cc g0
       have g1' := cc g1
       have g2' := cc g2
       have g3' := cc g3
       have g4' := cc g4
       have g5' := cc g5
       have e1' := fun x : Ext W => x.cell k1
       have e2' := fun x : Ext W => x.cell k2
       have e3' := fun x : Ext W => x.cell k3
       have e4' := fun x : Ext W => x.cell k4
       have e5' := fun x : Ext W => x.cell k5
       clear cc
       have wr1 : IntKind.i64.wrap ((n : Int) - 1) = (n : Int) - 1 := IntWalk.i64_in _ (by omega)
       have wr2 : (0 : Int) ≤ (n : Int) - 1 := by omega
       have wr3 : (n : Int) - 1 < (l.length : Int) := by omega
       have wr4 : 1 ≤ n := by omega
       have wr5 : (1 : Int) ≤ (n : Int) := by omega
       have wr6 : ¬ ((n : Int) - 1 < 0) := by omega
       have wr7 : ((n : Int) - 1).toNat < l.length := by omega
       have wr8 : n - 1 < l.length := by omega
       cases hq : eqS p.f1 v.f1
       all_goals
        have hq' : eqS v.f1 p.f1 = _ := (eqS_comm v.f1 p.f1).trans hq
        unfold eqS at hq'
        refine wp_region_ext (by kernel_rfl) (by kernel_rfl) ?_
        repeat (go_big_quiet_step ((go_at_call 66; exact Calls.ext (cSt _))))
        refine wpQuiet_nil ?_
        rintro _ ⟨x, rfl⟩
        have hbx : Below w2.heap.size w2 x.w := BLW _ x.2
        generalize x.w = X at hbx
        clear wr1 wr2 wr3 wr4 wr5 wr6 wr7 wr8 c3' g0' g1' g2' g3' g4' g5' e1' e2' e3' e4' e5'
        go_wp2
       ·go_roundw
        case rel => exact ⟨n + 1, by omega, by go_num, hbx, chk_next (r := []) HCH HDR HLP hT e1 e2 (by have hv := HPV.out; simp only [rd_T42, Int.toNat_natCast, List.getD_eq_getElem?_getD] at hv; simp [prevOf, show n ≠ 0 from by omega, hv, eqS_comm v.f1 p.f1, hq])⟩
        case measure => simp [intOf]; omega
       ·go_ret
        exact ⟨ret_int (chk_eq HCH HDR hT h0 HPV hq), BW _ hbx⟩
  ·go_wp2
   go_ret
   exact ⟨ret_int (by rw [← hch, List.drop_of_length_le (by omega)]; rfl), hbw.trans (hbr.mono (by omega))⟩
theorem tCheck_calls (a b c : Int) (A : Option Addr) (cap : Nat) (l : List S42) (w : World) (hr : Kd.C k42 w A l.length l) (hc : l.length ≤ cap) (hf : Fit l) :
  Calls Tryz.prog 25 #[.agg #[.int .i64 a, .int .i64 b, .int .i64 c, .slice A l.length cap]] w fun e w' => e = .returned (.int .i64 (checkS a b c l)) ∧ Below w.heap.size w w' := by
 have hs := wordsOf_size l
 cases hh : headB a b c
 ·rw [show checkS a b c l = 1 from by simp [checkS, hh]]
  exact tchk_head a b c A cap l w hr hc hh
 ·have hW := fun cap w hr hc => tWords_calls a b c A cap l w hr hc hf
  have hL := fun cap w hr hc => tLines_calls a b c A cap l w hr hc hf
  by_cases h : 100 < l.length ∨ 2000 < wordsLen l ∨ 20 < nlf (bs (wordsOf l)) + 1
  ·rw [show checkS a b c l = 2 from by
    have : (decide (100 < l.length) || (decide (2000 < wordsLen l) || decide (20 < nlf (bs (wordsOf l)) + 1))) = true := by simp only [Bool.or_eq_true, decide_eq_true_eq]; exact h
    unfold checkS; rw [hh, this]; rfl]
   exact tchk_limit a b c A cap l w hr hc hh _ _ hW hL (by omega)
  ·rw [show checkS a b c l = chk none l from by
    have : (decide (100 < l.length) || (decide (2000 < wordsLen l) || decide (20 < nlf (bs (wordsOf l)) + 1))) = false := by simp only [Bool.or_eq_false_iff, decide_eq_false_iff_not]; omega
    unfold checkS; rw [hh, this]; rfl]
   exact tchk_loop a b c A cap l w hr hc hh _ _ hW hL (by omega) (by omega) (by omega)
end Go.Proofs.YtogidacejbjljaaGreatDoor.PTextChecks
end
section
/- The program's Normal: empty pieces left out, neighbours of one style joined. -/
set_option linter.unusedVariables false
set_option linter.unusedSimpArgs false
namespace Go.Proofs.YtogidacejbjljaaGreatDoor.PTextChecks
open Go.RowKit Go.Proofs.YtogidacejbjljaaGreatDoorW.PrintWords Go.Proofs.YtogidacejbjljaaGreatDoorW.PrintLast Go.Proofs.YtogidacejbjljaaGreatDoorW.PrintMore
/-! ### a row of pieces in a block -/
def enc (p : S42) : List Value := [.string p.f0, .bool p.f1.f0, .bool p.f1.f1, .bool p.f1.f2, .int .i64 p.f1.f3, .int .i64 p.f1.f4]
def flat (l : List S42) : List Value := l.flatMap enc
theorem flat_length (l : List S42) : (flat l).length = l.length * 6 := by
 induction l with
 | nil => rfl
 | cons p l ih => simp only [flat, List.flatMap_cons, List.length_append] at *; rw [ih]; simp [enc]; omega
theorem flat_get : ∀ (l : List S42) (k j : Nat) (p : S42), l[k]? = some p → j < 6 → (flat l)[k * 6 + j]? = (enc p)[j]?
 | [], k, j, p, h, _ => by simp at h
 | q :: l, 0, j, p, h, hj => by
  simp at h; subst h
  simp only [flat, List.flatMap_cons]
  rw [List.getElem?_append_left (by simp [enc]; omega)]; simp
 | q :: l, k + 1, j, p, h, hj => by
  rw [List.getElem?_cons_succ] at h
  have := flat_get l k j p h hj
  simp only [flat, List.flatMap_cons] at *
  rw [List.getElem?_append_right (by simp [enc]; omega), ← this]
  congr 1; simp [enc]; omega
def Lays (cur : Array Value) (ys : List S42) : Prop := ∀ k p, ys[k]? = some p → ∀ j u, (enc p)[j]? = some u → cur[k * 6 + j]? = some u
theorem Lays.of_take {cur : Array Value} {l : List S42} (h : cur.toList.take (l.length * 6) = flat l) : Lays cur l := by
 intro k p hk j u hj
 have hj6 : j < 6 := by have := (List.getElem?_eq_some_iff.1 hj).1; simpa [enc] using this
 have hkl : k < l.length := (List.getElem?_eq_some_iff.1 hk).1
 have h1 := flat_get l k j p hk hj6
 rw [← h, List.getElem?_take_of_lt (by omega), hj] at h1
 rw [← Array.getElem?_toList]; exact h1
theorem add0 (g i : Nat) : (⟨g, 0, none⟩ : Addr).add i = ⟨g, i, none⟩ := by unfold Addr.add; split <;> simp_all
theorem Lays.C {cur : Array Value} {l : List S42} {w : World} {g : Nat} {fr : Nat × Nat} (h : Lays cur l) (hg : w.heap[g]? = some (.cells cur 42 fr)) (hl : l.length ≤ 9223372036854775807) : Kd.C k42 w (some ⟨g, 0, none⟩) l.length l := by
 refine ⟨rfl, hl, fun _ => ⟨_, rfl, fun k p hk => ⟨enc p, rfl, k42_mk w p, fun j u hj => ?_⟩⟩⟩
 have := h k p hk j u hj
 change w.cell? ((⟨g, 0, none⟩ : Addr).add (k * 6 + j)) = some u
 rw [add0]
 simp [World.cell?, hg, this]
theorem enc_cases {p : S42} {j : Nat} {u : Value} (h : (enc p)[j]? = some u) : (j = 0 ∧ u = .string p.f0) ∨ (j = 1 ∧ u = .bool p.f1.f0) ∨ (j = 2 ∧ u = .bool p.f1.f1) ∨ (j = 3 ∧ u = .bool p.f1.f2) ∨ (j = 4 ∧ u = .int .i64 p.f1.f3) ∨ (j = 5 ∧ u = .int .i64 p.f1.f4) := by
 match j, h with
 | 0, h => exact .inl ⟨rfl, (Option.some.inj h).symm⟩
 | 1, h => exact .inr (.inl ⟨rfl, (Option.some.inj h).symm⟩)
 | 2, h => exact .inr (.inr (.inl ⟨rfl, (Option.some.inj h).symm⟩))
 | 3, h => exact .inr (.inr (.inr (.inl ⟨rfl, (Option.some.inj h).symm⟩)))
 | 4, h => exact .inr (.inr (.inr (.inr (.inl ⟨rfl, (Option.some.inj h).symm⟩))))
 | 5, h => exact .inr (.inr (.inr (.inr (.inr ⟨rfl, (Option.some.inj h).symm⟩))))
 | j + 6, h => exact absurd h (by simp [enc])
theorem heap_set {w : World} {g i : Nat} {cs : Array Value} {t : TypeId} {fr : Nat × Nat} {v : Value} (hg : w.heap[g]? = some (.cells cs t fr)) : (w.setCell ⟨g, i, none⟩ v).heap[g]? = some (.cells (cs.setIfInBounds i v) t fr) := by
 simp [World.setCell, Array.getElem?_modify, hg]

/-! ### slices.Clone -/
theorem infoPiece : (Tryz.prog.info? 42).map (fun i => (i.zero, i.size, i.bytes)) = some (some (.agg #[(.string ⟨#[]⟩), (.bool false), (.bool false), (.bool false), (.int .i64 0), (.int .i64 0)]), 6, 40) := by kernel_rfl
def Own (g : Nat) (l : List S42) (cap : Nat) (w : World) : Prop := ∃ cur, w.heap[g]? = some (.cells cur 42 (0, 0)) ∧ cur.size = cap * 6 ∧ l.length ≤ cap ∧ cap ≤ 9223372036854775807 ∧ Lays cur l

/-! ### slices.IndexFunc, slices.DeleteFunc at the closure of text.Normal -/


/-! ### text.Normal -/
/-- What a row of pieces reads as, behind a call. -/
def RowOut (v : Value) (l : List S42) (w : World) : Prop := ∃ A cap, v = .slice A l.length cap ∧ l.length ≤ cap ∧ Kd.C k42 w A l.length l
theorem two_new (w : World) (o1 o2 : Obj) : ((w.alloc o1).alloc o2).heap[w.heap.size]? = some o1 ∧ ((w.alloc o1).alloc o2).heap[w.heap.size + 1]? = some o2 ∧ ((w.alloc o1).alloc o2).heap.size = w.heap.size + 2 := by
 have h1 : ((w.alloc o1).alloc o2).heap = (w.heap.push o1).push o2 := rfl
 rw [h1]
 refine ⟨?_, ?_, by simp⟩
 ·rw [Array.getElem?_push_lt (by simp)]; simp
 ·rw [show w.heap.size + 1 = (w.heap.push o1).size from by simp, Array.getElem?_push_size]
theorem joined2 (v : Value) (l : List S42) (w : World) (h : RowOut v l w) (hl : l.length ≤ 1000000) (hw : wordsLen l ≤ 1000000) :
  Calls Tryz.prog 71 #[v] w fun e w' => ∃ A' c', e = .returned (.slice A' (joinS l).length c') ∧ Kd.R k42 42 w' w.heap.size (fun _ => True) (.slice A' (joinS l).length c') (joinS l) ∧ Below w.heap.size w w' := by
 obtain ⟨A, cap, rfl, hc, hC⟩ := h
 refine (text_joined.calls (l.length + 1) A cap l _ w hC hc (joined_run hl hw _ (by omega))).mono ?_
 rintro e w' ⟨v', rfl, hR, hb⟩
 obtain ⟨A', c', rfl⟩ := Kd.R_slice hR
 exact ⟨A', c', rfl, hR, hb⟩
end Go.Proofs.YtogidacejbjljaaGreatDoor.PTextChecks
end
section
/- The reference's pieces: letters joined to pieces. -/
set_option linter.unusedVariables false
set_option linter.unusedSimpArgs false
namespace Go.Proofs.YtogidacejbjljaaGreatDoor.PTextChecks
open Go.RowKit Go.Proofs.YtogidacejbjljaaGreatDoorW.PrintWords Go.Proofs.YtogidacejbjljaaGreatDoorW.PrintLast Go.Proofs.YtogidacejbjljaaGreatDoorW.PrintMore
attribute [local go_sem high] eqA40
theorem ownsRow_drewN {w : World} {base : Nat} {e : TypeId} {size n : Nat} {v : Value} {xs : List Value} (h : w.ownsRow base e size v n xs) (k : Nat) : (w.drewN k).ownsRow base e size v n xs := by
 induction k with
 | zero => exact h
 | succ k ih => exact ih.drew
theorem conv1 (c : Int) (W : World) (b : Nat) (h : W.cell? ⟨b, 0, none⟩ = some (.int .u8 c)) : (convert 94 9 (.slice (some ⟨b, 0, none⟩) 1 1)).run Tryz.prog W = .ok (.string ⟨#[c.toNat.toUInt8]⟩) W := by
 have hC : (Kd.int .u8).C W (some ⟨b, 0, none⟩) 1 [c] := by
  refine ⟨rfl, by omega, fun _ => ⟨_, rfl, fun j p hj => ⟨[.int .u8 p], rfl, rfl, fun i u hu => ?_⟩⟩⟩
  match j, hj with
  | 0, hj =>
   match i, hu with
   | 0, hu =>
    obtain rfl : c = p := by simpa using hj
    obtain rfl := Option.some.inj hu
    rw [add0]
    simpa using h
   | i + 1, hu => simp at hu
  | j + 1, hj => simp at hj
 have := Kd.C_string (P := Tryz.prog) (src := 94) (dst := 9) (e := 5) (c := 1) Tryz.underlying94 Tryz.underlying5 Tryz.underlying9 hC
 rw [this]
 rfl
theorem flat_set_text : ∀ (L : List S42) (m : Nat) (q : S42) (t : ByteArray), L[m]? = some q → flat (L.set m ⟨t, q.f1⟩) = (flat L).set (m * 6) (.string t)
 | [], m, q, t, h => by simp at h
 | p :: L, 0, q, t, h => by
  simp at h; subst h
  simp [flat, enc]
 | p :: L, m + 1, q, t, h => by
  rw [List.getElem?_cons_succ] at h
  have ih := flat_set_text L m q t h
  simp only [List.set_cons_succ, flat, List.flatMap_cons] at ih ⊢
  rw [ih, List.set_append_right _ _ (by simp [enc]; omega)]
  congr 2
  simp [enc]; omega
theorem newcell (W : World) (cs : Array Value) (t i : Nat) (u : Value) (h : cs[i]? = some u) : (W.alloc (.cells cs t)).cell? ⟨W.heap.size, i, none⟩ = some u := by
 have e : (W.alloc (.cells cs t)).heap[W.heap.size]? = some (.cells cs t (0, 0)) := by
  show (W.heap.push _)[W.heap.size]? = _
  exact Array.getElem?_push_size
 unfold World.cell?
 rw [e]
 simpa using h
theorem emp_app (s : ByteArray) : (⟨#[]⟩ : ByteArray) ++ s = s := ByteArray.ext (by simp [ByteArray.data_append])
theorem lastStyle (l : List S81) (n : Nat) (h0 : 0 < n) (h : n ≤ l.length) : 0 < (piecesS (l.take n)).length ∧ (lastP (piecesS (l.take n))).f1 = (rd_T81 l ((n - 1 : Nat) : Int)).f1 := by
 obtain ⟨m, rfl⟩ : ∃ m, n = m + 1 := ⟨n - 1, by omega⟩
 have e : piecesS (l.take (m + 1)) = joinP (piecesS (l.take m)) (chP (rd_T81 l (m : Int))) := by
  rw [List.take_succ_eq_append_getElem (by omega), piecesS, List.foldl_append, show rd_T81 l (m : Int) = l[m] from by simp [rd_T81, List.getElem?_eq_getElem (show m < l.length by omega)]]
  rfl
 rw [e]
 exact ⟨joinP_pos _ _, lastP_join _ _⟩
theorem piecesS_len (l : List S81) (n : Nat) : (piecesS (l.take n)).length ≤ n := by
 have : ∀ (l : List S81) (out : List S42), (l.foldl (fun out x => joinP out (chP x)) out).length ≤ out.length + l.length := by
  intro l
  induction l with
  | nil => intro out; simp
  | cons x l ih => intro out; have := ih (joinP out (chP x)); have := joinP_len out (chP x); simp; omega
 have := this (l.take n) []
 simp only [List.length_nil, Nat.zero_add] at this
 exact Nat.le_trans this (List.length_take_le _ _)
theorem piecesS_wl (l : List S81) (n : Nat) : wordsLen (piecesS (l.take n)) ≤ n := by
 have : ∀ (l : List S81) (out : List S42), wordsLen (l.foldl (fun out x => joinP out (chP x)) out) = wordsLen out + l.length := by
  intro l
  induction l with
  | nil => intro out; simp
  | cons x l ih => intro out; rw [List.foldl_cons, ih, joinP_wl, show (chP x).f0.size = 1 from rfl, List.length_cons]; omega
 have := this (l.take n) []
 rw [show wordsLen ([] : List S42) = 0 from rfl, Nat.zero_add] at this
 unfold piecesS
 rw [this]
 exact List.length_take_le _ _
/-- The row that a round leaves. -/
theorem row_left {L : List S42} {m cap g base : Nat} {q : S42} {t : ByteArray} {cur : Array Value} {W X : World} (hL : L.length = m + 1) (hq : L[m]? = some q) (hcap : m + 1 ≤ cap) (hmx : cap ≤ maxLen) (hsz : cur.size = cap * 6)
  (htk : cur.toList.take ((m + 1) * 6) = flat L) (hbase : base ≤ g) (hX : X.heap[g]? = some (.cells (cur.setIfInBounds (m * 6) (.string t)) 42 (0, 0))) :
  X.ownsRow base 42 6 (.slice (some ⟨g, 0, none⟩) (L.set m ⟨t, q.f1⟩).length cap) (L.set m ⟨t, q.f1⟩).length (flat (L.set m ⟨t, q.f1⟩)) := by
 rw [List.length_set, hL]
 refine ⟨by rw [flat_length, List.length_set, hL], .inr ⟨g, cap, _, rfl, hbase, hX, hcap, hmx, by simp [hsz], ?_⟩⟩
 rw [flat_set_text L m q t hq, ← htk, Array.toList_setIfInBounds, List.take_set]
structure PRel (l : List S81) (w : World) (n : Nat) (v : Value) (wr : World) : Prop where
 own : wr.ownsRow w.heap.size 42 6 v (piecesS (l.take n)).length (flat (piecesS (l.take n)))
 below : Below w.heap.size w wr
set_option maxHeartbeats 4000000 in
set_option maxRecDepth 100000 in
theorem pieces_owns (A : Option Addr) (cap : Nat) (l : List S81) (w : World) (hr : Kd.C k81 w A l.length l) (hl : l.length ≤ 1000000) (hbt : Byt l) :
  Calls Tryz.prog 52 #[.slice A l.length cap] w fun e w' => ∃ v, e = .returned v ∧ w'.ownsRow w.heap.size 42 6 v (piecesS l).length (flat (piecesS l)) ∧ Below w.heap.size w w' := by
 obtain ⟨i0, hi, hii⟩ := Option.map_eq_some_iff.1 infoPiece
 simp only [Prod.mk.injEq] at hii
 obtain ⟨hz0, hz1, hz2⟩ := hii
 go_enter Tryz.func52, Tryz.ntmps52
 go_wp2
 go_loopw [3, 4] (fun v i wr => ∃ n : Nat, n ≤ l.length ∧ i = .int .i64 n ∧ PRel l w n v wr) (fun _ i wr => l.length - (intOf i).toNat)
 case atStart => exact ⟨0, by omega, rfl, ⟨rfl, .inl ⟨rfl, rfl⟩⟩, Below.refl _ _⟩
 case round =>
  obtain ⟨n, hn, rfl, hown, hb⟩ := hrel
  by_cases hlt : n < l.length
  ·have hr3 := Kd.C_below hr hb
   obtain ⟨ad, rfl, dw0, _⟩ := at_T81 hr (n : Int) (by omega) (by omega)
   obtain ⟨ad', hae0, d0, d1, d2, d3, d4, d5⟩ := at_T81 hr3 (n : Int) (by omega) (by omega)
   obtain rfl : ad = ad' := by injection hae0 with e
   clear hae0
   obtain ⟨x, hx⟩ : ∃ x, rd_T81 l (n : Int) = x := ⟨_, rfl⟩
   rw [hx] at dw0 d0 d1 d2 d3 d4 d5
   have htk : piecesS (l.take (n + 1)) = joinP (piecesS (l.take n)) (chP x) := by
    rw [List.take_succ_eq_append_getElem hlt, piecesS, List.foldl_append, ← hx, show rd_T81 l (n : Int) = l[n] from by simp [rd_T81, List.getElem?_eq_getElem hlt]]
    rfl
   have hxb := hbt x (by rw [← hx]; exact rd81_mem l n hlt)
   obtain ⟨out, hout⟩ : ∃ out, piecesS (l.take n) = out := ⟨_, rfl⟩
   rw [hout] at hown htk
   have HTK := Lib.hid htk
   have HOUT := Lib.hid hout
   clear htk hx hout
   simp only [Int.toNat_natCast] at dw0 d0 d1 d2 d3 d4 d5
   rcases Nat.eq_zero_or_pos n with h0 | h0
   ·have tz : ((n : Int) == 0) = true := by simp [h0]
    have hjn : joinP out (chP x) = out ++ [chP x] := by
     have : out = [] := by rw [← HOUT.out, h0]; rfl
     rw [this]; rfl
    have HJN := Lib.hid hjn
    have H0 := Lib.hid h0
    clear h0 hjn
    go_wp2_with fail
    go_quiet (fail)
    have hol : out.length ≤ 1000000 := by rw [← HOUT.out]; exact Nat.le_trans (piecesS_len l n) (by omega)
    go_wp2_with (at_builtin; refine wpList_append_own _ rfl _ _ 23 rfl w.heap.size 42 i0 _ 6 40 Tryz.underlying23 hi hz0 hz1 hz2 rfl (by decide) _ _ _ rfl ((ownsRow_drewN hown nq).alloc _) ⟨wr.heap.size, 0, none⟩ 1 1 (enc ⟨⟨#[]⟩, x.f1⟩) rfl ?qc1 ?qc2 ?qc3 ?qc4 ?qc5 ?qc6 ?_)
    case qc1 => rfl
    case qc2 => intro j u hj; rw [add0]; rcases enc_cases hj with ⟨rfl, rfl⟩ | ⟨rfl, rfl⟩ | ⟨rfl, rfl⟩ | ⟨rfl, rfl⟩ | ⟨rfl, rfl⟩ | ⟨rfl, rfl⟩ <;> exact newcell (wr.drewN nq) _ 42 _ _ rfl
    case qc3 => intro u hu; simp only [enc, List.mem_cons, List.mem_nil_iff, or_false] at hu; rcases hu with rfl | rfl | rfl | rfl | rfl | rfl <;> rfl
    case qc4 => unfold maxLen; omega
    case qc5 => omega
    case qc6 => have := hb.size; simp; omega
    intro v' W1 hown1 hgrow hnil
    have hbW : Below w.heap.size w W1 := ((bdrewN hb nq).alloc (by simpa using hb.size) _).grown hgrow (by have := hb.size; simp; omega) (fun k hk => (hown.lt k hk).1)
    have hszW : wr.heap.size ≤ W1.heap.size := by have := hgrow.size; simp at this; omega
    obtain ⟨g, cap', cur, rfl, hg, hh, hle, hmx, hsz, htk⟩ : ∃ g cap' cur, v' = .slice (some ⟨g, 0, none⟩) (out.length + 1) cap' ∧ w.heap.size ≤ g ∧ W1.heap[g]? = some (.cells cur 42 (0, 0)) ∧ out.length + 1 ≤ cap' ∧ cap' ≤ maxLen ∧ cur.size = cap' * 6 ∧ cur.toList.take ((out.length + 1) * 6) = flat (out ++ [⟨⟨#[]⟩, x.f1⟩]) := by
     rcases hown1.2 with ⟨h, h1⟩ | ⟨g, cap', cur, h, hg, hh, hle, hmx, hsz, htk⟩
     ·exact absurd h1 (by omega)
     ·exact ⟨g, cap', cur, h, hg, hh, hle, hmx, hsz, by rw [htk]; simp [flat]⟩
    have gl : g < W1.heap.size := (Array.getElem?_eq_some_iff.1 hh).1
    have e0 : W1.cell? (ad.add (n * 6)) = some (.int .u8 x.f0) := cell_later hbW dw0
    obtain ⟨m, hm⟩ : ∃ m, out.length = m := ⟨_, rfl⟩
    have hLlen : (out ++ [(⟨⟨#[]⟩, x.f1⟩ : S42)]).length = m + 1 := by simp [hm]
    have hLm : (out ++ [(⟨⟨#[]⟩, x.f1⟩ : S42)])[m]? = some ⟨⟨#[]⟩, x.f1⟩ := by rw [← hm]; simp
    rw [hm] at hle htk hol
    obtain ⟨t, ht⟩ : ∃ t : ByteArray, t = ⟨#[]⟩ := ⟨_, rfl⟩
    have e1 : W1.cell? ⟨g, m * 6, none⟩ = some (.string t) := by
     have := Lays.of_take (l := out ++ [⟨⟨#[]⟩, x.f1⟩]) (cur := cur) (by rw [hLlen]; exact htk) m _ hLm 0 _ rfl
     rw [ht]
     simpa [World.cell?, hh] using this
    have hJ : joinP out (chP x) = (out ++ [(⟨⟨#[]⟩, x.f1⟩ : S42)]).set m ⟨t ++ (chP x).f0, x.f1⟩ := by
     rw [ht, HJN.out, ← hm, emp_app]; simp [chP]
    have HJ := Lib.hid hJ
    have hts : t.size ≤ 1000000 := by rw [ht]; exact Nat.zero_le _
    clear hJ ht
    rw [hm]
    have e0' := fun o => Lib.cell?_alloc_some o e0
    have e1' := fun o => Lib.cell?_alloc_some o e1
    have e2' : ∀ o, (W1.alloc o).frozen? ⟨g, m * 6, none⟩ = false := fun o => by
     have hgo : (W1.alloc o).heap[g]? = some (.cells cur 42 (0, 0)) := (((Below.refl W1.heap.size W1).alloc (Nat.le_refl _) o).block g gl).trans hh
     simp [World.frozen?, hgo]
    have wr1 : IntKind.i64.wrap ((m : Int) + 1 - 1) = (m : Int) := by rw [IntWalk.i64_in _ (by omega)]; omega
    have hcv := conv1 x.f0
    have hts1 : t.size + 1 ≤ 9223372036854775807 := by omega
    have hts2 : t.size + (⟨#[UInt8.ofNat x.f0.toNat]⟩ : ByteArray).size ≤ 9223372036854775807 := hts1
    have hfin : ∀ (X : World), X = (((W1.setCell ⟨g, m * 6, none⟩ (.string (t ++ (chP x).f0))).alloc (.cells #[.int .u8 x.f0] 5)).drew) → PRel l w (n + 1) (.slice (some ⟨g, 0, none⟩) (m + 1) cap') X := by
     rintro X rfl
     have hs0 := heap_set (i := m * 6) (v := .string (t ++ (chP x).f0)) hh
     have hX : (((W1.setCell ⟨g, m * 6, none⟩ (.string (t ++ (chP x).f0))).alloc (.cells #[.int .u8 x.f0] 5)).drew).heap[g]? = _ :=
      ((((Below.refl (W1.setCell ⟨g, m * 6, none⟩ (.string (t ++ (chP x).f0))).heap.size _).alloc (Nat.le_refl _) (.cells #[.int .u8 x.f0] 5)).drew).block g (Array.getElem?_eq_some_iff.1 hs0).1).trans hs0
     refine ⟨?_, ((hbW.setCell (p := ⟨g, m * 6, none⟩) hg _).alloc (Nat.le_trans (Nat.le_trans hb.size hszW) (by simp [World.setCell])) _).drew⟩
     have := row_left (W := W1) hLlen hLm hle hmx hsz htk hg hX
     rw [HTK.out, HJ.out]
     rw [List.length_set, hLlen] at this ⊢
     exact this
    clear htk hh hLm hLlen hsz hmx hbW
    go_wp2
    go_region
    go_wp2
    go_roundw
    case rel => exact ⟨n + 1, by omega, by go_num, hfin _ rfl⟩
    case measure => simp [intOf]; omega
   ·have tz : ((n : Int) == 0) = false := beq_eq_false_iff_ne.2 (by omega)
    obtain ⟨hlp, hls⟩ := lastStyle l n h0 (by omega)
    rw [HOUT.out] at hlp hls
    obtain ⟨y, hy⟩ : ∃ y, rd_T81 l ((n - 1 : Nat) : Int) = y := ⟨_, rfl⟩
    rw [hy] at hls
    obtain ⟨ad', hae, g0, g1, g2, g3, g4, g5⟩ := at_T81 hr3 ((n - 1 : Nat) : Int) (by omega) (by omega)
    obtain rfl : ad = ad' := by injection hae with hae
    rw [hy] at g0 g1 g2 g3 g4 g5
    simp only [Int.toNat_natCast] at g0 g1 g2 g3 g4 g5
    clear hy
    have wr1 : IntKind.i64.wrap ((n : Int) - 1) = (n : Int) - 1 := IntWalk.i64_in _ (by omega)
    have wr2 : (0 : Int) ≤ (n : Int) - 1 := by omega
    have wr3 : (n : Int) - 1 < (l.length : Int) := by omega
    have wr4 : 1 ≤ n := by omega
    have wr5 : (1 : Int) ≤ (n : Int) := by omega
    have wr6 : ¬ ((n : Int) - 1 < 0) := by omega
    have wr7 : ((n : Int) - 1).toNat < l.length := by omega
    have wr8 : n - 1 < l.length := by omega
    cases hq : eqS x.f1 y.f1
    ·have hjn : joinP out (chP x) = out ++ [chP x] := by
      unfold joinP
      rw [if_pos hlp, if_neg (by rw [hls, eqS_comm]; show ¬ (eqS x.f1 y.f1 = true); rw [hq]; exact Bool.false_ne_true)]
     have HJN := Lib.hid hjn
     have hq' := hq
     unfold eqS at hq'
     clear hjn hls
     go_wp2_with fail
     go_quiet (fail)
     clear wr1 wr2 wr3 wr4 wr5 wr6 wr7 wr8 g0 g1 g2 g3 g4 g5 hq'
     have hol : out.length ≤ 1000000 := by rw [← HOUT.out]; exact Nat.le_trans (piecesS_len l n) (by omega)
     go_wp2_with (at_builtin; refine wpList_append_own _ rfl _ _ 23 rfl w.heap.size 42 i0 _ 6 40 Tryz.underlying23 hi hz0 hz1 hz2 rfl (by decide) _ _ _ rfl ((ownsRow_drewN hown nq).alloc _) ⟨wr.heap.size, 0, none⟩ 1 1 (enc ⟨⟨#[]⟩, x.f1⟩) rfl ?qc1 ?qc2 ?qc3 ?qc4 ?qc5 ?qc6 ?_)
     case qc1 => rfl
     case qc2 => intro j u hj; rw [add0]; rcases enc_cases hj with ⟨rfl, rfl⟩ | ⟨rfl, rfl⟩ | ⟨rfl, rfl⟩ | ⟨rfl, rfl⟩ | ⟨rfl, rfl⟩ | ⟨rfl, rfl⟩ <;> exact newcell (wr.drewN nq) _ 42 _ _ rfl
     case qc3 => intro u hu; simp only [enc, List.mem_cons, List.mem_nil_iff, or_false] at hu; rcases hu with rfl | rfl | rfl | rfl | rfl | rfl <;> rfl
     case qc4 => unfold maxLen; omega
     case qc5 => omega
     case qc6 => have := hb.size; simp; omega
     intro v' W1 hown1 hgrow hnil
     have hbW : Below w.heap.size w W1 := ((bdrewN hb nq).alloc (by simpa using hb.size) _).grown hgrow (by have := hb.size; simp; omega) (fun k hk => (hown.lt k hk).1)
     have hszW : wr.heap.size ≤ W1.heap.size := by have := hgrow.size; simp at this; omega
     obtain ⟨g, cap', cur, rfl, hg, hh, hle, hmx, hsz, htk⟩ : ∃ g cap' cur, v' = .slice (some ⟨g, 0, none⟩) (out.length + 1) cap' ∧ w.heap.size ≤ g ∧ W1.heap[g]? = some (.cells cur 42 (0, 0)) ∧ out.length + 1 ≤ cap' ∧ cap' ≤ maxLen ∧ cur.size = cap' * 6 ∧ cur.toList.take ((out.length + 1) * 6) = flat (out ++ [⟨⟨#[]⟩, x.f1⟩]) := by
      rcases hown1.2 with ⟨h, h1⟩ | ⟨g, cap', cur, h, hg, hh, hle, hmx, hsz, htk⟩
      ·exact absurd h1 (by omega)
      ·exact ⟨g, cap', cur, h, hg, hh, hle, hmx, hsz, by rw [htk]; simp [flat]⟩
     have gl : g < W1.heap.size := (Array.getElem?_eq_some_iff.1 hh).1
     have e0 : W1.cell? (ad.add (n * 6)) = some (.int .u8 x.f0) := cell_later hbW dw0
     obtain ⟨m, hm⟩ : ∃ m, out.length = m := ⟨_, rfl⟩
     have hLlen : (out ++ [(⟨⟨#[]⟩, x.f1⟩ : S42)]).length = m + 1 := by simp [hm]
     have hLm : (out ++ [(⟨⟨#[]⟩, x.f1⟩ : S42)])[m]? = some ⟨⟨#[]⟩, x.f1⟩ := by rw [← hm]; simp
     rw [hm] at hle htk hol
     obtain ⟨t, ht⟩ : ∃ t : ByteArray, t = ⟨#[]⟩ := ⟨_, rfl⟩
     have e1 : W1.cell? ⟨g, m * 6, none⟩ = some (.string t) := by
      have := Lays.of_take (l := out ++ [⟨⟨#[]⟩, x.f1⟩]) (cur := cur) (by rw [hLlen]; exact htk) m _ hLm 0 _ rfl
      rw [ht]
      simpa [World.cell?, hh] using this
     have hJ : joinP out (chP x) = (out ++ [(⟨⟨#[]⟩, x.f1⟩ : S42)]).set m ⟨t ++ (chP x).f0, x.f1⟩ := by
      rw [ht, HJN.out, ← hm, emp_app]; simp [chP]
     have HJ := Lib.hid hJ
     have hts : t.size ≤ 1000000 := by rw [ht]; exact Nat.zero_le _
     clear hJ ht
     rw [hm]
     have e0' := fun o => Lib.cell?_alloc_some o e0
     have e1' := fun o => Lib.cell?_alloc_some o e1
     have e2' : ∀ o, (W1.alloc o).frozen? ⟨g, m * 6, none⟩ = false := fun o => by
      have hgo : (W1.alloc o).heap[g]? = some (.cells cur 42 (0, 0)) := (((Below.refl W1.heap.size W1).alloc (Nat.le_refl _) o).block g gl).trans hh
      simp [World.frozen?, hgo]
     have wr1 : IntKind.i64.wrap ((m : Int) + 1 - 1) = (m : Int) := by rw [IntWalk.i64_in _ (by omega)]; omega
     have hcv := conv1 x.f0
     have hts1 : t.size + 1 ≤ 9223372036854775807 := by omega
     have hts2 : t.size + (⟨#[UInt8.ofNat x.f0.toNat]⟩ : ByteArray).size ≤ 9223372036854775807 := hts1
     have hfin : ∀ (X : World), X = (((W1.setCell ⟨g, m * 6, none⟩ (.string (t ++ (chP x).f0))).alloc (.cells #[.int .u8 x.f0] 5)).drew) → PRel l w (n + 1) (.slice (some ⟨g, 0, none⟩) (m + 1) cap') X := by
      rintro X rfl
      have hs0 := heap_set (i := m * 6) (v := .string (t ++ (chP x).f0)) hh
      have hX : (((W1.setCell ⟨g, m * 6, none⟩ (.string (t ++ (chP x).f0))).alloc (.cells #[.int .u8 x.f0] 5)).drew).heap[g]? = _ :=
       ((((Below.refl (W1.setCell ⟨g, m * 6, none⟩ (.string (t ++ (chP x).f0))).heap.size _).alloc (Nat.le_refl _) (.cells #[.int .u8 x.f0] 5)).drew).block g (Array.getElem?_eq_some_iff.1 hs0).1).trans hs0
      refine ⟨?_, ((hbW.setCell (p := ⟨g, m * 6, none⟩) hg _).alloc (Nat.le_trans (Nat.le_trans hb.size hszW) (by simp [World.setCell])) _).drew⟩
      have := row_left (W := W1) hLlen hLm hle hmx hsz htk hg hX
      rw [HTK.out, HJ.out]
      rw [List.length_set, hLlen] at this ⊢
      exact this
     clear htk hh hLm hLlen hsz hmx hbW
     go_wp2
     go_region
     go_wp2
     go_roundw
     case rel => exact ⟨n + 1, by omega, by go_num, hfin _ rfl⟩
     case measure => simp [intOf]; omega
    ·obtain ⟨g, cap', cur, rfl, hg, hh0, hle, hmx, hsz, htk⟩ : ∃ g cap' cur, u3 = .slice (some ⟨g, 0, none⟩) out.length cap' ∧ w.heap.size ≤ g ∧ wr.heap[g]? = some (.cells cur 42 (0, 0)) ∧ out.length ≤ cap' ∧ cap' ≤ maxLen ∧ cur.size = cap' * 6 ∧ cur.toList.take (out.length * 6) = flat out := by
      rcases hown.2 with ⟨h, h1⟩ | h
      ·exact absurd h1 (by omega)
      ·exact h
     have hol : out.length ≤ 1000000 := by rw [← HOUT.out]; exact Nat.le_trans (piecesS_len l n) (by omega)
     have hwl : wordsLen out ≤ 1000000 := by rw [← HOUT.out]; exact Nat.le_trans (piecesS_wl l n) (by omega)
     have hjn : joinP out (chP x) = out.set (out.length - 1) ⟨(lastP out).f0 ++ (chP x).f0, (lastP out).f1⟩ := by
      unfold joinP
      rw [if_pos hlp, if_pos (by rw [hls, eqS_comm]; exact hq)]
     have hlm : out[out.length - 1]? = some (lastP out) := by
      unfold lastP
      rw [List.getD_eq_getElem?_getD, List.getElem?_eq_getElem (by omega)]
      rfl
     have htz : (lastP out).f0.size ≤ wordsLen out := by
      unfold lastP
      rw [List.getD_eq_getElem?_getD, List.getElem?_eq_getElem (by omega)]
      exact wordsLen_mem (List.getElem_mem _)
     obtain ⟨m, hm⟩ : ∃ m, out.length = m + 1 := ⟨out.length - 1, by omega⟩
     obtain ⟨q, hqq⟩ : ∃ q, lastP out = q := ⟨_, rfl⟩
     rw [hm, Nat.add_sub_cancel] at hjn hlm
     rw [hqq] at hjn hlm htz
     obtain ⟨t, ht⟩ : ∃ t, q.f0 = t := ⟨_, rfl⟩
     rw [ht] at hjn htz
     have hLlen := hm
     have hLm := hlm
     rw [hm] at hle htk hol
     have HJ := Lib.hid hjn
     have hts : t.size ≤ 1000000 := by omega
     have hq' := hq
     unfold eqS at hq'
     have e1r : wr.cell? ⟨g, m * 6, none⟩ = some (.string t) := by
      have := Lays.of_take (l := out) (cur := cur) (by rw [hLlen]; exact htk) m q hLm 0 _ rfl
      rw [← ht]
      simpa [World.cell?, hh0] using this
     rw [hm]
     clear hjn hlm hm hls hlp ht htz hwl hqq
     go_wp2_with fail
     go_quiet (fail)
     obtain ⟨W1, hW1⟩ : ∃ W1, wr.drewN nq = W1 := ⟨_, rfl⟩
     have hh : W1.heap[g]? = some (.cells cur 42 (0, 0)) := by rw [← hW1]; exact hh0
     have gl : g < W1.heap.size := (Array.getElem?_eq_some_iff.1 hh).1
     have hszW : wr.heap.size ≤ W1.heap.size := by rw [← hW1]; exact Nat.le_refl _
     have hbW : Below w.heap.size w W1 := by rw [← hW1]; exact bdrewN hb nq
     have e0 : W1.cell? (ad.add (n * 6)) = some (.int .u8 x.f0) := cell_later hbW dw0
     have e1 : W1.cell? ⟨g, m * 6, none⟩ = some (.string t) := by rw [← hW1]; exact e1r
     rw [hW1]
     clear wr1 wr2 wr3 wr4 wr5 wr6 wr7 wr8 g0 g1 g2 g3 g4 g5 hq' hW1 hh0 e1r
     have e0' := fun o => Lib.cell?_alloc_some o e0
     have e1' := fun o => Lib.cell?_alloc_some o e1
     have e2' : ∀ o, (W1.alloc o).frozen? ⟨g, m * 6, none⟩ = false := fun o => by
      have hgo : (W1.alloc o).heap[g]? = some (.cells cur 42 (0, 0)) := (((Below.refl W1.heap.size W1).alloc (Nat.le_refl _) o).block g gl).trans hh
      simp [World.frozen?, hgo]
     have wr1 : IntKind.i64.wrap ((m : Int) + 1 - 1) = (m : Int) := by rw [IntWalk.i64_in _ (by omega)]; omega
     have hcv := conv1 x.f0
     have hts1 : t.size + 1 ≤ 9223372036854775807 := by omega
     have hts2 : t.size + (⟨#[UInt8.ofNat x.f0.toNat]⟩ : ByteArray).size ≤ 9223372036854775807 := hts1
     have hfin : ∀ (X : World), X = (((W1.setCell ⟨g, m * 6, none⟩ (.string (t ++ (chP x).f0))).alloc (.cells #[.int .u8 x.f0] 5)).drew) → PRel l w (n + 1) (.slice (some ⟨g, 0, none⟩) (m + 1) cap') X := by
      rintro X rfl
      have hs0 := heap_set (i := m * 6) (v := .string (t ++ (chP x).f0)) hh
      have hX : (((W1.setCell ⟨g, m * 6, none⟩ (.string (t ++ (chP x).f0))).alloc (.cells #[.int .u8 x.f0] 5)).drew).heap[g]? = _ :=
       ((((Below.refl (W1.setCell ⟨g, m * 6, none⟩ (.string (t ++ (chP x).f0))).heap.size _).alloc (Nat.le_refl _) (.cells #[.int .u8 x.f0] 5)).drew).block g (Array.getElem?_eq_some_iff.1 hs0).1).trans hs0
      refine ⟨?_, ((hbW.setCell (p := ⟨g, m * 6, none⟩) hg _).alloc (Nat.le_trans (Nat.le_trans hb.size hszW) (by simp [World.setCell])) _).drew⟩
      have := row_left (W := W1) hLlen hLm hle hmx hsz htk hg hX
      rw [HTK.out, HJ.out]
      rw [List.length_set, hLlen] at this ⊢
      exact this
     clear htk hh hLm hLlen hsz hmx hbW
     go_wp2
     go_region
     go_wp2
     go_roundw
     case rel => exact ⟨n + 1, by omega, by go_num, hfin _ rfl⟩
     case measure => simp [intOf]; omega
  ·have hnl : n = l.length := by omega
   have hfin : wr.ownsRow w.heap.size 42 6 u3 (piecesS l).length (flat (piecesS l)) := by rw [hnl, List.take_length] at hown; exact hown
   clear hnl hown
   go_wp2
   go_ret
   exact ⟨_, rfl, hfin, hb⟩
end Go.Proofs.YtogidacejbjljaaGreatDoor.PTextChecks
end
section
/- text.taken: how many letters the next line has. -/
set_option linter.unusedVariables false
set_option linter.unusedSimpArgs false
namespace Go.Proofs.YtogidacejbjljaaGreatDoor.PTextChecks
open Go.RowKit Go.Proofs.YtogidacejbjljaaGreatDoorW.PrintWords Go.Proofs.YtogidacejbjljaaGreatDoorW.PrintLast Go.Proofs.YtogidacejbjljaaGreatDoorW.PrintMore
theorem twide_calls (x : S81) (h : 0 ≤ x.f0 ∧ x.f0 < 256) (w : World) :
  Calls Tryz.prog 60 #[.int .u8 x.f0, .agg #[.bool x.f1.f0, .bool x.f1.f1, .bool x.f1.f2, .int .i64 x.f1.f3, .int .i64 x.f1.f4]] w fun e w' => e = .returned (.int .i64 (wd x)) ∧ Below w.heap.size w w' := by
 refine text_wide.calls x.f0 x.f1.f0 x.f1.f1 x.f1.f2 x.f1.f3 x.f1.f4 (wd x) w ?_
 have := wide_run x.f0.toNat (by omega) x.f1
 rw [Int.toNat_of_nonneg h.1] at this
 exact this
def TRel (l : List S81) (room : Int) (w : World) (n : Nat) (sum : Int) (bl : Nat) (wr : World) : Prop := takeF room (l.drop n) sum n bl = takenS l room ∧ Below w.heap.size w wr
theorem take_go {l : List S81} {room : Int} {n bl : Nat} {sum s1 : Int} {x : S81} (ht : Hid (takeF room (l.drop n) sum n bl = takenS l room)) (hd : Hid (l.drop n = x :: l.drop (n + 1))) (hs : Hid (wrap64 (sum + wd x) = s1))
  (h1 : (decide (room < s1) && decide (0 < n)) = false) : takeF room (l.drop (n + 1)) s1 (n + 1) (if x.f0 = 32 then n + 1 else bl) = takenS l room := by
 have := ht.out
 rw [hd.out] at this
 unfold takeF at this
 rw [hs.out, h1] at this
 simpa using this
theorem take_end {l : List S81} {room : Int} {n bl : Nat} {sum s1 : Int} {x : S81} (ht : Hid (takeF room (l.drop n) sum n bl = takenS l room)) (hd : Hid (l.drop n = x :: l.drop (n + 1))) (hs : Hid (wrap64 (sum + wd x) = s1))
  (h1 : (decide (room < s1) && decide (0 < n)) = true) : (if 0 < bl then bl else n) = takenS l room := by
 have := ht.out
 rw [hd.out] at this
 unfold takeF at this
 rw [hs.out, h1] at this
 simpa using this
set_option maxHeartbeats 4000000 in
set_option maxRecDepth 100000 in
theorem taken_calls (A : Option Addr) (cap : Nat) (l : List S81) (room : Int) (w : World) (hr : Kd.C k81 w A l.length l) (hl : l.length ≤ 1000000) (hb : Byt l) :
  Calls Tryz.prog 106 #[.slice A l.length cap, .int .i64 room] w fun e w' => e = .returned (.int .i64 (takenS l room)) ∧ Below w.heap.size w w' := by
 go_enter Tryz.func106, Tryz.ntmps106
 go_wp2
 go_loopw [5, 6, 11] (fun s b i wr => ∃ (n : Nat) (sum : Int) (bl : Nat), n ≤ l.length ∧ bl ≤ n ∧ s = .int .i64 sum ∧ b = .int .i64 bl ∧ i = .int .i64 n ∧ TRel l room w n sum bl wr) (fun _ _ i wr => l.length - (intOf i).toNat)
 case atStart => exact ⟨0, 0, 0, by omega, by omega, rfl, rfl, rfl, rfl, Below.refl _ _⟩
 case round =>
  obtain ⟨n, sum, bl, hn, hbl, rfl, rfl, rfl, htk⟩ := hrel
  by_cases hlt : n < l.length
  ·obtain ⟨htk, hbw⟩ := htk
   have hr3 := Kd.C_below hr hbw
   obtain ⟨ad, rfl, d0, d1, d2, d3, d4, d5⟩ := at_T81 hr3 (n : Int) (by omega) (by omega)
   obtain ⟨x, hx⟩ : ∃ x, rd_T81 l (n : Int) = x := ⟨_, rfl⟩
   rw [hx] at d0 d1 d2 d3 d4 d5
   have hxb := hb x (by rw [← hx]; exact rd81_mem l n hlt)
   have hdr : l.drop n = x :: l.drop (n + 1) := by rw [rd81_drop l n hlt, hx]
   obtain ⟨s1, hs1⟩ : ∃ s1, wrap64 (sum + wd x) = s1 := ⟨_, rfl⟩
   have HS := Lib.hid hs1
   have HD := Lib.hid hdr
   have HT := Lib.hid htk
   have hs1' : IntKind.i64.wrap (sum + wd x) = s1 := by rw [i64_w]; exact hs1
   have cW := fun X => twide_calls x hxb X
   generalize wd x = z at cW hs1'
   clear htk hdr hs1 hx
   simp only [Int.toNat_natCast] at d0 d1 d2 d3 d4 d5
   have hBW : ∀ W, Below (wr.alloc (.cells #[.int .u8 x.f0, .bool x.f1.f0, .bool x.f1.f1, .bool x.f1.f2, .int .i64 x.f1.f3, .int .i64 x.f1.f4] 151)).heap.size (wr.alloc (.cells #[.int .u8 x.f0, .bool x.f1.f0, .bool x.f1.f1, .bool x.f1.f2, .int .i64 x.f1.f3, .int .i64 x.f1.f4] 151)) W → Below w.heap.size w W :=
    fun W h => hbw.trans (((Below.refl _ wr).alloc (Nat.le_refl _) _).mono hbw.size |>.trans (h.mono (by have := hbw.size; simp; omega)))
   have wr1 : IntKind.i64.wrap ((n : Int) + 1) = (n : Int) + 1 := IntWalk.i64_in _ (by omega)
   cases hc1 : decide (room < s1)
   case false =>
    cases hsp : decide (x.f0 = 32)
    case false =>
     have HG := Lib.hid (take_go HT HD HS (by rw [hc1]; rfl))
     have hsp1 : (x.f0 == 32) = false := hsp
     go_wp2_with (go_at_call 60; refine (cW _).mono ?_; rintro e W ⟨rfl, hbW⟩; obtain ⟨k0, k1, k2, k3, k4, k5⟩ := box6 hbW)
     go_roundw
     case rel => exact ⟨n + 1, s1, bl, by omega, by omega, by go_num, by go_num, by go_num, by rw [← HG.out, if_neg (of_decide_eq_false hsp)], hBW _ hbW⟩
     case measure => simp [intOf]; omega
    case true =>
     have HG := Lib.hid (take_go HT HD HS (by rw [hc1]; rfl))
     have hsp1 : (x.f0 == 32) = true := hsp
     go_wp2_with (go_at_call 60; refine (cW _).mono ?_; rintro e W ⟨rfl, hbW⟩; obtain ⟨k0, k1, k2, k3, k4, k5⟩ := box6 hbW)
     go_roundw
     case rel => exact ⟨n + 1, s1, n + 1, by omega, by omega, by go_num, by go_num, by go_num, by rw [← HG.out, if_pos (of_decide_eq_true hsp)], hBW _ hbW⟩
     case measure => simp [intOf]; omega
   case true =>
    rcases Nat.eq_zero_or_pos n with h0 | h0
    ·have hc2 : decide ((0 : Int) < (n : Int)) = false := decide_eq_false (by omega)
     have hc3 : decide (0 < n) = false := decide_eq_false (by omega)
     have H0 := Lib.hid h0
     clear h0
     cases hsp : decide (x.f0 = 32)
     case false =>
      have HG := Lib.hid (take_go HT HD HS (by rw [hc1, hc3]; rfl))
      have hsp1 : (x.f0 == 32) = false := hsp
      go_wp2_with (go_at_call 60; refine (cW _).mono ?_; rintro e W ⟨rfl, hbW⟩; obtain ⟨k0, k1, k2, k3, k4, k5⟩ := box6 hbW)
      go_roundw
      case rel => exact ⟨n + 1, s1, bl, by omega, by omega, by go_num, by go_num, by go_num, by rw [← HG.out, if_neg (of_decide_eq_false hsp)], hBW _ hbW⟩
      case measure => simp [intOf]; omega
     case true =>
      have HG := Lib.hid (take_go HT HD HS (by rw [hc1, hc3]; rfl))
      have hsp1 : (x.f0 == 32) = true := hsp
      go_wp2_with (go_at_call 60; refine (cW _).mono ?_; rintro e W ⟨rfl, hbW⟩; obtain ⟨k0, k1, k2, k3, k4, k5⟩ := box6 hbW)
      go_roundw
      case rel => exact ⟨n + 1, s1, n + 1, by omega, by omega, by go_num, by go_num, by go_num, by rw [← HG.out, if_pos (of_decide_eq_true hsp)], hBW _ hbW⟩
      case measure => simp [intOf]; omega
    ·have hc2 : decide ((0 : Int) < (n : Int)) = true := decide_eq_true (by omega)
     have HE := Lib.hid (take_end HT HD HS (by rw [hc1, decide_eq_true h0]; rfl))
     cases hbp : decide (0 < bl)
     case false =>
      have hbp' : decide ((0 : Int) < (bl : Int)) = false := decide_eq_false (by have := of_decide_eq_false hbp; omega)
      go_wp2_with (go_at_call 60; refine (cW _).mono ?_; rintro e W ⟨rfl, hbW⟩; obtain ⟨k0, k1, k2, k3, k4, k5⟩ := box6 hbW)
      go_ret
      exact ⟨ret_int (by rw [← HE.out, if_neg (of_decide_eq_false hbp)]), hBW _ hbW⟩
     case true =>
      have hbp' : decide ((0 : Int) < (bl : Int)) = true := decide_eq_true (by have := of_decide_eq_true hbp; omega)
      go_wp2_with (go_at_call 60; refine (cW _).mono ?_; rintro e W ⟨rfl, hbW⟩; obtain ⟨k0, k1, k2, k3, k4, k5⟩ := box6 hbW)
      go_ret
      exact ⟨ret_int (by rw [← HE.out, if_pos (of_decide_eq_true hbp)]), hBW _ hbW⟩
  ·have htk' : (n : Int) = (takenS l room : Int) := by
    have h1 : l.drop n = [] := List.drop_of_length_le (by omega)
    have := htk.1
    rw [h1] at this
    exact congrArg _ this
   have hnl : n = l.length := by omega
   have HN := Lib.hid htk'
   have hbw := htk.2
   clear htk htk'
   go_wp2_with fail
   go_ret
   exact ⟨ret_int (by rw [← HN.out, hnl]), hbw⟩
end Go.Proofs.YtogidacejbjljaaGreatDoor.PTextChecks
end
section
/- Regions that draw their order: one walk of the text's order serves, if the operations that touch memory wait for each other and all others yield one value in every world of a class. -/
set_option linter.unusedVariables false
set_option linter.unusedSimpArgs false
namespace Go.Mix
open Go.RowKit
section
variable {P : Program} {ops : Array Oper} {md : Region.Mode} {C : World → Prop} {E : Nat → Bool} {Q : Act → World → Prop} {L : Nat}

/-- What an operation that touches memory comes to. -/
def effUpon (P : Program) (R : Value → World → Prop) : Result Next → Prop
 | .ok (.value u) w' => R u w'
 | .ok .skip w' => R undef w'
 | .ok (.enter f args) w' => Calls P f args w' (fun e w'' => ∃ v, e = .returned v ∧ R v w'')
 | _ => False
def eff (P : Program) (o : Oper) (a : Act) (w : World) (R : Value → World → Prop) : Prop := effUpon P R ((execOp a.eval o).run P w)
theorem effUpon_mono {R R' : Value → World → Prop} (h : ∀ v w, R v w → R' v w) : ∀ {r : Result Next}, effUpon P R r → effUpon P R' r := by
 intro r hr
 cases r with
 | ok n w' =>
  cases n <;> simp only [effUpon] at hr ⊢
  case value u => exact h _ _ hr
  case skip => exact h _ _ hr
  case enter f args => exact hr.mono fun e w'' ⟨v, he, hv⟩ => ⟨v, he, h _ _ hv⟩
 | halt x w' => simp only [effUpon] at hr
theorem eff_mono {o : Oper} {a : Act} {w : World} {R R' : Value → World → Prop} (h : ∀ v w, R v w → R' v w) (hr : eff P o a w R) : eff P o a w R' := effUpon_mono h hr
theorem eff_out {o : Oper} {a : Act} {w : World} {R : Value → World → Prop} (hr : eff P o a w R) : ∃ v w', R v w' := by
 unfold eff at hr
 generalize (execOp a.eval o).run P w = r at hr
 cases r with
 | ok n w' =>
  cases n <;> simp only [effUpon] at hr
  case value u => exact ⟨_, _, hr⟩
  case skip => exact ⟨_, _, hr⟩
  case enter f args =>
   obtain ⟨e, w'', fr, ⟨v, _, hv⟩, _⟩ := hr []
   exact ⟨v, w'', hv⟩
 | halt x w' => simp only [effUpon] at hr

def mStep (P : Program) (ops : Array Oper) (C : World → Prop) (b : Bool) (o : Oper) (K : Act → World → Prop) (a : Act) (w : World) : Prop :=
 if Region.wanted o (yielded ops a.tmps) then
  (if b then eff P o a w (fun v w' => C w' ∧ K (a.put o.dst v) w') else ∃ v, (∀ w', C w' → (execOp a.eval o).run P w' = .ok (.value v) w') ∧ K (a.put o.dst v) w)
 else K (a.put o.dst undef) w
theorem mStep_mono {b : Bool} {o : Oper} {K K' : Act → World → Prop} {a : Act} {w : World} (hC : C w) (h : ∀ a w, C w → K a w → K' a w) (hs : mStep P ops C b o K a w) : mStep P ops C b o K' a w := by
 unfold mStep at *
 split
 ·rename_i hw
  rw [if_pos hw] at hs
  cases b with
  | true => exact eff_mono (fun v w' hv => ⟨hv.1, h _ _ hv.1 hv.2⟩) hs
  | false => obtain ⟨v, h1, h2⟩ := hs; exact ⟨v, h1, h _ _ hC h2⟩
 ·rename_i hw
  rw [if_neg hw] at hs
  exact h _ _ hC hs
def mOp (P : Program) (ops : Array Oper) (C : World → Prop) (E : Nat → Bool) (i : Nat) (K : Act → World → Prop) (a : Act) (w : World) : Prop :=
 match ops[i]? with
 | none => K a w
 | some o => mStep P ops C (E i) o K a w
/-- THE WALK OF THE TEXT's ORDER. -/
def wpMix (P : Program) (ops : Array Oper) (C : World → Prop) (E : Nat → Bool) (Q : Act → World → Prop) : Nat → List Oper → Act → World → Prop
 | _, [], a, w => Q a w
 | k, o :: l, a, w => mStep P ops C (E k) o (wpMix P ops C E Q (k + 1) l) a w

/-- Nothing but number L may come up. -/
def Only (md : Region.Mode) (ops : Array Oper) (L : Nat) (listed : Array Bool) : Prop := ∀ j ∈ Region.ready md ops listed, j = L
/-- Whatever order is picked, until nothing but number L may come up. -/
def wpAnyM (P : Program) (md : Region.Mode) (ops : Array Oper) (C : World → Prop) (E : Nat → Bool) (Q : Act → World → Prop) (L : Nat) : Nat → Array Bool → Act → World → Prop
 | 0, listed, a, w => Only md ops L listed ∧ Q a w
 | fuel + 1, listed, a, w => (Only md ops L listed → Q a w) ∧ ∀ i ∈ Region.ready md ops listed, i ≠ L → mOp P ops C E i (wpAnyM P md ops C E Q L fuel (listed.setIfInBounds i true)) a w

theorem wpOp_of_mOp {i : Nat} {a : Act} {w : World} {K K' : Act → World → Prop} {Q' : Exit → Act → World → Prop} (hC : C w) (h : ∀ a w, C w → K a w → K' a w) (hh : mOp P ops C E i K a w) : wpOp P ops Q' i K' a w := by
 unfold mOp at hh
 unfold wpOp
 split
 ·rename_i ho; simp only [ho] at hh; exact h _ _ hC hh
 ·rename_i o ho
  simp only [ho] at hh
  unfold mStep at hh
  split
  ·rename_i hw
   rw [if_pos hw] at hh
   refine .inl ?_
   unfold Oper.wp
   cases hE : E i with
   | true =>
    rw [hE] at hh
    simp only [if_true] at hh
    unfold eff at hh
    generalize (execOp a.eval o).run P w = r at hh
    cases r with
    | ok n w' =>
     cases n <;> simp only [effUpon] at hh <;> simp only [Oper.upon]
     case value u => exact h _ _ hh.1 hh.2
     case skip => exact h _ _ hh.1 hh.2
     case enter f args => exact hh.mono fun e w'' ⟨v, he, hv⟩ => by subst he; exact h _ _ hv.1 hv.2
    | halt x w' => simp only [effUpon] at hh
   | false =>
    rw [hE] at hh
    simp only [Bool.false_eq_true, if_false] at hh
    obtain ⟨v, h1, h2⟩ := hh
    rw [h1 w hC, Oper.upon_value]
    exact h _ _ hC h2
  ·rename_i hw
   rw [if_neg hw] at hh
   exact h _ _ hC hh
theorem wpOp_mono' {Q' : Exit → Act → World → Prop} {i : Nat} {K K' : Act → World → Prop} {a : Act} {w : World} (h : ∀ a w, K a w → K' a w) (hh : wpOp P ops Q' i K a w) : wpOp P ops Q' i K' a w := by
 unfold wpOp at *
 split
 ·rename_i ho; simp only [ho] at hh; exact h _ _ hh
 ·rename_i o ho
  simp only [ho] at hh
  split
  ·rename_i hw
   rw [if_pos hw] at hh
   exact hh.imp (fun h' => Oper.wp_mono h h') id
  ·rename_i hw
   rw [if_neg hw] at hh
   exact h _ _ hh
theorem mOp_mono {i : Nat} {K K' : Act → World → Prop} {a : Act} {w : World} (hC : C w) (h : ∀ a w, C w → K a w → K' a w) (hs : mOp P ops C E i K a w) : mOp P ops C E i K' a w := by
 unfold mOp at *
 split
 ·rename_i ho; simp only [ho] at hs; exact h _ _ hC hs
 ·rename_i o ho; simp only [ho] at hs; exact mStep_mono hC h hs

/-- In state a the operation yields v in every world of the class, and touches nothing; or it is passed over. -/
def Yields (P : Program) (ops : Array Oper) (C : World → Prop) (o : Oper) (v : Value) (a : Act) : Prop :=
 (Region.wanted o (yielded ops a.tmps) = true ∧ ∀ w, C w → (execOp a.eval o).run P w = .ok (.value v) w) ∨ (Region.wanted o (yielded ops a.tmps) = false ∧ v = undef)
theorem Yields.of_same {o : Oper} {v : Value} {a a' : Act} (hy : Yields P ops C o v a) (he : execOp a'.eval o = execOp a.eval o)
  (hw : Region.wanted o (yielded ops a'.tmps) = Region.wanted o (yielded ops a.tmps)) : Yields P ops C o v a' := by
 unfold Yields at *
 rw [he, hw]
 exact hy
theorem mOp_put {j : Nat} {oi oj : Oper} {v : Value} (hj : ops[j]? = some oj) (hap : oi.apart ops oj = true) (hsi : ∀ cs b, oi.op ≠ .select cs b) (hsj : ∀ cs b, oj.op ≠ .select cs b)
  {K : Act → World → Prop} {a : Act} {w : World} (hy : Yields P ops C oi v a) (h : mOp P ops C E j K (a.put oi.dst v) w) :
  mOp P ops C E j (fun a' w' => Yields P ops C oi v a' ∧ K (a'.put oi.dst v) w') a w := by
 obtain ⟨h1, h2, h3⟩ := Oper.apart_spec hap
 have keep : ∀ u, Yields P ops C oi v (a.put oj.dst u) := fun u => hy.of_same (execOp_put oi hsi a oj.dst u h3) (wanted_put oi a oj.dst u h3)
 unfold mOp at *
 simp only [hj] at *
 unfold mStep at *
 rw [wanted_put oj a oi.dst v h1] at h
 split
 ·rename_i hw
  rw [if_pos hw] at h
  cases hE : E j with
  | true =>
   rw [hE] at h
   simp only [if_true] at h ⊢
   unfold eff at h
   rw [execOp_put oj hsj a oi.dst v h1] at h
   exact eff_mono (fun u w' hu => ⟨hu.1, keep u, by rw [← Act.put_comm a v u h2]; exact hu.2⟩) h
  | false =>
   rw [hE] at h
   simp only [Bool.false_eq_true, if_false] at h ⊢
   obtain ⟨u, hu, hn⟩ := h
   exact ⟨u, fun w' hw' => by have := hu w' hw'; rwa [execOp_put oj hsj a oi.dst v h1] at this, keep u, by rw [← Act.put_comm a v u h2]; exact hn⟩
 ·rename_i hw
  rw [if_neg hw] at h
  exact ⟨keep _, by rw [← Act.put_comm a v undef h2]; exact h⟩
theorem Yields.mOp {i : Nat} {o : Oper} {v : Value} {a : Act} {w : World} (hi : ops[i]? = some o) (hE : Region.wanted o (yielded ops a.tmps) = true → E i = false) (hC : C w) (hy : Yields P ops C o v a) {K : Act → World → Prop} (h : K (a.put o.dst v) w) : mOp P ops C E i K a w := by
 unfold Mix.mOp
 simp only [hi]
 unfold mStep
 rcases hy with ⟨hw, hv⟩ | ⟨hw, rfl⟩
 ·rw [if_pos hw, hE hw]; exact ⟨v, hv, h⟩
 ·rw [if_neg (by rw [hw]; exact Bool.false_ne_true)]; exact h

/-- An operation that yields one value may be taken first. -/
theorem first_pure {i : Nat} {oi : Oper} {v : Value} (hiL : i ≠ L) (hi : ops[i]? = some oi) (hsel : ∀ (j : Nat) (o : Oper) cs b, ops[j]? = some o → o.op ≠ .select cs b) :
  ∀ (fuel : Nat) (listed : Array Bool) (a : Act) (w : World), C w → (Region.wanted oi (yielded ops a.tmps) = true → E i = false) →
   (∀ j oj, ops[j]? = some oj → j ≠ i → listed.getD j true = false → (∀ e ∈ oj.after, Region.binds md e = true → e.on ≠ i) → oi.apart ops oj = true) →
   i ∈ Region.ready md ops listed → Yields P ops C oi v a →
   wpAnyM P md ops C E Q L fuel (listed.setIfInBounds i true) (a.put oi.dst v) w → wpAnyM P md ops C E Q L (fuel + 1) listed a w := by
 intro fuel
 induction fuel with
 | zero =>
  intro listed a w hC hE _ hr hy H
  refine ⟨fun h => absurd (h i hr) hiL, fun j hj hjL => ?_⟩
  by_cases hji : j = i
  ·subst hji; exact hy.mOp hi hE hC H
  ·exact absurd (H.1 j (ready_mono hj hji)) hjL
 | succ fuel ih =>
  intro listed a w hC hE hfree hr hy H
  refine ⟨fun h => absurd (h i hr) hiL, fun j hj hjL => ?_⟩
  by_cases hji : j = i
  ·subst hji; exact hy.mOp hi hE hC H
  ·have h1 := H.2 j (ready_mono hj hji) hjL
   obtain ⟨hjun, oj, hoj, hall⟩ := mem_ready.1 hj
   have hnot : ∀ e ∈ oj.after, Region.binds md e = true → e.on ≠ i := fun e he hb heq => by
    have h1 := hall e he hb
    have h0 := (mem_ready.1 hr).1
    rw [heq] at h1
    rcases Nat.lt_or_ge i listed.size with h' | h'
    ·simp [h'] at h0 h1; rw [h0] at h1; cases h1
    ·simp [Array.getElem?_eq_none h'] at h1
   have hap := hfree j oj hoj hji hjun hnot
   have h2 := mOp_put hoj hap (fun cs b => hsel i oi cs b hi) (fun cs b => hsel j oj cs b hoj) hy h1
   have hfree' : ∀ k ok, ops[k]? = some ok → k ≠ i → (listed.setIfInBounds j true).getD k true = false →
     (∀ e ∈ ok.after, Region.binds md e = true → e.on ≠ i) → oi.apart ops ok = true := fun k ok hk hki hun hno => by
    refine hfree k ok hk hki ?_ hno
    by_cases hjk : j = k
    ·subst hjk; exact hjun
    ·rw [getD_set_ne true hjk] at hun; exact hun
   refine mOp_mono hC (K := fun a' w' => (Region.wanted oi (yielded ops a'.tmps) = true → E i = false) ∧ Yields P ops C oi v a' ∧ wpAnyM P md ops C E Q L fuel ((listed.setIfInBounds i true).setIfInBounds j true) (a'.put oi.dst v) w')
    (fun a' w' hw' h3 => ih (listed.setIfInBounds j true) a' w' hw' h3.1 hfree' (ready_mono hr (Ne.symm hji)) h3.2.1 ?_) ?_
   ·rw [Array.setIfInBounds_comm _ _ hji]
    exact h3.2.2
   ·have hwp : ∀ u, Region.wanted oi (yielded ops (a.put oj.dst u).tmps) = Region.wanted oi (yielded ops a.tmps) := fun u => wanted_put oi a oj.dst u (Oper.apart_spec hap).2.2
    unfold Mix.mOp at h2 ⊢
    simp only [hoj] at h2 ⊢
    unfold mStep at h2 ⊢
    split
    ·rename_i hw
     rw [if_pos hw] at h2
     cases hEj : E j with
     | true =>
      rw [hEj] at h2
      simp only [if_true] at h2 ⊢
      exact eff_mono (fun u w' hu => ⟨hu.1, by rw [hwp]; exact hE, hu.2⟩) h2
     | false =>
      rw [hEj] at h2
      simp only [Bool.false_eq_true, if_false] at h2 ⊢
      obtain ⟨u, hu, hn⟩ := h2
      exact ⟨u, hu, by rw [hwp]; exact hE, hn⟩
    ·rename_i hw
     rw [if_neg hw] at h2
     exact ⟨by rw [hwp]; exact hE, h2⟩

/-! ### what waits -/
def waitB (md : Region.Mode) (ops : Array Oper) (k : Nat) : Nat → Nat → Bool
 | 0, _ => false
 | f + 1, j => match ops[j]? with
  | some o => o.after.any fun e => Region.binds md e && (e.on == k || waitB md ops k f e.on)
  | none => false
def Closed (md : Region.Mode) (ops : Array Oper) (listed : Array Bool) : Prop := ∀ m o, ops[m]? = some o → listed.getD m false = true → ∀ e ∈ o.after, Region.binds md e = true → listed.getD e.on false = true
theorem getD_false {listed : Array Bool} {k : Nat} (h : listed.getD k true = false) : ¬ listed.getD k false = true := by
 intro h'
 rcases Nat.lt_or_ge k listed.size with hk | hk
 ·simp [hk] at h h'; rw [h] at h'; cases h'
 ·simp [Array.getElem?_eq_none hk] at h'
theorem waits_step' {k : Nat} {listed : Array Bool} (hc : Closed md ops listed) (hk : ¬ listed.getD k false = true) : ∀ (f j : Nat) (o : Oper), ops[j]? = some o → waitB md ops k f j = true → ¬ ∀ e ∈ o.after, Region.binds md e = true → listed.getD e.on false = true
 | 0, _, _, _, h => by simp [waitB] at h
 | f + 1, j, o, ho, h => by
  intro hall
  unfold waitB at h
  simp only [ho] at h
  obtain ⟨e, he, hb⟩ := Array.any_eq_true'.1 h
  rw [Bool.and_eq_true, Bool.or_eq_true] at hb
  have hl := hall e he hb.1
  rcases hb.2 with h1 | h1
  ·rw [beq_iff_eq] at h1
   rw [h1] at hl
   exact hk hl
  ·cases f with
   | zero => simp [waitB] at h1
   | succ f =>
    cases hm : ops[e.on]? with
    | none => unfold waitB at h1; simp [hm] at h1
    | some om => exact waits_step' hc hk (f + 1) e.on om hm h1 (hc e.on om hm hl)
/-- While k is not done, j cannot be taken. -/
def Waits (md : Region.Mode) (ops : Array Oper) (k j : Nat) : Prop := ∀ listed : Array Bool, Closed md ops listed → ¬ listed.getD k false = true → ∀ o, ops[j]? = some o → ¬ ∀ e ∈ o.after, Region.binds md e = true → listed.getD e.on false = true
theorem waits_ready {k j : Nat} {listed : Array Bool} (hc : Closed md ops listed) (hk : listed.getD k true = false) (hw : Waits md ops k j) : j ∉ Region.ready md ops listed := by
 intro hr
 obtain ⟨_, o, ho, hall⟩ := mem_ready.1 hr
 exact hw listed hc (getD_false hk) o ho hall
theorem Closed.set {listed : Array Bool} (hc : Closed md ops listed) {i : Nat} (hr : i ∈ Region.ready md ops listed) : Closed md ops (listed.setIfInBounds i true) := by
 obtain ⟨_, oi, hoi, hall⟩ := mem_ready.1 hr
 intro m o ho hm e he hb
 by_cases h : i = m
 ·subst h
  rw [hoi] at ho
  injection ho with ho
  subst ho
  exact getD_set_true (hall e he hb)
 ·rw [getD_set_ne false h] at hm
  exact getD_set_true (hc m o ho hm e he hb)

/-- An operation that touches memory may be taken first, if whatever else touches memory waits for it. -/
theorem first_eff {k : Nat} {ok : Oper} (hkL : k ≠ L) (hk : ops[k]? = some ok) (hEk : E k = true) (hsel : ∀ (j : Nat) (o : Oper) cs b, ops[j]? = some o → o.op ≠ .select cs b) :
  ∀ (fuel : Nat) (listed : Array Bool) (a : Act) (w : World), C w → Region.wanted ok (yielded ops a.tmps) = true → Closed md ops listed →
   (∀ j, j ≠ k → listed.getD j true = false → E j = true → Waits md ops k j) →
   (∀ j oj, ops[j]? = some oj → j ≠ k → listed.getD j true = false → (∀ e ∈ oj.after, Region.binds md e = true → e.on ≠ k) → ok.apart ops oj = true) →
   k ∈ Region.ready md ops listed → eff P ok a w (fun v w' => C w' ∧ wpAnyM P md ops C E Q L fuel (listed.setIfInBounds k true) (a.put ok.dst v) w') →
   wpAnyM P md ops C E Q L (fuel + 1) listed a w := by
 intro fuel
 induction fuel with
 | zero =>
  intro listed a w hC hw hcl hE hfree hr H
  refine ⟨fun h => absurd (h k hr) hkL, fun j hj hjL => ?_⟩
  by_cases hji : j = k
  ·subst hji
   unfold Mix.mOp
   simp only [hk]
   unfold mStep
   rw [if_pos hw, hEk]
   exact H
  ·obtain ⟨v, w', _, h⟩ := eff_out H
   exact absurd (h.1 j (ready_mono hj hji)) hjL
 | succ fuel ih =>
  intro listed a w hC hw hcl hE hfree hr H
  refine ⟨fun h => absurd (h k hr) hkL, fun j hj hjL => ?_⟩
  by_cases hji : j = k
  ·subst hji
   unfold Mix.mOp
   simp only [hk]
   unfold mStep
   rw [if_pos hw, hEk]
   exact H
  ·obtain ⟨hjun, oj, hoj, hall⟩ := mem_ready.1 hj
   have hkun := (mem_ready.1 hr).1
   have hEj : E j = false := by
    cases he : E j with
    | false => rfl
    | true => exact absurd hj (waits_ready hcl hkun (hE j hji hjun he))
   have hnot : ∀ e ∈ oj.after, Region.binds md e = true → e.on ≠ k := fun e he hb heq => by
    have h1 := hall e he hb
    rw [heq] at h1
    exact getD_false hkun h1
   obtain ⟨h1, h2, h3⟩ := Oper.apart_spec (hfree j oj hoj hji hjun hnot)
   have hE' : ∀ i, i ≠ k → (listed.setIfInBounds j true).getD i true = false → E i = true → Waits md ops k i := fun i hik hun he => by
    refine hE i hik ?_ he
    by_cases hjk : j = i
    ·subst hjk; exact hjun
    ·rw [getD_set_ne true hjk] at hun; exact hun
   have hfree' : ∀ i oi, ops[i]? = some oi → i ≠ k → (listed.setIfInBounds j true).getD i true = false →
     (∀ e ∈ oi.after, Region.binds md e = true → e.on ≠ k) → ok.apart ops oi = true := fun i oi hi hki hun hno => by
    refine hfree i oi hi hki ?_ hno
    by_cases hjk : j = i
    ·subst hjk; exact hjun
    ·rw [getD_set_ne true hjk] at hun; exact hun
   have hw' : ∀ u, Region.wanted ok (yielded ops (a.put oj.dst u).tmps) = true := fun u => by rw [wanted_put ok a oj.dst u h3]; exact hw
   have heff : ∀ u, (execOp (a.put oj.dst u).eval ok) = execOp a.eval ok := fun u => execOp_put ok (fun cs b => hsel k ok cs b hk) a oj.dst u h3
   have hwj : ∀ v, Region.wanted oj (yielded ops (a.put ok.dst v).tmps) = Region.wanted oj (yielded ops a.tmps) := fun v => wanted_put oj a ok.dst v h1
   have hxj : ∀ v, execOp (a.put ok.dst v).eval oj = execOp a.eval oj := fun v => execOp_put oj (fun cs b => hsel j oj cs b hoj) a ok.dst v h1
   have next : ∀ u, (∀ v w', C w' → wpAnyM P md ops C E Q L (fuel + 1) (listed.setIfInBounds k true) (a.put ok.dst v) w' → wpAnyM P md ops C E Q L fuel ((listed.setIfInBounds k true).setIfInBounds j true) ((a.put ok.dst v).put oj.dst u) w') →
     wpAnyM P md ops C E Q L (fuel + 1) (listed.setIfInBounds j true) (a.put oj.dst u) w := fun u hu => by
    refine ih (listed.setIfInBounds j true) (a.put oj.dst u) w hC (hw' u) (hcl.set hj) hE' hfree' (ready_mono hr (Ne.symm hji)) ?_
    unfold eff
    rw [heff u]
    refine eff_mono (fun v w' hv => ⟨hv.1, ?_⟩) H
    have := hu v w' hv.1 hv.2
    rw [Array.setIfInBounds_comm _ _ hji, ← Act.put_comm a v u h2]
    exact this
   obtain ⟨v0, w0, hC0, h0⟩ := eff_out H
   have hj0 := h0.2 j (ready_mono hj hji) hjL
   unfold Mix.mOp at hj0 ⊢
   simp only [hoj] at hj0 ⊢
   unfold mStep at hj0 ⊢
   rw [hwj v0] at hj0
   split
   ·rename_i hwt
    rw [if_pos hwt, hEj] at hj0
    simp only [Bool.false_eq_true, if_false] at hj0
    obtain ⟨u, hu, _⟩ := hj0
    rw [hxj v0] at hu
    rw [hEj]
    simp only [Bool.false_eq_true, if_false]
    refine ⟨u, hu, next u fun v w' hC' hv => ?_⟩
    have hj1 := hv.2 j (ready_mono hj hji) hjL
    unfold Mix.mOp at hj1
    simp only [hoj] at hj1
    unfold mStep at hj1
    rw [hwj v, if_pos hwt, hEj] at hj1
    simp only [Bool.false_eq_true, if_false] at hj1
    obtain ⟨u', hu', hn⟩ := hj1
    rw [hxj v] at hu'
    have e1 := hu w' hC'
    rw [hu' w' hC'] at e1
    injection e1 with e1
    injection e1 with e1
    rw [← e1]
    exact hn
   ·rename_i hwt
    refine next undef fun v w' hC' hv => ?_
    have hj1 := hv.2 j (ready_mono hj hji) hjL
    unfold Mix.mOp at hj1
    simp only [hoj] at hj1
    unfold mStep at hj1
    rw [hwj v, if_neg hwt] at hj1
    exact hj1

/-- Of two operations that touch memory the later one waits for the earlier one. -/
def effOk (md : Region.Mode) (ops : Array Oper) (F : Nat) : List Nat → Bool
 | k :: j :: r => Nat.blt k j && waitB md ops k F j && (ops[j]?).isSome && effOk md ops F (j :: r)
 | _ => true
theorem effOk_head {F : Nat} : ∀ (r : List Nat) (k : Nat), effOk md ops F (k :: r) = true → ∀ j ∈ r, k < j ∧ Waits md ops k j
 | [], _, _ => fun _ hj => absurd hj (by simp)
 | m :: r, k, h => by
  simp only [effOk, Bool.and_eq_true] at h
  obtain ⟨⟨⟨h1, h2⟩, h3⟩, h4⟩ := h
  have hk : k < m := Nat.le_of_ble_eq_true h1
  obtain ⟨om, hom⟩ := Option.isSome_iff_exists.1 h3
  have hw : Waits md ops k m := fun listed hc hu o ho => waits_step' hc hu F m o ho h2
  intro j hj
  rcases List.mem_cons.1 hj with rfl | hj
  ·exact ⟨hk, hw⟩
  ·obtain ⟨h5, h6⟩ := effOk_head r m h4 j hj
   refine ⟨by omega, fun listed hc hu => h6 listed hc fun hm => ?_⟩
   exact hw listed hc hu om hom (hc m om hom hm)
theorem effOk_tail {F : Nat} {k : Nat} {r : List Nat} (h : effOk md ops F (k :: r) = true) : effOk md ops F r = true := by
 cases r with
 | nil => rfl
 | cons m r => simp only [effOk, Bool.and_eq_true] at h; exact h.2
theorem effOk_spec {F : Nat} : ∀ (el : List Nat), effOk md ops F el = true → ∀ k ∈ el, ∀ j ∈ el, j ≤ k ∨ Waits md ops k j
 | [], _, _, hk => absurd hk (by simp)
 | m :: r, h, k, hk => by
  intro j hj
  rcases List.mem_cons.1 hk with rfl | hk'
  ·rcases List.mem_cons.1 hj with rfl | hj'
   ·exact .inl (Nat.le_refl _)
   ·exact .inr (effOk_head r k h j hj').2
  ·rcases List.mem_cons.1 hj with rfl | hj'
   ·exact .inl (Nat.le_of_lt (effOk_head r j h k hk').1)
   ·exact effOk_spec r (effOk_tail h) k hk' j hj'

/-- Every other operation is waited for by number L. -/
def LastWaits (md : Region.Mode) (ops : Array Oper) (L : Nat) : Prop := ∀ i, i ≠ L → i < ops.size → Waits md ops i L
theorem mix_lex {el : List Nat} {F : Nat} (hs : Region.noSelect ops = true) (hF : effOk md ops F el = true) (hEl : ∀ i, E i = true → i ∈ el) (hT : ∀ j o, ops[j]? = some o → L ≤ j → j = L) (m : Nat) :
  ∀ (l : List Oper) (k : Nat) (listed : Array Bool) (a : Act) (w : World), C w → (∀ j, j < l.length → l[j]? = ops[k + j]?) → k + l.length = L →
  Closed md ops listed → (∀ j, listed.getD j true = false → k ≤ j) → Region.lexFrom md ops (l.length + m) k listed = true → wpMix P ops C E Q k l a w → wpAnyM P md ops C E Q L l.length listed a w
 | [], k, _, _, _, _, _, hL, _, hpre, hB, h => ⟨fun j hj => by
   obtain ⟨h1, o, ho, _⟩ := mem_ready.1 hj
   exact hT j o ho (by have := hpre j h1; simp only [List.length_nil] at hL; omega), h⟩
 | o :: l, k, listed, a, w, hC, hl, hL, hcl, hpre, hB, h => by
  have h0 : ops[k]? = some o := by simpa using (hl 0 (by simp)).symm
  simp only [List.length_cons] at hL
  rw [List.length_cons, Nat.add_right_comm] at hB
  simp only [Region.lexFrom, Bool.and_eq_true] at hB
  obtain ⟨⟨hr, hf⟩, hB'⟩ := hB
  have hr' : k ∈ Region.ready md ops listed := by simpa using hr
  have hkL : k ≠ L := by omega
  have hl' : ∀ j, j < l.length → l[j]? = ops[k + 1 + j]? := fun j hj => by have := hl (j + 1) (by simp only [List.length_cons]; omega); simpa [Nat.add_assoc, Nat.add_comm 1 j] using this
  have hpre' : ∀ j, (listed.setIfInBounds k true).getD j true = false → k + 1 ≤ j := fun j hj => by
   by_cases hkj : k = j
   ·subst hkj
    rcases Nat.lt_or_ge k listed.size with h' | h'
    ·simp [h'] at hj
    ·simp [Array.getElem?_eq_none, h'] at hj
   ·rw [getD_set_ne true hkj] at hj
    have := hpre j hj
    omega
  have ih := fun a' w' hC' h' => mix_lex hs hF hEl hT m l (k + 1) (listed.setIfInBounds k true) a' w' hC' hl' (by omega) (hcl.set hr') hpre' hB' h'
  unfold wpMix mStep at h
  by_cases hw : Region.wanted o (yielded ops a.tmps) = true
  ·rw [if_pos hw] at h
   cases hE : E k with
   | true =>
    rw [hE] at h
    simp only [if_true] at h
    refine first_eff hkL h0 hE (Region.noSelect_spec hs) l.length listed a w hC hw hcl ?_ (Region.free_spec h0 hf) hr' (eff_mono (fun v w' hv => ⟨hv.1, ih _ _ hv.1 hv.2⟩) h)
    intro j hjk hun hj
    rcases effOk_spec el hF k (hEl k hE) j (hEl j hj) with h2 | h2
    ·have := hpre j hun
     omega
    ·exact h2
   | false =>
    rw [hE] at h
    simp only [Bool.false_eq_true, if_false] at h
    obtain ⟨v, hv, hn⟩ := h
    exact first_pure hkL h0 (Region.noSelect_spec hs) l.length listed a w hC (fun _ => hE) (Region.free_spec h0 hf) hr' (.inl ⟨hw, hv⟩) (ih _ _ hC hn)
  ·rw [if_neg hw] at h
   exact first_pure hkL h0 (Region.noSelect_spec hs) l.length listed a w hC (fun h' => absurd h' hw) (Region.free_spec h0 hf) hr' (.inr ⟨by simpa using hw, rfl⟩) (ih _ _ hC h)

/-- No operation stands apart. -/
theorem wpAny_of_M {Q' : Exit → Act → World → Prop} (hL : ops.size ≤ L) (hQ : ∀ a w, C w → Q a w → Q' .normal a w) : ∀ (fuel : Nat) (listed : Array Bool) (a : Act) (w : World), C w → wpAnyM P md ops C E Q L fuel listed a w → wpAny P md ops Q' fuel listed a w := by
 have hlt : ∀ listed j, j ∈ Region.ready md ops listed → j ≠ L := fun listed j hj => by
  obtain ⟨_, o, ho, _⟩ := mem_ready.1 hj
  have := (Array.getElem?_eq_some_iff.1 ho).1
  omega
 have hnil : ∀ listed, Region.ready md ops listed = [] → Only md ops L listed := fun listed h j hj => by rw [h] at hj; cases hj
 have hnil' : ∀ listed, Only md ops L listed → Region.ready md ops listed = [] := fun listed h => by
  cases hr : Region.ready md ops listed with
  | nil => rfl
  | cons j r => exact absurd (h j (by rw [hr]; simp)) (hlt listed j (by rw [hr]; simp))
 intro fuel
 induction fuel with
 | zero => exact fun listed a w hw h => ⟨hnil' _ h.1, hQ _ _ hw h.2⟩
 | succ fuel ih => exact fun listed a w hw h => ⟨fun h0 => hQ _ _ hw (h.1 (hnil _ h0)), fun i hi => wpOp_of_mOp hw (fun a' w' hw' => ih _ a' w' hw') (h.2 i hi (hlt listed i hi))⟩

theorem lex_ready : ∀ (n k : Nat) (listed : Array Bool), Region.lexFrom md ops n k listed = true → ∀ j, k ≤ j → j < k + n → ∃ o, ops[j]? = some o ∧ ∀ e ∈ o.after, Region.binds md e = true → e.on < j ∨ listed.getD e.on false = true
 | 0, k, _, _ => fun j h1 h2 => by omega
 | n + 1, k, listed, h => by
  simp only [Region.lexFrom, Bool.and_eq_true] at h
  obtain ⟨⟨hr, _⟩, hB⟩ := h
  intro j h1 h2
  by_cases hj : j = k
  ·subst hj
   obtain ⟨_, o, ho, ha⟩ := mem_ready.1 (show j ∈ Region.ready md ops listed by simpa using hr)
   exact ⟨o, ho, fun e he hb => .inr (ha e he hb)⟩
  ·obtain ⟨o, ho, ha⟩ := lex_ready n (k + 1) _ hB j (by omega) (by omega)
   refine ⟨o, ho, fun e he hb => ?_⟩
   rcases ha e he hb with h3 | h3
   ·exact .inl h3
   ·by_cases hk : k = e.on
    ·exact .inl (by omega)
    ·rw [getD_set_ne false hk] at h3
     exact .inr h3
/-- Of what is not done the first may come up. -/
theorem some_ready (hB : Region.lexFrom md ops ops.size 0 (Array.replicate ops.size false) = true) (listed : Array Bool) (hsz : listed.size = ops.size) : ∀ j, listed.getD j true = false → ∃ i, i ≤ j ∧ i ∈ Region.ready md ops listed := by
 intro j
 induction j using Nat.strongRecOn with
 | _ j ih =>
  intro hj
  have hlt : j < ops.size := by
   rcases Nat.lt_or_ge j listed.size with h | h
   ·omega
   ·simp [Array.getElem?_eq_none h] at hj
  by_cases hall : ∀ i, i < j → listed.getD i true = true
  ·obtain ⟨o, ho, ha⟩ := lex_ready _ _ _ hB j (Nat.zero_le _) (by omega)
   refine ⟨j, Nat.le_refl _, mem_ready.2 ⟨hj, o, ho, fun e he hb => ?_⟩⟩
   rcases ha e he hb with h | h
   ·have h1 := hall e.on h
    have h2 : e.on < listed.size := by omega
    simp [h2] at h1 ⊢
    exact h1
   ·simp [Array.getElem?_replicate] at h
    split at h <;> simp at h
  ·obtain ⟨i, hi⟩ := Classical.not_forall.1 hall
   obtain ⟨hij, hi⟩ := Classical.not_imp.1 hi
   obtain ⟨i', h1, h2⟩ := ih i hij (by simpa using hi)
   exact ⟨i', by omega, h2⟩

/-- One operation stands apart, the last: all others are waited for by it. -/
theorem wpAny_of_M_last {Q' : Exit → Act → World → Prop} (hL : L + 1 = ops.size) (hB : Region.lexFrom md ops ops.size 0 (Array.replicate ops.size false) = true) (hW : LastWaits md ops L)
  (hQ : ∀ a w, C w → Q a w → wpOp P ops Q' L (fun a' w' => Q' .normal a' w') a w) : ∀ (fuel : Nat) (listed : Array Bool) (a : Act) (w : World), C w → listed.size = ops.size → listed.getD L true = false → Closed md ops listed → wpAnyM P md ops C E Q L fuel listed a w → wpAny P md ops Q' (fuel + 1) listed a w := by
 have none_left : ∀ listed : Array Bool, Only md ops L listed → listed.size = ops.size → Closed md ops listed → listed.getD L true = false → Region.ready md ops (listed.setIfInBounds L true) = [] := fun listed h hsz hcl hun => by
  cases hr : Region.ready md ops (listed.setIfInBounds L true) with
  | nil => rfl
  | cons j r =>
   have hj : j ∈ Region.ready md ops (listed.setIfInBounds L true) := by rw [hr]; simp
   obtain ⟨h1, o, ho, _⟩ := mem_ready.1 hj
   have hjs := (Array.getElem?_eq_some_iff.1 ho).1
   by_cases hjL : j = L
   ·subst hjL
    simp [show j < listed.size by omega] at h1
   ·rw [getD_set_ne true (fun h => hjL h.symm)] at h1
    obtain ⟨i, hij, hi⟩ := some_ready hB listed hsz j h1
    have := h i hi
    omega
 have fin : ∀ (fuel : Nat) (listed : Array Bool) (a : Act) (w : World), C w → listed.size = ops.size → listed.getD L true = false → Closed md ops listed → Only md ops L listed → Q a w → wpAny P md ops Q' (fuel + 1) listed a w := by
  intro fuel listed a w hw hsz hun hcl ho h
  have hne : Region.ready md ops listed ≠ [] := fun h0 => by
   obtain ⟨i, _, hi⟩ := some_ready hB listed hsz L hun
   rw [h0] at hi
   cases hi
  refine ⟨fun h0 => absurd h0 hne, fun i hi => ?_⟩
  obtain rfl := ho i hi
  have hr := none_left listed ho hsz hcl hun
  have h2 := hQ a w hw h
  have h3 : (fun (a' : Act) (w' : World) => Q' .normal a' w') = fun a' w' => Q' .normal a' w' := rfl
  refine wpOp_mono' (fun a' w' h' => ?_) h2
  cases fuel with
  | zero => exact ⟨hr, h'⟩
  | succ n => exact ⟨fun _ => h', fun j hj => by rw [hr] at hj; cases hj⟩
 intro fuel
 induction fuel with
 | zero => exact fun listed a w hw hsz hun hcl h => fin 0 listed a w hw hsz hun hcl h.1 h.2
 | succ fuel ih =>
  intro listed a w hw hsz hun hcl h
  by_cases ho : Only md ops L listed
  ·exact fin _ listed a w hw hsz hun hcl ho (h.1 ho)
  ·obtain ⟨j, hj⟩ := Classical.not_forall.1 ho
   obtain ⟨hj, hjL⟩ := Classical.not_imp.1 hj
   obtain ⟨hj1, oj, hoj, _⟩ := mem_ready.1 hj
   have hLr : L ∉ Region.ready md ops listed := waits_ready hcl hj1 (hW j hjL (Array.getElem?_eq_some_iff.1 hoj).1)
   refine ⟨fun h0 => (by rw [h0] at hj; cases hj), fun i hi => ?_⟩
   have hiL : i ≠ L := fun e => hLr (e ▸ hi)
   exact wpOp_of_mOp hw (fun a' w' hw' h' => ih _ a' w' hw' (by simpa using hsz) (by rw [getD_set_ne true hiL]; exact hun) (hcl.set hi) h') (h.2 i hi hiL)

theorem closed_none (n : Nat) : Closed md ops (Array.replicate n false) := fun m o ho hm => by
 simp [Array.getElem?_replicate] at hm; split at hm <;> simp at hm
/-- ONE WALK OF THE TEXT's ORDER SERVES EVERY ORDER. -/
theorem wp_region_mix {id : Nat} {Q' : Exit → Act → World → Prop} {a : Act} {w : World} {l : List Oper} (el : List Nat) (F : Nat) (hm : P.follows .mixedOrders = true) (hB : Region.lexB .any l.toArray = true)
  (hF : effOk .any l.toArray F el = true) (hC : C w.drew) (h : wpMix P l.toArray C (fun i => el.contains i) (fun a w => C w → Q' .normal a w) 0 l a w.drew) : (Code.region id l.toArray true).wp P Q' a w := by
 simp only [Region.lexB, Bool.and_eq_true] at hB
 refine wp_region_any hm (wpAny_of_M (C := C) (E := fun i => el.contains i) (Q := fun a w => C w → Q' .normal a w) (L := l.length) (by simp) (fun _ w' hw' h => h hw') _ _ _ _ hC ?_)
 have := mix_lex (P := P) (C := C) (E := fun i => el.contains i) (Q := fun a w => C w → Q' .normal a w) (L := l.length) hB.1 hF (fun i hi => by simpa using hi)
  (fun j o ho hj => by have := (Array.getElem?_eq_some_iff.1 ho).1; simp at this; omega) 0 l 0 (Array.replicate l.toArray.size false) a w.drew hC (fun j _ => by simp) (by simp)
  (closed_none _) (fun j _ => Nat.zero_le j) (by simpa using hB.2) h
 simpa using this
/-- All others are waited for by the last. -/
def lastOk (md : Region.Mode) (ops : Array Oper) (F L : Nat) : Bool := (List.range L).all fun i => waitB md ops i F L
/-- THE SAME, where the last operation alone turns what the others read: it is walked by itself. -/
theorem wp_region_mix_last {id : Nat} {Q' : Exit → Act → World → Prop} {a : Act} {w : World} {l : List Oper} {last : Oper} (el : List Nat) (F : Nat) (hm : P.follows .mixedOrders = true) (hB : Region.lexB .any (l ++ [last]).toArray = true)
  (hF : effOk .any (l ++ [last]).toArray F el = true) (hO : lastOk .any (l ++ [last]).toArray F l.length = true) (hC : C w.drew)
  (h : wpMix P (l ++ [last]).toArray C (fun i => el.contains i) (fun a w => C w → wpList P (l ++ [last]).toArray Q' [last] a w) 0 l a w.drew) : (Code.region id (l ++ [last]).toArray true).wp P Q' a w := by
 simp only [Region.lexB, Bool.and_eq_true] at hB
 have hsz : (l ++ [last]).toArray.size = l.length + 1 := by simp
 have hlast : (l ++ [last]).toArray[l.length]? = some last := by simp
 refine wp_region_any hm ?_
 rw [hsz]
 refine wpAny_of_M_last (C := C) (E := fun i => el.contains i) (Q := fun a w => C w → wpList P (l ++ [last]).toArray Q' [last] a w) (L := l.length) (by simp) (by simpa using hB.2) ?_ ?_ l.length _ _ _ hC (by simp) ?_ (closed_none _) ?_
 ·intro i hi his
  have h1 : i < l.length := by rw [hsz] at his; omega
  have h2 := List.all_eq_true.1 hO i (List.mem_range.2 h1)
  exact fun listed hc hu o ho => waits_step' hc hu F l.length o ho h2
 ·intro a' w' hw' h'
  have := h' hw'
  unfold wpOp
  rw [hlast]
  exact this
 ·simp [Array.getElem?_replicate]
 ·have := mix_lex (P := P) (C := C) (E := fun i => el.contains i) (Q := fun a w => C w → wpList P (l ++ [last]).toArray Q' [last] a w) (L := l.length) hB.1 hF (fun i hi => by simpa using hi)
   (fun j o ho hj => by have := (Array.getElem?_eq_some_iff.1 ho).1; rw [hsz] at this; omega) 1 l 0 (Array.replicate (l.length + 1) false) a w.drew hC
   (fun j hj => by simp [List.getElem?_append_left hj]) (by simp) (closed_none _) (fun j _ => Nat.zero_le j) (by simpa using hB.2) h
  exact this
theorem wp_region_mix_last' {id : Nat} {Q' : Exit → Act → World → Prop} {a : Act} {w : World} {l : List Oper} {last : Oper} (n : Nat) (hl : l = l.take n ++ [last]) (el : List Nat) (F : Nat) (hm : P.follows .mixedOrders = true) (hB : Region.lexB .any l.toArray = true)
  (hF : effOk .any l.toArray F el = true) (hO : lastOk .any l.toArray F (l.take n).length = true) (hC : C w.drew)
  (h : wpMix P l.toArray C (fun i => el.contains i) (fun a w => C w → wpList P l.toArray Q' [last] a w) 0 (l.take n) a w.drew) : (Code.region id l.toArray true).wp P Q' a w := by
 generalize l.take n = f at hl hO h
 subst hl
 exact wp_region_mix_last el F hm hB hF hO hC h
theorem mix_nil {k : Nat} {a : Act} {w : World} (h : Q a w) : wpMix P ops C E Q k [] a w := h
/-- One operation that yields one value in every world of the class. -/
theorem mix_pure {k : Nat} {o : Oper} {l : List Oper} {a : Act} {w : World} (hb : E k = false)
  (h : ∀ K : Act → World → Prop, (∀ a w, wpMix P ops C E Q (k + 1) l a w → K a w) →
   if Region.wanted o (yielded ops a.tmps) then ∃ v, (∀ w', C w' → (execOp a.eval o).run P w' = .ok (.value v) w') ∧ K (a.put o.dst v) w else K (a.put o.dst undef) w) : wpMix P ops C E Q k (o :: l) a w := by
 have := h (wpMix P ops C E Q (k + 1) l) (fun _ _ h => h)
 unfold wpMix mStep
 rw [hb]
 simpa using this
/-- One operation that touches memory. -/
theorem mix_eff {k : Nat} {o : Oper} {l : List Oper} {a : Act} {w : World} (hb : E k = true)
  (h : ∀ K : Act → World → Prop, (∀ a w, wpMix P ops C E Q (k + 1) l a w → K a w) →
   if Region.wanted o (yielded ops a.tmps) then effUpon P (fun v w' => C w' ∧ K (a.put o.dst v) w') ((execOp a.eval o).run P w) else K (a.put o.dst undef) w) : wpMix P ops C E Q k (o :: l) a w := by
 have := h (wpMix P ops C E Q (k + 1) l) (fun _ _ h => h)
 unfold wpMix mStep
 rw [hb]
 simpa [eff] using this
theorem effUpon_value (R : Value → World → Prop) (u : Value) (w : World) : effUpon P R (.ok (.value u) w) = R u w := rfl
theorem effUpon_enter (R : Value → World → Prop) (f : FuncId) (args : Array Value) (w : World) : effUpon P R (.ok (.enter f args) w) = Calls P f args w (fun e w'' => ∃ v, e = .returned v ∧ R v w'') := rfl
end
/-- The worlds in which all that lay in W lies unturned. -/
def Ext (W : World) : Type := { w' : World // Below W.heap.size W w' }
instance (W : World) : Nonempty (Ext W) := ⟨⟨W, Below.refl _ W⟩⟩
def Ext.w {W : World} (x : Ext W) : World := x.1
/-- The worlds in which one block lies as it lay in W. -/
def Has (W : World) (b : Nat) : Type := { w' : World // w'.heap[b]? = W.heap[b]? }
instance (W : World) (b : Nat) : Nonempty (Has W b) := ⟨⟨W, rfl⟩⟩
end Go.Mix
end
section
/- The reference's Normal. -/
set_option linter.unusedVariables false
set_option linter.unusedSimpArgs false
namespace Go.Proofs.YtogidacejbjljaaGreatDoor.PTextChecks
open Go.RowKit Go.Mix Go.Proofs.YtogidacejbjljaaGreatDoorW.PrintWords Go.Proofs.YtogidacejbjljaaGreatDoorW.PrintLast Go.Proofs.YtogidacejbjljaaGreatDoorW.PrintMore
end Go.Proofs.YtogidacejbjljaaGreatDoor.PTextChecks
end
section
/- Rows that a call owns and that begin anywhere in their block: append onto them, slices of them; and what keeps a block of one type when blocks of other types are written. -/
set_option linter.unusedVariables false
set_option linter.unusedSimpArgs false
namespace Go.Own
/-- The slice value v, of n elements, holds the cells xs, in a block of the element's type from base on. -/
def Lies (w : World) (base : Nat) (e : TypeId) (size : Nat) (v : Value) (n : Nat) (xs : List Value) : Prop :=
 xs.length = n * size ∧
 ((v = .slice none 0 0 ∧ n = 0) ∨
  ∃ g off cap cur, v = .slice (some ⟨g, off, none⟩) n cap ∧ base ≤ g ∧ w.heap[g]? = some (.cells cur e (0, 0)) ∧ n ≤ cap ∧ cap ≤ maxLen ∧ off + cap * size ≤ cur.size ∧ (cur.toList.drop off).take (n * size) = xs)
theorem Lies.of_owns {w : World} {base : Nat} {e : TypeId} {size : Nat} {v : Value} {n : Nat} {xs : List Value} (h : w.ownsRow base e size v n xs) : Lies w base e size v n xs := by
 refine ⟨h.1, ?_⟩
 rcases h.2 with hn | ⟨g, cap, cur, hv, hb, hg, h1, h2, h3, h4⟩
 ·exact .inl hn
 ·exact .inr ⟨g, 0, cap, cur, hv, hb, hg, h1, h2, by omega, by simpa using h4⟩
theorem Lies.nil (w : World) (base : Nat) (e : TypeId) (size : Nat) : Lies w base e size (.slice none 0 0) 0 [] := ⟨by simp, .inl ⟨rfl, rfl⟩⟩
section
variable {w : World} {base : Nat} {e : TypeId} {size : Nat} {v : Value} {n : Nat} {xs : List Value}
theorem Lies.lt (h : Lies w base e size v n xs) : ∀ k, v.ownBlock = some k → base ≤ k ∧ k < w.heap.size ∧ ∃ cur, w.heap[k]? = some (.cells cur e (0, 0)) := by
 intro k hk
 rcases h.2 with ⟨rfl, _⟩ | ⟨g, off, cap, cur, rfl, hb, hg, _⟩
 ·simp [Value.ownBlock] at hk
 ·simp [Value.ownBlock] at hk
  subst hk
  exact ⟨hb, (Array.getElem?_eq_some_iff.1 hg).1, cur, hg⟩
theorem Lies.keep {w' : World} (h : Lies w base e size v n xs) (hk : ∀ k, base ≤ k → v.ownBlock = some k → w'.heap[k]? = w.heap[k]?) : Lies w' base e size v n xs := by
 refine ⟨h.1, ?_⟩
 rcases h.2 with hn | ⟨g, off, cap, cur, rfl, hb, hg, rest⟩
 ·exact .inl hn
 ·exact .inr ⟨g, off, cap, cur, rfl, hb, (hk g hb rfl).trans hg, rest⟩
theorem Lies.mono {base' : Nat} (h : Lies w base e size v n xs) (hb : base' ≤ base) : Lies w base' e size v n xs := by
 refine ⟨h.1, ?_⟩
 rcases h.2 with hn | ⟨g, off, cap, cur, rfl, hg, rest⟩
 ·exact .inl hn
 ·exact .inr ⟨g, off, cap, cur, rfl, by omega, rest⟩
/-- The cells of the row. -/
theorem Lies.cell (h : Lies w base e size v n xs) (hn : 0 < n) : ∃ a c, v = .slice (some a) n c ∧ n ≤ c ∧ (∀ j u, xs[j]? = some u → w.cell? (a.add j) = some u) := by
 rcases h.2 with ⟨_, h0⟩ | ⟨g, off, cap, cur, rfl, hb, hg, hnc, hcm, hcs, ht⟩
 ·omega
 ·refine ⟨_, cap, rfl, hnc, fun j u hu => ?_⟩
  have hadd : (⟨g, off, none⟩ : Addr).add j = ⟨g, off + j, none⟩ := by unfold Addr.add; split <;> simp_all
  rw [hadd]
  rw [← ht, List.getElem?_take] at hu
  split at hu
  ·rw [List.getElem?_drop] at hu
   simpa [World.cell?, hg] using hu
  ·cases hu
theorem Lies.form (h : Lies w base e size v n xs) : ∃ A c, v = .slice A n c ∧ n ≤ c := by
 rcases h.2 with ⟨rfl, rfl⟩ | ⟨g, off, cap, cur, rfl, hb, hg, hnc, _⟩
 ·exact ⟨none, 0, rfl, Nat.le_refl _⟩
 ·exact ⟨_, cap, rfl, hnc⟩
end
theorem setCell_far (w : World) {g i k : Nat} (v : Value) (hk : k ≠ g) : (w.setCell ⟨g, i, none⟩ v).heap[k]? = w.heap[k]? := by
 simp only [World.setCell]
 rw [Array.getElem?_modify, if_neg (fun h => hk h.symm)]
theorem setCells_far {g : Nat} : ∀ (vs : List Value) (o : Nat) (w : World), (w.setCells g o vs).heap.size = w.heap.size ∧ ∀ k, k ≠ g → (w.setCells g o vs).heap[k]? = w.heap[k]?
 | [], _, _ => ⟨rfl, fun _ _ => rfl⟩
 | v :: r, o, w => by
  obtain ⟨h1, h2⟩ := setCells_far (g := g) r (o + 1) (w.setCell ⟨g, o, none⟩ v)
  unfold World.setCells
  exact ⟨h1.trans (by simp [World.setCell]), fun k hk => (h2 k hk).trans (setCell_far _ _ hk)⟩
theorem setCells_same {g : Nat} : ∀ (vs : List Value) (o : Nat) (w : World), (w.setCells g o vs).os = w.os ∧ (w.setCells g o vs).tape = w.tape ∧ (w.setCells g o vs).output = w.output
 | [], _, _ => ⟨rfl, rfl, rfl⟩
 | v :: r, o, w => setCells_same (g := g) r (o + 1) (w.setCell ⟨g, o, none⟩ v)
theorem set1 {w : World} {g i : Nat} {cs : Array Value} {t : TypeId} {v : Value} (hg : w.heap[g]? = some (.cells cs t (0, 0))) : (w.setCell ⟨g, i, none⟩ v).heap[g]? = some (.cells (cs.setIfInBounds i v) t (0, 0)) := by
 have hlt : g < w.heap.size := (Array.getElem?_eq_some_iff.1 hg).1
 simp only [World.setCell]
 simp [Array.getElem?_modify, hg]
theorem setCells_blk {g : Nat} {e : TypeId} : ∀ (vs : List Value) (o : Nat) (w : World) (cur : Array Value), w.heap[g]? = some (.cells cur e (0, 0)) → o + vs.length ≤ cur.size →
  ∃ cur', (w.setCells g o vs).heap[g]? = some (.cells cur' e (0, 0)) ∧ cur'.size = cur.size ∧ ∀ j, cur'[j]? = if o ≤ j ∧ j < o + vs.length then vs[j - o]? else cur[j]?
 | [], o, w, cur, hg, h => ⟨cur, hg, rfl, fun j => by rw [if_neg (by simp)]⟩
 | v :: r, o, w, cur, hg, h => by
  simp only [List.length_cons] at h
  obtain ⟨cur', h1, h2, h3⟩ := setCells_blk r (o + 1) (w.setCell ⟨g, o, none⟩ v) (cur.setIfInBounds o v) (set1 hg) (by simp; omega)
  refine ⟨cur', h1, by rw [h2]; simp, fun j => ?_⟩
  rw [h3 j, Array.getElem?_setIfInBounds]
  by_cases hj : j = o
  ·subst hj
   rw [if_neg (by omega), if_pos rfl, if_pos (by omega), if_pos (by simp)]
   simp
  ·by_cases h4 : o + 1 ≤ j ∧ j < o + 1 + r.length
   ·rw [if_pos h4, if_pos (by simp only [List.length_cons]; omega)]
    obtain ⟨t, rfl⟩ : ∃ t, j = o + 1 + t := ⟨j - (o + 1), by omega⟩
    rw [show o + 1 + t - (o + 1) = t by omega, show o + 1 + t - o = t + 1 by omega]
    rfl
   ·rw [if_neg h4, if_neg (fun h => hj h.symm), if_neg (by simp only [List.length_cons]; omega)]
section
variable {P : Program} (w : World)
/-- append, onto a row that begins anywhere. -/
theorem run_append (base : Nat) (t ty e : TypeId) (i : TypeInfo) (z : Value) (size bytes : Nat) (ht : P.underlying t = some (.slice e)) (hi : P.info? e = some i) (hz : i.zero = some z)
  (hsize : i.size = size) (hby : i.bytes = bytes) (hzs : z.cells.size = size) (hsz : 0 < size)
  (v : Value) (n : Nat) (xs : List Value) (hown : Lies w base e size v n xs)
  (a : Addr) (m c : Nat) (news : List Value) (hl : news.length = m * size) (hnews : ∀ j u, news[j]? = some u → w.cell? (a.add j) = some u) (h1 : ∀ u ∈ news, u.oneCell' = true)
  (h63 : n + m ≤ maxLen) (hbytes : (n + m) * bytes ≤ 140737488355328) (hbase : base ≤ w.heap.size) (hm : 0 < m) :
  ∃ v' w', (Builtin.append_ #[t, t] ty #[v, .slice (some a) m c]).run P w = .ok v' w' ∧ Lies w' base e size v' (n + m) (xs ++ news) ∧ w.grownBy w' v.ownBlock := by
 rcases hown.2 with ⟨rfl, rfl⟩ | ⟨g, off, cap, cur, rfl, hbg, hg, hnc, hcm, hcs, htake⟩
 ·have ho : w.ownsRow base e size (.slice none 0 0) 0 xs := ⟨hown.1, .inl ⟨rfl, rfl⟩⟩
  obtain ⟨v', w', hr, h2, h3, _⟩ := run_append_own (P := P) w base t ty e i z size bytes ht hi hz hsize hby hzs hsz _ _ _ ho a m c news hl hnews h1 h63 hbytes hbase
  exact ⟨v', w', hr, Lies.of_owns h2, h3⟩
 ·have hlen : (xs ++ news).length = (n + m) * size := by rw [List.length_append, hown.1, hl, Nat.add_mul]
  have hx : ∀ j, j < n * size → cur[off + j]? = xs[j]? := fun j hj => by
   rw [← htake, List.getElem?_take, if_pos hj, List.getElem?_drop]; simp
  by_cases hroom : n + m ≤ cap
  ·have hmul : (n + m) * size ≤ cap * size := Nat.mul_le_mul_right _ hroom
   rw [Nat.add_mul] at hmul
   have hfit : off + n * size + news.length ≤ cur.size := by rw [hl]; omega
   have hr := run_append_room_cells (P := P) w t ty e i ht hi g off n cap a m c news (by rw [hsize]; exact hl) hnews h1 hroom
    (fun j hj => by rw [hsize]; simp only [World.cell?, hg]; simp only [Option.isSome_iff_exists]; exact ⟨cur[off + n * size + j]'(by omega), by simp [Array.getElem?_eq_getElem (show off + n * size + j < cur.size by omega)]⟩)
    (fun j hj => by simp [World.frozen?, hg])
   rw [hsize] at hr
   obtain ⟨cur', k1, k2, k3⟩ := setCells_blk news (off + n * size) w cur hg hfit
   obtain ⟨f1, f2⟩ := setCells_far (g := g) news (off + n * size) w
   refine ⟨_, _, hr, ⟨hlen, .inr ⟨g, off, cap, cur', rfl, hbg, k1, hroom, hcm, by omega, ?_⟩⟩, ?_⟩
   ·apply List.ext_getElem?
    intro j
    rw [List.getElem?_take]
    by_cases hj : j < (n + m) * size
    ·rw [if_pos hj, List.getElem?_drop]
     rw [Nat.add_mul] at hj
     simp only [Array.getElem?_toList]
     rw [k3]
     by_cases hjn : j < n * size
     ·rw [if_neg (by omega), List.getElem?_append_left (by rw [hown.1]; exact hjn)]
      exact hx j hjn
     ·rw [if_pos (by rw [hl]; omega), List.getElem?_append_right (by rw [hown.1]; omega), hown.1]
      congr 1
      omega
    ·rw [if_neg hj, List.getElem?_eq_none (by rw [hlen]; omega)]
   ·obtain ⟨g1, g2, g3⟩ := setCells_same (g := g) news (off + n * size) w
    exact ⟨g1, g2, g3, by omega, fun k _ hk => f2 k (fun e => hk (by simp [Value.ownBlock, e]))⟩
  ·have holds : ∀ j u, xs[j]? = some u → w.cell? ((⟨g, off, none⟩ : Addr).add j) = some u := by
    intro j u hu
    have hj := (List.getElem?_eq_some_iff.1 hu).1
    rw [hown.1] at hj
    have hadd : (⟨g, off, none⟩ : Addr).add j = ⟨g, off + j, none⟩ := by unfold Addr.add; split <;> simp_all
    rw [hadd]
    simp only [World.cell?, hg, Option.isNone_none, if_true]
    simpa [hx j hj] using hu
   obtain ⟨v', w', hr, h2, h3⟩ := run_append_arg_grows (P := P) w t ty e i z size bytes ht hi hz hsize hby hzs hsz ⟨g, off, none⟩ n cap xs hown.1 holds a m c news hl hnews (by omega) h63 hbytes
   exact ⟨v', w', hr, (Lies.of_owns h2).mono hbase, h3.1, h3.2, h3.3, h3.4, fun k hk _ => h3.5 k hk (by simp)⟩
end
open Go.Mix
section
variable {P : Program} {ops : Array Oper} {C : World → Prop} {E : Nat → Bool} {Q : Act → World → Prop}
/-- append in a region that draws its order. -/
theorem mix_append {k : Nat} {o : Oper} {l : List Oper} {a : Act} {w : World} (hb : E k = true) (hgd : o.guard = none) (s x : Operand) (t : TypeId)
  (ho : o.op = .call { callee := .builtin .append, args := #[s, x], argTypes := #[t, t] })
  (base : Nat) (e : TypeId) (i : TypeInfo) (z : Value) (size bytes : Nat) (ht : P.underlying t = some (.slice e)) (hi : P.info? e = some i) (hz : i.zero = some z)
  (hsize : i.size = size) (hby : i.bytes = bytes) (hzs : z.cells.size = size) (hsz : 0 < size)
  (v : Value) (n : Nat) (xs : List Value) (hs : a.eval s = v) (hown : Lies w base e size v n xs)
  (ad : Addr) (m c : Nat) (news : List Value) (hx : a.eval x = .slice (some ad) m c) (hl : news.length = m * size) (hnews : ∀ j u, news[j]? = some u → w.cell? (ad.add j) = some u) (h1 : ∀ u ∈ news, u.oneCell' = true)
  (h63 : n + m ≤ maxLen) (hbytes : (n + m) * bytes ≤ 140737488355328) (hbase : base ≤ w.heap.size) (hm : 0 < m)
  (h : ∀ v' w', Lies w' base e size v' (n + m) (xs ++ news) → w.grownBy w' v.ownBlock → C w' ∧ wpMix P ops C E Q (k + 1) l (a.put o.dst v') w') : wpMix P ops C E Q k (o :: l) a w := by
 obtain ⟨v', w', hr, h2, h3⟩ := run_append (P := P) w base t o.type e i z size bytes ht hi hz hsize hby hzs hsz v n xs hown ad m c news hl hnews h1 h63 hbytes hbase hm
 refine mix_eff hb (fun K hK => ?_)
 have hrun : (execOp a.eval o).run P w = .ok (.value v') w' := by
  unfold execOp
  simp only [ho, resolve, invoke, builtin, Sem.run_bind, Sem.run_pure, Result.andThen_ok, List.map_toArray, List.map_cons, List.map_nil, hs, hx, hr]
 simp only [Region.wanted, hgd, if_true]
 rw [hrun, effUpon_value]
 exact ⟨(h v' w' h2 h3).1, hK _ _ (h v' w' h2 h3).2⟩
/-- append in a plain region. -/
theorem wpList_append_lies {rest : List Oper} {o : Oper} {a : Act} {Q : Exit → Act → World → Prop} {w : World} (hgd : o.guard = none) (s x : Operand) (t : TypeId)
  (ho : o.op = .call { callee := .builtin .append, args := #[s, x], argTypes := #[t, t] })
  (base : Nat) (e : TypeId) (i : TypeInfo) (z : Value) (size bytes : Nat) (ht : P.underlying t = some (.slice e)) (hi : P.info? e = some i) (hz : i.zero = some z)
  (hsize : i.size = size) (hby : i.bytes = bytes) (hzs : z.cells.size = size) (hsz : 0 < size)
  (v : Value) (n : Nat) (xs : List Value) (hs : a.eval s = v) (hown : Lies w base e size v n xs)
  (ad : Addr) (m c : Nat) (news : List Value) (hx : a.eval x = .slice (some ad) m c) (hl : news.length = m * size) (hnews : ∀ j u, news[j]? = some u → w.cell? (ad.add j) = some u) (h1 : ∀ u ∈ news, u.oneCell' = true)
  (h63 : n + m ≤ maxLen) (hbytes : (n + m) * bytes ≤ 140737488355328) (hbase : base ≤ w.heap.size) (hm : 0 < m)
  (h : ∀ v' w', Lies w' base e size v' (n + m) (xs ++ news) → w.grownBy w' v.ownBlock → wpList P ops Q rest (a.put o.dst v') w') : wpList P ops Q (o :: rest) a w := by
 obtain ⟨v', w', hr, h2, h3⟩ := run_append (P := P) w base t o.type e i z size bytes ht hi hz hsize hby hzs hsz v n xs hown ad m c news hl hnews h1 h63 hbytes hbase hm
 refine wpList_plain hgd fun _ hK => ?_
 unfold Oper.wp execOp
 simp only [ho, resolve, invoke, builtin, Sem.run_bind, Sem.run_pure, Result.andThen_ok, List.map_toArray, List.map_cons, List.map_nil, hs, hx, hr]
 exact hK _ _ (h v' w' h2 h3)
end
end Go.Own
end
section
/- text.makeLine: a line of letters. -/
set_option linter.unusedVariables false
set_option linter.unusedSimpArgs false
namespace Go.Proofs.YtogidacejbjljaaGreatDoor.PTextChecks
open Go.RowKit Go.Mix Go.Own Go.Proofs.YtogidacejbjljaaGreatDoorW.PrintWords Go.Proofs.YtogidacejbjljaaGreatDoorW.PrintLast Go.Proofs.YtogidacejbjljaaGreatDoorW.PrintMore
/-- Letters as a valid cue has them. -/
def Okl (l : List S81) : Prop := ∀ x ∈ l, (0 ≤ x.f0 ∧ x.f0 < 128) ∧ 0 ≤ x.f1.f3 ∧ x.f1.f3 ≤ 8
theorem utf8_fin : ∀ n : Fin 128, Utf8.encode (n.val : Int) = ⟨#[UInt8.ofNat n.val]⟩ := by decide +kernel
theorem utf8_chP (x : S81) (h : 0 ≤ x.f0 ∧ x.f0 < 128) : Utf8.encode x.f0 = (chP x).f0 := by
 have := utf8_fin ⟨x.f0.toNat, by omega⟩
 simp only [Int.toNat_of_nonneg h.1] at this
 exact this
theorem Okl.byt {l : List S81} (h : Okl l) : Byt l := fun x hx => by have := (h x hx).1; omega
theorem Okl.take {l : List S81} (h : Okl l) (n : Nat) : Okl (l.take n) := fun x hx => h x (List.mem_of_mem_take hx)
theorem Okl.drop {l : List S81} (h : Okl l) (n : Nat) : Okl (l.drop n) := fun x hx => h x (List.mem_of_mem_drop hx)
theorem topS_succ (l : List S81) (n : Nat) (h : n < l.length) : topS (l.take (n + 1)) = max (topS (l.take n)) (rd_T81 l (n : Int)).f1.f3 := by
 rw [List.take_succ_eq_append_getElem h, topS, List.foldl_append, show rd_T81 l (n : Int) = l[n] from by simp [rd_T81, List.getElem?_eq_getElem h]]
 rfl
theorem sumW_succ (l : List S81) (n : Nat) (h : n < l.length) : sumW (l.take (n + 1)) 0 = wrap64 (sumW (l.take n) 0 + wd (rd_T81 l (n : Int))) := by
 rw [List.take_succ_eq_append_getElem h, sumW, List.foldl_append, show rd_T81 l (n : Int) = l[n] from by simp [rd_T81, List.getElem?_eq_getElem h]]
 rfl
theorem topS_le {l : List S81} (h : Okl l) : 0 ≤ topS l ∧ topS l ≤ 8 := by
 have : ∀ (l : List S81) (m : Int), Okl l → 0 ≤ m → m ≤ 8 → 0 ≤ l.foldl (fun m x => max m x.f1.f3) m ∧ l.foldl (fun m x => max m x.f1.f3) m ≤ 8 := by
  intro l
  induction l with
  | nil => exact fun m _ h1 h2 => ⟨h1, h2⟩
  | cons x r ih =>
   intro m ho h1 h2
   have h3 := (ho x (List.mem_cons_self ..)).2
   exact ih (max m x.f1.f3) (fun y hy => ho y (List.mem_cons_of_mem _ hy)) (by omega) (by omega)
 exact this l 0 h (by omega) (by omega)
theorem wl_map (l : List S81) : wordsLen (l.map chP) = l.length := by
 induction l with
 | nil => rfl
 | cons x r ih => simp only [wordsLen, List.map_cons, List.sum_cons, List.length_cons] at ih ⊢; rw [ih]; have : (chP x).f0.size = 1 := rfl; omega
def highS (l : List S81) (sz : Int) : Int := if l.isEmpty then 4 * sz else heightS l
def MRel (l : List S81) (w : World) (h0 : Int) (n : Nat) (v : Value) (wr : World) : Prop :=
 wr.ownsRow (w.heap.size + 2) 42 6 v n (flat ((l.take n).map chP)) ∧ wr.heap[w.heap.size + 1]? = some (.cells #[v, .int .i64 (sumW (l.take n) 0), .int .i64 h0] 107 (0, 0)) ∧
  wr.heap[w.heap.size]? = some (.cells #[.slice none 0 0, .int .i64 0, .int .i64 0] 107 (0, 0)) ∧ Below w.heap.size w wr
theorem blk3 {W : World} {b : Nat} {v0 v1 v2 : Value} {t : TypeId} (h : W.heap[b]? = some (.cells #[v0, v1, v2] t (0, 0))) :
  (W.cell? ⟨b, 0, none⟩ = some v0 ∧ W.cell? ⟨b, 1, none⟩ = some v1 ∧ W.cell? ⟨b, 2, none⟩ = some v2) ∧ W.frozen? ⟨b, 0, none⟩ = false ∧ W.frozen? ⟨b, 1, none⟩ = false ∧ W.frozen? ⟨b, 2, none⟩ = false := by
 refine ⟨⟨?_, ?_, ?_⟩, ?_, ?_, ?_⟩ <;> simp [World.cell?, World.frozen?, h]
theorem Ext.atv {W : World} (x : Ext W) {a : Addr} {v : Value} (h : W.cell? a = some v) : x.w.cell? a = some v := cell_later x.2 h
theorem blk6 {W : World} {b : Nat} {v0 v1 v2 v3 v4 v5 : Value} {t : TypeId} (h : W.heap[b]? = some (.cells #[v0, v1, v2, v3, v4, v5] t (0, 0))) :
  W.cell? ⟨b, 0, none⟩ = some v0 ∧ W.cell? ⟨b, 1, none⟩ = some v1 ∧ W.cell? ⟨b, 2, none⟩ = some v2 ∧ W.cell? ⟨b, 3, none⟩ = some v3 ∧ W.cell? ⟨b, 4, none⟩ = some v4 ∧ W.cell? ⟨b, 5, none⟩ = some v5 := by
 refine ⟨?_, ?_, ?_, ?_, ?_, ?_⟩ <;> simp [World.cell?, h]
theorem newcell2 (W : World) (o : Obj) (cs : Array Value) (t i : Nat) (u : Value) (h : cs[i]? = some u) : ((W.alloc o).alloc (.cells cs t)).cell? ⟨W.heap.size + 1, i, none⟩ = some u := by
 rw [cell_of_row _ _ i cs t (0, 0) (two_new W o (.cells cs t)).2.1]
 exact h
set_option maxHeartbeats 4000000 in
set_option maxRecDepth 100000 in
theorem makeLine_calls (A : Option Addr) (cap : Nat) (l : List S81) (sz : Int) (w : World) (hr : Kd.C k81 w A l.length l) (hl : l.length ≤ 1000000) (hb : Okl l) (hsz : 0 ≤ sz ∧ sz ≤ 8) :
  Calls Tryz.prog 107 #[.slice A l.length cap, .int .i64 sz] w fun e w' => ∃ A' c', e = .returned (.agg #[.slice A' (piecesS l).length c', .int .i64 (sumW l 0), .int .i64 (highS l sz)]) ∧
   Kd.R k42 42 w' w.heap.size (fun _ => True) (.slice A' (piecesS l).length c') (piecesS l) ∧ Below w.heap.size w w' := by
 obtain ⟨i0, hi, hii⟩ := Option.map_eq_some_iff.1 infoPiece
 simp only [Prod.mk.injEq] at hii
 obtain ⟨hz0, hz1, hz2⟩ := hii
 have wrs : IntKind.i64.wrap (4 * sz) = 4 * sz := IntWalk.i64_in _ (by omega)
 go_enter Tryz.func107, Tryz.ntmps107
 go_wp2
 go_loopw [6, 14] (fun t i wr => ∃ (n : Nat) (v : Value), n ≤ l.length ∧ t = .int .i64 (topS (l.take n)) ∧ i = .int .i64 n ∧ MRel l w (4 * sz) n v wr) (fun _ i wr => l.length - (intOf i).toNat)
 case atStart =>
  refine ⟨0, .slice none 0 0, by omega, rfl, rfl, ⟨rfl, .inl ⟨rfl, rfl⟩⟩, (two_new w _ _).2.1, (two_new w _ _).1, ((Below.refl _ w).alloc (Nat.le_refl _) _).alloc (by simp) _⟩
 case round =>
  obtain ⟨n, v, hn, rfl, rfl, hown, hx1, hx0, hbw⟩ := hrel
  by_cases hlt : n < l.length
  ·have hr3 := Kd.C_below hr hbw
   obtain ⟨ad, rfl, d0, d1, d2, d3, d4, d5⟩ := at_T81 hr3 (n : Int) (by omega) (by omega)
   obtain ⟨x, hx⟩ : ∃ x, rd_T81 l (n : Int) = x := ⟨_, rfl⟩
   rw [hx] at d0 d1 d2 d3 d4 d5
   have hxb := hb x (by rw [← hx]; exact rd81_mem l n hlt)
   have hmap : (l.take (n + 1)).map chP = (l.take n).map chP ++ [chP x] := by
    rw [List.take_succ_eq_append_getElem hlt, List.map_append, ← hx, show rd_T81 l (n : Int) = l[n] from by simp [rd_T81, List.getElem?_eq_getElem hlt]]; rfl
   have htop := topS_succ l n hlt
   have hsum := sumW_succ l n hlt
   rw [hx] at htop hsum
   have htb := topS_le (hb.take n)
   obtain ⟨A1, c1, rfl, hA1⟩ := (Lies.of_owns hown).form
   have hlt1 := hown.lt
   generalize topS (l.take n) = top at htop htb
   generalize sumW (l.take n) 0 = sum at hsum hx1
   obtain ⟨⟨x0, x1, x2⟩, y0, y1, y2⟩ := blk3 hx1
   have hutf := utf8_chP x hxb.1
   have cW := fun X => twide_calls x (by omega) X
   simp only [Int.toNat_natCast] at d0 d1 d2 d3 d4 d5
   have x0' := fun o => Lib.cell?_alloc_some o x0
   have x0'' := fun o o' => Lib.cell?_alloc_some o' (Lib.cell?_alloc_some o x0)
   have HM := Lib.hid hmap
   have HT := Lib.hid htop
   have HS := Lib.hid hsum
   have HO := Lib.hid hown
   have HX0 := Lib.hid hx0
   have HX1 := Lib.hid hx1
   clear hmap htop hsum hx hown hx0 hx1
   go_wp2_with (at_builtin; refine wpList_append_own _ rfl _ _ 23 rfl (w.heap.size + 2) 42 i0 _ 6 40 Tryz.underlying23 hi hz0 hz1 hz2 rfl (by decide) _ n _ rfl ((HO.out.alloc _).alloc _) ⟨wr.heap.size + 1, 0, none⟩ 1 1 (enc (chP x)) rfl ?qc1 ?qc2 ?qc3 ?qc4 ?qc5 ?qc6 ?_)
   case qc1 => rfl
   case qc2 => intro j u hj; rw [add0]; rcases enc_cases hj with ⟨rfl, rfl⟩ | ⟨rfl, rfl⟩ | ⟨rfl, rfl⟩ | ⟨rfl, rfl⟩ | ⟨rfl, rfl⟩ | ⟨rfl, rfl⟩ <;> exact newcell2 wr _ _ 42 _ _ rfl
   case qc3 => intro u hu; simp only [enc, List.mem_cons, List.mem_nil_iff, or_false] at hu; rcases hu with rfl | rfl | rfl | rfl | rfl | rfl <;> rfl
   case qc4 => unfold maxLen; omega
   case qc5 => omega
   case qc6 => have := hbw.size; have := (Array.getElem?_eq_some_iff.1 HX1.out).1; simp; omega
   intro v' W1 hown1 hgrow hnil
   obtain ⟨hc0, hp0, hs0⟩ := two_new wr (Obj.cells #[.int .u8 x.f0, .bool x.f1.f0, .bool x.f1.f1, .bool x.f1.f2, .int .i64 x.f1.f3, .int .i64 x.f1.f4] 151) (Obj.cells #[.string (chP x).f0, .bool x.f1.f0, .bool x.f1.f1, .bool x.f1.f2, .int .i64 x.f1.f3, .int .i64 x.f1.f4] 42)
   have hxs := (Array.getElem?_eq_some_iff.1 HX1.out).1
   have hkk : ∀ k, k < wr.heap.size → k < w.heap.size + 2 → W1.heap[k]? = wr.heap[k]? := fun k h1 h2 =>
    (hgrow.block k (by omega) (fun e => by have := (hlt1 k e.symm).1; omega)).trans ((((Below.refl wr.heap.size wr).alloc (Nat.le_refl _) _).alloc (by simp) _).block k h1)
   have g1 : W1.heap[w.heap.size + 1]? = _ := (hkk _ hxs (by omega)).trans HX1.out
   have g0 : W1.heap[w.heap.size]? = _ := (hkk _ (by omega) (by omega)).trans HX0.out
   have gc : W1.heap[wr.heap.size]? = _ := (hgrow.block wr.heap.size (by omega) (fun e => by have := (hlt1 _ e.symm).2; omega)).trans hc0
   have hb1 : Below w.heap.size w W1 := ((hbw.alloc (by have := hbw.size; omega) _).alloc (by have := hbw.size; simp; omega) _).grown hgrow (by have := hbw.size; simp; omega) (fun k hk => by have := (hlt1 k hk).1; omega)
   have gs := hgrow.size
   rw [hs0] at gs
   clear hgrow hnil hkk hc0 hp0 d0 d1 d2 d3 d4 d5 x0 x1 x2 y0 y1 y2 x0' x0''
   obtain ⟨⟨x0, x1, x2⟩, y0, y1, y2⟩ := blk3 g1
   obtain ⟨A2, c2, rfl, hA2⟩ := (Lies.of_owns hown1).form
   have HO1 := Lib.hid hown1
   have hlt2 := hown1.lt
   clear hown1
   have key : ∀ X, X = W1.setCell ⟨w.heap.size + 1, 0, none⟩ (.slice A2 (n + 1) c2) → X.heap[w.heap.size + 1]? = some (.cells #[.slice A2 (n + 1) c2, .int .i64 sum, .int .i64 (4 * sz)] 107 (0, 0)) ∧ X.heap[w.heap.size]? = W1.heap[w.heap.size]? ∧
     X.heap[wr.heap.size]? = W1.heap[wr.heap.size]? ∧ X.ownsRow (w.heap.size + 2) 42 6 (.slice A2 (n + 1) c2) (n + 1) (flat (List.take n (List.map chP l)) ++ enc (chP x)) ∧ Below w.heap.size w X ∧ X.heap.size = W1.heap.size := by
    rintro X rfl
    refine ⟨heap_set (i := 0) g1, setCell_far _ _ (by omega), setCell_far _ _ (by omega), ?_, hb1.setCell (p := ⟨w.heap.size + 1, 0, none⟩) (Nat.le_succ _) _, by simp [World.setCell]⟩
    exact HO1.out.kept (row := some (w.heap.size + 1)) ⟨rfl, rfl, rfl, by simp [World.setCell], fun k _ hk => setCell_far _ _ (fun e => hk (by rw [e]))⟩ (.inr fun e => by have := (hlt2 _ e).1; omega)
   go_wp2
   obtain ⟨q1, q0, qc, qo, qb, qz⟩ := key _ rfl
   rw [g0] at q0
   rw [gc] at qc
   generalize W1.setCell ⟨w.heap.size + 1, 0, none⟩ (.slice A2 (n + 1) c2) = W2 at q1 q0 qc qo qb qz
   clear key g1 g0 gc hb1 x0 x1 x2 y0 y1 y2 hlt1
   have e1 := fun z : Ext W2 => z.atv (blk3 q1).1.2.1
   obtain ⟨k0, k1, k2, k3, k4, k5⟩ := blk6 qc
   have f0 := fun z : Ext W2 => z.atv k0
   have f1 := fun z : Ext W2 => z.atv k1
   have f2 := fun z : Ext W2 => z.atv k2
   have f3 := fun z : Ext W2 => z.atv k3
   have f4 := fun z : Ext W2 => z.atv k4
   have f5 := fun z : Ext W2 => z.atv k5
   refine wp_region_mix_last' (C := fun w' => ∃ z : Ext W2, w' = z.w) 9 rfl [6] 2 (by kernel_rfl) (by kernel_rfl) (by kernel_rfl) (by kernel_rfl) ⟨⟨W2.drew, (Below.refl _ W2).drew⟩, rfl⟩ ?_
   refine mix_pure rfl (fun K hK => ?_)
   go_simp
   refine hK _ _ ?_
   clear hK K
   refine mix_pure rfl (fun K hK => ?_)
   go_simp
   refine hK _ _ ?_
   clear hK K
   refine mix_pure rfl (fun K hK => ?_)
   go_simp
   refine hK _ _ ?_
   clear hK K
   refine mix_pure rfl (fun K hK => ?_)
   go_simp
   refine hK _ _ ?_
   clear hK K
   refine mix_pure rfl (fun K hK => ?_)
   go_simp
   refine hK _ _ ?_
   clear hK K
   refine mix_pure rfl (fun K hK => ?_)
   go_simp
   refine hK _ _ ?_
   clear hK K
   refine mix_eff rfl (fun K hK => ?_)
   go_simp
   simp only [effUpon_enter]
   refine (cW _).mono ?_
   rintro e W3 ⟨rfl, hb3⟩
   refine ⟨_, rfl, ⟨⟨W3, (Below.refl _ W2).drew.trans hb3⟩, rfl⟩, hK _ _ ?_⟩
   clear hK K
   refine mix_pure rfl (fun K hK => ?_)
   go_simp
   refine hK _ _ ?_
   clear hK K
   refine mix_pure rfl (fun K hK => ?_)
   go_simp
   refine hK _ _ ?_
   clear hK K
   refine mix_nil ?_
   intro _
   have hb3' : Below W2.heap.size W2 W3 := (Below.refl _ W2).drew.trans hb3
   have p1 : W3.heap[w.heap.size + 1]? = _ := (hb3'.block _ (by omega)).trans q1
   have p0 : W3.heap[w.heap.size]? = _ := (hb3'.block _ (by omega)).trans q0
   have pc : W3.heap[wr.heap.size]? = _ := (hb3'.block _ (by omega)).trans qc
   have pb : Below w.heap.size w W3 := qb.trans (hb3'.mono (by have := qb.size; omega))
   have po : W3.ownsRow (w.heap.size + 2) 42 6 (.slice A2 (n + 1) c2) (n + 1) (flat (List.take n (List.map chP l)) ++ enc (chP x)) := qo.kept (row := none) ⟨hb3'.os, hb3'.tape, hb3'.output, hb3'.size, fun k hk _ => hb3'.block k hk⟩ (by cases hv : Value.ownBlock (.slice A2 (n + 1) c2) <;> simp)
   clear e1 f0 f1 f2 f3 f4 f5 k0 k1 k2 k3 k4 k5 hb3 q1 q0 qc qb qo qz
   obtain ⟨⟨x0, x1, x2⟩, y0, y1, y2⟩ := blk3 p1
   obtain ⟨k0, k1, k2, k3, k4, k5⟩ := blk6 pc
   have hne1 : ¬ wr.heap.size = w.heap.size + 1 := by omega
   have hne2 : ¬ w.heap.size + 1 = wr.heap.size := by omega
   obtain ⟨s1, hs1⟩ : ∃ s1, IntKind.i64.wrap (sum + wd x) = s1 := ⟨_, rfl⟩
   rw [hs1]
   go_wp2
   go_roundw
   case rel =>
    refine ⟨n + 1, .slice A2 (n + 1) c2, by omega, by rw [HT.out], by go_num, ?_, ?_, ?_, ?_⟩
    ·refine World.ownsRow.kept (w := W3) (row := some (w.heap.size + 1)) ?_ ⟨rfl, rfl, rfl, by simp [World.setCell], fun k _ hk => setCell_far _ _ (fun e => hk (by rw [e]))⟩ (.inr fun e => by have := (hlt2 _ e).1; omega)
     rw [show flat (List.map chP (List.take (n + 1) l)) = flat (List.take n (List.map chP l)) ++ enc (chP x) from by rw [HM.out]; simp [flat, List.map_take]]
     exact po
    ·rw [heap_set (i := 1) p1, HS.out, ← hs1, i64_w]
     rfl
    ·exact (setCell_far _ _ (by omega)).trans p0
    ·exact pb.setCell (p := ⟨w.heap.size + 1, 1, none⟩) (Nat.le_succ _) _
   case measure => simp [intOf]; omega
  ·have hnl : n = l.length := by omega
   have hfin : ∃ A1 c1, v = .slice A1 ((l.map chP).length) c1 ∧ (l.map chP).length ≤ c1 ∧ Kd.C k42 wr A1 (l.map chP).length (l.map chP) := by
    rw [hnl, List.take_length] at hown
    have hlm : (l.map chP).length = l.length := List.length_map ..
    rcases hown.2 with ⟨rfl, h1⟩ | ⟨g, cap', cur, rfl, hg, hh, hle, hmx, hsz, htk⟩
    ·have : l.map chP = [] := List.eq_nil_of_length_eq_zero (by omega)
     rw [this]
     exact ⟨none, 0, rfl, Nat.le_refl _, ⟨rfl, by simp, fun h => absurd h (by simp)⟩⟩
    ·exact ⟨_, cap', by rw [hlm], by rw [hlm]; exact hle, (Lays.of_take (l := l.map chP) (by rw [hlm]; exact htk)).C hh (by omega)⟩
   obtain ⟨A1, c1, rfl, hle1, hC1⟩ := hfin
   have hbs : w.heap.size + 2 ≤ wr.heap.size := (Array.getElem?_eq_some_iff.1 hx1).1
   rw [hnl, List.take_length] at hx1
   obtain ⟨⟨x0, x1, x2⟩, y0, y1, y2⟩ := blk3 hx1
   have cJ := joined2 (.slice A1 (l.map chP).length c1) (l.map chP) wr ⟨A1, c1, rfl, hle1, hC1⟩ (by rw [List.length_map]; exact hl) (by rw [wl_map]; exact hl)
   have htb := topS_le hb
   generalize hlen : (l.map chP).length = ln at *
   obtain ⟨sum, hsum⟩ : ∃ s, sumW l 0 = s := ⟨_, rfl⟩
   have HSUM := Lib.hid hsum
   rw [hsum] at hx1 x1
   clear hsum
   rw [hnl, List.take_length]
   obtain ⟨top, htop⟩ : ∃ top, 4 * topS l = 4 * top ∧ topS l = top := ⟨_, rfl, rfl⟩
   have HTOP := Lib.hid htop.1
   rw [htop.2] at htb ⊢
   clear htop
   have w1s := (Array.getElem?_eq_some_iff.1 hx1).1
   have wrt : IntKind.i64.wrap (4 * top) = 4 * top := IntWalk.i64_in _ (by omega)
   have pj := pieces_map l
   have CALL : ∀ e W, (∃ A' c', e = Ending.returned (.slice A' (joinS (l.map chP)).length c') ∧ Kd.R k42 42 W wr.heap.size (fun _ => True) (.slice A' (joinS (l.map chP)).length c') (joinS (l.map chP)) ∧ Below wr.heap.size wr W) →
     ∃ A' c', e = Ending.returned (.slice A' (piecesS l).length c') ∧ Kd.R k42 42 W wr.heap.size (fun _ => True) (.slice A' (piecesS l).length c') (piecesS l) ∧
      W.heap[w.heap.size + 1]? = some (.cells #[.slice A1 ln c1, .int .i64 sum, .int .i64 (4 * sz)] 107 (0, 0)) ∧ W.heap[w.heap.size]? = some (.cells #[.slice none 0 0, .int .i64 0, .int .i64 0] 107 (0, 0)) ∧ Below w.heap.size w W := by
    rintro e W ⟨A', c', rfl, hR, hb3⟩
    rw [← pj] at hR ⊢
    exact ⟨A', c', rfl, hR, (hb3.block _ w1s).trans hx1, (hb3.block _ (by omega)).trans hx0, hbw.trans (hb3.mono hbw.size)⟩
   have hfin : ∀ (W : World) (A3 : Option Addr) (n3 c3 : Nat) (h0 : Int) (Y X : World), Kd.R k42 42 W wr.heap.size (fun _ => True) (.slice A3 n3 c3) (piecesS l) →
     W.heap[w.heap.size + 1]? = some (.cells #[.slice A1 ln c1, .int .i64 sum, .int .i64 (4 * sz)] 107 (0, 0)) → W.heap[w.heap.size]? = some (.cells #[.slice none 0 0, .int .i64 0, .int .i64 0] 107 (0, 0)) → Below w.heap.size w W →
     (Y = W.setCell ⟨w.heap.size + 1, 0, none⟩ (.slice A3 n3 c3) ∨ Y = (W.setCell ⟨w.heap.size + 1, 0, none⟩ (.slice A3 n3 c3)).setCell ⟨w.heap.size + 1, 2, none⟩ (.int .i64 h0)) →
     X = ((Y.setCell ⟨w.heap.size, 0, none⟩ (.slice A3 n3 c3)).setCell ⟨w.heap.size, 1, none⟩ (.int .i64 sum)).setCell ⟨w.heap.size, 2, none⟩ (.int .i64 h0) →
     X.heap[w.heap.size]? = some (.cells #[.slice A3 n3 c3, .int .i64 sum, .int .i64 h0] 107 (0, 0)) ∧ Kd.R k42 42 X w.heap.size (fun _ => True) (.slice A3 n3 c3) (piecesS l) ∧ Below w.heap.size w X := by
    intro W A3 n3 c3 h0 Y X hR g1 g0 gb hY hX
    have hk : ∀ k, k ≠ w.heap.size → k ≠ w.heap.size + 1 → X.heap[k]? = W.heap[k]? := fun k k1 k2 => by
     rw [hX, setCell_far _ _ k1, setCell_far _ _ k1, setCell_far _ _ k1]
     rcases hY with rfl | rfl
     ·rw [setCell_far _ _ k2]
     ·rw [setCell_far _ _ k2, setCell_far _ _ k2]
    have hy0 : Y.heap[w.heap.size]? = some (.cells #[.slice none 0 0, .int .i64 0, .int .i64 0] 107 (0, 0)) := by
     rcases hY with rfl | rfl
     ·rw [setCell_far _ _ (by omega)]; exact g0
     ·rw [setCell_far _ _ (by omega), setCell_far _ _ (by omega)]; exact g0
    refine ⟨?_, ?_, ?_⟩
    ·rw [hX]
     exact heap_set (i := 2) (heap_set (i := 1) (heap_set (i := 0) hy0))
    ·refine Kd.R_lower (Kd.R_mono (Kd.R_step (w1 := X) (Kd.R_bound hR) fun k hk1 _ => hk k ?_ ?_) (fun _ _ => trivial)) (Nat.le_trans (Nat.le_add_right _ 2) hbs)
     ·have := hk1.2.1; omega
     ·have := hk1.2.1; omega
    ·have hb4 : Below w.heap.size w Y := by
      rcases hY with rfl | rfl
      ·exact gb.setCell (p := ⟨w.heap.size + 1, 0, none⟩) (Nat.le_succ _) _
      ·exact (gb.setCell (p := ⟨w.heap.size + 1, 0, none⟩) (Nat.le_succ _) _).setCell (p := ⟨w.heap.size + 1, 2, none⟩) (Nat.le_succ _) _
     rw [hX]
     exact ((hb4.setCell (p := ⟨w.heap.size, 0, none⟩) (Nat.le_refl _) _).setCell (p := ⟨w.heap.size, 1, none⟩) (Nat.le_refl _) _).setCell (p := ⟨w.heap.size, 2, none⟩) (Nat.le_refl _) _
   cases hem : decide (0 < l.length)
   case false =>
    have hem1 : decide ((0 : Int) < (l.length : Int)) = false := decide_eq_false (by have := of_decide_eq_false hem; omega)
    have hem2 : ¬ ((0 : Int) < (l.length : Int)) := of_decide_eq_false hem1
    have hem3 : l.length = 0 := by omega
    have hie : l.isEmpty = true := by rw [List.isEmpty_iff_length_eq_zero]; have := of_decide_eq_false hem; omega
    have HIE := Lib.hid hie
    have HF := Lib.hid hfin
    have HC := Lib.hid CALL
    clear hfin CALL hx1 hx0 hie pj
    go_wp2_with (go_at_call 71; refine cJ.mono ?_; intro e W hW; obtain ⟨A3, c3, rfl, hR3, g1, g0, gb⟩ := HC.out e W hW; obtain ⟨⟨j0, j1, j2⟩, i0', i1', i2'⟩ := blk3 g1; obtain ⟨⟨m0, m1, m2⟩, l0', l1', l2'⟩ := blk3 g0)
    obtain ⟨r1, r2, r3⟩ := HF.out W A3 _ c3 _ _ _ hR3 g1 g0 gb (.inl rfl) rfl
    refine bodyPost_ret (results_cell_row rfl _ _ w.heap.size 107 _ (0, 0) _ rfl r1 Tryz.underlying107 rfl (by kernel_rfl)) rfl ?_
    refine ⟨_, _, ?_, r2, r3⟩
    unfold highS
    rw [HIE.out, HSUM.out]
    rfl
   case true =>
    have hem1 : decide ((0 : Int) < (l.length : Int)) = true := decide_eq_true (by have := of_decide_eq_true hem; omega)
    have hem2 : (0 : Int) < (l.length : Int) := of_decide_eq_true hem1
    have hem3 : 0 < l.length := of_decide_eq_true hem
    have hie : l.isEmpty = false := by rw [Bool.eq_false_iff]; intro h; rw [List.isEmpty_iff_length_eq_zero] at h; have := of_decide_eq_true hem; omega
    have HIE := Lib.hid hie
    have HF := Lib.hid hfin
    have HC := Lib.hid CALL
    clear hfin CALL hx1 hx0 hie pj
    go_wp2_with (go_at_call 71; refine cJ.mono ?_; intro e W hW; obtain ⟨A3, c3, rfl, hR3, g1, g0, gb⟩ := HC.out e W hW; obtain ⟨⟨j0, j1, j2⟩, i0', i1', i2'⟩ := blk3 g1; obtain ⟨⟨m0, m1, m2⟩, l0', l1', l2'⟩ := blk3 g0)
    obtain ⟨r1, r2, r3⟩ := HF.out W A3 _ c3 _ _ _ hR3 g1 g0 gb (.inr rfl) rfl
    refine bodyPost_ret (results_cell_row rfl _ _ w.heap.size 107 _ (0, 0) _ rfl r1 Tryz.underlying107 rfl (by kernel_rfl)) rfl ?_
    refine ⟨_, _, ?_, r2, r3⟩
    unfold highS heightS
    rw [HIE.out, HTOP.out, HSUM.out]
    rfl
end Go.Proofs.YtogidacejbjljaaGreatDoor.PTextChecks
end
section
/- What keeps blocks by their types, and rows of lines of a cue. -/
set_option linter.unusedVariables false
set_option linter.unusedSimpArgs false
namespace Go.Own
open Go.RowKit
/-- Every block of w of a type that is not listed lies in w' as it lay. -/
def KB (ts : List TypeId) (w w' : World) : Prop := w.heap.size ≤ w'.heap.size ∧ ∀ (g : Nat) (cur : Array Value) (t : TypeId), t ∉ ts → w.heap[g]? = some (Obj.cells cur t (0, 0)) → w'.heap[g]? = some (Obj.cells cur t (0, 0))
theorem KB.refl (ts : List TypeId) (w : World) : KB ts w w := ⟨Nat.le_refl _, fun _ _ _ _ h => h⟩
theorem KB.trans {ts : List TypeId} {a b c : World} (h : KB ts a b) (k : KB ts b c) : KB ts a c := ⟨Nat.le_trans h.1 k.1, fun g cur t ht hg => k.2 g cur t ht (h.2 g cur t ht hg)⟩
theorem KB.mono {ts us : List TypeId} {a b : World} (h : KB ts a b) (hs : ∀ t ∈ ts, t ∈ us) : KB us a b := ⟨h.1, fun g cur t ht hg => h.2 g cur t (fun h' => ht (hs t h')) hg⟩
theorem KB.below {ts : List TypeId} {w w' : World} (h : Below w.heap.size w w') : KB ts w w' := ⟨h.size, fun g cur t _ hg => (h.block g (Array.getElem?_eq_some_iff.1 hg).1).trans hg⟩
theorem KB.set {ts : List TypeId} {w : World} {g i : Nat} {cs : Array Value} {t : TypeId} (hg : w.heap[g]? = some (Obj.cells cs t (0, 0))) (ht : t ∈ ts) (v : Value) : KB ts w (w.setCell ⟨g, i, none⟩ v) :=
 ⟨by simp [World.setCell], fun k cur u hu hk => by
  have hne : k ≠ g := fun e => by subst e; rw [hg] at hk; simp at hk; exact hu (hk.2 ▸ ht)
  exact (setCell_far _ _ hne).trans hk⟩
theorem KB.grown {ts : List TypeId} {w w' : World} {row : Option Nat} (h : w.grownBy w' row) (hr : ∀ k, row = some k → ∃ cs t, t ∈ ts ∧ w.heap[k]? = some (Obj.cells cs t (0, 0))) : KB ts w w' :=
 ⟨h.size, fun k cur u hu hk => by
  have hne : some k ≠ row := fun e => by
   obtain ⟨cs, t, ht, hc⟩ := hr k e.symm
   rw [hc] at hk
   simp at hk
   exact hu (hk.2 ▸ ht)
  exact (h.block k (Array.getElem?_eq_some_iff.1 hk).1 hne).trans hk⟩
theorem Lies.kb {ts : List TypeId} {w w' : World} {base : Nat} {e : TypeId} {size : Nat} {v : Value} {n : Nat} {xs : List Value} (h : Lies w base e size v n xs) (hk : KB ts w w') (he : e ∉ ts) : Lies w' base e size v n xs := by
 refine h.keep fun k _ hv => ?_
 obtain ⟨_, _, cur, hc⟩ := h.lt k hv
 exact (hk.2 k cur e he hc).trans hc.symm
/-- The first m elements. -/
theorem Lies.take {w : World} {base : Nat} {e : TypeId} {size : Nat} {A : Option Addr} {n c : Nat} {xs : List Value} (h : Lies w base e size (.slice A n c) n xs) {m : Nat} (hm : m ≤ n) : Lies w base e size (.slice A m c) m (xs.take (m * size)) := by
 have hmul : m * size ≤ n * size := Nat.mul_le_mul_right _ hm
 refine ⟨by rw [List.length_take, h.1]; omega, ?_⟩
 rcases h.2 with ⟨h1, h0⟩ | ⟨g, off, cap, cur, hv, hb, hg, hnc, hcm, hcs, ht⟩
 ·injection h1 with h1 h2 h3
  subst h1 h3
  exact .inl ⟨by rw [show m = 0 by omega], by omega⟩
 ·injection hv with h1 h2 h3
  subst h1 h3
  refine .inr ⟨g, off, c, cur, rfl, hb, hg, by omega, hcm, hcs, ?_⟩
  rw [← ht, List.take_take, Nat.min_eq_left hmul]
/-- All but the first m elements, as the machine tells it. -/
theorem Lies.drop {w : World} {base : Nat} {e : TypeId} {size : Nat} {A : Option Addr} {n c : Nat} {xs : List Value} (h : Lies w base e size (.slice A n c) n xs) {m : Nat} (hm : m ≤ n) : Lies w base e size (.slice (if c = m then A else A.map (·.add (m * size))) (n - m) (c - m)) (n - m) (xs.drop (m * size)) := by
 have hmul : m * size ≤ n * size := Nat.mul_le_mul_right _ hm
 refine ⟨by rw [List.length_drop, h.1, Nat.sub_mul], ?_⟩
 rcases h.2 with ⟨h1, h0⟩ | ⟨g, off, cap, cur, hv, hb, hg, hnc, hcm, hcs, ht⟩
 ·injection h1 with h1 h2 h3
  subst h1 h3
  exact .inl ⟨by subst h0; simp, by omega⟩
 ·injection hv with h1 h2 h3
  subst h1 h3
  by_cases hcm' : c = m
  ·rw [if_pos hcm']
   refine .inr ⟨g, off, c - m, cur, rfl, hb, hg, by omega, by omega, by rw [hcm', Nat.sub_self]; omega, ?_⟩
   have : n - m = 0 := by omega
   rw [this, Nat.zero_mul, List.take_zero]
   have hnm : n = m := by omega
   exact (List.eq_nil_of_length_eq_zero (by rw [List.length_drop, h.1, hnm]; omega)).symm
  ·rw [if_neg hcm']
   have hadd : (⟨g, off, none⟩ : Addr).add (m * size) = ⟨g, off + m * size, none⟩ := by unfold Addr.add; split <;> simp_all
   refine .inr ⟨g, off + m * size, c - m, cur, by simp [hadd], hb, hg, by omega, by omega, by rw [Nat.sub_mul]; have : m * size ≤ c * size := Nat.mul_le_mul_right _ (by omega); omega, ?_⟩
   rw [← ht, List.drop_take, List.drop_drop, Nat.sub_mul]
end Go.Own
namespace Go.Proofs.YtogidacejbjljaaGreatDoor.PTextChecks
open Go.RowKit Go.Mix Go.Own Go.Proofs.YtogidacejbjljaaGreatDoorW.PrintWords Go.Proofs.YtogidacejbjljaaGreatDoorW.PrintLast Go.Proofs.YtogidacejbjljaaGreatDoorW.PrintMore
def enc81 (x : S81) : List Value := [.int .u8 x.f0, .bool x.f1.f0, .bool x.f1.f1, .bool x.f1.f2, .int .i64 x.f1.f3, .int .i64 x.f1.f4]
def flat81 (l : List S81) : List Value := l.flatMap enc81
theorem flat81_get : ∀ (l : List S81) (k j : Nat) (p : S81), l[k]? = some p → j < 6 → (flat81 l)[k * 6 + j]? = (enc81 p)[j]?
 | [], _, _, _, h, _ => by simp at h
 | x :: l, 0, j, p, h, hj => by
  obtain rfl : x = p := by simpa using h
  rw [Nat.zero_mul, Nat.zero_add, flat81, List.flatMap_cons, List.getElem?_append_left (by simp [enc81]; omega)]
 | x :: l, k + 1, j, p, h, hj => by
  have := flat81_get l k j p (by simpa using h) hj
  rw [flat81, List.flatMap_cons, List.getElem?_append_right (by simp [enc81]; omega), ← this]
  simp only [enc81, List.length_cons, List.length_nil, flat81]
  congr 1
  omega
theorem flat81_take (l : List S81) (m : Nat) : (flat81 l).take (m * 6) = flat81 (l.take m) := by
 induction l generalizing m with
 | nil => simp [flat81]
 | cons x l ih =>
  cases m with
  | zero => simp [flat81]
  | succ m =>
   have h6 : (enc81 x).length = 6 := rfl
   have := ih m
   simp only [flat81, List.flatMap_cons, List.take_succ_cons] at this ⊢
   rw [List.take_append, h6, List.take_of_length_le (by rw [h6]; omega), ← this]
   congr 2
   omega
theorem flat81_drop (l : List S81) (m : Nat) : (flat81 l).drop (m * 6) = flat81 (l.drop m) := by
 induction l generalizing m with
 | nil => simp [flat81]
 | cons x l ih =>
  cases m with
  | zero => simp
  | succ m =>
   have h6 : (enc81 x).length = 6 := rfl
   have := ih m
   simp only [flat81, List.flatMap_cons, List.drop_succ_cons] at this ⊢
   rw [List.drop_append, h6, List.drop_of_length_le (by rw [h6]; omega), ← this, List.nil_append]
   congr 1
   omega
/-- A row of letters of the call's own is read as such. -/
theorem lies81 {w : World} {base : Nat} {e : TypeId} {v : Value} {l : List S81} (h : Lies w base e 6 v l.length (flat81 l)) (hl : l.length ≤ 9223372036854775807) : ∃ A c, v = .slice A l.length c ∧ l.length ≤ c ∧ Kd.C k81 w A l.length l := by
 obtain ⟨A, c, rfl, hle⟩ := h.form
 refine ⟨A, c, rfl, hle, rfl, by omega, fun hpos => ?_⟩
 obtain ⟨a, c', he, _, hc⟩ := h.cell hpos
 injection he with h1 h2 h3
 refine ⟨a, h1, fun j p hj => ⟨enc81 p, rfl, k81_mk w p, fun i u hu => ?_⟩⟩
 have hi : i < 6 := by have := (List.getElem?_eq_some_iff.1 hu).1; simpa [enc81] using this
 exact hc _ _ ((flat81_get l j i p hj hi).trans hu)
/-- A row of pieces, in a block of its own. -/
def In42 (w : World) (v : Value) (l : List S42) : Prop := Lies w 0 42 6 v l.length (flat l)
theorem In42.reads {w : World} {v : Value} {l : List S42} (h : In42 w v l) (hl : l.length ≤ 9223372036854775807) : ∃ A c, v = .slice A l.length c ∧ l.length ≤ c ∧ Kd.C k42 w A l.length l := by
 obtain ⟨A, c, rfl, hle⟩ := h.form
 refine ⟨A, c, rfl, hle, rfl, by omega, fun hpos => ?_⟩
 obtain ⟨a, c', he, _, hc⟩ := h.cell hpos
 injection he with h1 h2 h3
 refine ⟨a, h1, fun j p hj => ⟨enc p, rfl, k42_mk w p, fun i u hu => ?_⟩⟩
 have hi : i < 6 := by have := (List.getElem?_eq_some_iff.1 hu).1; simpa [enc] using this
 exact hc _ _ ((flat_get l j i p hj hi).trans hu)
theorem In42.kb' {w w' : World} {v : Value} {l : List S42} (h : In42 w v l) (hk : KB [107] w w') : In42 w' v l := h.kb hk (by decide)
theorem R_in42 {w : World} {base : Nat} {ok : Nat → Prop} {v : Value} {l : List S42} (h : Kd.R k42 42 w base ok v l) : In42 w v l := by
 obtain ⟨A, c, rfl, hle, hC⟩ := Kd.R_reads h
 obtain ⟨inner, ho⟩ := Kd.R_own h
 have hL := Lies.of_owns ho
 have : inner = flat l := by
  apply List.ext_getElem?
  intro j
  by_cases hj : j < l.length * 6
  ·obtain ⟨q, r, hr, rfl⟩ : ∃ q r, r < 6 ∧ j = q * 6 + r := ⟨j / 6, j % 6, Nat.mod_lt _ (by omega), by omega⟩
   have hq : q < l.length := by omega
   obtain ⟨a, ha, hcs⟩ := hC.2.2 (by omega)
   obtain ⟨cs, hc6, hK, hcell⟩ := hcs q l[q] (List.getElem?_eq_getElem hq)
   obtain rfl := k42_open hK
   obtain ⟨a', c', he, _, hc⟩ := hL.cell (by omega)
   injection he with h1 h2 h3
   obtain rfl : a = a' := by rw [ha] at h1; injection h1
   have hlt : q * 6 + r < inner.length := by rw [ho.1]; exact hj
   have e1 := hc (q * 6 + r) _ (List.getElem?_eq_getElem hlt)
   have hr6 : r < (enc l[q]).length := hr
   have e2 := hcell r _ (List.getElem?_eq_getElem hr6)
   rw [flat_get l q r l[q] (List.getElem?_eq_getElem hq) hr, List.getElem?_eq_getElem hlt, List.getElem?_eq_getElem hr6]
   have e3 := e1.symm.trans e2
   exact e3
  ·rw [List.getElem?_eq_none (by rw [ho.1]; exact Nat.not_lt.1 hj), List.getElem?_eq_none (by rw [flat_length]; omega)]
 subst this
 exact hL.mono (Nat.zero_le _)
/-- The lines of a cue: a row of their own, each with its pieces in a block of its own. -/
def cells107 (vs : List Value) (O : List (List S81 × Int)) : List Value := (List.zip vs O).flatMap fun p => [p.1, .int .i64 (sumW p.2.1 0), .int .i64 p.2.2]
def Outs (w : World) (base : Nat) (v : Value) (O : List (List S81 × Int)) : Prop := ∃ vs : List Value, vs.length = O.length ∧ Lies w base 107 3 v O.length (cells107 vs O) ∧ ∀ (i : Nat) (u : Value) (p : List S81 × Int), vs[i]? = some u → O[i]? = some p → In42 w u (piecesS p.1)
theorem Outs.nil (w : World) (base : Nat) : Outs w base (.slice none 0 0) [] := ⟨[], rfl, Lies.nil w base 107 3, fun i u p h => by simp at h⟩
theorem Outs.kb {ts : List TypeId} {w w' : World} {base : Nat} {v : Value} {O : List (List S81 × Int)} (h : Outs w base v O) (hk : KB ts w w') (h1 : 107 ∉ ts) (h2 : 42 ∉ ts) : Outs w' base v O := by
 obtain ⟨vs, h3, h4, h5⟩ := h
 exact ⟨vs, h3, h4.kb hk h1, fun i u p hu hp => (h5 i u p hu hp).kb hk h2⟩
theorem cells107_snoc (vs : List Value) (O : List (List S81 × Int)) (u : Value) (p : List S81 × Int) (h : vs.length = O.length) : cells107 (vs ++ [u]) (O ++ [p]) = cells107 vs O ++ [u, .int .i64 (sumW p.1 0), .int .i64 p.2] := by
 unfold cells107
 rw [List.zip_append h, List.flatMap_append]
 rfl
/-- One line more. -/
theorem Outs.snoc {w w' : World} {base : Nat} {v' u : Value} {O : List (List S81 × Int)} {p : List S81 × Int} {vs : List Value} (h1 : vs.length = O.length) (h2 : ∀ (i : Nat) (u : Value) (p : List S81 × Int), vs[i]? = some u → O[i]? = some p → In42 w u (piecesS p.1))
  (h3 : Lies w' base 107 3 v' (O.length + 1) (cells107 vs O ++ [u, .int .i64 (sumW p.1 0), .int .i64 p.2])) (h4 : In42 w u (piecesS p.1)) (hk : KB [107] w w') : Outs w' base v' (O ++ [p]) := by
 refine ⟨vs ++ [u], by simp [h1], ?_, fun i u' q hu hq => ?_⟩
 ·rw [cells107_snoc vs O u p h1, List.length_append]
  exact h3
 ·refine In42.kb' ?_ hk
  rcases Nat.lt_trichotomy i O.length with hi | hi | hi
  ·rw [List.getElem?_append_left (by omega)] at hu
   rw [List.getElem?_append_left hi] at hq
   exact h2 i u' q hu hq
  ·subst hi
   rw [← h1, List.getElem?_concat_length] at hu
   rw [List.getElem?_concat_length] at hq
   injection hu with hu
   injection hq with hq
   subst hu hq
   exact h4
  ·rw [List.getElem?_eq_none (by simp; omega)] at hq
   cases hq
end Go.Proofs.YtogidacejbjljaaGreatDoor.PTextChecks
end
