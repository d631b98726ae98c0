-- by the kit's print program, over a listing in which some functions are constants; their contracts are proved in other texts
import Derived.Test.YtogidacejbjljaaGreatDoorTextChecksy1
namespace Go.Proofs.YtogidacejbjljaaGreatDoor.PTextChecks
open Go.RowKit Go.Proofs.YtogidacejbjljaaGreatDoorW.PrintWords Go.Proofs.YtogidacejbjljaaGreatDoorW.PrintLast Go.Proofs.YtogidacejbjljaaGreatDoorW.PrintMore
set_option linter.unusedVariables false
set_option linter.unusedSimpArgs false
attribute [local go_sem high] eqA40 eqA42
/-! ### r18_wide: function 98 -/
mutual
def r18_wide.j0 : Nat → Int → Int → Bool → Bool → Bool → Int → Int → Option (Int)
  | 0, _, _, _, _, _, _, _ => none
  | k + 1, x3, x205000, x205001, x205002, x205003, x205004, x205005 => (r18_in.f (wrap64 (x205000)) 65 90).bind fun t206 => (if t206 = true then (r18_wide.j1 k x3 true x205000 x205001 x205002 x205003 x205004 x205005) else ((r18_holds.f k (⟨#[109, 119, 64, 35]⟩ : ByteArray) x205000).bind fun t207 => (r18_wide.j1 k x3 t207 x205000 x205001 x205002 x205003 x205004 x205005)))
def r18_wide.j1 : Nat → Int → Bool → Int → Bool → Bool → Bool → Int → Int → Option (Int)
  | 0, _, _, _, _, _, _, _, _ => none
  | k + 1, x3, x19, x205000, x205001, x205002, x205003, x205004, x205005 => if x19 = true then (if x205001 = true then (some (wrap64 ((wrap64 (x205004 * 3)) + 1))) else (some (wrap64 (x205004 * 3)))) else (if x205001 = true then (some (wrap64 ((wrap64 (x205004 * x3)) + 1))) else (some (wrap64 (x205004 * x3))))
end
def r18_wide.f (k : Nat) (a0_0 : Int) (a0_1 : Bool) (a0_2 : Bool) (a0_3 : Bool) (a0_4 : Int) (a0_5 : Int) : Option (Int) := if a0_0 = 10 then (some 0) else ((r18_holds.f k (⟨#[105, 108, 46, 44, 39, 33, 124, 58, 32]⟩ : ByteArray) a0_0).bind fun t205 => (if t205 = true then (r18_wide.j0 k 1 a0_0 a0_1 a0_2 a0_3 a0_4 a0_5) else (r18_wide.j0 k 2 a0_0 a0_1 a0_2 a0_3 a0_4 a0_5)))
theorem r18_wide.mono_l : ∀ k, (∀ y0 y1 y2 y3 y4 y5 y6, LeO (r18_wide.j0 k y0 y1 y2 y3 y4 y5 y6) (r18_wide.j0 (k + 1) y0 y1 y2 y3 y4 y5 y6)) ∧ (∀ y0 y1 y2 y3 y4 y5 y6 y7, LeO (r18_wide.j1 k y0 y1 y2 y3 y4 y5 y6 y7) (r18_wide.j1 (k + 1) y0 y1 y2 y3 y4 y5 y6 y7))
  | 0 => ⟨fun _ _ _ _ _ _ _ r h => by simp [r18_wide.j0] at h, fun _ _ _ _ _ _ _ _ r h => by simp [r18_wide.j1] at h⟩
  | k + 1 => by
    obtain ⟨ih0, ih1⟩ := r18_wide.mono_l k
    refine ⟨?_, ?_⟩
    · intro y0 y1 y2 y3 y4 y5 y6
      unfold r18_wide.j0
      repeat' first
      | (with_reducible exact ih0 _ _ _ _ _ _ _)
      | (with_reducible exact ih1 _ _ _ _ _ _ _ _)
      | (with_reducible exact r18_holds.mono _ _ _)
      | (with_reducible exact LeO.refl _)
      | (with_reducible exact LeO.none _)
      | (with_reducible refine LeO.ite ?_ ?_)
      | (with_reducible refine LeO.bind ?_ (fun _ => ?_))
      | exact ih0 _ _ _ _ _ _ _
      | exact ih1 _ _ _ _ _ _ _ _
      | exact r18_holds.mono _ _ _
      | exact LeO.none _
      | refine LeO.ite ?_ ?_
      | refine LeO.bind ?_ (fun _ => ?_)
    · intro y0 y1 y2 y3 y4 y5 y6 y7
      unfold r18_wide.j1
      repeat' first
      | (with_reducible exact ih0 _ _ _ _ _ _ _)
      | (with_reducible exact ih1 _ _ _ _ _ _ _ _)
      | (with_reducible exact r18_holds.mono _ _ _)
      | (with_reducible exact LeO.refl _)
      | (with_reducible exact LeO.none _)
      | (with_reducible refine LeO.ite ?_ ?_)
      | (with_reducible refine LeO.bind ?_ (fun _ => ?_))
      | exact ih0 _ _ _ _ _ _ _
      | exact ih1 _ _ _ _ _ _ _ _
      | exact r18_holds.mono _ _ _
      | exact LeO.none _
      | refine LeO.ite ?_ ?_
      | refine LeO.bind ?_ (fun _ => ?_)
theorem r18_wide.mono : ∀ a0 a1 a2 a3 a4 a5 k, LeO (r18_wide.f k a0 a1 a2 a3 a4 a5) (r18_wide.f (k + 1) a0 a1 a2 a3 a4 a5) := by
  intro a0 a1 a2 a3 a4 a5 k
  obtain ⟨ih0, ih1⟩ := r18_wide.mono_l k
  unfold r18_wide.f
  repeat' first
      | (with_reducible exact ih0 _ _ _ _ _ _ _)
      | (with_reducible exact ih1 _ _ _ _ _ _ _ _)
      | (with_reducible exact r18_holds.mono _ _ _)
      | (with_reducible exact LeO.refl _)
      | (with_reducible exact LeO.none _)
      | (with_reducible refine LeO.ite ?_ ?_)
      | (with_reducible refine LeO.bind ?_ (fun _ => ?_))
      | exact ih0 _ _ _ _ _ _ _
      | exact ih1 _ _ _ _ _ _ _ _
      | exact r18_holds.mono _ _ _
      | exact LeO.none _
      | refine LeO.ite ?_ ?_
      | refine LeO.bind ?_ (fun _ => ?_)
set_option maxHeartbeats 8000000 in
set_option maxRecDepth 100000 in
theorem r18_wide.calls (k : Nat) (a0_0 : Int) (a0_1 : Bool) (a0_2 : Bool) (a0_3 : Bool) (a0_4 : Int) (a0_5 : Int) (r : Int) (w : World) (h : r18_wide.f k a0_0 a0_1 a0_2 a0_3 a0_4 a0_5 = some r) :
    Calls Tryz.prog 98 #[.agg #[.int .u8 a0_0, .bool a0_1, .bool a0_2, .bool a0_3, .int .i64 a0_4, .int .i64 a0_5]] w fun e w' => e = .returned (.int .i64 r) ∧ Below w.heap.size w w' := by
  have hu81 := Tryz.underlying81
  have HB := Aside0.mk (Below.refl w.heap.size w)
  have H : (if a0_0 = 10 then (some 0) else ((r18_holds.f k (⟨#[105, 108, 46, 44, 39, 33, 124, 58, 32]⟩ : ByteArray) a0_0).bind fun t205 => (if t205 = true then (r18_wide.j0 k 1 a0_0 a0_1 a0_2 a0_3 a0_4 a0_5) else (r18_wide.j0 k 2 a0_0 a0_1 a0_2 a0_3 a0_4 a0_5)))) = some r := h
  clear h
  by_cases c2 : a0_0 = 10
  · rw [if_pos c2] at H
    have c2b0 : (a0_0 == 10) = true := beq_iff_eq.mpr c2
    have c2b1 : (a0_0 != 10) = false := bne_eq_false_iff_eq.mpr c2
    clear c2
    obtain rfl := Option.some.inj H
    go_enter Tryz.func98, Tryz.ntmps98
    go_wp2_with (first | ((with_reducible refine gate_dst (N := 1) rfl ?_); refine box_event ?hg (N := 1) ?hd (cs := #[.int .u8 a0_0, .bool a0_1, .bool a0_2, .bool a0_3, .int .i64 a0_4, .int .i64 a0_5]) (t := 81) ?hr ?_; (case hd => rfl); (case hg => rfl); (case hr => first | (go_simp; done) | (go_simp; rfl)); intro gb204 hg w3 hbox hb; have n0_ := Aside0.mk (below_step (by repeat (first | (with_reducible first | exact HB.out | apply below_alloc | apply pw_below_drewN | apply below_drew1) | exact HB.out)) hb); have n1_ := Aside0.mk (hbox); have n2_ := Aside0.mk ((by rw [hg]; exact (below_size (by repeat (first | (with_reducible first | exact HB.out | apply below_alloc | apply pw_below_drewN | apply below_drew1) | exact HB.out))) : w.heap.size ≤ gb204)); have n3_ := Aside0.mk ((by rw [hg]; exact (below_size (by repeat (first | (with_reducible first | exact HB.out | apply below_alloc | apply pw_below_drewN | apply below_drew1) | exact HB.out))) : w.heap.size ≤ gb204)); clear HB; have HB := n0_; have BK204 := n1_; have GW204 := n2_; have GE204 := n3_; clear n0_ n1_ n2_ n3_; clear hb hbox hg; have hcz4_0 : w3.cell? ⟨gb204, 0, none⟩ = some (.int .u8 a0_0) := (blk_cell BK204.out 0).trans rfl; have hcz4_1 : w3.cell? ⟨gb204, 1, none⟩ = some (.bool a0_1) := (blk_cell BK204.out 1).trans rfl; have hcz4_2 : w3.cell? ⟨gb204, 2, none⟩ = some (.bool a0_2) := (blk_cell BK204.out 2).trans rfl; have hcz4_3 : w3.cell? ⟨gb204, 3, none⟩ = some (.bool a0_3) := (blk_cell BK204.out 3).trans rfl; have hcz4_4 : w3.cell? ⟨gb204, 4, none⟩ = some (.int .i64 a0_4) := (blk_cell BK204.out 4).trans rfl; have hcz4_5 : w3.cell? ⟨gb204, 5, none⟩ = some (.int .i64 a0_5) := (blk_cell BK204.out 5).trans rfl; have hfz4_0 := blk_frozen BK204.out 0; have hfz4_1 := blk_frozen BK204.out 1; have hfz4_2 := blk_frozen BK204.out 2; have hfz4_3 := blk_frozen BK204.out 3; have hfz4_4 := blk_frozen BK204.out 4; have hfz4_5 := blk_frozen BK204.out 5))
    go_ret
    exact ⟨by first | rfl | (simp [errW_none, errW_some] <;> rfl) | (simp [*, errW_none, errW_some] <;> rfl), by repeat (first | (with_reducible first | exact HB.out | apply below_alloc | apply pw_below_drewN | apply below_drew1 | refine below_set ?_ GE204.out) | exact HB.out)⟩
  · rw [if_neg c2] at H
    have c2b0 : (a0_0 == 10) = false := beq_eq_false_iff_ne.mpr c2
    have c2b1 : (a0_0 != 10) = true := bne_iff_ne.mpr c2
    replace H := Option.bind_eq_some_iff.mp H
    obtain ⟨t205, A50, H⟩ := H
    replace H : (if t205 = true then (r18_wide.j0 k 1 a0_0 a0_1 a0_2 a0_3 a0_4 a0_5) else (r18_wide.j0 k 2 a0_0 a0_1 a0_2 a0_3 a0_4 a0_5)) = some r := H
    have A5 := Aside0.mk A50
    clear A50
    have HC6 := Aside0.mk H
    clear H
    go_enter Tryz.func98, Tryz.ntmps98
    go_upto_if 10 with (first | ((with_reducible refine gate_dst (N := 1) rfl ?_); refine box_event ?hg (N := 1) ?hd (cs := #[.int .u8 a0_0, .bool a0_1, .bool a0_2, .bool a0_3, .int .i64 a0_4, .int .i64 a0_5]) (t := 81) ?hr ?_; (case hd => rfl); (case hg => rfl); (case hr => first | (go_simp; done) | (go_simp; rfl)); intro gb204 hg w7 hbox hb; have n0_ := Aside0.mk (below_step (by repeat (first | (with_reducible first | exact HB.out | apply below_alloc | apply pw_below_drewN | apply below_drew1) | exact HB.out)) hb); have n1_ := Aside0.mk (hbox); have n2_ := Aside0.mk ((by rw [hg]; exact (below_size (by repeat (first | (with_reducible first | exact HB.out | apply below_alloc | apply pw_below_drewN | apply below_drew1) | exact HB.out))) : w.heap.size ≤ gb204)); have n3_ := Aside0.mk ((by rw [hg]; exact (below_size (by repeat (first | (with_reducible first | exact HB.out | apply below_alloc | apply pw_below_drewN | apply below_drew1) | exact HB.out))) : w.heap.size ≤ gb204)); clear HB; have HB := n0_; have BK204 := n1_; have GW204 := n2_; have GE204 := n3_; clear n0_ n1_ n2_ n3_; clear hb hbox hg; have hcz8_0 : w7.cell? ⟨gb204, 0, none⟩ = some (.int .u8 a0_0) := (blk_cell BK204.out 0).trans rfl; have hcz8_1 : w7.cell? ⟨gb204, 1, none⟩ = some (.bool a0_1) := (blk_cell BK204.out 1).trans rfl; have hcz8_2 : w7.cell? ⟨gb204, 2, none⟩ = some (.bool a0_2) := (blk_cell BK204.out 2).trans rfl; have hcz8_3 : w7.cell? ⟨gb204, 3, none⟩ = some (.bool a0_3) := (blk_cell BK204.out 3).trans rfl; have hcz8_4 : w7.cell? ⟨gb204, 4, none⟩ = some (.int .i64 a0_4) := (blk_cell BK204.out 4).trans rfl; have hcz8_5 : w7.cell? ⟨gb204, 5, none⟩ = some (.int .i64 a0_5) := (blk_cell BK204.out 5).trans rfl; have hfz8_0 := blk_frozen BK204.out 0; have hfz8_1 := blk_frozen BK204.out 1; have hfz8_2 := blk_frozen BK204.out 2; have hfz8_3 := blk_frozen BK204.out 3; have hfz8_4 := blk_frozen BK204.out 4; have hfz8_5 := blk_frozen BK204.out 5) | ((with_reducible refine gate_callee (f := 125) rfl ?_); refine goesL_ (some 10) rfl rfl Tryz.func125 (by kernel_rfl) rfl #[.string (⟨#[105, 108, 46, 44, 39, 33, 124, 58, 32]⟩ : ByteArray), .int .u8 a0_0] rfl (by (try simp only [List.map_toArray, List.map_cons, List.map_nil]); first | done | rfl | (simp only [List.length_drop, List.length_take]; rfl)) ?_; (with_reducible refine (r18_holds.calls k (⟨#[105, 108, 46, 44, 39, 33, 124, 58, 32]⟩ : ByteArray) a0_0 t205 _ A5.out).mono ?_); rintro e w' ⟨rfl, ⟨nd, rfl⟩⟩; refine ⟨_, rfl, ?_⟩))
    (try simp only [Act.put, List.setIfInBounds_toArray, List.set_cons_zero, List.set_cons_succ])
    go_cut [3] (fun v3 wc => ∃ (kq : Nat) (x3_5 : Int), v3 = .int .i64 x3_5 ∧ Aside0 (r18_wide.j0 kq x3_5 a0_0 a0_1 a0_2 a0_3 a0_4 a0_5 = some r) ∧ Aside0 (kq ≤ k) ∧ Aside0 (wc.heap[gb204]? = some (.cells #[.int .u8 a0_0, .bool a0_1, .bool a0_2, .bool a0_3, .int .i64 a0_4, .int .i64 a0_5] 81 (0, 0))) ∧ Aside0 (Below w.heap.size w wc))
    case first =>
      have H := HC6.out
      clear HC6
      by_cases c9 : t205 = true
      · subst c9
        have H1 : (r18_wide.j0 k 1 a0_0 a0_1 a0_2 a0_3 a0_4 a0_5) = some r := by rw [if_pos rfl] at H; exact H
        clear H
        have H := H1
        clear H1
        have H' := Aside0.mk H
        clear H
        go_wp2
        go_meet
        case rel => exact ⟨_, (1), (by first | rfl | (simp; done) | (simp [*]; done)), H', ⟨by first | omega | exact Nat.le_refl _⟩, ⟨by (with_reducible repeat (first | refine blk_drewN ?_ _ | refine blk_drew ?_ | refine blk_alloc ?_ _)); exact BK204.out⟩, ⟨by repeat (first | (with_reducible first | exact HB.out | apply below_alloc | apply pw_below_drewN | apply below_drew1 | refine below_set ?_ GE204.out) | exact HB.out)⟩⟩
      · replace c9 := Bool.eq_false_iff.mpr c9
        subst c9
        have H1 : (r18_wide.j0 k 2 a0_0 a0_1 a0_2 a0_3 a0_4 a0_5) = some r := by rw [if_neg (show ¬ (false = true) by decide)] at H; exact H
        clear H
        have H := H1
        clear H1
        have H' := Aside0.mk H
        clear H
        go_wp2
        go_meet
        case rel => exact ⟨_, (2), (by first | rfl | (simp; done) | (simp [*]; done)), H', ⟨by first | omega | exact Nat.le_refl _⟩, ⟨by (with_reducible repeat (first | refine blk_drewN ?_ _ | refine blk_drew ?_ | refine blk_alloc ?_ _)); exact BK204.out⟩, ⟨by repeat (first | (with_reducible first | exact HB.out | apply below_alloc | apply pw_below_drewN | apply below_drew1 | refine below_set ?_ GE204.out) | exact HB.out)⟩⟩
    case rest =>
      clear HC6
      try clear c1
      try clear c2
      try clear c2b0
      try clear c2b1
      try clear p2
      try clear c9
      try clear hcz4_0
      try clear hcz4_1
      try clear hcz4_2
      try clear hcz4_3
      try clear hcz4_4
      try clear hcz4_5
      try clear hcz8_0
      try clear hcz8_1
      try clear hcz8_2
      try clear hcz8_3
      try clear hcz8_4
      try clear hcz8_5
      try clear hfz4_0
      try clear hfz4_1
      try clear hfz4_2
      try clear hfz4_3
      try clear hfz4_4
      try clear hfz4_5
      try clear hfz8_0
      try clear hfz8_1
      try clear hfz8_2
      try clear hfz8_3
      try clear hfz8_4
      try clear hfz8_5
      obtain ⟨kq, x3_5, rfl, HA, HJ5, BK204, HB⟩ := hcut
      cases kq with
      | zero => exact absurd HA.out (by simp [r18_wide.j0])
      | succ kj5 =>
        have H := HA.out
        clear HA
        simp only [r18_wide.j0] at H
        have HC10 := Aside0.mk H
        clear H
        go_upto_region 6 with (fail)
        go_cut [19] (fun v19 wc => ∃ (kq : Nat) (x19_9 : Bool), v19 = .bool x19_9 ∧ Aside0 (r18_wide.j1 kq x3_5 x19_9 a0_0 a0_1 a0_2 a0_3 a0_4 a0_5 = some r) ∧ Aside0 (kq ≤ kj5) ∧ Aside0 (wc.heap[gb204]? = some (.cells #[.int .u8 a0_0, .bool a0_1, .bool a0_2, .bool a0_3, .int .i64 a0_4, .int .i64 a0_5] 81 (0, 0))) ∧ Aside0 (Below w.heap.size w wc))
        case first =>
          have H := HC10.out
          clear HC10
          replace H := Option.bind_eq_some_iff.mp H
          obtain ⟨t206, A110, H⟩ := H
          replace H : (if t206 = true then (r18_wide.j1 kj5 x3_5 true a0_0 a0_1 a0_2 a0_3 a0_4 a0_5) else ((r18_holds.f kj5 (⟨#[109, 119, 64, 35]⟩ : ByteArray) a0_0).bind fun t207 => (r18_wide.j1 kj5 x3_5 t207 a0_0 a0_1 a0_2 a0_3 a0_4 a0_5))) = some r := H
          have A11 := Aside0.mk A110
          clear A110
          by_cases c12 : t206 = true
          · subst c12
            have H1 : (r18_wide.j1 kj5 x3_5 true a0_0 a0_1 a0_2 a0_3 a0_4 a0_5) = some r := by rw [if_pos rfl] at H; exact H
            clear H
            have H := H1
            clear H1
            have H' := Aside0.mk H
            clear H
            have hcz13_0 : wc.cell? ⟨gb204, 0, none⟩ = some (.int .u8 a0_0) := (blk_cell BK204.out 0).trans rfl
            have hcz13_1 : wc.cell? ⟨gb204, 1, none⟩ = some (.bool a0_1) := (blk_cell BK204.out 1).trans rfl
            have hcz13_2 : wc.cell? ⟨gb204, 2, none⟩ = some (.bool a0_2) := (blk_cell BK204.out 2).trans rfl
            have hcz13_3 : wc.cell? ⟨gb204, 3, none⟩ = some (.bool a0_3) := (blk_cell BK204.out 3).trans rfl
            have hcz13_4 : wc.cell? ⟨gb204, 4, none⟩ = some (.int .i64 a0_4) := (blk_cell BK204.out 4).trans rfl
            have hcz13_5 : wc.cell? ⟨gb204, 5, none⟩ = some (.int .i64 a0_5) := (blk_cell BK204.out 5).trans rfl
            have hfz13_0 := blk_frozen BK204.out 0
            have hfz13_1 := blk_frozen BK204.out 1
            have hfz13_2 := blk_frozen BK204.out 2
            have hfz13_3 := blk_frozen BK204.out 3
            have hfz13_4 := blk_frozen BK204.out 4
            have hfz13_5 := blk_frozen BK204.out 5
            go_wp2_with (first | ((with_reducible refine gate_callee (f := 51) rfl ?_); refine goesL_ (some 14) rfl rfl Tryz.func51 (by kernel_rfl) rfl #[.int .i64 (wrap64 (a0_0)), .int .i64 65, .int .i64 90] rfl (by (try simp only [List.map_toArray, List.map_cons, List.map_nil]); first | done | rfl | (simp only [List.length_drop, List.length_take]; rfl)) ?_; (with_reducible refine (r18_in.calls (wrap64 (a0_0)) 65 90 true _ A11.out).mono ?_); rintro e w' ⟨rfl, ⟨nd, rfl⟩⟩; refine ⟨_, rfl, ?_⟩))
            go_meet
            case rel => exact ⟨_, (true), (by first | rfl | (simp; done) | (simp [*]; done)), H', ⟨by have := HJ5.out; first | omega | exact Nat.le_refl _⟩, ⟨by (with_reducible repeat (first | refine blk_drewN ?_ _ | refine blk_drew ?_ | refine blk_alloc ?_ _)); exact BK204.out⟩, ⟨by repeat (first | (with_reducible first | exact HB.out | apply below_alloc | apply pw_below_drewN | apply below_drew1 | refine below_set ?_ GE204.out) | exact HB.out)⟩⟩
          · replace c12 := Bool.eq_false_iff.mpr c12
            subst c12
            have H1 : ((r18_holds.f kj5 (⟨#[109, 119, 64, 35]⟩ : ByteArray) a0_0).bind fun t207 => (r18_wide.j1 kj5 x3_5 t207 a0_0 a0_1 a0_2 a0_3 a0_4 a0_5)) = some r := by rw [if_neg (show ¬ (false = true) by decide)] at H; exact H
            clear H
            have H := H1
            clear H1
            replace H := Option.bind_eq_some_iff.mp H
            obtain ⟨t207, A140, H⟩ := H
            replace H : (r18_wide.j1 kj5 x3_5 t207 a0_0 a0_1 a0_2 a0_3 a0_4 a0_5) = some r := H
            have A14 := Aside0.mk A140
            clear A140
            have H' := Aside0.mk H
            clear H
            have hcz15_0 : wc.cell? ⟨gb204, 0, none⟩ = some (.int .u8 a0_0) := (blk_cell BK204.out 0).trans rfl
            have hcz15_1 : wc.cell? ⟨gb204, 1, none⟩ = some (.bool a0_1) := (blk_cell BK204.out 1).trans rfl
            have hcz15_2 : wc.cell? ⟨gb204, 2, none⟩ = some (.bool a0_2) := (blk_cell BK204.out 2).trans rfl
            have hcz15_3 : wc.cell? ⟨gb204, 3, none⟩ = some (.bool a0_3) := (blk_cell BK204.out 3).trans rfl
            have hcz15_4 : wc.cell? ⟨gb204, 4, none⟩ = some (.int .i64 a0_4) := (blk_cell BK204.out 4).trans rfl
            have hcz15_5 : wc.cell? ⟨gb204, 5, none⟩ = some (.int .i64 a0_5) := (blk_cell BK204.out 5).trans rfl
            have hfz15_0 := blk_frozen BK204.out 0
            have hfz15_1 := blk_frozen BK204.out 1
            have hfz15_2 := blk_frozen BK204.out 2
            have hfz15_3 := blk_frozen BK204.out 3
            have hfz15_4 := blk_frozen BK204.out 4
            have hfz15_5 := blk_frozen BK204.out 5
            go_wp2_with (first | ((with_reducible refine gate_callee (f := 51) rfl ?_); refine goesL_ (some 14) rfl rfl Tryz.func51 (by kernel_rfl) rfl #[.int .i64 (wrap64 (a0_0)), .int .i64 65, .int .i64 90] rfl (by (try simp only [List.map_toArray, List.map_cons, List.map_nil]); first | done | rfl | (simp only [List.length_drop, List.length_take]; rfl)) ?_; (with_reducible refine (r18_in.calls (wrap64 (a0_0)) 65 90 false _ A11.out).mono ?_); rintro e w' ⟨rfl, ⟨nd, rfl⟩⟩; refine ⟨_, rfl, ?_⟩) | (go_at_call 125; (with_reducible refine (r18_holds.calls kj5 (⟨#[109, 119, 64, 35]⟩ : ByteArray) a0_0 t207 _ A14.out).mono ?_); rintro e w' ⟨rfl, ⟨nd, rfl⟩⟩))
            go_meet
            case rel => exact ⟨_, (t207), (by first | rfl | (simp; done) | (simp [*]; done)), H', ⟨by have := HJ5.out; first | omega | exact Nat.le_refl _⟩, ⟨by (with_reducible repeat (first | refine blk_drewN ?_ _ | refine blk_drew ?_ | refine blk_alloc ?_ _)); exact BK204.out⟩, ⟨by repeat (first | (with_reducible first | exact HB.out | apply below_alloc | apply pw_below_drewN | apply below_drew1 | refine below_set ?_ GE204.out) | exact HB.out)⟩⟩
        case rest =>
          clear HC10
          try clear c1
          try clear c2
          try clear c2b0
          try clear c2b1
          try clear p2
          try clear c5
          try clear p6
          try clear c9
          try clear c12
          try clear hcz13_0
          try clear hcz13_1
          try clear hcz13_2
          try clear hcz13_3
          try clear hcz13_4
          try clear hcz13_5
          try clear hcz15_0
          try clear hcz15_1
          try clear hcz15_2
          try clear hcz15_3
          try clear hcz15_4
          try clear hcz15_5
          try clear hcz4_0
          try clear hcz4_1
          try clear hcz4_2
          try clear hcz4_3
          try clear hcz4_4
          try clear hcz4_5
          try clear hcz8_0
          try clear hcz8_1
          try clear hcz8_2
          try clear hcz8_3
          try clear hcz8_4
          try clear hcz8_5
          try clear hfz13_0
          try clear hfz13_1
          try clear hfz13_2
          try clear hfz13_3
          try clear hfz13_4
          try clear hfz13_5
          try clear hfz15_0
          try clear hfz15_1
          try clear hfz15_2
          try clear hfz15_3
          try clear hfz15_4
          try clear hfz15_5
          try clear hfz4_0
          try clear hfz4_1
          try clear hfz4_2
          try clear hfz4_3
          try clear hfz4_4
          try clear hfz4_5
          try clear hfz8_0
          try clear hfz8_1
          try clear hfz8_2
          try clear hfz8_3
          try clear hfz8_4
          try clear hfz8_5
          try clear p2
          obtain ⟨kq, x19_9, rfl, HA, HJ9, BK204, HB⟩ := hcut
          cases kq with
          | zero => exact absurd HA.out (by simp [r18_wide.j1])
          | succ kj9 =>
            have H := HA.out
            clear HA
            simp only [r18_wide.j1] at H
            by_cases c16 : x19_9 = true
            · subst c16
              have H1 : (if a0_1 = true then (some (wrap64 ((wrap64 (a0_4 * 3)) + 1))) else (some (wrap64 (a0_4 * 3)))) = some r := by rw [if_pos rfl] at H; exact H
              clear H
              have H := H1
              clear H1
              by_cases c17 : a0_1 = true
              · subst c17
                have H1 : (some (wrap64 ((wrap64 (a0_4 * 3)) + 1))) = some r := by rw [if_pos rfl] at H; exact H
                clear H
                have H := H1
                clear H1
                obtain rfl := Option.some.inj H
                have hcz18_0 : wc.cell? ⟨gb204, 0, none⟩ = some (.int .u8 a0_0) := (blk_cell BK204.out 0).trans rfl
                have hcz18_1 : wc.cell? ⟨gb204, 1, none⟩ = some (.bool true) := (blk_cell BK204.out 1).trans rfl
                have hcz18_2 : wc.cell? ⟨gb204, 2, none⟩ = some (.bool a0_2) := (blk_cell BK204.out 2).trans rfl
                have hcz18_3 : wc.cell? ⟨gb204, 3, none⟩ = some (.bool a0_3) := (blk_cell BK204.out 3).trans rfl
                have hcz18_4 : wc.cell? ⟨gb204, 4, none⟩ = some (.int .i64 a0_4) := (blk_cell BK204.out 4).trans rfl
                have hcz18_5 : wc.cell? ⟨gb204, 5, none⟩ = some (.int .i64 a0_5) := (blk_cell BK204.out 5).trans rfl
                have hfz18_0 := blk_frozen BK204.out 0
                have hfz18_1 := blk_frozen BK204.out 1
                have hfz18_2 := blk_frozen BK204.out 2
                have hfz18_3 := blk_frozen BK204.out 3
                have hfz18_4 := blk_frozen BK204.out 4
                have hfz18_5 := blk_frozen BK204.out 5
                go_wp2
                go_ret
                exact ⟨by first | rfl | (simp [errW_none, errW_some] <;> rfl) | (simp [*, errW_none, errW_some] <;> rfl), by repeat (first | (with_reducible first | exact HB.out | apply below_alloc | apply pw_below_drewN | apply below_drew1 | refine below_set ?_ GE204.out) | exact HB.out)⟩
              · replace c17 := Bool.eq_false_iff.mpr c17
                subst c17
                have H1 : (some (wrap64 (a0_4 * 3))) = some r := by rw [if_neg (show ¬ (false = true) by decide)] at H; exact H
                clear H
                have H := H1
                clear H1
                obtain rfl := Option.some.inj H
                have hcz19_0 : wc.cell? ⟨gb204, 0, none⟩ = some (.int .u8 a0_0) := (blk_cell BK204.out 0).trans rfl
                have hcz19_1 : wc.cell? ⟨gb204, 1, none⟩ = some (.bool false) := (blk_cell BK204.out 1).trans rfl
                have hcz19_2 : wc.cell? ⟨gb204, 2, none⟩ = some (.bool a0_2) := (blk_cell BK204.out 2).trans rfl
                have hcz19_3 : wc.cell? ⟨gb204, 3, none⟩ = some (.bool a0_3) := (blk_cell BK204.out 3).trans rfl
                have hcz19_4 : wc.cell? ⟨gb204, 4, none⟩ = some (.int .i64 a0_4) := (blk_cell BK204.out 4).trans rfl
                have hcz19_5 : wc.cell? ⟨gb204, 5, none⟩ = some (.int .i64 a0_5) := (blk_cell BK204.out 5).trans rfl
                have hfz19_0 := blk_frozen BK204.out 0
                have hfz19_1 := blk_frozen BK204.out 1
                have hfz19_2 := blk_frozen BK204.out 2
                have hfz19_3 := blk_frozen BK204.out 3
                have hfz19_4 := blk_frozen BK204.out 4
                have hfz19_5 := blk_frozen BK204.out 5
                go_wp2
                go_ret
                exact ⟨by first | rfl | (simp [errW_none, errW_some] <;> rfl) | (simp [*, errW_none, errW_some] <;> rfl), by repeat (first | (with_reducible first | exact HB.out | apply below_alloc | apply pw_below_drewN | apply below_drew1 | refine below_set ?_ GE204.out) | exact HB.out)⟩
            · replace c16 := Bool.eq_false_iff.mpr c16
              subst c16
              have H1 : (if a0_1 = true then (some (wrap64 ((wrap64 (a0_4 * x3_5)) + 1))) else (some (wrap64 (a0_4 * x3_5)))) = some r := by rw [if_neg (show ¬ (false = true) by decide)] at H; exact H
              clear H
              have H := H1
              clear H1
              by_cases c20 : a0_1 = true
              · subst c20
                have H1 : (some (wrap64 ((wrap64 (a0_4 * x3_5)) + 1))) = some r := by rw [if_pos rfl] at H; exact H
                clear H
                have H := H1
                clear H1
                obtain rfl := Option.some.inj H
                have hcz21_0 : wc.cell? ⟨gb204, 0, none⟩ = some (.int .u8 a0_0) := (blk_cell BK204.out 0).trans rfl
                have hcz21_1 : wc.cell? ⟨gb204, 1, none⟩ = some (.bool true) := (blk_cell BK204.out 1).trans rfl
                have hcz21_2 : wc.cell? ⟨gb204, 2, none⟩ = some (.bool a0_2) := (blk_cell BK204.out 2).trans rfl
                have hcz21_3 : wc.cell? ⟨gb204, 3, none⟩ = some (.bool a0_3) := (blk_cell BK204.out 3).trans rfl
                have hcz21_4 : wc.cell? ⟨gb204, 4, none⟩ = some (.int .i64 a0_4) := (blk_cell BK204.out 4).trans rfl
                have hcz21_5 : wc.cell? ⟨gb204, 5, none⟩ = some (.int .i64 a0_5) := (blk_cell BK204.out 5).trans rfl
                have hfz21_0 := blk_frozen BK204.out 0
                have hfz21_1 := blk_frozen BK204.out 1
                have hfz21_2 := blk_frozen BK204.out 2
                have hfz21_3 := blk_frozen BK204.out 3
                have hfz21_4 := blk_frozen BK204.out 4
                have hfz21_5 := blk_frozen BK204.out 5
                go_wp2
                go_ret
                exact ⟨by first | rfl | (simp [errW_none, errW_some] <;> rfl) | (simp [*, errW_none, errW_some] <;> rfl), by repeat (first | (with_reducible first | exact HB.out | apply below_alloc | apply pw_below_drewN | apply below_drew1 | refine below_set ?_ GE204.out) | exact HB.out)⟩
              · replace c20 := Bool.eq_false_iff.mpr c20
                subst c20
                have H1 : (some (wrap64 (a0_4 * x3_5))) = some r := by rw [if_neg (show ¬ (false = true) by decide)] at H; exact H
                clear H
                have H := H1
                clear H1
                obtain rfl := Option.some.inj H
                have hcz22_0 : wc.cell? ⟨gb204, 0, none⟩ = some (.int .u8 a0_0) := (blk_cell BK204.out 0).trans rfl
                have hcz22_1 : wc.cell? ⟨gb204, 1, none⟩ = some (.bool false) := (blk_cell BK204.out 1).trans rfl
                have hcz22_2 : wc.cell? ⟨gb204, 2, none⟩ = some (.bool a0_2) := (blk_cell BK204.out 2).trans rfl
                have hcz22_3 : wc.cell? ⟨gb204, 3, none⟩ = some (.bool a0_3) := (blk_cell BK204.out 3).trans rfl
                have hcz22_4 : wc.cell? ⟨gb204, 4, none⟩ = some (.int .i64 a0_4) := (blk_cell BK204.out 4).trans rfl
                have hcz22_5 : wc.cell? ⟨gb204, 5, none⟩ = some (.int .i64 a0_5) := (blk_cell BK204.out 5).trans rfl
                have hfz22_0 := blk_frozen BK204.out 0
                have hfz22_1 := blk_frozen BK204.out 1
                have hfz22_2 := blk_frozen BK204.out 2
                have hfz22_3 := blk_frozen BK204.out 3
                have hfz22_4 := blk_frozen BK204.out 4
                have hfz22_5 := blk_frozen BK204.out 5
                go_wp2
                go_ret
                exact ⟨by first | rfl | (simp [errW_none, errW_some] <;> rfl) | (simp [*, errW_none, errW_some] <;> rfl), by repeat (first | (with_reducible first | exact HB.out | apply below_alloc | apply pw_below_drewN | apply below_drew1 | refine below_set ?_ GE204.out) | exact HB.out)⟩


/-! ### r18_length: function 61 -/
def r18_length.l0 : Nat → List (S81) → Int → Int → Option (Int)
  | 0, _, _, _ => none
  | k + 1, x0, x3, x4 => if x4 < (x0.length : Int) then (if 0 ≤ x4 then ((r18_wide.f k ((rd_T81 x0 x4).f0) ((rd_T81 x0 x4).f1.f0) ((rd_T81 x0 x4).f1.f1) ((rd_T81 x0 x4).f1.f2) ((rd_T81 x0 x4).f1.f3) ((rd_T81 x0 x4).f1.f4)).bind fun t209 => (r18_length.l0 k x0 (wrap64 (x3 + t209)) (wrap64 (x4 + 1)))) else (none)) else (some x3)
def r18_length.f (k : Nat) (l0 : List (S81)) : Option (Int) := r18_length.l0 k l0 0 0
theorem r18_length.mono_l : ∀ k, (∀ y0 y1 y2, LeO (r18_length.l0 k y0 y1 y2) (r18_length.l0 (k + 1) y0 y1 y2))
  | 0 => fun _ _ _ r h => by simp [r18_length.l0] at h
  | k + 1 => by
    have ih0 := r18_length.mono_l k
    · intro y0 y1 y2
      unfold r18_length.l0
      repeat' first
      | (with_reducible exact ih0 _ _ _)
      | (with_reducible exact r18_wide.mono _ _ _ _ _ _ _)
      | (with_reducible exact LeO.refl _)
      | (with_reducible exact LeO.none _)
      | (with_reducible refine LeO.ite ?_ ?_)
      | (with_reducible refine LeO.bind ?_ (fun _ => ?_))
      | exact ih0 _ _ _
      | exact r18_wide.mono _ _ _ _ _ _ _
      | exact LeO.none _
      | refine LeO.ite ?_ ?_
      | refine LeO.bind ?_ (fun _ => ?_)
theorem r18_length.mono : ∀ a0 k, LeO (r18_length.f k a0) (r18_length.f (k + 1) a0) := by
  intro a0 k
  have ih0 := r18_length.mono_l k
  unfold r18_length.f
  repeat' first
      | (with_reducible exact ih0 _ _ _)
      | (with_reducible exact r18_wide.mono _ _ _ _ _ _ _)
      | (with_reducible exact LeO.refl _)
      | (with_reducible exact LeO.none _)
      | (with_reducible refine LeO.ite ?_ ?_)
      | (with_reducible refine LeO.bind ?_ (fun _ => ?_))
      | exact ih0 _ _ _
      | exact r18_wide.mono _ _ _ _ _ _ _
      | exact LeO.none _
      | refine LeO.ite ?_ ?_
      | refine LeO.bind ?_ (fun _ => ?_)
set_option maxHeartbeats 8000000 in
set_option maxRecDepth 100000 in
theorem r18_length.calls (k : Nat) (A0 : Option Addr) (c0 : Nat) (l0 : List (S81)) (r : Int) (w : World) (hr0 : Kd.C k81 w A0 l0.length l0) (hc0 : l0.length ≤ c0) (h : r18_length.f k l0 = some r) :
    Calls Tryz.prog 61 #[.slice A0 l0.length c0] w fun e w' => e = .returned (.int .i64 r) ∧ Below w.heap.size w w' := by
  have hu81 := Tryz.underlying81
  have HR0 := Aside0.mk hr0
  have HC0 := Aside0.mk hc0
  clear hr0 hc0
  have HB := Aside0.mk (Below.refl w.heap.size w)
  have H : (r18_length.l0 k l0 0 0) = some r := h
  clear h
  have H' := Aside0.mk H
  clear H
  go_enter Tryz.func61, Tryz.ntmps61
  go_wp2
  go_loopg [3, 4] k (fun kq v3 v4 w' => ∃ (x3_1 : Int) (x4_1 : Int), v3 = .int .i64 x3_1 ∧ v4 = .int .i64 x4_1 ∧ Aside0 (r18_length.l0 kq l0 x3_1 x4_1 = some r) ∧ Aside0 (kq ≤ k) ∧ Aside0 (Below w.heap.size w w'))
  case atStart => exact ⟨(0), (0), (by first | rfl | (simp; done) | (simp [*]; done)), (by first | rfl | (simp; done) | (simp [*]; done)), H', ⟨Nat.le_refl _⟩, ⟨by repeat (first | (with_reducible first | exact HB.out | apply below_alloc | apply pw_below_drewN | apply below_drew1) | exact HB.out)⟩⟩
  case round =>
    clear H'
    obtain ⟨x3_1, x4_1, rfl, rfl, HA, HK1, HB⟩ := hrel
    cases gk with
    | zero => exact absurd HA.out (by simp [r18_length.l0])
    | succ k1 =>
      have H := HA.out
      clear HA
      simp only [r18_length.l0] at H
      by_cases c2 : x4_1 < (l0.length : Int)
      · rw [if_pos c2] at H
        have c2b0 : decide (x4_1 < (l0.length : Int)) = true := decide_eq_true c2
        clear c2
        by_cases c3 : 0 ≤ x4_1
        · rw [if_pos c3] at H
          have c3b0 : decide (0 ≤ x4_1) = true := decide_eq_true c3
          clear c3
          replace H := Option.bind_eq_some_iff.mp H
          obtain ⟨t209, A40, H⟩ := H
          replace H : (r18_length.l0 k1 l0 (wrap64 (x3_1 + t209)) (wrap64 (x4_1 + 1))) = some r := H
          have A4 := Aside0.mk A40
          clear A40
          have H' := Aside0.mk H
          clear H
          have p208 : 0 ≤ (x4_1 : Int) := of_decide_eq_true (by first | (with_reducible assumption) | assumption)
          have q208 : x4_1 < (l0.length : Int) := of_decide_eq_true (by first | (with_reducible assumption) | assumption)
          obtain ⟨ad208, e208, hx208_0, hx208_1, hx208_2, hx208_3, hx208_4, hx208_5⟩ := at_T81 HR0.out x4_1 p208 q208
          cases e208
          replace hx208_0 := (HB.out.cell (World.block_lt_of_cell? w _ hx208_0)).trans hx208_0
          replace hx208_1 := (HB.out.cell (World.block_lt_of_cell? w _ hx208_1)).trans hx208_1
          replace hx208_2 := (HB.out.cell (World.block_lt_of_cell? w _ hx208_2)).trans hx208_2
          replace hx208_3 := (HB.out.cell (World.block_lt_of_cell? w _ hx208_3)).trans hx208_3
          replace hx208_4 := (HB.out.cell (World.block_lt_of_cell? w _ hx208_4)).trans hx208_4
          replace hx208_5 := (HB.out.cell (World.block_lt_of_cell? w _ hx208_5)).trans hx208_5
          replace p208 := eq_true p208
          replace q208 := eq_true q208
          go_wp2_with (first | ((with_reducible refine gate_callee (f := 98) rfl ?_); refine goesL_ (some 16) rfl rfl Tryz.func98 (by kernel_rfl) rfl #[.agg #[.int .u8 ((rd_T81 l0 x4_1).f0), .bool ((rd_T81 l0 x4_1).f1.f0), .bool ((rd_T81 l0 x4_1).f1.f1), .bool ((rd_T81 l0 x4_1).f1.f2), .int .i64 ((rd_T81 l0 x4_1).f1.f3), .int .i64 ((rd_T81 l0 x4_1).f1.f4)]] rfl (by (try simp only [List.map_toArray, List.map_cons, List.map_nil]); first | done | rfl | (simp only [List.length_drop, List.length_take]; rfl)) ?_; (with_reducible refine (r18_wide.calls k1 ((rd_T81 l0 x4_1).f0) ((rd_T81 l0 x4_1).f1.f0) ((rd_T81 l0 x4_1).f1.f1) ((rd_T81 l0 x4_1).f1.f2) ((rd_T81 l0 x4_1).f1.f3) ((rd_T81 l0 x4_1).f1.f4) t209 _ A4.out).mono ?_); rintro e w5 ⟨rfl, hb⟩; refine ⟨_, rfl, ?_⟩; have n0_ := Aside0.mk (below_step (by repeat (first | (with_reducible first | exact HB.out | apply below_alloc | apply pw_below_drewN | apply below_drew1) | exact HB.out)) hb); clear HB; have HB := n0_; clear n0_; (try clear hb); (try clear hb2); (try clear hk); (try clear hi)))
          go_roundg k1
          case measure => have := HK1.out; omega
          case rel => exact ⟨(wrap64 (x3_1 + t209)), (wrap64 (x4_1 + 1)), (by first | rfl | (simp; done) | (simp [*]; done)), (by first | rfl | (simp; done) | (simp [*]; done)), H', ⟨by have := HK1.out; omega⟩, ⟨by repeat (first | (with_reducible first | exact HB.out | apply below_alloc | apply pw_below_drewN | apply below_drew1) | exact HB.out)⟩⟩
        · rw [if_neg c3] at H
          exact absurd H (by simp)
      · rw [if_neg c2] at H
        have c2b0 : decide (x4_1 < (l0.length : Int)) = false := decide_eq_false c2
        clear c2
        obtain rfl := Option.some.inj H
        go_wp2
        go_ret
        exact ⟨by first | rfl | (simp [errW_none, errW_some] <;> rfl) | (simp [*, errW_none, errW_some] <;> rfl), by repeat (first | (with_reducible first | exact HB.out | apply below_alloc | apply pw_below_drewN | apply below_drew1) | exact HB.out)⟩


/-! ### r18_Width: function 24 -/
def r18_Width.f (k : Nat) (a0_0 : ByteArray) (a0_1 : Bool) (a0_2 : Bool) (a0_3 : Bool) (a0_4 : Int) (a0_5 : Int) : Option (Int) := (r18_letters.f k 0 0 0 (([(⟨a0_0, (⟨a0_1, a0_2, a0_3, a0_4, a0_5⟩ : S40)⟩ : S42)] : List (S42)))).bind fun t214 => ((r18_length.f k t214).bind fun t217 => (some t217))
theorem r18_Width.mono : ∀ a0 a1 a2 a3 a4 a5 k, LeO (r18_Width.f k a0 a1 a2 a3 a4 a5) (r18_Width.f (k + 1) a0 a1 a2 a3 a4 a5) := by
  intro a0 a1 a2 a3 a4 a5 k
  unfold r18_Width.f
  repeat' first
      | (with_reducible exact r18_length.mono _ _)
      | (with_reducible exact r18_letters.mono _ _ _ _ _)
      | (with_reducible exact LeO.refl _)
      | (with_reducible exact LeO.none _)
      | (with_reducible refine LeO.ite ?_ ?_)
      | (with_reducible refine LeO.bind ?_ (fun _ => ?_))
      | exact r18_length.mono _ _
      | exact r18_letters.mono _ _ _ _ _
      | exact LeO.none _
      | refine LeO.ite ?_ ?_
      | refine LeO.bind ?_ (fun _ => ?_)
set_option maxHeartbeats 8000000 in
set_option maxRecDepth 100000 in
theorem r18_Width.calls (k : Nat) (a0_0 : ByteArray) (a0_1 : Bool) (a0_2 : Bool) (a0_3 : Bool) (a0_4 : Int) (a0_5 : Int) (r : Int) (w : World) (h : r18_Width.f k a0_0 a0_1 a0_2 a0_3 a0_4 a0_5 = some r) :
    Calls Tryz.prog 24 #[.agg #[.string a0_0, .bool a0_1, .bool a0_2, .bool a0_3, .int .i64 a0_4, .int .i64 a0_5]] w fun e w' => e = .returned (.int .i64 r) ∧ Below w.heap.size w w' := by
  have hu42 := Tryz.underlying42
  have hu25 := Tryz.underlying25
  have HB := Aside0.mk (Below.refl w.heap.size w)
  have H : ((r18_letters.f k 0 0 0 (([(⟨a0_0, (⟨a0_1, a0_2, a0_3, a0_4, a0_5⟩ : S40)⟩ : S42)] : List (S42)))).bind fun t214 => ((r18_length.f k t214).bind fun t217 => (some t217))) = some r := h
  clear h
  obtain ⟨y211, hy211⟩ : ∃ y_ : List (S42), y_ = (([(⟨a0_0, (⟨a0_1, a0_2, a0_3, a0_4, a0_5⟩ : S40)⟩ : S42)] : List (S42))) := ⟨_, rfl⟩
  replace H : ((r18_letters.f k 0 0 0 y211).bind fun t214 => ((r18_length.f k t214).bind fun t217 => (some t217))) = some r := by first | (rw [hy211]; with_reducible exact H) | (have H2_ := (Option.bind_some _ _).symm.trans H; rw [hy211]; with_reducible exact H2_) | (have H2_ := (Option.bind_some _ _).symm.trans H; with_reducible exact H2_) | with_reducible exact H | (rw [hy211]; exact H) | exact H
  have Ny211 := Aside0.mk hy211
  clear hy211
  replace H := Option.bind_eq_some_iff.mp H
  obtain ⟨t214, A20, H⟩ := H
  replace H : ((r18_length.f k t214).bind fun t217 => (some t217)) = some r := H
  have A2 := Aside0.mk A20
  clear A20
  replace H := Option.bind_eq_some_iff.mp H
  obtain ⟨t217, A30, H⟩ := H
  replace H : (some t217) = some r := H
  have A3 := Aside0.mk A30
  clear A30
  obtain rfl := Option.some.inj H
  go_enter Tryz.func24, Tryz.ntmps24
  go_wp2_with (first | ((with_reducible refine gate_dst (N := 1) rfl ?_); refine box_event ?hg (N := 1) ?hd (cs := #[.string a0_0, .bool a0_1, .bool a0_2, .bool a0_3, .int .i64 a0_4, .int .i64 a0_5]) (t := 42) ?hr ?_; (case hd => rfl); (case hg => rfl); (case hr => first | (go_simp; done) | (go_simp; rfl)); intro gb210 hg w4 hbox hb; have n0_ := Aside0.mk (below_step (by repeat (first | (with_reducible first | exact HB.out | apply below_alloc | apply pw_below_drewN | apply below_drew1) | exact HB.out)) hb); have n1_ := Aside0.mk (hbox); have n2_ := Aside0.mk ((by rw [hg]; exact (below_size (by repeat (first | (with_reducible first | exact HB.out | apply below_alloc | apply pw_below_drewN | apply below_drew1) | exact HB.out))) : w.heap.size ≤ gb210)); have n3_ := Aside0.mk ((by rw [hg]; exact (below_size (by repeat (first | (with_reducible first | exact HB.out | apply below_alloc | apply pw_below_drewN | apply below_drew1) | exact HB.out))) : w.heap.size ≤ gb210)); clear HB; have HB := n0_; have BK210 := n1_; have GW210 := n2_; have GE210 := n3_; clear n0_ n1_ n2_ n3_; clear hb hbox hg; have hcz5_0 : w4.cell? ⟨gb210, 0, none⟩ = some (.string a0_0) := (blk_cell BK210.out 0).trans rfl; have hcz5_1 : w4.cell? ⟨gb210, 1, none⟩ = some (.bool a0_1) := (blk_cell BK210.out 1).trans rfl; have hcz5_2 : w4.cell? ⟨gb210, 2, none⟩ = some (.bool a0_2) := (blk_cell BK210.out 2).trans rfl; have hcz5_3 : w4.cell? ⟨gb210, 3, none⟩ = some (.bool a0_3) := (blk_cell BK210.out 3).trans rfl; have hcz5_4 : w4.cell? ⟨gb210, 4, none⟩ = some (.int .i64 a0_4) := (blk_cell BK210.out 4).trans rfl; have hcz5_5 : w4.cell? ⟨gb210, 5, none⟩ = some (.int .i64 a0_5) := (blk_cell BK210.out 5).trans rfl; have hfz5_0 := blk_frozen BK210.out 0; have hfz5_1 := blk_frozen BK210.out 1; have hfz5_2 := blk_frozen BK210.out 2; have hfz5_3 := blk_frozen BK210.out 3; have hfz5_4 := blk_frozen BK210.out 4; have hfz5_5 := blk_frozen BK210.out 5) | ((with_reducible refine gate_dst (N := 4) rfl ?_); refine Kd.R_lit k42 _ 42 ?hg (N := 4) ?hd (xs := ([(⟨a0_0, (⟨a0_1, a0_2, a0_3, a0_4, a0_5⟩ : S40)⟩ : S42)] : List (S42))) (inner := [.string a0_0, .bool a0_1, .bool a0_2, .bool a0_3, .int .i64 a0_4, .int .i64 a0_5]) (ok := fun _ => True) (okp := fun _ => True) ?hr ?hp (fun _ hk => hk) trivial (Below.refl _ _) (Nat.le_refl _) (by simp) ?_; (case hd => rfl); (case hg => rfl); (case hr => first | (go_simp; done) | (go_simp; rfl)); (case hp => exact (Reps.c6 (show Kd.M k42 _ _ _ (⟨a0_0, (⟨a0_1, a0_2, a0_3, a0_4, a0_5⟩ : S40)⟩ : S42) [.string a0_0, .bool a0_1, .bool a0_2, .bool a0_3, .int .i64 a0_4, .int .i64 a0_5] from (k42_mkM _ _ _ (⟨a0_0, (⟨a0_1, a0_2, a0_3, a0_4, a0_5⟩ : S40)⟩ : S42) )) (Reps.none _ _))); intro v212 w6 ho7 hb hg_ hnew_; clear hg_ hnew_; (first | rw [← Ny211.out] at ho7 | (simp only [Int.reduceToNat] at ho7; rw [← Ny211.out] at ho7)); have n0_ := Aside0.mk (Kd.R_lower (Kd.R_newB ho7 (g := gb210) (o := .cells #[.string a0_0, .bool a0_1, .bool a0_2, .bool a0_3, .int .i64 a0_4, .int .i64 a0_5] 42 (0, 0)) (by (with_reducible repeat (first | refine blk_drewN ?_ _ | refine blk_drew ?_ | refine blk_alloc ?_ _)); exact BK210.out)) (below_size (by repeat (first | (with_reducible first | exact HB.out | apply below_alloc | apply pw_below_drewN | apply below_drew1 | refine below_set ?_ GE210.out) | exact HB.out)))); have n1_ := Aside0.mk (blk_below (g := gb210) (o := .cells #[.string a0_0, .bool a0_1, .bool a0_2, .bool a0_3, .int .i64 a0_4, .int .i64 a0_5] 42 (0, 0)) (by (with_reducible repeat (first | refine blk_drewN ?_ _ | refine blk_drew ?_ | refine blk_alloc ?_ _)); exact BK210.out) hb); have n2_ := Aside0.mk (below_step (by repeat (first | (with_reducible first | exact HB.out | apply below_alloc | apply pw_below_drewN | apply below_drew1 | refine below_set ?_ GE210.out) | exact HB.out)) hb); clear BK210; clear HB; have HO213 := n0_; have BK210 := n1_; have HB := n2_; clear n0_ n1_ n2_; clear hb ho7; obtain ⟨Ao8, co8, eo8⟩ := Kd.R_slice HO213.out; subst eo8) | ((with_reducible refine gate_callee (f := 59) rfl ?_); refine goesL_ (some 6) rfl rfl Tryz.func59 (by kernel_rfl) rfl #[.agg #[.int .i64 0, .int .i64 0, .int .i64 0, .slice Ao8 y211.length co8]] rfl (by (try simp only [List.map_toArray, List.map_cons, List.map_nil]); first | done | rfl | (simp only [List.length_drop, List.length_take]; rfl)) ?_; (with_reducible refine (r18_letters.calls k 0 0 0 _ _ y211 t214 _ ?side1 ?side2 A2.out).mono ?_); (case side1 => repeat (first | exact (Kd.R_reads' HO213.out).2.2 | (with_reducible refine Kd.C_alloc ?_ _) | (with_reducible refine Kd.C_drewN ?_ _) | (with_reducible refine Kd.C_drew ?_))); (case side2 => exact (Kd.R_reads' HO213.out).2.1); rintro e w9 ⟨v215, rfl, ho0, hb⟩; refine ⟨_, rfl, ?_⟩; have n0_ := Aside0.mk (Kd.R_below (by (with_reducible repeat (first | apply Kd.R_alloc | apply Kd.R_drewN | apply Kd.R_drew)); exact HO213.out) hb); have n1_ := Aside0.mk (Kd.R_lower ho0 (below_size (by repeat (first | (with_reducible first | exact HB.out | apply below_alloc | apply pw_below_drewN | apply below_drew1 | refine below_set ?_ GE210.out) | exact HB.out)))); have n2_ := Aside0.mk (blk_below (g := gb210) (o := .cells #[.string a0_0, .bool a0_1, .bool a0_2, .bool a0_3, .int .i64 a0_4, .int .i64 a0_5] 42 (0, 0)) (by (with_reducible repeat (first | refine blk_drewN ?_ _ | refine blk_drew ?_ | refine blk_alloc ?_ _)); exact BK210.out) hb); have n3_ := Aside0.mk (below_step (by repeat (first | (with_reducible first | exact HB.out | apply below_alloc | apply pw_below_drewN | apply below_drew1 | refine below_set ?_ GE210.out) | exact HB.out)) hb); clear HO213; clear BK210; clear HB; have HO213 := n0_; have HO216 := n1_; have BK210 := n2_; have HB := n3_; clear n0_ n1_ n2_ n3_; (try clear hb); (try clear hb2); (try clear hk); (try clear hi); (try clear ho0); obtain ⟨Ao10, co10, eo10⟩ := Kd.R_slice HO216.out; subst eo10) | ((with_reducible refine gate_callee (f := 61) rfl ?_); refine goesL_ (some 7) rfl rfl Tryz.func61 (by kernel_rfl) rfl #[.slice Ao10 t214.length co10] rfl (by (try simp only [List.map_toArray, List.map_cons, List.map_nil]); first | done | rfl | (simp only [List.length_drop, List.length_take]; rfl)) ?_; (with_reducible refine (r18_length.calls k _ _ t214 t217 _ ?side1 ?side2 A3.out).mono ?_); (case side1 => repeat (first | exact (Kd.R_reads' HO216.out).2.2 | (with_reducible refine Kd.C_alloc ?_ _) | (with_reducible refine Kd.C_drewN ?_ _) | (with_reducible refine Kd.C_drew ?_))); (case side2 => exact (Kd.R_reads' HO216.out).2.1); rintro e w11 ⟨rfl, hb⟩; refine ⟨_, rfl, ?_⟩; have n0_ := Aside0.mk (Kd.R_below (by (with_reducible repeat (first | apply Kd.R_alloc | apply Kd.R_drewN | apply Kd.R_drew)); exact HO213.out) hb); have n1_ := Aside0.mk (Kd.R_below (by (with_reducible repeat (first | apply Kd.R_alloc | apply Kd.R_drewN | apply Kd.R_drew)); exact HO216.out) hb); have n2_ := Aside0.mk (blk_below (g := gb210) (o := .cells #[.string a0_0, .bool a0_1, .bool a0_2, .bool a0_3, .int .i64 a0_4, .int .i64 a0_5] 42 (0, 0)) (by (with_reducible repeat (first | refine blk_drewN ?_ _ | refine blk_drew ?_ | refine blk_alloc ?_ _)); exact BK210.out) hb); have n3_ := Aside0.mk (below_step (by repeat (first | (with_reducible first | exact HB.out | apply below_alloc | apply pw_below_drewN | apply below_drew1 | refine below_set ?_ GE210.out) | exact HB.out)) hb); clear HO213; clear HO216; clear BK210; clear HB; have HO213 := n0_; have HO216 := n1_; have BK210 := n2_; have HB := n3_; clear n0_ n1_ n2_ n3_; (try clear hb); (try clear hb2); (try clear hk); (try clear hi)))
  go_ret
  exact ⟨by first | rfl | (simp [errW_none, errW_some] <;> rfl) | (simp [*, errW_none, errW_some] <;> rfl), by repeat (first | (with_reducible first | exact HB.out | apply below_alloc | apply pw_below_drewN | apply below_drew1 | refine below_set ?_ GE210.out) | exact HB.out)⟩


/-! ### r18_Lines: function 28 -/
def r18_Lines.l0 : Nat → ByteArray → Int → Int → Option (Int)
  | 0, _, _, _ => none
  | k + 1, x3, x4, x5 => if x5 < (x3.size : Int) then (if 0 ≤ x5 then (if (bt x3 x5) = 10 then (r18_Lines.l0 k x3 (wrap64 (x4 + 1)) (wrap64 (x5 + 1))) else (r18_Lines.l0 k x3 x4 (wrap64 (x5 + 1)))) else (none)) else (some x4)
def r18_Lines.f (k : Nat) (a0_0 : Int) (a0_1 : Int) (a0_2 : Int) (l0_3 : List (S42)) : Option (Int) := (r18_Words.f k a0_0 a0_1 a0_2 l0_3).bind fun t219 => (r18_Lines.l0 k t219 1 0)
theorem r18_Lines.mono_l : ∀ k, (∀ y0 y1 y2, LeO (r18_Lines.l0 k y0 y1 y2) (r18_Lines.l0 (k + 1) y0 y1 y2))
  | 0 => fun _ _ _ r h => by simp [r18_Lines.l0] at h
  | k + 1 => by
    have ih0 := r18_Lines.mono_l k
    · intro y0 y1 y2
      unfold r18_Lines.l0
      repeat' first
      | (with_reducible exact ih0 _ _ _)
      | (with_reducible exact r18_Words.mono _ _ _ _ _)
      | (with_reducible exact LeO.refl _)
      | (with_reducible exact LeO.none _)
      | (with_reducible refine LeO.ite ?_ ?_)
      | (with_reducible refine LeO.bind ?_ (fun _ => ?_))
      | exact ih0 _ _ _
      | exact r18_Words.mono _ _ _ _ _
      | exact LeO.none _
      | refine LeO.ite ?_ ?_
      | refine LeO.bind ?_ (fun _ => ?_)
theorem r18_Lines.mono : ∀ a0 a1 a2 a3 k, LeO (r18_Lines.f k a0 a1 a2 a3) (r18_Lines.f (k + 1) a0 a1 a2 a3) := by
  intro a0 a1 a2 a3 k
  have ih0 := r18_Lines.mono_l k
  unfold r18_Lines.f
  repeat' first
      | (with_reducible exact ih0 _ _ _)
      | (with_reducible exact r18_Words.mono _ _ _ _ _)
      | (with_reducible exact LeO.refl _)
      | (with_reducible exact LeO.none _)
      | (with_reducible refine LeO.ite ?_ ?_)
      | (with_reducible refine LeO.bind ?_ (fun _ => ?_))
      | exact ih0 _ _ _
      | exact r18_Words.mono _ _ _ _ _
      | exact LeO.none _
      | refine LeO.ite ?_ ?_
      | refine LeO.bind ?_ (fun _ => ?_)
set_option maxHeartbeats 8000000 in
set_option maxRecDepth 100000 in
theorem r18_Lines.calls (k : Nat) (a0_0 : Int) (a0_1 : Int) (a0_2 : Int) (A0_3 : Option Addr) (c0_3 : Nat) (l0_3 : List (S42)) (r : Int) (w : World) (hr0_3 : Kd.C k42 w A0_3 l0_3.length l0_3) (hc0_3 : l0_3.length ≤ c0_3) (h : r18_Lines.f k a0_0 a0_1 a0_2 l0_3 = some r) :
    Calls Tryz.prog 28 #[.agg #[.int .i64 a0_0, .int .i64 a0_1, .int .i64 a0_2, .slice A0_3 l0_3.length c0_3]] w fun e w' => e = .returned (.int .i64 r) ∧ Below w.heap.size w w' := by
  have hu25 := Tryz.underlying25
  have HR0_3 := Aside0.mk hr0_3
  have HC0_3 := Aside0.mk hc0_3
  clear hr0_3 hc0_3
  have HB := Aside0.mk (Below.refl w.heap.size w)
  have H : ((r18_Words.f k a0_0 a0_1 a0_2 l0_3).bind fun t219 => (r18_Lines.l0 k t219 1 0)) = some r := h
  clear h
  replace H := Option.bind_eq_some_iff.mp H
  obtain ⟨t219, A20, H⟩ := H
  replace H : (r18_Lines.l0 k t219 1 0) = some r := H
  have A2 := Aside0.mk A20
  clear A20
  have H' := Aside0.mk H
  clear H
  go_enter Tryz.func28, Tryz.ntmps28
  go_wp2_with (first | ((with_reducible refine gate_dst (N := 1) rfl ?_); refine box_event ?hg (N := 1) ?hd (cs := #[.int .i64 a0_0, .int .i64 a0_1, .int .i64 a0_2, .slice A0_3 l0_3.length c0_3]) (t := 25) ?hr ?_; (case hd => rfl); (case hg => rfl); (case hr => first | (go_simp; done) | (go_simp; rfl)); intro gb218 hg w3 hbox hb; have n0_ := Aside0.mk (below_step (by repeat (first | (with_reducible first | exact HB.out | apply below_alloc | apply pw_below_drewN | apply below_drew1) | exact HB.out)) hb); have n1_ := Aside0.mk (hbox); have n2_ := Aside0.mk ((by rw [hg]; exact (below_size (by repeat (first | (with_reducible first | exact HB.out | apply below_alloc | apply pw_below_drewN | apply below_drew1) | exact HB.out))) : w.heap.size ≤ gb218)); have n3_ := Aside0.mk ((by rw [hg]; exact (below_size (by repeat (first | (with_reducible first | exact HB.out | apply below_alloc | apply pw_below_drewN | apply below_drew1) | exact HB.out))) : w.heap.size ≤ gb218)); clear HB; have HB := n0_; have BK218 := n1_; have GW218 := n2_; have GE218 := n3_; clear n0_ n1_ n2_ n3_; clear hb hbox hg; have hcz4_0 : w3.cell? ⟨gb218, 0, none⟩ = some (.int .i64 a0_0) := (blk_cell BK218.out 0).trans rfl; have hcz4_1 : w3.cell? ⟨gb218, 1, none⟩ = some (.int .i64 a0_1) := (blk_cell BK218.out 1).trans rfl; have hcz4_2 : w3.cell? ⟨gb218, 2, none⟩ = some (.int .i64 a0_2) := (blk_cell BK218.out 2).trans rfl; have hcz4_3 : w3.cell? ⟨gb218, 3, none⟩ = some (.slice A0_3 l0_3.length c0_3) := (blk_cell BK218.out 3).trans rfl; have hfz4_0 := blk_frozen BK218.out 0; have hfz4_1 := blk_frozen BK218.out 1; have hfz4_2 := blk_frozen BK218.out 2; have hfz4_3 := blk_frozen BK218.out 3) | ((with_reducible refine gate_callee (f := 30) rfl ?_); refine goesL_ (some 7) rfl rfl Tryz.func30 (by kernel_rfl) rfl #[.agg #[.int .i64 a0_0, .int .i64 a0_1, .int .i64 a0_2, .slice A0_3 l0_3.length c0_3]] rfl (by (try simp only [List.map_toArray, List.map_cons, List.map_nil]); first | done | rfl | (simp only [List.length_drop, List.length_take]; rfl)) ?_; (with_reducible refine (r18_Words.calls k a0_0 a0_1 a0_2 _ _ l0_3 t219 _ ?side1 ?side2 A2.out).mono ?_); (case side1 => repeat (first | exact (Kd.C_below HR0_3.out HB.out) | (with_reducible refine Kd.C_alloc ?_ _) | (with_reducible refine Kd.C_drewN ?_ _) | (with_reducible refine Kd.C_drew ?_))); (case side2 => exact HC0_3.out); rintro e w5 ⟨rfl, hb⟩; refine ⟨_, rfl, ?_⟩; have n0_ := Aside0.mk (blk_below (g := gb218) (o := .cells #[.int .i64 a0_0, .int .i64 a0_1, .int .i64 a0_2, .slice A0_3 l0_3.length c0_3] 25 (0, 0)) (by (with_reducible repeat (first | refine blk_drewN ?_ _ | refine blk_drew ?_ | refine blk_alloc ?_ _)); exact BK218.out) hb); have n1_ := Aside0.mk (below_step (by repeat (first | (with_reducible first | exact HB.out | apply below_alloc | apply pw_below_drewN | apply below_drew1 | refine below_set ?_ GE218.out) | exact HB.out)) hb); clear BK218; clear HB; have BK218 := n0_; have HB := n1_; clear n0_ n1_; (try clear hb); (try clear hb2); (try clear hk); (try clear hi)))
  go_loopg [4, 5] k (fun kq v4 v5 w' => ∃ (x4_1 : Int) (x5_1 : Int), v4 = .int .i64 x4_1 ∧ v5 = .int .i64 x5_1 ∧ Aside0 (r18_Lines.l0 kq t219 x4_1 x5_1 = some r) ∧ Aside0 (kq ≤ k) ∧ Aside0 (w'.heap[gb218]? = some (.cells #[.int .i64 a0_0, .int .i64 a0_1, .int .i64 a0_2, (.slice A0_3 l0_3.length c0_3)] 25 (0, 0))) ∧ Aside0 (Below w.heap.size w w'))
  case atStart => exact ⟨(1), (0), (by first | rfl | (simp; done) | (simp [*]; done)), (by first | rfl | (simp; done) | (simp [*]; done)), H', ⟨Nat.le_refl _⟩, ⟨by (with_reducible repeat (first | refine blk_drewN ?_ _ | refine blk_drew ?_ | refine blk_alloc ?_ _)); exact BK218.out⟩, ⟨by repeat (first | (with_reducible first | exact HB.out | apply below_alloc | apply pw_below_drewN | apply below_drew1 | refine below_set ?_ GE218.out) | exact HB.out)⟩⟩
  case round =>
    clear H'
    try clear c2
    try clear p2
    try clear c3
    try clear hcz4_0
    try clear hcz4_1
    try clear hcz4_2
    try clear hcz4_3
    try clear hfz4_0
    try clear hfz4_1
    try clear hfz4_2
    try clear hfz4_3
    obtain ⟨x4_1, x5_1, rfl, rfl, HA, HK1, BK218, HB⟩ := hrel
    cases gk with
    | zero => exact absurd HA.out (by simp [r18_Lines.l0])
    | succ k1 =>
      have H := HA.out
      clear HA
      simp only [r18_Lines.l0] at H
      by_cases c6 : x5_1 < (t219.size : Int)
      · rw [if_pos c6] at H
        have c6b0 : decide (x5_1 < (t219.size : Int)) = true := decide_eq_true c6
        clear c6
        by_cases c7 : 0 ≤ x5_1
        · rw [if_pos c7] at H
          have c7b0 : decide (0 ≤ x5_1) = true := decide_eq_true c7
          clear c7
          by_cases c9 : (bt t219 x5_1) = 10
          · rw [if_pos c9] at H
            have c9b0 : ((bt t219 x5_1) == 10) = true := beq_iff_eq.mpr c9
            have c9b1 : ((bt t219 x5_1) != 10) = false := bne_eq_false_iff_eq.mpr c9
            clear c9
            have H' := Aside0.mk H
            clear H
            have p8 : 0 ≤ (x5_1 : Int) := of_decide_eq_true (by first | (with_reducible assumption) | assumption)
            have q8 : x5_1 < (t219.size : Int) := of_decide_eq_true (by first | (with_reducible assumption) | assumption)
            have hx8 := bt_at t219 x5_1
            replace p8 := eq_true p8
            replace q8 := eq_true q8
            go_wp2
            go_roundg k1
            case measure => have := HK1.out; omega
            case rel => exact ⟨(wrap64 (x4_1 + 1)), (wrap64 (x5_1 + 1)), (by first | rfl | (simp; done) | (simp [*]; done)), (by first | rfl | (simp; done) | (simp [*]; done)), H', ⟨by have := HK1.out; omega⟩, ⟨by (with_reducible repeat (first | refine blk_drewN ?_ _ | refine blk_drew ?_ | refine blk_alloc ?_ _)); exact BK218.out⟩, ⟨by repeat (first | (with_reducible first | exact HB.out | apply below_alloc | apply pw_below_drewN | apply below_drew1 | refine below_set ?_ GE218.out) | exact HB.out)⟩⟩
          · rw [if_neg c9] at H
            have c9b0 : ((bt t219 x5_1) == 10) = false := beq_eq_false_iff_ne.mpr c9
            have c9b1 : ((bt t219 x5_1) != 10) = true := bne_iff_ne.mpr c9
            have H' := Aside0.mk H
            clear H
            have p8 : 0 ≤ (x5_1 : Int) := of_decide_eq_true (by first | (with_reducible assumption) | assumption)
            have q8 : x5_1 < (t219.size : Int) := of_decide_eq_true (by first | (with_reducible assumption) | assumption)
            have hx8 := bt_at t219 x5_1
            replace p8 := eq_true p8
            replace q8 := eq_true q8
            go_wp2
            go_roundg k1
            case measure => have := HK1.out; omega
            case rel => exact ⟨(x4_1), (wrap64 (x5_1 + 1)), (by first | rfl | (simp; done) | (simp [*]; done)), (by first | rfl | (simp; done) | (simp [*]; done)), H', ⟨by have := HK1.out; omega⟩, ⟨by (with_reducible repeat (first | refine blk_drewN ?_ _ | refine blk_drew ?_ | refine blk_alloc ?_ _)); exact BK218.out⟩, ⟨by repeat (first | (with_reducible first | exact HB.out | apply below_alloc | apply pw_below_drewN | apply below_drew1 | refine below_set ?_ GE218.out) | exact HB.out)⟩⟩
        · rw [if_neg c7] at H
          exact absurd H (by simp)
      · rw [if_neg c6] at H
        have c6b0 : decide (x5_1 < (t219.size : Int)) = false := decide_eq_false c6
        clear c6
        obtain rfl := Option.some.inj H
        go_wp2
        go_ret
        exact ⟨by first | rfl | (simp [errW_none, errW_some] <;> rfl) | (simp [*, errW_none, errW_some] <;> rfl), by repeat (first | (with_reducible first | exact HB.out | apply below_alloc | apply pw_below_drewN | apply below_drew1 | refine below_set ?_ GE218.out) | exact HB.out)⟩


/-! ### r18_isText: function 67 -/
def r18_isText.l0 : Nat → ByteArray → Int → Option (Bool)
  | 0, _, _ => none
  | k + 1, x0, x3 => if x3 < (x0.size : Int) then (if 0 ≤ x3 then (if (bt x0 x3) = 10 then (r18_isText.l0 k x0 (wrap64 (x3 + 1))) else ((r18_in.f (wrap64 (bt x0 x3)) 32 126).bind fun t220 => (if t220 = true then (r18_isText.l0 k x0 (wrap64 (x3 + 1))) else (some false)))) else (none)) else (some (decide ((x0.size : Int) > 0)))
def r18_isText.f (k : Nat) (a0 : ByteArray) : Option (Bool) := r18_isText.l0 k a0 0
theorem r18_isText.mono_l : ∀ k, (∀ y0 y1, LeO (r18_isText.l0 k y0 y1) (r18_isText.l0 (k + 1) y0 y1))
  | 0 => fun _ _ r h => by simp [r18_isText.l0] at h
  | k + 1 => by
    have ih0 := r18_isText.mono_l k
    · intro y0 y1
      unfold r18_isText.l0
      repeat' first
      | (with_reducible exact ih0 _ _)
      | (with_reducible exact LeO.refl _)
      | (with_reducible exact LeO.none _)
      | (with_reducible refine LeO.ite ?_ ?_)
      | (with_reducible refine LeO.bind ?_ (fun _ => ?_))
      | exact ih0 _ _
      | exact LeO.none _
      | refine LeO.ite ?_ ?_
      | refine LeO.bind ?_ (fun _ => ?_)
theorem r18_isText.mono : ∀ a0 k, LeO (r18_isText.f k a0) (r18_isText.f (k + 1) a0) := by
  intro a0 k
  have ih0 := r18_isText.mono_l k
  unfold r18_isText.f
  repeat' first
      | (with_reducible exact ih0 _ _)
      | (with_reducible exact LeO.refl _)
      | (with_reducible exact LeO.none _)
      | (with_reducible refine LeO.ite ?_ ?_)
      | (with_reducible refine LeO.bind ?_ (fun _ => ?_))
      | exact ih0 _ _
      | exact LeO.none _
      | refine LeO.ite ?_ ?_
      | refine LeO.bind ?_ (fun _ => ?_)
set_option maxHeartbeats 8000000 in
set_option maxRecDepth 100000 in
theorem r18_isText.calls (k : Nat) (a0 : ByteArray) (r : Bool) (w : World) (h : r18_isText.f k a0 = some r) :
    Calls Tryz.prog 67 #[.string a0] w fun e w' => e = .returned (.bool r) ∧ Drawn0 w w' := by
  have H : (r18_isText.l0 k a0 0) = some r := h
  clear h
  have H' := Aside0.mk H
  clear H
  go_enter Tryz.func67, Tryz.ntmps67
  go_wp2
  go_loopg [3] k (fun kq v3 w' => ∃ (x3_1 : Int), v3 = .int .i64 x3_1 ∧ Aside0 (r18_isText.l0 kq a0 x3_1 = some r) ∧ Aside0 (kq ≤ k) ∧ Drawn0 w w')
  case atStart => exact ⟨(0), (by first | rfl | (simp; done) | (simp [*]; done)), H', ⟨Nat.le_refl _⟩, by repeat (first | exact Drawn0.refl _ | apply Drawn0.step)⟩
  case round =>
    clear H'
    obtain ⟨x3_1, rfl, HA, HK1, ⟨m1, rfl⟩⟩ := hrel
    cases gk with
    | zero => exact absurd HA.out (by simp [r18_isText.l0])
    | succ k1 =>
      have H := HA.out
      clear HA
      simp only [r18_isText.l0] at H
      by_cases c2 : x3_1 < (a0.size : Int)
      · rw [if_pos c2] at H
        have c2b0 : decide (x3_1 < (a0.size : Int)) = true := decide_eq_true c2
        clear c2
        by_cases c3 : 0 ≤ x3_1
        · rw [if_pos c3] at H
          have c3b0 : decide (0 ≤ x3_1) = true := decide_eq_true c3
          clear c3
          by_cases c5 : (bt a0 x3_1) = 10
          · rw [if_pos c5] at H
            have c5b0 : ((bt a0 x3_1) == 10) = true := beq_iff_eq.mpr c5
            have c5b1 : ((bt a0 x3_1) != 10) = false := bne_eq_false_iff_eq.mpr c5
            clear c5
            have H' := Aside0.mk H
            clear H
            have p4 : 0 ≤ (x3_1 : Int) := of_decide_eq_true (by first | (with_reducible assumption) | assumption)
            have q4 : x3_1 < (a0.size : Int) := of_decide_eq_true (by first | (with_reducible assumption) | assumption)
            have hx4 := bt_at a0 x3_1
            replace p4 := eq_true p4
            replace q4 := eq_true q4
            go_wp2
            go_roundg k1
            case measure => have := HK1.out; omega
            case rel => exact ⟨(wrap64 (x3_1 + 1)), (by first | rfl | (simp; done) | (simp [*]; done)), H', ⟨by have := HK1.out; omega⟩, by repeat (first | exact Drawn0.refl _ | apply Drawn0.step)⟩
          · rw [if_neg c5] at H
            have c5b0 : ((bt a0 x3_1) == 10) = false := beq_eq_false_iff_ne.mpr c5
            have c5b1 : ((bt a0 x3_1) != 10) = true := bne_iff_ne.mpr c5
            replace H := Option.bind_eq_some_iff.mp H
            obtain ⟨t220, A70, H⟩ := H
            replace H : (if t220 = true then (r18_isText.l0 k1 a0 (wrap64 (x3_1 + 1))) else (some false)) = some r := H
            have A7 := Aside0.mk A70
            clear A70
            by_cases c8 : t220 = true
            · subst c8
              have H1 : (r18_isText.l0 k1 a0 (wrap64 (x3_1 + 1))) = some r := by rw [if_pos rfl] at H; exact H
              clear H
              have H := H1
              clear H1
              have H' := Aside0.mk H
              clear H
              have p4 : 0 ≤ (x3_1 : Int) := of_decide_eq_true (by first | (with_reducible assumption) | assumption)
              have q4 : x3_1 < (a0.size : Int) := of_decide_eq_true (by first | (with_reducible assumption) | assumption)
              have hx4 := bt_at a0 x3_1
              replace p4 := eq_true p4
              replace q4 := eq_true q4
              have p6 : 0 ≤ (x3_1 : Int) := of_decide_eq_true (by first | (with_reducible assumption) | assumption)
              have q6 : x3_1 < (a0.size : Int) := of_decide_eq_true (by first | (with_reducible assumption) | assumption)
              have hx6 := bt_at a0 x3_1
              replace p6 := eq_true p6
              replace q6 := eq_true q6
              go_wp2_with (first | (go_at_call 51; (with_reducible refine (r18_in.calls (wrap64 (bt a0 x3_1)) 32 126 true _ A7.out).mono ?_); rintro e w' ⟨rfl, ⟨nd, rfl⟩⟩))
              go_roundg k1
              case measure => have := HK1.out; omega
              case rel => exact ⟨(wrap64 (x3_1 + 1)), (by first | rfl | (simp; done) | (simp [*]; done)), H', ⟨by have := HK1.out; omega⟩, by repeat (first | exact Drawn0.refl _ | apply Drawn0.step)⟩
            · replace c8 := Bool.eq_false_iff.mpr c8
              subst c8
              have H1 : (some false) = some r := by rw [if_neg (show ¬ (false = true) by decide)] at H; exact H
              clear H
              have H := H1
              clear H1
              obtain rfl := Option.some.inj H
              have p4 : 0 ≤ (x3_1 : Int) := of_decide_eq_true (by first | (with_reducible assumption) | assumption)
              have q4 : x3_1 < (a0.size : Int) := of_decide_eq_true (by first | (with_reducible assumption) | assumption)
              have hx4 := bt_at a0 x3_1
              replace p4 := eq_true p4
              replace q4 := eq_true q4
              have p6 : 0 ≤ (x3_1 : Int) := of_decide_eq_true (by first | (with_reducible assumption) | assumption)
              have q6 : x3_1 < (a0.size : Int) := of_decide_eq_true (by first | (with_reducible assumption) | assumption)
              have hx6 := bt_at a0 x3_1
              replace p6 := eq_true p6
              replace q6 := eq_true q6
              go_wp2_with (first | (go_at_call 51; (with_reducible refine (r18_in.calls (wrap64 (bt a0 x3_1)) 32 126 false _ A7.out).mono ?_); rintro e w' ⟨rfl, ⟨nd, rfl⟩⟩))
              go_ret
              exact ⟨by first | rfl | (simp; done) | (simp [*]; done), by repeat (first | exact Drawn0.refl _ | apply Drawn0.step)⟩
        · rw [if_neg c3] at H
          exact absurd H (by simp)
      · rw [if_neg c2] at H
        have c2b0 : decide (x3_1 < (a0.size : Int)) = false := decide_eq_false c2
        clear c2
        obtain rfl := Option.some.inj H
        go_wp2
        go_ret
        exact ⟨by first | rfl | (simp; done) | (simp [*]; done), by repeat (first | exact Drawn0.refl _ | apply Drawn0.step)⟩


/-! ### r18_Plain: function 34 -/
def r18_Plain.f  : Option (Bool × Bool × Bool × Int × Int) := some (false, false, false, 2, 15)
set_option maxHeartbeats 8000000 in
set_option maxRecDepth 100000 in
theorem r18_Plain.calls  (r1 : Bool) (r2 : Bool) (r3 : Bool) (r4 : Int) (r5 : Int) (w : World) (h : r18_Plain.f  = some (r1, r2, r3, r4, r5)) :
    Calls Tryz.prog 34 #[] w fun e w' => e = .returned (.agg #[.bool r1, .bool r2, .bool r3, .int .i64 r4, .int .i64 r5]) ∧ Below w.heap.size w w' := by
  have hu40 := Tryz.underlying40
  have HB := Aside0.mk (Below.refl w.heap.size w)
  have H : (some (false, false, false, 2, 15)) = some (r1, r2, r3, r4, r5) := h
  clear h
  simp only [Option.some.injEq, Prod.mk.injEq] at H
  obtain ⟨rfl, rfl, rfl, rfl, rfl⟩ := H
  go_enter Tryz.func34, Tryz.ntmps34
  go_wp2_with (first | ((with_reducible refine gate_dst (N := 0) rfl ?_); refine box_event ?hg (N := 0) ?hd (cs := #[.bool false, .bool false, .bool false, .int .i64 0, .int .i64 0]) (t := 40) ?hr ?_; (case hd => rfl); (case hg => rfl); (case hr => first | (go_simp; done) | (go_simp; rfl)); intro gb302 hg w1 hbox hb; have n0_ := Aside0.mk (below_step (by repeat (first | (with_reducible first | exact HB.out | apply below_alloc | apply pw_below_drewN | apply below_drew1) | exact HB.out)) hb); have n1_ := Aside0.mk (hbox); have n2_ := Aside0.mk ((by rw [hg]; exact (below_size (by repeat (first | (with_reducible first | exact HB.out | apply below_alloc | apply pw_below_drewN | apply below_drew1) | exact HB.out))) : w.heap.size ≤ gb302)); have n3_ := Aside0.mk ((by rw [hg]; exact (below_size (by repeat (first | (with_reducible first | exact HB.out | apply below_alloc | apply pw_below_drewN | apply below_drew1) | exact HB.out))) : w.heap.size ≤ gb302)); clear HB; have HB := n0_; have BK302 := n1_; have GW302 := n2_; have GE302 := n3_; clear n0_ n1_ n2_ n3_; clear hb hbox hg; have hcz2_0 : w1.cell? ⟨gb302, 0, none⟩ = some (.bool false) := (blk_cell BK302.out 0).trans rfl; have hcz2_1 : w1.cell? ⟨gb302, 1, none⟩ = some (.bool false) := (blk_cell BK302.out 1).trans rfl; have hcz2_2 : w1.cell? ⟨gb302, 2, none⟩ = some (.bool false) := (blk_cell BK302.out 2).trans rfl; have hcz2_3 : w1.cell? ⟨gb302, 3, none⟩ = some (.int .i64 0) := (blk_cell BK302.out 3).trans rfl; have hcz2_4 : w1.cell? ⟨gb302, 4, none⟩ = some (.int .i64 0) := (blk_cell BK302.out 4).trans rfl; have hfz2_0 := blk_frozen BK302.out 0; have hfz2_1 := blk_frozen BK302.out 1; have hfz2_2 := blk_frozen BK302.out 2; have hfz2_3 := blk_frozen BK302.out 3; have hfz2_4 := blk_frozen BK302.out 4))
  refine bodyPost_ret (results_cell_row rfl _ _ gb302 40 #[.bool false, .bool false, .bool false, .int .i64 2, .int .i64 15] (0, 0) _ rfl (by (with_reducible repeat (first | refine blk_drewN ?_ _ | refine blk_drew ?_ | refine blk_alloc ?_ _)); refine blk_put (cs := #[.bool false, .bool false, .bool false, .int .i64 2, .int .i64 0]) ?_ 4 _ rfl; (with_reducible repeat (first | refine blk_drewN ?_ _ | refine blk_drew ?_ | refine blk_alloc ?_ _)); refine blk_put (cs := #[.bool false, .bool false, .bool false, .int .i64 0, .int .i64 0]) ?_ 3 _ rfl; (with_reducible repeat (first | refine blk_drewN ?_ _ | refine blk_drew ?_ | refine blk_alloc ?_ _)); refine blk_put (cs := #[.bool false, .bool false, .bool false, .int .i64 0, .int .i64 0]) ?_ 2 _ rfl; (with_reducible repeat (first | refine blk_drewN ?_ _ | refine blk_drew ?_ | refine blk_alloc ?_ _)); refine blk_put (cs := #[.bool false, .bool false, .bool false, .int .i64 0, .int .i64 0]) ?_ 1 _ rfl; (with_reducible repeat (first | refine blk_drewN ?_ _ | refine blk_drew ?_ | refine blk_alloc ?_ _)); refine blk_put (cs := #[.bool false, .bool false, .bool false, .int .i64 0, .int .i64 0]) ?_ 0 _ rfl; (with_reducible repeat (first | refine blk_drewN ?_ _ | refine blk_drew ?_ | refine blk_alloc ?_ _)); exact BK302.out) Tryz.underlying40 rfl (by kernel_rfl)) rfl ?_
  exact ⟨by first | rfl | (simp [errW_none, errW_some] <;> rfl) | (simp [*, errW_none, errW_some] <;> rfl), by repeat (first | (with_reducible first | exact HB.out | apply below_alloc | apply pw_below_drewN | apply below_drew1 | refine below_set ?_ GE302.out) | exact HB.out)⟩


end Go.Proofs.YtogidacejbjljaaGreatDoor.PTextChecks
