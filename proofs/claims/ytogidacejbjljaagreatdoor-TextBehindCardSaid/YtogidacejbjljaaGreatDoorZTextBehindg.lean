/- Lemmas on the way to the card of TextBehind, joined from: TSh TextChecksy1 TextChecksy2 TSpec TJoin BSpec TRChk TBuilder TWords TCont TChk TNorm TPcs BTaken. Conditions: as each lemma says. -/
import Derived.Test.YtogidacejbjljaaGreatDoorProg
import Derived.Shelf.Strings.Builder2
import Derived.Shelf.Small.Strs
import Derived.Shelf.Strings.Count
import Derived.Test.YtogidacejbjljaaGreatDoorZTextBehindc
import Derived.Test.YtogidacejbjljaaGreatDoorZTextBehindf
import Derived.Outline
import Derived.Lib.Hide
import Derived.IntWalk
import Derived.WalkKit
import Derived.Lib.Builder
import Derived.Laws.Externs
import Derived.Laws.IdiomCopy
import Derived.KernelRfl
import Derived.Lib.AppendStr
import Derived.Lib.UnsafeStr
import Derived.Deep.LoopGhost
import Derived.Shelf.GgClosure.StringsIndexFuncTop
import Derived.Laws.RangeAny
import Derived.Deep.RegionHeld3
import Derived.Laws.CopyRow
import Derived.Lib.SliceRun
import Derived.BigRegion
import Derived.RegionTactic
section
/- Contracts of the library at this dump: each one application of the shelf. -/
namespace Go.Proofs
open Go.Shelf Go.RowKit Go.Lib
def Tryz.lays169_ren : Go.Shelf.Ren := ⟨fun | 169 => 70 | n => n, fun | 70 => 93 | 9 => 9 | 0 => 0 | 72 => 96 | 37 => 94 | 127 => 145 | 3 => 3 | 5 => 5 | n => n, fun | n => n⟩
theorem Tryz.lays169 : Go.Proofs.Lays.n169 Tryz.prog Tryz.lays169_ren := {
 mixed := by kernel_rfl
 f169 := Tryz.func70.trans (congrArg some (by kernel_rfl))
 t0 := Tryz.underlying0
 a0 := Tryz.isAgg0
 z0 := Tryz.sizeOf0
 v0 := Tryz.zeroValue0
 t3 := Tryz.underlying3
 a3 := Tryz.isAgg3
 z3 := Tryz.sizeOf3
 v3 := Tryz.zeroValue3
 t9 := Tryz.underlying9
 a9 := Tryz.isAgg9
 z9 := Tryz.sizeOf9
 v9 := Tryz.zeroValue9
 t37 := Tryz.underlying94
 a37 := Tryz.isAgg94
 z37 := Tryz.sizeOf94
 v37 := Tryz.zeroValue94
 t70 := Tryz.underlying93
 a70 := Tryz.isAgg93
 z70 := Tryz.sizeOf93
 v70 := Tryz.zeroValue93
 t72 := Tryz.underlying96
 a72 := Tryz.isAgg96
 z72 := Tryz.sizeOf96
 v72 := Tryz.zeroValue96
 t127 := Tryz.underlying145
 a127 := Tryz.isAgg145
 z127 := Tryz.sizeOf145
 v127 := Tryz.zeroValue145 }
theorem Tryz.Builder_Extra_169 : Builder.Extra Tryz.prog Tryz.lays169_ren := {
 sizeBuilder := by kernel_rfl
 liesBuilder := by kernel_rfl
 t5 := Tryz.underlying5
 a5 := Tryz.isAgg5
 z5 := Tryz.sizeOf5
 v5 := Tryz.zeroValue5
 infoByte := by kernel_rfl
 cellsByte := by kernel_rfl
 sizeByte := by kernel_rfl
 neB5 := by decide }
theorem Tryz.Builder_String_any (B b : Nat) (l : List UInt8) (w : World) (h : Lib.IsBuilder 96 5 B b (Lib.byteCells l) w) (hBw : B ≤ w.heap.size) :
  Calls Tryz.prog 70 #[.pointer (some ⟨b, 0, none⟩)] w fun e w' => e = .returned (.string ⟨l.toArray⟩) ∧ Below B w w' := Any.Builder_String_any Tryz.lays169 Tryz.Builder_Extra_169 B b l w h hBw
def Tryz.lays137_ren : Go.Shelf.Ren := ⟨fun | 137 => 124 | 217 => 157 | 266 => 182 | n => n, fun | 9 => 9 | 5 => 5 | 3 => 3 | n => n, fun | n => n⟩
theorem Tryz.lays137 : Go.Proofs.Lays.n137 Tryz.prog Tryz.lays137_ren := {
 mixed := by kernel_rfl
 f137 := Tryz.func124.trans (congrArg some (by kernel_rfl))
 f217 := Tryz.func157.trans (congrArg some (by kernel_rfl))
 f266 := Tryz.func182.trans (congrArg some (by kernel_rfl))
 t3 := Tryz.underlying3
 a3 := Tryz.isAgg3
 z3 := Tryz.sizeOf3
 v3 := Tryz.zeroValue3
 t5 := Tryz.underlying5
 a5 := Tryz.isAgg5
 z5 := Tryz.sizeOf5
 v5 := Tryz.zeroValue5
 t9 := Tryz.underlying9
 a9 := Tryz.isAgg9
 z9 := Tryz.sizeOf9
 v9 := Tryz.zeroValue9 }
theorem Tryz.strings_IndexByte (s : ByteArray) (c : Int) (w : World) :
  Calls Tryz.prog 124 #[.string s, .int .u8 c] w fun e w' => e = .returned (.int .i64 (Lib.indexByte s.data.toList c.toNat.toUInt8)) ∧ w' = w := Any.strings_IndexByte Tryz.lays137 s c w
def Tryz.lays138_ren : Go.Shelf.Ren := ⟨fun | 138 => 68 | 195 => 100 | 218 => 101 | 143 => 102 | 219 => 127 | 217 => 157 | 225 => 158 | 224 => 159 | 267 => 160 | 266 => 182 | 314 => 183 | n => n, fun | 9 => 9 | 3 => 3 | 4 => 4 | 5 => 5 | 0 => 0 | 46 => 158 | 146 => 239 | 51 => 171 | n => n, fun | 1 => 0 | n => n⟩
theorem Tryz.lays138 : Go.Proofs.Lays.n138 Tryz.prog Tryz.lays138_ren := {
 mixed := by kernel_rfl
 f138 := Tryz.func68.trans (congrArg some (by kernel_rfl))
 f143 := Tryz.func102.trans (congrArg some (by kernel_rfl))
 f195 := Tryz.func100.trans (congrArg some (by kernel_rfl))
 f217 := Tryz.func157.trans (congrArg some (by kernel_rfl))
 f218 := Tryz.func101.trans (congrArg some (by kernel_rfl))
 f219 := Tryz.func127.trans (congrArg some (by kernel_rfl))
 f224 := Tryz.func159.trans (congrArg some (by kernel_rfl))
 f225 := Tryz.func158.trans (congrArg some (by kernel_rfl))
 f266 := Tryz.func182.trans (congrArg some (by kernel_rfl))
 f267 := Tryz.func160.trans (congrArg some (by kernel_rfl))
 f314 := Tryz.func183.trans (congrArg some (by kernel_rfl))
 t0 := Tryz.underlying0
 a0 := Tryz.isAgg0
 z0 := Tryz.sizeOf0
 v0 := Tryz.zeroValue0
 t3 := Tryz.underlying3
 a3 := Tryz.isAgg3
 z3 := Tryz.sizeOf3
 v3 := Tryz.zeroValue3
 t4 := Tryz.underlying4
 a4 := Tryz.isAgg4
 z4 := Tryz.sizeOf4
 v4 := Tryz.zeroValue4
 t5 := Tryz.underlying5
 a5 := Tryz.isAgg5
 z5 := Tryz.sizeOf5
 v5 := Tryz.zeroValue5
 t9 := Tryz.underlying9
 a9 := Tryz.isAgg9
 z9 := Tryz.sizeOf9
 v9 := Tryz.zeroValue9
 t46 := Tryz.underlying158
 a46 := Tryz.isAgg158
 z46 := Tryz.sizeOf158
 v46 := Tryz.zeroValue158
 t51 := Tryz.underlying171
 a51 := Tryz.isAgg171
 z51 := Tryz.sizeOf171
 v51 := Tryz.zeroValue171
 t146 := Tryz.underlying239
 a146 := Tryz.isAgg239
 z146 := Tryz.sizeOf239
 v146 := Tryz.zeroValue239
 g1 := by kernel_rfl }
theorem Tryz.strings_Count_one (s : ByteArray) (c : UInt8) (w : World) :
  Calls Tryz.prog 68 #[.string s, .string ⟨#[c]⟩] w fun e w' => e = .returned (.int .i64 (Lib.countByte s.data.toList c)) ∧ w' = w := Any.strings_Count_one Tryz.lays138 s c w
end Go.Proofs
end
section
-- by the kit's print program, over a listing in which some functions are constants; their contracts are proved in other texts
namespace Go.Proofs.YtogidacejbjljaaGreatDoor.PTextChecks
open Go.RowKit Go.Proofs.YtogidacejbjljaaGreatDoorW.PrintWords Go.Proofs.YtogidacejbjljaaGreatDoorW.PrintLast Go.Proofs.YtogidacejbjljaaGreatDoorW.PrintMore
set_option linter.unusedVariables false
set_option linter.unusedSimpArgs false


theorem eqA40 (d : Nat) (w : World) (x0 y0 : Bool) (x1 y1 : Bool) (x2 y2 : Bool) (x3 y3 : Int) (x4 y4 : Int) :
  (Op.equalIn (d + 2) 40 (.agg #[.bool x0, .bool x1, .bool x2, .int .i64 x3, .int .i64 x4]) (.agg #[.bool y0, .bool y1, .bool y2, .int .i64 y3, .int .i64 y4])).run Tryz.prog w = .ok (x0 == y0 && (x1 == y1 && (x2 == y2 && (x3 == y3 && (x4 == y4))))) w := by
 refine eqA_of Tryz.underlying40 (by kernel_rfl) ?_
 refine eqf_cons (by rfl) (by go_simp; rfl) (by go_simp; rfl) (by go_simp) ?_
 refine eqf_cons (by rfl) (by go_simp; rfl) (by go_simp; rfl) (by go_simp) ?_
 refine eqf_cons (by rfl) (by go_simp; rfl) (by go_simp; rfl) (by go_simp) ?_
 refine eqf_cons (by rfl) (by go_simp; rfl) (by go_simp; rfl) (by go_simp) ?_
 exact eqf_last (by rfl) (by go_simp; rfl) (by go_simp; rfl) (by go_simp)



theorem eqA42 (d : Nat) (w : World) (x0 y0 : ByteArray) (x1 y1 : Bool) (x2 y2 : Bool) (x3 y3 : Bool) (x4 y4 : Int) (x5 y5 : Int) :
  (Op.equalIn (d + 3) 42 (.agg #[.string x0, .bool x1, .bool x2, .bool x3, .int .i64 x4, .int .i64 x5]) (.agg #[.string y0, .bool y1, .bool y2, .bool y3, .int .i64 y4, .int .i64 y5])).run Tryz.prog w = .ok (x0.toList == y0.toList && ((x1 == y1 && (x2 == y2 && (x3 == y3 && (x4 == y4 && (x5 == y5))))))) w := by
 refine eqA_of Tryz.underlying42 (by kernel_rfl) ?_
 refine eqf_cons (by rfl) (by go_simp; rfl) (by go_simp; rfl) (by go_simp) ?_
 exact eqf_last (by rfl) (by go_simp) (by go_simp) (eqA40 (d + 0) w _ _ _ _ _ _ _ _ _ _)

attribute [local go_sem high] eqA40 eqA42

/-! ### text_within: function 57 -/
def text_within.f (a0 : Int) (a1 : Int) (a2 : Int) : Option (Bool) := if a0 ≥ a1 then (some (decide (a0 ≤ a2))) else (some false)
set_option maxHeartbeats 8000000 in
set_option maxRecDepth 100000 in
theorem text_within.calls (a0 : Int) (a1 : Int) (a2 : Int) (r : Bool) (w : World) (h : text_within.f a0 a1 a2 = some r) :
  Calls Tryz.prog 57 #[.int .i64 a0, .int .i64 a1, .int .i64 a2] w fun e w' => e = .returned (.bool r) ∧ Drawn0 w w' := by
 have H : (if a0 ≥ a1 then (some (decide (a0 ≤ a2))) else (some false)) = some r := h
 clear h
 by_cases c4 : a0 ≥ a1
 ·rw [if_pos c4] at H
  have c4b0 : decide (a1 ≤ a0) = true := decide_eq_true c4
  clear c4
  obtain rfl := Option.some.inj H
  go_enter Tryz.func57, Tryz.ntmps57
  go_wp2
  go_ret
  exact ⟨by first | rfl | (simp; done) | (simp [*]; done), by repeat (first | exact Drawn0.refl _ | apply Drawn0.step)⟩
 ·rw [if_neg c4] at H
  have c4b0 : decide (a1 ≤ a0) = false := decide_eq_false c4
  clear c4
  obtain rfl := Option.some.inj H
  go_enter Tryz.func57, Tryz.ntmps57
  go_wp2
  go_ret
  exact ⟨by first | rfl | (simp; done) | (simp [*]; done), by repeat (first | exact Drawn0.refl _ | apply Drawn0.step)⟩


/-! ### text_headed: function 62 -/
def text_headed.f (a0_0 : Int) (a0_1 : Int) (a0_2 : Int) (l0_3 : List (S42)) : Option (Bool) := (text_within.f a0_0 0 7).bind fun t108 => (if t108 = true then ((text_within.f a0_1 1 9).bind fun t109 => (if t109 = true then ((text_within.f a0_2 0 100).bind fun t110 => (some t110)) else (some false))) else (some false))
set_option maxHeartbeats 8000000 in
set_option maxRecDepth 100000 in
theorem text_headed.calls (a0_0 : Int) (a0_1 : Int) (a0_2 : Int) (A0_3 : Option Addr) (c0_3 : Nat) (l0_3 : List (S42)) (r : Bool) (w : World) (hr0_3 : Kd.C k42 w A0_3 l0_3.length l0_3) (hc0_3 : l0_3.length ≤ c0_3) (h : text_headed.f a0_0 a0_1 a0_2 l0_3 = some r) :
  Calls Tryz.prog 62 #[.agg #[.int .i64 a0_0, .int .i64 a0_1, .int .i64 a0_2, .slice A0_3 l0_3.length c0_3]] w fun e w' => e = .returned (.bool r) ∧ Below w.heap.size w w' := by
 have hu25 := Tryz.underlying25
 have HR0_3 := Aside0.mk hr0_3
 have HC0_3 := Aside0.mk hc0_3
 clear hr0_3 hc0_3
 have HB := Aside0.mk (Below.refl w.heap.size w)
 have H : ((text_within.f a0_0 0 7).bind fun t108 => (if t108 = true then ((text_within.f a0_1 1 9).bind fun t109 => (if t109 = true then ((text_within.f a0_2 0 100).bind fun t110 => (some t110)) else (some false))) else (some false))) = some r := h
 clear h
 replace H := Option.bind_eq_some_iff.mp H
 obtain ⟨t108, A20, H⟩ := H
 replace H : (if t108 = true then ((text_within.f a0_1 1 9).bind fun t109 => (if t109 = true then ((text_within.f a0_2 0 100).bind fun t110 => (some t110)) else (some false))) else (some false)) = some r := H
 have A2 := Aside0.mk A20
 clear A20
 by_cases c3 : t108 = true
 ·subst c3
  have H1 : ((text_within.f a0_1 1 9).bind fun t109 => (if t109 = true then ((text_within.f a0_2 0 100).bind fun t110 => (some t110)) else (some false))) = some r := by rw [if_pos rfl] at H; exact H
  clear H
  have H := H1
  clear H1
  replace H := Option.bind_eq_some_iff.mp H
  obtain ⟨t109, A40, H⟩ := H
  replace H : (if t109 = true then ((text_within.f a0_2 0 100).bind fun t110 => (some t110)) else (some false)) = some r := H
  have A4 := Aside0.mk A40
  clear A40
  by_cases c5 : t109 = true
  ·subst c5
   have H1 : ((text_within.f a0_2 0 100).bind fun t110 => (some t110)) = some r := by rw [if_pos rfl] at H; exact H
   clear H
   have H := H1
   clear H1
   replace H := Option.bind_eq_some_iff.mp H
   obtain ⟨t110, A60, H⟩ := H
   replace H : (some t110) = some r := H
   have A6 := Aside0.mk A60
   clear A60
   obtain rfl := Option.some.inj H
   go_enter Tryz.func62, Tryz.ntmps62
   go_wp2_with (first | ((with_reducible refine gate_dst (N := 1) rfl ?_); refine box_event ?hg (N := 1) ?hd (cs := #[.int .i64 a0_0, .int .i64 a0_1, .int .i64 a0_2, .slice A0_3 l0_3.length c0_3]) (t := 25) ?hr ?_; (case hd => rfl); (case hg => rfl); (case hr => first | (go_simp; done) | (go_simp; rfl)); intro gb107 hg w7 hbox hb; have n0_ := Aside0.mk (below_step (by repeat (first | (with_reducible first | exact HB.out | apply below_alloc | apply pw_below_drewN | apply below_drew1) | exact HB.out)) hb); have n1_ := Aside0.mk (hbox); have n2_ := Aside0.mk ((by rw [hg]; exact (below_size (by repeat (first | (with_reducible first | exact HB.out | apply below_alloc | apply pw_below_drewN | apply below_drew1) | exact HB.out))) : w.heap.size ≤ gb107)); have n3_ := Aside0.mk ((by rw [hg]; exact (below_size (by repeat (first | (with_reducible first | exact HB.out | apply below_alloc | apply pw_below_drewN | apply below_drew1) | exact HB.out))) : w.heap.size ≤ gb107)); clear HB; have HB := n0_; have BK107 := n1_; have GW107 := n2_; have GE107 := n3_; clear n0_ n1_ n2_ n3_; clear hb hbox hg; have hcz8_0 : w7.cell? ⟨gb107, 0, none⟩ = some (.int .i64 a0_0) := (blk_cell BK107.out 0).trans rfl; have hcz8_1 : w7.cell? ⟨gb107, 1, none⟩ = some (.int .i64 a0_1) := (blk_cell BK107.out 1).trans rfl; have hcz8_2 : w7.cell? ⟨gb107, 2, none⟩ = some (.int .i64 a0_2) := (blk_cell BK107.out 2).trans rfl; have hcz8_3 : w7.cell? ⟨gb107, 3, none⟩ = some (.slice A0_3 l0_3.length c0_3) := (blk_cell BK107.out 3).trans rfl; have hfz8_0 := blk_frozen BK107.out 0; have hfz8_1 := blk_frozen BK107.out 1; have hfz8_2 := blk_frozen BK107.out 2; have hfz8_3 := blk_frozen BK107.out 3) | ((with_reducible refine gate_callee (f := 57) rfl ?_); refine goesL_ (some 5) rfl rfl Tryz.func57 (by kernel_rfl) rfl #[.int .i64 a0_0, .int .i64 0, .int .i64 7] rfl (by (try simp only [List.map_toArray, List.map_cons, List.map_nil]); first | done | rfl | (simp only [List.length_drop, List.length_take]; rfl)) ?_; (with_reducible refine (text_within.calls a0_0 0 7 true _ A2.out).mono ?_); rintro e w' ⟨rfl, ⟨nd, rfl⟩⟩; refine ⟨_, rfl, ?_⟩) | (go_at_call 57; (with_reducible refine (text_within.calls a0_1 1 9 true _ A4.out).mono ?_); rintro e w' ⟨rfl, ⟨nd, rfl⟩⟩) | (go_at_call 57; (with_reducible refine (text_within.calls a0_2 0 100 t110 _ A6.out).mono ?_); rintro e w' ⟨rfl, ⟨nd, rfl⟩⟩))
   go_ret
   exact ⟨by first | rfl | (simp [errW_none, errW_some] <;> rfl) | (simp [*, errW_none, errW_some] <;> rfl), by repeat (first | (with_reducible first | exact HB.out | apply below_alloc | apply pw_below_drewN | apply below_drew1 | refine below_set ?_ GE107.out) | exact HB.out)⟩
  ·replace c5 := Bool.eq_false_iff.mpr c5
   subst c5
   have H1 : (some false) = some r := by rw [if_neg (show ¬ (false = true) by decide)] at H; exact H
   clear H
   have H := H1
   clear H1
   obtain rfl := Option.some.inj H
   go_enter Tryz.func62, Tryz.ntmps62
   go_wp2_with (first | ((with_reducible refine gate_dst (N := 1) rfl ?_); refine box_event ?hg (N := 1) ?hd (cs := #[.int .i64 a0_0, .int .i64 a0_1, .int .i64 a0_2, .slice A0_3 l0_3.length c0_3]) (t := 25) ?hr ?_; (case hd => rfl); (case hg => rfl); (case hr => first | (go_simp; done) | (go_simp; rfl)); intro gb107 hg w9 hbox hb; have n0_ := Aside0.mk (below_step (by repeat (first | (with_reducible first | exact HB.out | apply below_alloc | apply pw_below_drewN | apply below_drew1) | exact HB.out)) hb); have n1_ := Aside0.mk (hbox); have n2_ := Aside0.mk ((by rw [hg]; exact (below_size (by repeat (first | (with_reducible first | exact HB.out | apply below_alloc | apply pw_below_drewN | apply below_drew1) | exact HB.out))) : w.heap.size ≤ gb107)); have n3_ := Aside0.mk ((by rw [hg]; exact (below_size (by repeat (first | (with_reducible first | exact HB.out | apply below_alloc | apply pw_below_drewN | apply below_drew1) | exact HB.out))) : w.heap.size ≤ gb107)); clear HB; have HB := n0_; have BK107 := n1_; have GW107 := n2_; have GE107 := n3_; clear n0_ n1_ n2_ n3_; clear hb hbox hg; have hcz10_0 : w9.cell? ⟨gb107, 0, none⟩ = some (.int .i64 a0_0) := (blk_cell BK107.out 0).trans rfl; have hcz10_1 : w9.cell? ⟨gb107, 1, none⟩ = some (.int .i64 a0_1) := (blk_cell BK107.out 1).trans rfl; have hcz10_2 : w9.cell? ⟨gb107, 2, none⟩ = some (.int .i64 a0_2) := (blk_cell BK107.out 2).trans rfl; have hcz10_3 : w9.cell? ⟨gb107, 3, none⟩ = some (.slice A0_3 l0_3.length c0_3) := (blk_cell BK107.out 3).trans rfl; have hfz10_0 := blk_frozen BK107.out 0; have hfz10_1 := blk_frozen BK107.out 1; have hfz10_2 := blk_frozen BK107.out 2; have hfz10_3 := blk_frozen BK107.out 3) | ((with_reducible refine gate_callee (f := 57) rfl ?_); refine goesL_ (some 5) rfl rfl Tryz.func57 (by kernel_rfl) rfl #[.int .i64 a0_0, .int .i64 0, .int .i64 7] rfl (by (try simp only [List.map_toArray, List.map_cons, List.map_nil]); first | done | rfl | (simp only [List.length_drop, List.length_take]; rfl)) ?_; (with_reducible refine (text_within.calls a0_0 0 7 true _ A2.out).mono ?_); rintro e w' ⟨rfl, ⟨nd, rfl⟩⟩; refine ⟨_, rfl, ?_⟩) | (go_at_call 57; (with_reducible refine (text_within.calls a0_1 1 9 false _ A4.out).mono ?_); rintro e w' ⟨rfl, ⟨nd, rfl⟩⟩))
   go_ret
   exact ⟨by first | rfl | (simp [errW_none, errW_some] <;> rfl) | (simp [*, errW_none, errW_some] <;> rfl), by repeat (first | (with_reducible first | exact HB.out | apply below_alloc | apply pw_below_drewN | apply below_drew1 | refine below_set ?_ GE107.out) | exact HB.out)⟩
 ·replace c3 := Bool.eq_false_iff.mpr c3
  subst c3
  have H1 : (some false) = some r := by rw [if_neg (show ¬ (false = true) by decide)] at H; exact H
  clear H
  have H := H1
  clear H1
  obtain rfl := Option.some.inj H
  go_enter Tryz.func62, Tryz.ntmps62
  go_wp2_with (first | ((with_reducible refine gate_dst (N := 1) rfl ?_); refine box_event ?hg (N := 1) ?hd (cs := #[.int .i64 a0_0, .int .i64 a0_1, .int .i64 a0_2, .slice A0_3 l0_3.length c0_3]) (t := 25) ?hr ?_; (case hd => rfl); (case hg => rfl); (case hr => first | (go_simp; done) | (go_simp; rfl)); intro gb107 hg w11 hbox hb; have n0_ := Aside0.mk (below_step (by repeat (first | (with_reducible first | exact HB.out | apply below_alloc | apply pw_below_drewN | apply below_drew1) | exact HB.out)) hb); have n1_ := Aside0.mk (hbox); have n2_ := Aside0.mk ((by rw [hg]; exact (below_size (by repeat (first | (with_reducible first | exact HB.out | apply below_alloc | apply pw_below_drewN | apply below_drew1) | exact HB.out))) : w.heap.size ≤ gb107)); have n3_ := Aside0.mk ((by rw [hg]; exact (below_size (by repeat (first | (with_reducible first | exact HB.out | apply below_alloc | apply pw_below_drewN | apply below_drew1) | exact HB.out))) : w.heap.size ≤ gb107)); clear HB; have HB := n0_; have BK107 := n1_; have GW107 := n2_; have GE107 := n3_; clear n0_ n1_ n2_ n3_; clear hb hbox hg; have hcz12_0 : w11.cell? ⟨gb107, 0, none⟩ = some (.int .i64 a0_0) := (blk_cell BK107.out 0).trans rfl; have hcz12_1 : w11.cell? ⟨gb107, 1, none⟩ = some (.int .i64 a0_1) := (blk_cell BK107.out 1).trans rfl; have hcz12_2 : w11.cell? ⟨gb107, 2, none⟩ = some (.int .i64 a0_2) := (blk_cell BK107.out 2).trans rfl; have hcz12_3 : w11.cell? ⟨gb107, 3, none⟩ = some (.slice A0_3 l0_3.length c0_3) := (blk_cell BK107.out 3).trans rfl; have hfz12_0 := blk_frozen BK107.out 0; have hfz12_1 := blk_frozen BK107.out 1; have hfz12_2 := blk_frozen BK107.out 2; have hfz12_3 := blk_frozen BK107.out 3) | ((with_reducible refine gate_callee (f := 57) rfl ?_); refine goesL_ (some 5) rfl rfl Tryz.func57 (by kernel_rfl) rfl #[.int .i64 a0_0, .int .i64 0, .int .i64 7] rfl (by (try simp only [List.map_toArray, List.map_cons, List.map_nil]); first | done | rfl | (simp only [List.length_drop, List.length_take]; rfl)) ?_; (with_reducible refine (text_within.calls a0_0 0 7 false _ A2.out).mono ?_); rintro e w' ⟨rfl, ⟨nd, rfl⟩⟩; refine ⟨_, rfl, ?_⟩))
  go_ret
  exact ⟨by first | rfl | (simp [errW_none, errW_some] <;> rfl) | (simp [*, errW_none, errW_some] <;> rfl), by repeat (first | (with_reducible first | exact HB.out | apply below_alloc | apply pw_below_drewN | apply below_drew1 | refine below_set ?_ GE107.out) | exact HB.out)⟩


/-! ### text_styled: function 66 -/
def text_styled.f (a0_0 : Bool) (a0_1 : Bool) (a0_2 : Bool) (a0_3 : Int) (a0_4 : Int) : Option (Bool) := (text_within.f a0_3 1 8).bind fun t113 => (if t113 = true then ((text_within.f a0_4 0 15).bind fun t114 => (some t114)) else (some false))
set_option maxHeartbeats 8000000 in
set_option maxRecDepth 100000 in
theorem text_styled.calls (a0_0 : Bool) (a0_1 : Bool) (a0_2 : Bool) (a0_3 : Int) (a0_4 : Int) (r : Bool) (w : World) (h : text_styled.f a0_0 a0_1 a0_2 a0_3 a0_4 = some r) :
  Calls Tryz.prog 66 #[.agg #[.bool a0_0, .bool a0_1, .bool a0_2, .int .i64 a0_3, .int .i64 a0_4]] w fun e w' => e = .returned (.bool r) ∧ Below w.heap.size w w' := by
 have hu40 := Tryz.underlying40
 have HB := Aside0.mk (Below.refl w.heap.size w)
 have H : ((text_within.f a0_3 1 8).bind fun t113 => (if t113 = true then ((text_within.f a0_4 0 15).bind fun t114 => (some t114)) else (some false))) = some r := h
 clear h
 replace H := Option.bind_eq_some_iff.mp H
 obtain ⟨t113, A20, H⟩ := H
 replace H : (if t113 = true then ((text_within.f a0_4 0 15).bind fun t114 => (some t114)) else (some false)) = some r := H
 have A2 := Aside0.mk A20
 clear A20
 by_cases c3 : t113 = true
 ·subst c3
  have H1 : ((text_within.f a0_4 0 15).bind fun t114 => (some t114)) = some r := by rw [if_pos rfl] at H; exact H
  clear H
  have H := H1
  clear H1
  replace H := Option.bind_eq_some_iff.mp H
  obtain ⟨t114, A40, H⟩ := H
  replace H : (some t114) = some r := H
  have A4 := Aside0.mk A40
  clear A40
  obtain rfl := Option.some.inj H
  go_enter Tryz.func66, Tryz.ntmps66
  go_wp2_with (first | ((with_reducible refine gate_dst (N := 1) rfl ?_); refine box_event ?hg (N := 1) ?hd (cs := #[.bool a0_0, .bool a0_1, .bool a0_2, .int .i64 a0_3, .int .i64 a0_4]) (t := 40) ?hr ?_; (case hd => rfl); (case hg => rfl); (case hr => first | (go_simp; done) | (go_simp; rfl)); intro gb112 hg w5 hbox hb; have n0_ := Aside0.mk (below_step (by repeat (first | (with_reducible first | exact HB.out | apply below_alloc | apply pw_below_drewN | apply below_drew1) | exact HB.out)) hb); have n1_ := Aside0.mk (hbox); have n2_ := Aside0.mk ((by rw [hg]; exact (below_size (by repeat (first | (with_reducible first | exact HB.out | apply below_alloc | apply pw_below_drewN | apply below_drew1) | exact HB.out))) : w.heap.size ≤ gb112)); have n3_ := Aside0.mk ((by rw [hg]; exact (below_size (by repeat (first | (with_reducible first | exact HB.out | apply below_alloc | apply pw_below_drewN | apply below_drew1) | exact HB.out))) : w.heap.size ≤ gb112)); clear HB; have HB := n0_; have BK112 := n1_; have GW112 := n2_; have GE112 := n3_; clear n0_ n1_ n2_ n3_; clear hb hbox hg; have hcz6_0 : w5.cell? ⟨gb112, 0, none⟩ = some (.bool a0_0) := (blk_cell BK112.out 0).trans rfl; have hcz6_1 : w5.cell? ⟨gb112, 1, none⟩ = some (.bool a0_1) := (blk_cell BK112.out 1).trans rfl; have hcz6_2 : w5.cell? ⟨gb112, 2, none⟩ = some (.bool a0_2) := (blk_cell BK112.out 2).trans rfl; have hcz6_3 : w5.cell? ⟨gb112, 3, none⟩ = some (.int .i64 a0_3) := (blk_cell BK112.out 3).trans rfl; have hcz6_4 : w5.cell? ⟨gb112, 4, none⟩ = some (.int .i64 a0_4) := (blk_cell BK112.out 4).trans rfl; have hfz6_0 := blk_frozen BK112.out 0; have hfz6_1 := blk_frozen BK112.out 1; have hfz6_2 := blk_frozen BK112.out 2; have hfz6_3 := blk_frozen BK112.out 3; have hfz6_4 := blk_frozen BK112.out 4) | ((with_reducible refine gate_callee (f := 57) rfl ?_); refine goesL_ (some 5) rfl rfl Tryz.func57 (by kernel_rfl) rfl #[.int .i64 a0_3, .int .i64 1, .int .i64 8] rfl (by (try simp only [List.map_toArray, List.map_cons, List.map_nil]); first | done | rfl | (simp only [List.length_drop, List.length_take]; rfl)) ?_; (with_reducible refine (text_within.calls a0_3 1 8 true _ A2.out).mono ?_); rintro e w' ⟨rfl, ⟨nd, rfl⟩⟩; refine ⟨_, rfl, ?_⟩) | (go_at_call 57; (with_reducible refine (text_within.calls a0_4 0 15 t114 _ A4.out).mono ?_); rintro e w' ⟨rfl, ⟨nd, rfl⟩⟩))
  go_ret
  exact ⟨by first | rfl | (simp [errW_none, errW_some] <;> rfl) | (simp [*, errW_none, errW_some] <;> rfl), by repeat (first | (with_reducible first | exact HB.out | apply below_alloc | apply pw_below_drewN | apply below_drew1 | refine below_set ?_ GE112.out) | exact HB.out)⟩
 ·replace c3 := Bool.eq_false_iff.mpr c3
  subst c3
  have H1 : (some false) = some r := by rw [if_neg (show ¬ (false = true) by decide)] at H; exact H
  clear H
  have H := H1
  clear H1
  obtain rfl := Option.some.inj H
  go_enter Tryz.func66, Tryz.ntmps66
  go_wp2_with (first | ((with_reducible refine gate_dst (N := 1) rfl ?_); refine box_event ?hg (N := 1) ?hd (cs := #[.bool a0_0, .bool a0_1, .bool a0_2, .int .i64 a0_3, .int .i64 a0_4]) (t := 40) ?hr ?_; (case hd => rfl); (case hg => rfl); (case hr => first | (go_simp; done) | (go_simp; rfl)); intro gb112 hg w7 hbox hb; have n0_ := Aside0.mk (below_step (by repeat (first | (with_reducible first | exact HB.out | apply below_alloc | apply pw_below_drewN | apply below_drew1) | exact HB.out)) hb); have n1_ := Aside0.mk (hbox); have n2_ := Aside0.mk ((by rw [hg]; exact (below_size (by repeat (first | (with_reducible first | exact HB.out | apply below_alloc | apply pw_below_drewN | apply below_drew1) | exact HB.out))) : w.heap.size ≤ gb112)); have n3_ := Aside0.mk ((by rw [hg]; exact (below_size (by repeat (first | (with_reducible first | exact HB.out | apply below_alloc | apply pw_below_drewN | apply below_drew1) | exact HB.out))) : w.heap.size ≤ gb112)); clear HB; have HB := n0_; have BK112 := n1_; have GW112 := n2_; have GE112 := n3_; clear n0_ n1_ n2_ n3_; clear hb hbox hg; have hcz8_0 : w7.cell? ⟨gb112, 0, none⟩ = some (.bool a0_0) := (blk_cell BK112.out 0).trans rfl; have hcz8_1 : w7.cell? ⟨gb112, 1, none⟩ = some (.bool a0_1) := (blk_cell BK112.out 1).trans rfl; have hcz8_2 : w7.cell? ⟨gb112, 2, none⟩ = some (.bool a0_2) := (blk_cell BK112.out 2).trans rfl; have hcz8_3 : w7.cell? ⟨gb112, 3, none⟩ = some (.int .i64 a0_3) := (blk_cell BK112.out 3).trans rfl; have hcz8_4 : w7.cell? ⟨gb112, 4, none⟩ = some (.int .i64 a0_4) := (blk_cell BK112.out 4).trans rfl; have hfz8_0 := blk_frozen BK112.out 0; have hfz8_1 := blk_frozen BK112.out 1; have hfz8_2 := blk_frozen BK112.out 2; have hfz8_3 := blk_frozen BK112.out 3; have hfz8_4 := blk_frozen BK112.out 4) | ((with_reducible refine gate_callee (f := 57) rfl ?_); refine goesL_ (some 5) rfl rfl Tryz.func57 (by kernel_rfl) rfl #[.int .i64 a0_3, .int .i64 1, .int .i64 8] rfl (by (try simp only [List.map_toArray, List.map_cons, List.map_nil]); first | done | rfl | (simp only [List.length_drop, List.length_take]; rfl)) ?_; (with_reducible refine (text_within.calls a0_3 1 8 false _ A2.out).mono ?_); rintro e w' ⟨rfl, ⟨nd, rfl⟩⟩; refine ⟨_, rfl, ?_⟩))
  go_ret
  exact ⟨by first | rfl | (simp [errW_none, errW_some] <;> rfl) | (simp [*, errW_none, errW_some] <;> rfl), by repeat (first | (with_reducible first | exact HB.out | apply below_alloc | apply pw_below_drewN | apply below_drew1 | refine below_set ?_ GE112.out) | exact HB.out)⟩


/-! ### text_Plain: function 33 -/
def text_Plain.f  : Option (Bool × Bool × Bool × Int × Int) := some (false, false, false, 2, 15)
set_option maxHeartbeats 8000000 in
set_option maxRecDepth 100000 in
theorem text_Plain.calls  (r1 : Bool) (r2 : Bool) (r3 : Bool) (r4 : Int) (r5 : Int) (w : World) (h : text_Plain.f  = some (r1, r2, r3, r4, r5)) :
  Calls Tryz.prog 33 #[] w fun e w' => e = .returned (.agg #[.bool r1, .bool r2, .bool r3, .int .i64 r4, .int .i64 r5]) ∧ Below w.heap.size w w' := by
 have hu40 := Tryz.underlying40
 have HB := Aside0.mk (Below.refl w.heap.size w)
 have H : (some (false, false, false, 2, 15)) = some (r1, r2, r3, r4, r5) := h
 clear h
 simp only [Option.some.injEq, Prod.mk.injEq] at H
 obtain ⟨rfl, rfl, rfl, rfl, rfl⟩ := H
 go_enter Tryz.func33, Tryz.ntmps33
 go_wp2_with (first | ((with_reducible refine gate_dst (N := 0) rfl ?_); refine box_event ?hg (N := 0) ?hd (cs := #[.bool false, .bool false, .bool false, .int .i64 0, .int .i64 0]) (t := 40) ?hr ?_; (case hd => rfl); (case hg => rfl); (case hr => first | (go_simp; done) | (go_simp; rfl)); intro gb124 hg w1 hbox hb; have n0_ := Aside0.mk (below_step (by repeat (first | (with_reducible first | exact HB.out | apply below_alloc | apply pw_below_drewN | apply below_drew1) | exact HB.out)) hb); have n1_ := Aside0.mk (hbox); have n2_ := Aside0.mk ((by rw [hg]; exact (below_size (by repeat (first | (with_reducible first | exact HB.out | apply below_alloc | apply pw_below_drewN | apply below_drew1) | exact HB.out))) : w.heap.size ≤ gb124)); have n3_ := Aside0.mk ((by rw [hg]; exact (below_size (by repeat (first | (with_reducible first | exact HB.out | apply below_alloc | apply pw_below_drewN | apply below_drew1) | exact HB.out))) : w.heap.size ≤ gb124)); clear HB; have HB := n0_; have BK124 := n1_; have GW124 := n2_; have GE124 := n3_; clear n0_ n1_ n2_ n3_; clear hb hbox hg; have hcz2_0 : w1.cell? ⟨gb124, 0, none⟩ = some (.bool false) := (blk_cell BK124.out 0).trans rfl; have hcz2_1 : w1.cell? ⟨gb124, 1, none⟩ = some (.bool false) := (blk_cell BK124.out 1).trans rfl; have hcz2_2 : w1.cell? ⟨gb124, 2, none⟩ = some (.bool false) := (blk_cell BK124.out 2).trans rfl; have hcz2_3 : w1.cell? ⟨gb124, 3, none⟩ = some (.int .i64 0) := (blk_cell BK124.out 3).trans rfl; have hcz2_4 : w1.cell? ⟨gb124, 4, none⟩ = some (.int .i64 0) := (blk_cell BK124.out 4).trans rfl; have hfz2_0 := blk_frozen BK124.out 0; have hfz2_1 := blk_frozen BK124.out 1; have hfz2_2 := blk_frozen BK124.out 2; have hfz2_3 := blk_frozen BK124.out 3; have hfz2_4 := blk_frozen BK124.out 4))
 refine bodyPost_ret (results_cell_row rfl _ _ gb124 40 #[.bool false, .bool false, .bool false, .int .i64 2, .int .i64 15] (0, 0) _ rfl (by (with_reducible repeat (first | refine blk_drewN ?_ _ | refine blk_drew ?_ | refine blk_alloc ?_ _)); refine blk_put (cs := #[.bool false, .bool false, .bool false, .int .i64 2, .int .i64 0]) ?_ 4 _ rfl; (with_reducible repeat (first | refine blk_drewN ?_ _ | refine blk_drew ?_ | refine blk_alloc ?_ _)); refine blk_put (cs := #[.bool false, .bool false, .bool false, .int .i64 0, .int .i64 0]) ?_ 3 _ rfl; (with_reducible repeat (first | refine blk_drewN ?_ _ | refine blk_drew ?_ | refine blk_alloc ?_ _)); refine blk_put (cs := #[.bool false, .bool false, .bool false, .int .i64 0, .int .i64 0]) ?_ 2 _ rfl; (with_reducible repeat (first | refine blk_drewN ?_ _ | refine blk_drew ?_ | refine blk_alloc ?_ _)); refine blk_put (cs := #[.bool false, .bool false, .bool false, .int .i64 0, .int .i64 0]) ?_ 1 _ rfl; (with_reducible repeat (first | refine blk_drewN ?_ _ | refine blk_drew ?_ | refine blk_alloc ?_ _)); refine blk_put (cs := #[.bool false, .bool false, .bool false, .int .i64 0, .int .i64 0]) ?_ 0 _ rfl; (with_reducible repeat (first | refine blk_drewN ?_ _ | refine blk_drew ?_ | refine blk_alloc ?_ _)); exact BK124.out) Tryz.underlying40 rfl (by kernel_rfl)) rfl ?_
 exact ⟨by first | rfl | (simp [errW_none, errW_some] <;> rfl) | (simp [*, errW_none, errW_some] <;> rfl), by repeat (first | (with_reducible first | exact HB.out | apply below_alloc | apply pw_below_drewN | apply below_drew1 | refine below_set ?_ GE124.out) | exact HB.out)⟩


/-! ### text_joined: function 71 -/
def text_joined.l0 : Nat → List (S42) → List (S42) → Int → Int → Option ((List (S42)))
 | 0, _, _, _, _ => none
 | k + 1, x3, x7, x8, x9 => if x9 < x8 then (if 0 ≤ x9 then (if x9 < (x7.length : Int) then (if (x3.length : Int) > 0 then (if 0 ≤ (wrap64 ((x3.length : Int) - 1)) then (if (wrap64 ((x3.length : Int) - 1)) < (x3.length : Int) then (if (((rd_T42 x3 (wrap64 ((x3.length : Int) - 1))).f1.f0) == ((rd_T42 x7 x9).f1.f0) && (((rd_T42 x3 (wrap64 ((x3.length : Int) - 1))).f1.f1) == ((rd_T42 x7 x9).f1.f1) && (((rd_T42 x3 (wrap64 ((x3.length : Int) - 1))).f1.f2) == ((rd_T42 x7 x9).f1.f2) && (((rd_T42 x3 (wrap64 ((x3.length : Int) - 1))).f1.f3) == ((rd_T42 x7 x9).f1.f3) && (((rd_T42 x3 (wrap64 ((x3.length : Int) - 1))).f1.f4) == ((rd_T42 x7 x9).f1.f4)))))) = true then (if ((rd_T42 x3 (wrap64 ((x3.length : Int) - 1))).f0).size + ((rd_T42 x7 x9).f0).size ≤ 9223372036854775807 then (text_joined.l0 k (x3.set ((wrap64 ((x3.length : Int) - 1)) : Int).toNat (⟨((rd_T42 x3 (wrap64 ((x3.length : Int) - 1))).f0) ++ ((rd_T42 x7 x9).f0), (⟨(rd_T42 x3 (wrap64 ((x3.length : Int) - 1))).f1.f0, (rd_T42 x3 (wrap64 ((x3.length : Int) - 1))).f1.f1, (rd_T42 x3 (wrap64 ((x3.length : Int) - 1))).f1.f2, (rd_T42 x3 (wrap64 ((x3.length : Int) - 1))).f1.f3, (rd_T42 x3 (wrap64 ((x3.length : Int) - 1))).f1.f4⟩ : S40)⟩ : S42)) x7 x8 (wrap64 (x9 + 1))) else (none)) else (if x3.length < 3518437208883 then (text_joined.l0 k (x3 ++ [(⟨(rd_T42 x7 x9).f0, (⟨(rd_T42 x7 x9).f1.f0, (rd_T42 x7 x9).f1.f1, (rd_T42 x7 x9).f1.f2, (rd_T42 x7 x9).f1.f3, (rd_T42 x7 x9).f1.f4⟩ : S40)⟩ : S42)]) x7 x8 (wrap64 (x9 + 1))) else (none))) else (none)) else (none)) else (if x3.length < 3518437208883 then (text_joined.l0 k (x3 ++ [(⟨(rd_T42 x7 x9).f0, (⟨(rd_T42 x7 x9).f1.f0, (rd_T42 x7 x9).f1.f1, (rd_T42 x7 x9).f1.f2, (rd_T42 x7 x9).f1.f3, (rd_T42 x7 x9).f1.f4⟩ : S40)⟩ : S42)]) x7 x8 (wrap64 (x9 + 1))) else (none))) else (none)) else (none)) else (some x3)
def text_joined.f (k : Nat) (l0 : List (S42)) : Option ((List (S42))) := text_joined.l0 k ([] : List (S42)) l0 (l0.length : Int) 0
def text_joined.T6 : Bool × List (List Nat × List Nat) := (true, [([], []), ([0], [0]), ([1], [1]), ([2], [2]), ([2], [2]), ([4, 2], [2, 4]), ([3, 5, 2], [2, 3, 5]), ([6, 2], [2, 6]), ([7, 2], [2, 7]), ([2], [2]), ([9, 2], [2, 9]), ([8, 10, 2], [2, 8, 10]), ([2, 11], [2, 11])])
def text_joined.B6 : List Nat := [0, 1, 3, 7, 7, 23, 63, 127, 255, 7, 519, 2047, 4095]
theorem text_joined.tab6 : rtab .any (opsOf Tryz.f71 6) = text_joined.T6 := by kernel_rfl
theorem text_joined.bits6 : waitsOk text_joined.T6.2 text_joined.B6 = true := by kernel_rfl
def text_joined.T7 : Bool × List (List Nat × List Nat) := (true, [([], []), ([], []), ([1], [1]), ([0, 2], [0, 2]), ([3], [3]), ([4], [4]), ([], []), ([6], [6]), ([5, 7], [5, 7]), ([0, 2, 0, 1, 2, 3, 4, 5, 6, 7, 8], [0, 2]), ([9, 0, 1, 2, 3, 4, 5, 6, 7, 8], [9]), ([10, 8, 0, 1, 2, 3, 4, 5, 6, 7, 8], [8, 10])])
def text_joined.B7 : List Nat := [0, 0, 2, 7, 15, 31, 0, 64, 255, 511, 1023, 2047]
theorem text_joined.tab7 : rtab .any (opsOf Tryz.f71 7) = text_joined.T7 := by kernel_rfl
theorem text_joined.bits7 : waitsOk text_joined.T7.2 text_joined.B7 = true := by kernel_rfl
set_option maxHeartbeats 8000000 in
set_option maxRecDepth 100000 in
theorem text_joined.calls (k : Nat) (A0 : Option Addr) (c0 : Nat) (l0 : List (S42)) (r : List (S42)) (w : World) (hr0 : Kd.C k42 w A0 l0.length l0) (hc0 : l0.length ≤ c0) (h : text_joined.f k l0 = some r) :
  Calls Tryz.prog 71 #[.slice A0 l0.length c0] w fun e w' => ∃ v0_ : Value, e = .returned (v0_) ∧ Kd.R k42 42 w' w.heap.size (fun _ => True) v0_ r ∧ Below w.heap.size w w' := by
 have hu42 := Tryz.underlying42
 have hu40 := Tryz.underlying40
 have HR0 := Aside0.mk hr0
 have HC0 := Aside0.mk hc0
 clear hr0 hc0
 have HB := Aside0.mk (Below.refl w.heap.size w)
 have H : (text_joined.l0 k ([] : List (S42)) l0 (l0.length : Int) 0) = some r := h
 clear h
 have H' := Aside0.mk H
 clear H
 go_enter Tryz.func71, Tryz.ntmps71
 go_wp2
 go_loopg [3, 9] k (fun kq v3 v9 w' => ∃ (x3_1 : List (S42)) (x9_1 : Int), v9 = .int .i64 x9_1 ∧ Aside0 (text_joined.l0 kq x3_1 l0 (l0.length : Int) x9_1 = some r) ∧ Aside0 (kq ≤ k) ∧ Aside0 (Kd.R k42 42 w' w.heap.size (fun _ => True) v3 x3_1) ∧ Aside0 (Below w.heap.size w w'))
 case atStart => exact ⟨(([] : List (S42))), (0), (by first | rfl | (simp; done) | (simp [*]; done)), H', ⟨Nat.le_refl _⟩, ⟨by first | exact Kd.R_nil _ _ _ _ _ | exact Kd.N_nil _ _ _ _ _ | exact Kd.V_nil _ _ _ _ _ | exact Kd.Q_nil _ _ _ _ _ | exact Kd.S_nil _ _ _ _ _⟩, ⟨by repeat (first | (with_reducible first | exact HB.out | apply below_alloc | apply pw_below_drewN | apply below_drew1) | exact HB.out)⟩⟩
 case round =>
  clear H'
  obtain ⟨x3_1, x9_1, rfl, HA, HK1, HO_3, HB⟩ := hrel
  cases gk with
  | zero => exact absurd HA.out (by simp [text_joined.l0])
  | succ k1 =>
   have H := HA.out
   clear HA
   simp only [text_joined.l0] at H
   by_cases c2 : x9_1 < (l0.length : Int)
   ·rw [if_pos c2] at H
    have c2b0 : decide (x9_1 < (l0.length : Int)) = true := decide_eq_true c2
    clear c2
    by_cases c3 : 0 ≤ x9_1
    ·rw [if_pos c3] at H
     have c3b0 : decide (0 ≤ x9_1) = true := decide_eq_true c3
     clear c3
     by_cases c4 : x9_1 < (l0.length : Int)
     ·rw [if_pos c4] at H
      have c4b0 : decide (x9_1 < (l0.length : Int)) = true := decide_eq_true c4
      clear c4
      by_cases c5 : (x3_1.length : Int) > 0
      ·rw [if_pos c5] at H
       have c5b0 : decide (0 < (x3_1.length : Int)) = true := decide_eq_true c5
       have c5b1 : decide (0 < x3_1.length) = true := decide_eq_true (by omega)
       clear c5
       obtain ⟨ji6, hji6⟩ : ∃ j_ : Int, (wrap64 ((x3_1.length : Int) - 1)) = j_ := ⟨_, rfl⟩
       replace H : (if 0 ≤ (ji6) then (if (ji6) < (x3_1.length : Int) then (if (((rd_T42 x3_1 (ji6)).f1.f0) == ((rd_T42 l0 x9_1).f1.f0) && (((rd_T42 x3_1 (ji6)).f1.f1) == ((rd_T42 l0 x9_1).f1.f1) && (((rd_T42 x3_1 (ji6)).f1.f2) == ((rd_T42 l0 x9_1).f1.f2) && (((rd_T42 x3_1 (ji6)).f1.f3) == ((rd_T42 l0 x9_1).f1.f3) && (((rd_T42 x3_1 (ji6)).f1.f4) == ((rd_T42 l0 x9_1).f1.f4)))))) = true then (if ((rd_T42 x3_1 (ji6)).f0).size + ((rd_T42 l0 x9_1).f0).size ≤ 9223372036854775807 then (text_joined.l0 k1 (x3_1.set ((ji6) : Int).toNat (⟨((rd_T42 x3_1 (ji6)).f0) ++ ((rd_T42 l0 x9_1).f0), (⟨(rd_T42 x3_1 (ji6)).f1.f0, (rd_T42 x3_1 (ji6)).f1.f1, (rd_T42 x3_1 (ji6)).f1.f2, (rd_T42 x3_1 (ji6)).f1.f3, (rd_T42 x3_1 (ji6)).f1.f4⟩ : S40)⟩ : S42)) l0 (l0.length : Int) (wrap64 (x9_1 + 1))) else (none)) else (if x3_1.length < 3518437208883 then (text_joined.l0 k1 (x3_1 ++ [(⟨(rd_T42 l0 x9_1).f0, (⟨(rd_T42 l0 x9_1).f1.f0, (rd_T42 l0 x9_1).f1.f1, (rd_T42 l0 x9_1).f1.f2, (rd_T42 l0 x9_1).f1.f3, (rd_T42 l0 x9_1).f1.f4⟩ : S40)⟩ : S42)]) l0 (l0.length : Int) (wrap64 (x9_1 + 1))) else (none))) else (none)) else (none)) = some r := by first | (rw [hji6] at H; exact H) | (simp only [hji6] at H ⊢; exact H)
       have hji6w : (IntKind.i64.wrap ((x3_1.length : Int) - 1)) = ji6 := (i64_w _).trans hji6
       by_cases c7 : 0 ≤ (ji6)
       ·rw [if_pos c7] at H
        have c7b0 : decide (0 ≤ (ji6)) = true := decide_eq_true c7
        clear c7
        by_cases c8 : (ji6) < (x3_1.length : Int)
        ·rw [if_pos c8] at H
         have c8b0 : decide ((ji6) < (x3_1.length : Int)) = true := decide_eq_true c8
         clear c8
         by_cases c9 : (((rd_T42 x3_1 (ji6)).f1.f0) == ((rd_T42 l0 x9_1).f1.f0) && (((rd_T42 x3_1 (ji6)).f1.f1) == ((rd_T42 l0 x9_1).f1.f1) && (((rd_T42 x3_1 (ji6)).f1.f2) == ((rd_T42 l0 x9_1).f1.f2) && (((rd_T42 x3_1 (ji6)).f1.f3) == ((rd_T42 l0 x9_1).f1.f3) && (((rd_T42 x3_1 (ji6)).f1.f4) == ((rd_T42 l0 x9_1).f1.f4)))))) = true
         ·rw [if_pos c9] at H
          have c9b0 : (((rd_T42 x3_1 (ji6)).f1.f0) == ((rd_T42 l0 x9_1).f1.f0) && (((rd_T42 x3_1 (ji6)).f1.f1) == ((rd_T42 l0 x9_1).f1.f1) && (((rd_T42 x3_1 (ji6)).f1.f2) == ((rd_T42 l0 x9_1).f1.f2) && (((rd_T42 x3_1 (ji6)).f1.f3) == ((rd_T42 l0 x9_1).f1.f3) && (((rd_T42 x3_1 (ji6)).f1.f4) == ((rd_T42 l0 x9_1).f1.f4)))))) = true := c9
          (try (have c9b1 : decide (((rd_T42 x3_1 (ji6)).f1.f0) = ((rd_T42 l0 x9_1).f1.f0) && (((rd_T42 x3_1 (ji6)).f1.f1) == ((rd_T42 l0 x9_1).f1.f1) && (((rd_T42 x3_1 (ji6)).f1.f2) == ((rd_T42 l0 x9_1).f1.f2) && (((rd_T42 x3_1 (ji6)).f1.f3) == ((rd_T42 l0 x9_1).f1.f3) && (((rd_T42 x3_1 (ji6)).f1.f4) == ((rd_T42 l0 x9_1).f1.f4)))))) = true := by simpa using c9))
          (try (have c9b2 : (((rd_T42 x3_1 (ji6)).f1.f0) == ((rd_T42 l0 x9_1).f1.f0) && (((rd_T42 x3_1 (ji6)).f1.f1) == ((rd_T42 l0 x9_1).f1.f1) && (((rd_T42 x3_1 (ji6)).f1.f2) == ((rd_T42 l0 x9_1).f1.f2) && (((rd_T42 x3_1 (ji6)).f1.f3) == ((rd_T42 l0 x9_1).f1.f3) && (((rd_T42 x3_1 (ji6)).f1.f4) == ((rd_T42 l0 x9_1).f1.f4)))))) = true := by simpa using c9))
          clear c9
          by_cases c10 : ((rd_T42 x3_1 (ji6)).f0).size + ((rd_T42 l0 x9_1).f0).size ≤ 9223372036854775807
          ·rw [if_pos c10] at H
           have c10b0 := eq_true c10
           have c10b1 : decide (((rd_T42 x3_1 (ji6)).f0).size + ((rd_T42 l0 x9_1).f0).size ≤ 9223372036854775807) = true := decide_eq_true c10
           try have c10b2 : (9223372036854775807 < ((rd_T42 x3_1 (ji6)).f0).size + ((rd_T42 l0 x9_1).f0).size) = False := eq_false (Nat.not_lt.2 c10)
           obtain ⟨y165, hy165⟩ : ∃ y_ : List (S42), y_ = (x3_1.set ((ji6) : Int).toNat (⟨((rd_T42 x3_1 (ji6)).f0) ++ ((rd_T42 l0 x9_1).f0), (⟨(rd_T42 x3_1 (ji6)).f1.f0, (rd_T42 x3_1 (ji6)).f1.f1, (rd_T42 x3_1 (ji6)).f1.f2, (rd_T42 x3_1 (ji6)).f1.f3, (rd_T42 x3_1 (ji6)).f1.f4⟩ : S40)⟩ : S42)) := ⟨_, rfl⟩
           replace H : (text_joined.l0 k1 y165 l0 (l0.length : Int) (wrap64 (x9_1 + 1))) = some r := by first | (rw [hy165]; with_reducible exact H) | (have H2_ := (Option.bind_some _ _).symm.trans H; rw [hy165]; with_reducible exact H2_) | (have H2_ := (Option.bind_some _ _).symm.trans H; with_reducible exact H2_) | with_reducible exact H | (rw [hy165]; exact H) | exact H
           have Ny165 := Aside0.mk hy165
           clear hy165
           have H' := Aside0.mk H
           clear H
           have p161 : 0 ≤ (x9_1 : Int) := of_decide_eq_true (by first | (with_reducible assumption) | assumption)
           have q161 : x9_1 < (l0.length : Int) := of_decide_eq_true (by first | (with_reducible assumption) | assumption)
           obtain ⟨ad161, e161, hx161_0, hx161_1, hx161_2, hx161_3, hx161_4, hx161_5⟩ := at_T42 HR0.out x9_1 p161 q161
           cases e161
           replace hx161_0 := (HB.out.cell (World.block_lt_of_cell? w _ hx161_0)).trans hx161_0
           replace hx161_1 := (HB.out.cell (World.block_lt_of_cell? w _ hx161_1)).trans hx161_1
           replace hx161_2 := (HB.out.cell (World.block_lt_of_cell? w _ hx161_2)).trans hx161_2
           replace hx161_3 := (HB.out.cell (World.block_lt_of_cell? w _ hx161_3)).trans hx161_3
           replace hx161_4 := (HB.out.cell (World.block_lt_of_cell? w _ hx161_4)).trans hx161_4
           replace hx161_5 := (HB.out.cell (World.block_lt_of_cell? w _ hx161_5)).trans hx161_5
           replace p161 := eq_true p161
           replace q161 := eq_true q161
           try go_wp2_with (first | ((with_reducible refine gate_dst (N := 5) rfl ?_); refine box_event ?hg (N := 5) ?hd (cs := #[.string (⟨#[]⟩ : ByteArray), .bool false, .bool false, .bool false, .int .i64 0, .int .i64 0]) (t := 42) ?hr ?_; (case hd => rfl); (case hg => rfl); (case hr => first | (go_simp; done) | (go_simp; rfl)); intro gb162 hg w12 hbox hb; have n0_ := Aside0.mk (Kd.R_below (Kd.R_elderB (by (with_reducible repeat (first | apply Kd.R_alloc | apply Kd.R_drewN | apply Kd.R_drew)); exact HO_3.out) gb162 (Nat.le_of_eq hg.symm)) hb); have n1_ := Aside0.mk (below_step (by repeat (first | (with_reducible first | exact HB.out | apply below_alloc | apply pw_below_drewN | apply below_drew1) | exact HB.out)) hb); have n2_ := Aside0.mk (hbox); have n3_ := Aside0.mk ((by rw [hg]; exact (below_size (by repeat (first | (with_reducible first | exact HB.out | apply below_alloc | apply pw_below_drewN | apply below_drew1) | exact HB.out))) : w.heap.size ≤ gb162)); have n4_ := Aside0.mk ((by rw [hg]; exact (below_size (by repeat (first | (with_reducible first | exact HB.out | apply below_alloc | apply pw_below_drewN | apply below_drew1) | exact HB.out))) : w.heap.size ≤ gb162)); clear HO_3; clear HB; have HO_3 := n0_; have HB := n1_; have BK162 := n2_; have GW162 := n3_; have GE162 := n4_; clear n0_ n1_ n2_ n3_ n4_; clear hb hbox hg; have hcz13_0 : w12.cell? ⟨gb162, 0, none⟩ = some (.string (⟨#[]⟩ : ByteArray)) := (blk_cell BK162.out 0).trans rfl; have hcz13_1 : w12.cell? ⟨gb162, 1, none⟩ = some (.bool false) := (blk_cell BK162.out 1).trans rfl; have hcz13_2 : w12.cell? ⟨gb162, 2, none⟩ = some (.bool false) := (blk_cell BK162.out 2).trans rfl; have hcz13_3 : w12.cell? ⟨gb162, 3, none⟩ = some (.bool false) := (blk_cell BK162.out 3).trans rfl; have hcz13_4 : w12.cell? ⟨gb162, 4, none⟩ = some (.int .i64 0) := (blk_cell BK162.out 4).trans rfl; have hcz13_5 : w12.cell? ⟨gb162, 5, none⟩ = some (.int .i64 0) := (blk_cell BK162.out 5).trans rfl; have hfz13_0 := blk_frozen BK162.out 0; have hfz13_1 := blk_frozen BK162.out 1; have hfz13_2 := blk_frozen BK162.out 2; have hfz13_3 := blk_frozen BK162.out 3; have hfz13_4 := blk_frozen BK162.out 4; have hfz13_5 := blk_frozen BK162.out 5; obtain ⟨Ao14, co14, eo14⟩ := Kd.R_slice HO_3.out; subst eo14))
           have n0_ : Aside0 (Kd.R k42 42 ((((((w12.setCell ⟨gb162, 0, none⟩ (.string ((rd_T42 l0 x9_1).f0))).setCell ⟨gb162, 1, none⟩ (.bool ((rd_T42 l0 x9_1).f1.f0))).setCell ⟨gb162, 2, none⟩ (.bool ((rd_T42 l0 x9_1).f1.f1))).setCell ⟨gb162, 3, none⟩ (.bool ((rd_T42 l0 x9_1).f1.f2))).setCell ⟨gb162, 4, none⟩ (.int .i64 ((rd_T42 l0 x9_1).f1.f3))).setCell ⟨gb162, 5, none⟩ (.int .i64 ((rd_T42 l0 x9_1).f1.f4))) w.heap.size (fun k_ => k_ ≠ gb162) (.slice Ao14 x3_1.length co14) x3_1) := ⟨by (with_reducible repeat (first | apply Kd.R_alloc | apply Kd.R_drewN | apply Kd.R_drew)); exact Kd.R_mono (Kd.R_far (p := ⟨gb162, 5, none⟩) (Kd.R_far (p := ⟨gb162, 4, none⟩) (Kd.R_far (p := ⟨gb162, 3, none⟩) (Kd.R_far (p := ⟨gb162, 2, none⟩) (Kd.R_far (p := ⟨gb162, 1, none⟩) (Kd.R_far (p := ⟨gb162, 0, none⟩) (Kd.R_mono HO_3.out (fun k_ hk => (⟨hk, hk.2⟩ : _ ∧ k_ ≠ gb162))) (fun _ hk => hk.2) (.string ((rd_T42 l0 x9_1).f0))) (fun _ hk => hk.2) (.bool ((rd_T42 l0 x9_1).f1.f0))) (fun _ hk => hk.2) (.bool ((rd_T42 l0 x9_1).f1.f1))) (fun _ hk => hk.2) (.bool ((rd_T42 l0 x9_1).f1.f2))) (fun _ hk => hk.2) (.int .i64 ((rd_T42 l0 x9_1).f1.f3))) (fun _ hk => hk.2) (.int .i64 ((rd_T42 l0 x9_1).f1.f4))) (fun _ hk => hk.1.2)⟩
           have n1_ : Aside0 (((((((w12.setCell ⟨gb162, 0, none⟩ (.string ((rd_T42 l0 x9_1).f0))).setCell ⟨gb162, 1, none⟩ (.bool ((rd_T42 l0 x9_1).f1.f0))).setCell ⟨gb162, 2, none⟩ (.bool ((rd_T42 l0 x9_1).f1.f1))).setCell ⟨gb162, 3, none⟩ (.bool ((rd_T42 l0 x9_1).f1.f2))).setCell ⟨gb162, 4, none⟩ (.int .i64 ((rd_T42 l0 x9_1).f1.f3))).setCell ⟨gb162, 5, none⟩ (.int .i64 ((rd_T42 l0 x9_1).f1.f4))).heap[gb162]? = some (.cells #[.string ((rd_T42 l0 x9_1).f0), .bool ((rd_T42 l0 x9_1).f1.f0), .bool ((rd_T42 l0 x9_1).f1.f1), .bool ((rd_T42 l0 x9_1).f1.f2), .int .i64 ((rd_T42 l0 x9_1).f1.f3), .int .i64 ((rd_T42 l0 x9_1).f1.f4)] 42 (0, 0))) := ⟨by (with_reducible repeat (first | refine blk_drewN ?_ _ | refine blk_drew ?_ | refine blk_alloc ?_ _)); refine blk_put (cs := #[.string ((rd_T42 l0 x9_1).f0), .bool ((rd_T42 l0 x9_1).f1.f0), .bool ((rd_T42 l0 x9_1).f1.f1), .bool ((rd_T42 l0 x9_1).f1.f2), .int .i64 ((rd_T42 l0 x9_1).f1.f3), .int .i64 0]) ?_ 5 _ rfl; (with_reducible repeat (first | refine blk_drewN ?_ _ | refine blk_drew ?_ | refine blk_alloc ?_ _)); refine blk_put (cs := #[.string ((rd_T42 l0 x9_1).f0), .bool ((rd_T42 l0 x9_1).f1.f0), .bool ((rd_T42 l0 x9_1).f1.f1), .bool ((rd_T42 l0 x9_1).f1.f2), .int .i64 0, .int .i64 0]) ?_ 4 _ rfl; (with_reducible repeat (first | refine blk_drewN ?_ _ | refine blk_drew ?_ | refine blk_alloc ?_ _)); refine blk_put (cs := #[.string ((rd_T42 l0 x9_1).f0), .bool ((rd_T42 l0 x9_1).f1.f0), .bool ((rd_T42 l0 x9_1).f1.f1), .bool false, .int .i64 0, .int .i64 0]) ?_ 3 _ rfl; (with_reducible repeat (first | refine blk_drewN ?_ _ | refine blk_drew ?_ | refine blk_alloc ?_ _)); refine blk_put (cs := #[.string ((rd_T42 l0 x9_1).f0), .bool ((rd_T42 l0 x9_1).f1.f0), .bool false, .bool false, .int .i64 0, .int .i64 0]) ?_ 2 _ rfl; (with_reducible repeat (first | refine blk_drewN ?_ _ | refine blk_drew ?_ | refine blk_alloc ?_ _)); refine blk_put (cs := #[.string ((rd_T42 l0 x9_1).f0), .bool false, .bool false, .bool false, .int .i64 0, .int .i64 0]) ?_ 1 _ rfl; (with_reducible repeat (first | refine blk_drewN ?_ _ | refine blk_drew ?_ | refine blk_alloc ?_ _)); refine blk_put (cs := #[.string (⟨#[]⟩ : ByteArray), .bool false, .bool false, .bool false, .int .i64 0, .int .i64 0]) ?_ 0 _ rfl; (with_reducible repeat (first | refine blk_drewN ?_ _ | refine blk_drew ?_ | refine blk_alloc ?_ _)); exact BK162.out⟩
           have n2_ : Aside0 (Below w.heap.size w ((((((w12.setCell ⟨gb162, 0, none⟩ (.string ((rd_T42 l0 x9_1).f0))).setCell ⟨gb162, 1, none⟩ (.bool ((rd_T42 l0 x9_1).f1.f0))).setCell ⟨gb162, 2, none⟩ (.bool ((rd_T42 l0 x9_1).f1.f1))).setCell ⟨gb162, 3, none⟩ (.bool ((rd_T42 l0 x9_1).f1.f2))).setCell ⟨gb162, 4, none⟩ (.int .i64 ((rd_T42 l0 x9_1).f1.f3))).setCell ⟨gb162, 5, none⟩ (.int .i64 ((rd_T42 l0 x9_1).f1.f4)))) := ⟨by repeat (first | (with_reducible first | exact HB.out | apply below_alloc | apply pw_below_drewN | apply below_drew1 | refine below_set ?_ GE162.out) | exact HB.out)⟩
           (try clear HO_3)
           (try clear BK162)
           (try clear HB)
           generalize ((((((w12.setCell ⟨gb162, 0, none⟩ (.string ((rd_T42 l0 x9_1).f0))).setCell ⟨gb162, 1, none⟩ (.bool ((rd_T42 l0 x9_1).f1.f0))).setCell ⟨gb162, 2, none⟩ (.bool ((rd_T42 l0 x9_1).f1.f1))).setCell ⟨gb162, 3, none⟩ (.bool ((rd_T42 l0 x9_1).f1.f2))).setCell ⟨gb162, 4, none⟩ (.int .i64 ((rd_T42 l0 x9_1).f1.f3))).setCell ⟨gb162, 5, none⟩ (.int .i64 ((rd_T42 l0 x9_1).f1.f4))) = w15 at n0_ n1_ n2_ ⊢
           have HO_3 := n0_
           have BK162 := n1_
           have HB := n2_
           clear n0_ n1_ n2_
           have n0_ := Aside0.mk (Kd.R_drew HO_3.out)
           have n1_ := Aside0.mk (blk_drew BK162.out)
           have n2_ := Aside0.mk (below_drew1 HB.out)
           clear HO_3
           clear BK162
           clear HB
           have HO_3 := n0_
           have BK162 := n1_
           have HB := n2_
           clear n0_ n1_ n2_
           have p163 : 0 ≤ ((ji6) : Int) := of_decide_eq_true (by first | (with_reducible assumption) | assumption)
           have q163 : (ji6) < (x3_1.length : Int) := of_decide_eq_true (by first | (with_reducible assumption) | assumption)
           obtain ⟨ad163, e163, hx163_0, hx163_1, hx163_2, hx163_3, hx163_4, hx163_5⟩ := at_T42 (Kd.R_reads' HO_3.out).2.2 (ji6) p163 q163
           cases e163
           replace p163 := eq_true p163
           replace q163 := eq_true q163
           refine start_ (n := 13) (S := fun w' => w'.cell? ⟨gb162, 0, none⟩ = some (.string ((rd_T42 l0 x9_1).f0)) ∧ w'.cell? ⟨gb162, 1, none⟩ = some (.bool ((rd_T42 l0 x9_1).f1.f0)) ∧ w'.cell? ⟨gb162, 2, none⟩ = some (.bool ((rd_T42 l0 x9_1).f1.f1)) ∧ w'.cell? ⟨gb162, 3, none⟩ = some (.bool ((rd_T42 l0 x9_1).f1.f2)) ∧ w'.cell? ⟨gb162, 4, none⟩ = some (.int .i64 ((rd_T42 l0 x9_1).f1.f3)) ∧ w'.cell? ⟨gb162, 5, none⟩ = some (.int .i64 ((rd_T42 l0 x9_1).f1.f4)) ∧ w'.cell? (ad163.add (((ji6)).toNat * 6)) = some (.string ((rd_T42 x3_1 (ji6)).f0)) ∧ w'.cell? ⟨(ad163.add (((ji6)).toNat * 6)).block, (ad163.add (((ji6)).toNat * 6)).off + 1, none⟩ = some (.bool ((rd_T42 x3_1 (ji6)).f1.f0)) ∧ w'.cell? ⟨(ad163.add (((ji6)).toNat * 6)).block, (ad163.add (((ji6)).toNat * 6)).off + 2, none⟩ = some (.bool ((rd_T42 x3_1 (ji6)).f1.f1)) ∧ w'.cell? ⟨(ad163.add (((ji6)).toNat * 6)).block, (ad163.add (((ji6)).toNat * 6)).off + 3, none⟩ = some (.bool ((rd_T42 x3_1 (ji6)).f1.f2)) ∧ w'.cell? ⟨(ad163.add (((ji6)).toNat * 6)).block, (ad163.add (((ji6)).toNat * 6)).off + 4, none⟩ = some (.int .i64 ((rd_T42 x3_1 (ji6)).f1.f3)) ∧ w'.cell? ⟨(ad163.add (((ji6)).toNat * 6)).block, (ad163.add (((ji6)).toNat * 6)).off + 5, none⟩ = some (.int .i64 ((rd_T42 x3_1 (ji6)).f1.f4))) (ds := []) #[false, false, false, false, false, false, false, false, false, false, false, false, false] (by kernel_rfl) rfl rfl ⟨(blk_cell BK162.out 0).trans rfl, (blk_cell BK162.out 1).trans rfl, (blk_cell BK162.out 2).trans rfl, (blk_cell BK162.out 3).trans rfl, (blk_cell BK162.out 4).trans rfl, (blk_cell BK162.out 5).trans rfl, hx163_0, hx163_1, hx163_2, hx163_3, hx163_4, hx163_5⟩ (fun hHeld => ?_); refine with_tabW text_joined.tab6 text_joined.bits6 (fun HT_ HW_ => ?_)
           generalize w15.drew = w16 at HO_3 BK162 HB hx163_0 hx163_1 hx163_2 hx163_3 hx163_4 hx163_5 hHeld ⊢
           refine pure_ (i := 0) (N := some 15) (v := ?_) (a' := ?_) #[true, false, false, false, false, false, false, false, false, false, false, false, false] rfl rfl (any_of HT_.out (by kernel_rfl)) (fun _ _ _ h => h) (Or.inl ⟨by rfl, ?_⟩) ?_ ?_
           rotate_left
           ·intro w'
            go_simp
            with_reducible rfl
           rotate_left
           ·simp only [Act.put, List.setIfInBounds_toArray, List.set_cons_zero, List.set_cons_succ, i64_w, i32_w]
            rfl
           refine pure_ (i := 1) (N := some 16) (v := ?_) (a' := ?_) #[true, true, false, false, false, false, false, false, false, false, false, false, false] rfl rfl (any_of HT_.out (by kernel_rfl)) (fun _ _ _ h => h) (Or.inl ⟨by rfl, ?_⟩) ?_ ?_
           rotate_left
           ·intro w'
            go_simp
            with_reducible rfl
           rotate_left
           ·simp only [Act.put, List.setIfInBounds_toArray, List.set_cons_zero, List.set_cons_succ, i64_w, i32_w]
            rfl
           refine pure_ (i := 2) (N := some 17) (v := ?_) (a' := ?_) #[true, true, true, false, false, false, false, false, false, false, false, false, false] rfl rfl (any_of HT_.out (by kernel_rfl)) (fun _ _ _ h => h) (Or.inl ⟨by rfl, ?_⟩) ?_ ?_
           rotate_left
           ·intro w'
            go_simp
            with_reducible rfl
           rotate_left
           ·simp only [Act.put, List.setIfInBounds_toArray, List.set_cons_zero, List.set_cons_succ, i64_w, i32_w]
            rfl
           refine pure_ (i := 3) (N := some 18) (v := ?_) (a' := ?_) #[true, true, true, true, false, false, false, false, false, false, false, false, false] rfl rfl (any_of HT_.out (by kernel_rfl)) (fun _ _ _ h => h) (Or.inl ⟨by rfl, ?_⟩) ?_ ?_
           rotate_left
           ·intro w'
            go_simp
            with_reducible rfl
           rotate_left
           ·simp only [Act.put, List.setIfInBounds_toArray, List.set_cons_zero, List.set_cons_succ, i64_w, i32_w]
            rfl
           refine pure_ (i := 4) (N := some 19) (v := ?_) (a' := ?_) #[true, true, true, true, true, false, false, false, false, false, false, false, false] rfl rfl (any_of HT_.out (by kernel_rfl)) (fun _ _ _ h => h) (Or.inl ⟨by rfl, ?_⟩) ?_ ?_
           rotate_left
           ·intro w'
            go_simp
            with_reducible rfl
           rotate_left
           ·simp only [Act.put, List.setIfInBounds_toArray, List.set_cons_zero, List.set_cons_succ, i64_w, i32_w]
            rfl
           refine pure_ (i := 5) (N := some 20) (v := ?_) (a' := ?_) #[true, true, true, true, true, true, false, false, false, false, false, false, false] rfl rfl (any_of HT_.out (by kernel_rfl)) (fun _ _ _ h => h) (Or.inl ⟨by rfl, ?_⟩) ?_ ?_
           rotate_left
           ·intro w'
            go_simp
            with_reducible rfl
           rotate_left
           ·simp only [Act.put, List.setIfInBounds_toArray, List.set_cons_zero, List.set_cons_succ, i64_w, i32_w]
            rfl
           refine pure_ (i := 6) (N := some 21) (v := ?_) (a' := ?_) #[true, true, true, true, true, true, true, false, false, false, false, false, false] rfl rfl (any_of HT_.out (by kernel_rfl)) (fun _ _ _ h => h) (Or.inl ⟨by rfl, ?_⟩) ?_ ?_
           rotate_left
           ·intro w'
            go_simp
            with_reducible rfl
           rotate_left
           ·simp only [Act.put, List.setIfInBounds_toArray, List.set_cons_zero, List.set_cons_succ, i64_w, i32_w]
            rfl
           refine pure_ (i := 7) (N := some 22) (v := ?_) (a' := ?_) #[true, true, true, true, true, true, true, true, false, false, false, false, false] rfl rfl (any_of HT_.out (by kernel_rfl)) (fun _ _ _ h => h) (Or.inl ⟨by rfl, ?_⟩) ?_ ?_
           rotate_left
           ·intro w'
            go_simp
            with_reducible rfl
           rotate_left
           ·simp only [Act.put, List.setIfInBounds_toArray, List.set_cons_zero, List.set_cons_succ, i64_w, i32_w]
            rfl
           refine pure_ (i := 9) (N := some 24) (v := ?_) (a' := ?_) #[true, true, true, true, true, true, true, true, false, true, false, false, false] rfl rfl (any_of HT_.out (by kernel_rfl)) (fun _ _ _ h => h) (Or.inl ⟨by rfl, ?_⟩) ?_ ?_
           rotate_left
           ·intro w'
            go_simp
            with_reducible rfl
           rotate_left
           ·simp only [Act.put, List.setIfInBounds_toArray, List.set_cons_zero, List.set_cons_succ, i64_w, i32_w]
            rfl
           refine take_ (i := 8) (N := some 23) (v := ?_) (a' := ?_) #[true, true, true, true, true, true, true, true, true, true, false, false, false] rfl rfl (take_ofW HT_.out HW_.out (by kernel_rfl)) (fun _ _ _ h => h) (Or.inl ⟨by rfl, ?_⟩) hHeld ?_ ?_
           rotate_left
           ·rintro w' ⟨s0, s1, s2, s3, s4, s5, s6, s7, s8, s9, s10, s11⟩
            go_simp
            with_reducible rfl
           rotate_left
           ·simp only [Act.put, List.setIfInBounds_toArray, List.set_cons_zero, List.set_cons_succ, i64_w, i32_w]
            rfl
           refine take_ (i := 10) (N := some 25) (v := ?_) (a' := ?_) #[true, true, true, true, true, true, true, true, true, true, true, false, false] rfl rfl (take_ofW HT_.out HW_.out (by kernel_rfl)) (fun _ _ _ h => h) (Or.inl ⟨by rfl, ?_⟩) hHeld ?_ ?_
           rotate_left
           ·rintro w' ⟨s0, s1, s2, s3, s4, s5, s6, s7, s8, s9, s10, s11⟩
            go_simp
            with_reducible rfl
           rotate_left
           ·simp only [Act.put, List.setIfInBounds_toArray, List.set_cons_zero, List.set_cons_succ, i64_w, i32_w]
            rfl
           refine pure_ (i := 11) (N := some 26) (v := ?_) (a' := ?_) #[true, true, true, true, true, true, true, true, true, true, true, true, false] rfl rfl (any_of HT_.out (by kernel_rfl)) (fun _ _ _ h => h) (Or.inl ⟨by rfl, ?_⟩) ?_ ?_
           rotate_left
           ·intro w'
            go_simp
            with_reducible rfl
           rotate_left
           ·simp only [Act.put, List.setIfInBounds_toArray, List.set_cons_zero, List.set_cons_succ, i64_w, i32_w]
            rfl
           refine pure_ (i := 12) (N := some 27) (v := ?_) (a' := ?_) #[true, true, true, true, true, true, true, true, true, true, true, true, true] rfl rfl (any_of HT_.out (by kernel_rfl)) (fun _ _ _ h => h) (Or.inl ⟨by rfl, ?_⟩) ?_ ?_
           rotate_left
           ·intro w'
            go_simp
            with_reducible rfl
           rotate_left
           ·simp only [Act.put, List.setIfInBounds_toArray, List.set_cons_zero, List.set_cons_succ, i64_w, i32_w]
            rfl
           refine done_ (done_of HT_.out (by kernel_rfl)) ?_
           try go_wp2
           have n0_ := Aside0.mk (Kd.R_drew HO_3.out)
           have n1_ := Aside0.mk (blk_drew BK162.out)
           have n2_ := Aside0.mk (below_drew1 HB.out)
           clear HO_3
           clear BK162
           clear HB
           have HO_3 := n0_
           have BK162 := n1_
           have HB := n2_
           clear n0_ n1_ n2_
           have p164 : 0 ≤ ((ji6) : Int) := of_decide_eq_true (by first | (with_reducible assumption) | assumption)
           have q164 : (ji6) < (x3_1.length : Int) := of_decide_eq_true (by first | (with_reducible assumption) | assumption)
           obtain ⟨ad164, e164, hx164_0, hx164_1, hx164_2, hx164_3, hx164_4, hx164_5⟩ := at_T42 (Kd.R_reads' HO_3.out).2.2 (ji6) p164 q164
           obtain rfl : ad163 = ad164 := (by injection e164)
           replace p164 := eq_true p164
           replace q164 := eq_true q164
           have p11 : 0 ≤ ((ji6) : Int) := of_decide_eq_true (by first | (with_reducible assumption) | assumption)
           have q11 : ((ji6) : Int) < ((x3_1.length : Int) : Int) := of_decide_eq_true (by first | (with_reducible assumption) | assumption)
           obtain ⟨go11, co11, eo11, gb11, gl11, cl11, HG11⟩ := Kd.R_form HO_3.out (by omega)
           (first | cases eo11 | (injection eo11 with ea_ en_ ec_; (first | subst ea_ | (injection ea_ with ea_; subst ea_)); subst ec_; clear en_))
           have GB11 := Aside0.mk gb11
           have GG11 := Aside0.mk HG11
           clear gb11 gl11 HG11
           (first | simp only [add_plain] at hx163_0 | skip)
           (first | simp only [add_plain] at hx163_1 | skip)
           (first | simp only [add_plain] at hx163_2 | skip)
           (first | simp only [add_plain] at hx163_3 | skip)
           (first | simp only [add_plain] at hx163_4 | skip)
           (first | simp only [add_plain] at hx163_5 | skip)
           (first | simp only [add_plain] at hx164_0 | skip)
           (first | simp only [add_plain] at hx164_1 | skip)
           (first | simp only [add_plain] at hx164_2 | skip)
           (first | simp only [add_plain] at hx164_3 | skip)
           (first | simp only [add_plain] at hx164_4 | skip)
           (first | simp only [add_plain] at hx164_5 | skip)
           obtain ⟨ce11, hcl11, hM11, hcc11, hfr11⟩ := Kd.R_elem HO_3.out z42 ((ji6) : Int) p11 q11
           obtain rfl := k42_openM hM11
           have hx11_0 : World.cell? _ ⟨go11, ((ji6) : Int).toNat * 6, none⟩ = some (.string ((rd_T42 x3_1 (ji6)).f0)) := hcc11 0 _ rfl
           have hx11_1 : World.cell? _ ⟨go11, ((ji6) : Int).toNat * 6 + 1, none⟩ = some (.bool ((rd_T42 x3_1 (ji6)).f1.f0)) := hcc11 1 _ rfl
           have hx11_2 : World.cell? _ ⟨go11, ((ji6) : Int).toNat * 6 + 2, none⟩ = some (.bool ((rd_T42 x3_1 (ji6)).f1.f1)) := hcc11 2 _ rfl
           have hx11_3 : World.cell? _ ⟨go11, ((ji6) : Int).toNat * 6 + 3, none⟩ = some (.bool ((rd_T42 x3_1 (ji6)).f1.f2)) := hcc11 3 _ rfl
           have hx11_4 : World.cell? _ ⟨go11, ((ji6) : Int).toNat * 6 + 4, none⟩ = some (.int .i64 ((rd_T42 x3_1 (ji6)).f1.f3)) := hcc11 4 _ rfl
           have hx11_5 : World.cell? _ ⟨go11, ((ji6) : Int).toNat * 6 + 5, none⟩ = some (.int .i64 ((rd_T42 x3_1 (ji6)).f1.f4)) := hcc11 5 _ rfl
           have hf11_0 : World.frozen? _ ⟨go11, ((ji6) : Int).toNat * 6, none⟩ = false := hfr11 0
           have hf11_1 : World.frozen? _ ⟨go11, ((ji6) : Int).toNat * 6 + 1, none⟩ = false := hfr11 1
           have hf11_2 : World.frozen? _ ⟨go11, ((ji6) : Int).toNat * 6 + 2, none⟩ = false := hfr11 2
           have hf11_3 : World.frozen? _ ⟨go11, ((ji6) : Int).toNat * 6 + 3, none⟩ = false := hfr11 3
           have hf11_4 : World.frozen? _ ⟨go11, ((ji6) : Int).toNat * 6 + 4, none⟩ = false := hfr11 4
           have hf11_5 : World.frozen? _ ⟨go11, ((ji6) : Int).toNat * 6 + 5, none⟩ = false := hfr11 5
           clear hcl11 hcc11 hfr11 hM11
           replace p11 := eq_true p11
           replace q11 := eq_true q11
           obtain ⟨ce18, hcl18, hM18, hcc18, hfr18⟩ := Kd.R_elem HO_3.out z42 ((ji6) : Int) (of_decide_eq_true (by first | (with_reducible assumption) | assumption)) (by have h_ : ((ji6) : Int) < ((x3_1.length : Int) : Int) := of_decide_eq_true (by first | (with_reducible assumption) | assumption); first | exact h_ | (have e_ := (Kd.R_reads' HO_3.out).1; omega) | simpa using h_)
           obtain rfl := k42_openM hM18
           have HP18 := (Kd.R_seg HO_3.out ((ji6) : Int) (of_decide_eq_true (by first | (with_reducible assumption) | assumption)) (by have h_ : ((ji6) : Int) < ((x3_1.length : Int) : Int) := of_decide_eq_true (by first | (with_reducible assumption) | assumption); first | exact h_ | (have e_ := (Kd.R_reads' HO_3.out).1; omega) | simpa using h_) (seg := [.string (((rd_T42 x3_1 (ji6)).f0) ++ ((rd_T42 l0 x9_1).f0))]) (j := 0) hcl18 hcc18 (show 1 ≤ 6 from by decide) (x' := (⟨((rd_T42 x3_1 (ji6)).f0) ++ ((rd_T42 l0 x9_1).f0), (⟨(rd_T42 x3_1 (ji6)).f1.f0, (rd_T42 x3_1 (ji6)).f1.f1, (rd_T42 x3_1 (ji6)).f1.f2, (rd_T42 x3_1 (ji6)).f1.f3, (rd_T42 x3_1 (ji6)).f1.f4⟩ : S40)⟩ : S42)) (k42_mkM _ _ _ (⟨((rd_T42 x3_1 (ji6)).f0) ++ ((rd_T42 l0 x9_1).f0), (⟨(rd_T42 x3_1 (ji6)).f1.f0, (rd_T42 x3_1 (ji6)).f1.f1, (rd_T42 x3_1 (ji6)).f1.f2, (rd_T42 x3_1 (ji6)).f1.f3, (rd_T42 x3_1 (ji6)).f1.f4⟩ : S40)⟩ : S42) ) (fun _ hk => hk)).1
           rw [← Ny165.out] at HP18
           have HQ18 := Aside0.mk HP18
           clear hcl18 hcc18 hfr18 hM18 HP18
           refine start_ (n := 12) (S := fun w' => w'.cell? ⟨gb162, 0, none⟩ = some (.string ((rd_T42 l0 x9_1).f0)) ∧ w'.cell? ⟨gb162, 1, none⟩ = some (.bool ((rd_T42 l0 x9_1).f1.f0)) ∧ w'.cell? ⟨gb162, 2, none⟩ = some (.bool ((rd_T42 l0 x9_1).f1.f1)) ∧ w'.cell? ⟨gb162, 3, none⟩ = some (.bool ((rd_T42 l0 x9_1).f1.f2)) ∧ w'.cell? ⟨gb162, 4, none⟩ = some (.int .i64 ((rd_T42 l0 x9_1).f1.f3)) ∧ w'.cell? ⟨gb162, 5, none⟩ = some (.int .i64 ((rd_T42 l0 x9_1).f1.f4)) ∧ w'.cell? ⟨go11, ((ji6)).toNat * 6, none⟩ = some (.string ((rd_T42 x3_1 (ji6)).f0)) ∧ w'.cell? ⟨go11, ((ji6)).toNat * 6 + 1, none⟩ = some (.bool ((rd_T42 x3_1 (ji6)).f1.f0)) ∧ w'.cell? ⟨go11, ((ji6)).toNat * 6 + 2, none⟩ = some (.bool ((rd_T42 x3_1 (ji6)).f1.f1)) ∧ w'.cell? ⟨go11, ((ji6)).toNat * 6 + 3, none⟩ = some (.bool ((rd_T42 x3_1 (ji6)).f1.f2)) ∧ w'.cell? ⟨go11, ((ji6)).toNat * 6 + 4, none⟩ = some (.int .i64 ((rd_T42 x3_1 (ji6)).f1.f3)) ∧ w'.cell? ⟨go11, ((ji6)).toNat * 6 + 5, none⟩ = some (.int .i64 ((rd_T42 x3_1 (ji6)).f1.f4))) (ds := [11]) #[false, false, false, false, false, false, false, false, false, false, false, false] (by kernel_rfl) rfl rfl ⟨(blk_cell BK162.out 0).trans rfl, (blk_cell BK162.out 1).trans rfl, (blk_cell BK162.out 2).trans rfl, (blk_cell BK162.out 3).trans rfl, (blk_cell BK162.out 4).trans rfl, (blk_cell BK162.out 5).trans rfl, hx164_0, hx164_1, hx164_2, hx164_3, hx164_4, hx164_5⟩ (fun hHeld => ?_); refine with_tabW text_joined.tab7 text_joined.bits7 (fun HT_ HW_ => ?_)
           generalize w16.drew = w17 at HO_3 BK162 HB GG11 HQ18 hf11_0 hf11_1 hf11_2 hf11_3 hf11_4 hf11_5 hx11_0 hx11_1 hx11_2 hx11_3 hx11_4 hx11_5 hx163_0 hx163_1 hx163_2 hx163_3 hx163_4 hx163_5 hx164_0 hx164_1 hx164_2 hx164_3 hx164_4 hx164_5 hHeld ⊢
           refine pure_ (i := 0) (N := some 28) (v := ?_) (a' := ?_) #[true, false, false, false, false, false, false, false, false, false, false, false] rfl rfl (any_of HT_.out (by kernel_rfl)) (fun _ _ _ h => h) (Or.inl ⟨by rfl, ?_⟩) ?_ ?_
           rotate_left
           ·intro w'
            go_simp
            with_reducible rfl
           rotate_left
           ·simp only [Act.put, List.setIfInBounds_toArray, List.set_cons_zero, List.set_cons_succ, i64_w, i32_w]
            rfl
           refine pure_ (i := 1) (N := some 29) (v := ?_) (a' := ?_) #[true, true, false, false, false, false, false, false, false, false, false, false] rfl rfl (any_of HT_.out (by kernel_rfl)) (fun _ _ _ h => h) (Or.inl ⟨by rfl, ?_⟩) ?_ ?_
           rotate_left
           ·intro w'
            go_simp
            with_reducible rfl
           rotate_left
           ·simp only [Act.put, List.setIfInBounds_toArray, List.set_cons_zero, List.set_cons_succ, i64_w, i32_w]
            rfl
           refine pure_ (i := 2) (N := some 30) (v := ?_) (a' := ?_) #[true, true, true, false, false, false, false, false, false, false, false, false] rfl rfl (any_of HT_.out (by kernel_rfl)) (fun _ _ _ h => h) (Or.inl ⟨by rfl, ?_⟩) ?_ ?_
           rotate_left
           ·intro w'
            go_simp
            with_reducible rfl
           rotate_left
           ·simp only [Act.put, List.setIfInBounds_toArray, List.set_cons_zero, List.set_cons_succ, i64_w, i32_w]
            rfl
           refine pure_ (i := 3) (N := some 31) (v := ?_) (a' := ?_) #[true, true, true, true, false, false, false, false, false, false, false, false] rfl rfl (any_of HT_.out (by kernel_rfl)) (fun _ _ _ h => h) (Or.inl ⟨by rfl, ?_⟩) ?_ ?_
           rotate_left
           ·intro w'
            go_simp
            with_reducible rfl
           rotate_left
           ·simp only [Act.put, List.setIfInBounds_toArray, List.set_cons_zero, List.set_cons_succ, i64_w, i32_w]
            rfl
           refine pure_ (i := 4) (N := some 32) (v := ?_) (a' := ?_) #[true, true, true, true, true, false, false, false, false, false, false, false] rfl rfl (any_of HT_.out (by kernel_rfl)) (fun _ _ _ h => h) (Or.inl ⟨by rfl, ?_⟩) ?_ ?_
           rotate_left
           ·intro w'
            go_simp
            with_reducible rfl
           rotate_left
           ·simp only [Act.put, List.setIfInBounds_toArray, List.set_cons_zero, List.set_cons_succ, i64_w, i32_w]
            rfl
           refine pure_ (i := 6) (N := some 34) (v := ?_) (a' := ?_) #[true, true, true, true, true, false, true, false, false, false, false, false] rfl rfl (any_of HT_.out (by kernel_rfl)) (fun _ _ _ h => h) (Or.inl ⟨by rfl, ?_⟩) ?_ ?_
           rotate_left
           ·intro w'
            go_simp
            with_reducible rfl
           rotate_left
           ·simp only [Act.put, List.setIfInBounds_toArray, List.set_cons_zero, List.set_cons_succ, i64_w, i32_w]
            rfl
           refine take_ (i := 5) (N := some 33) (v := ?_) (a' := ?_) #[true, true, true, true, true, true, true, false, false, false, false, false] rfl rfl (take_ofW HT_.out HW_.out (by kernel_rfl)) (fun _ _ _ h => h) (Or.inl ⟨by rfl, ?_⟩) hHeld ?_ ?_
           rotate_left
           ·rintro w' ⟨s0, s1, s2, s3, s4, s5, s6, s7, s8, s9, s10, s11⟩
            go_simp
            with_reducible rfl
           rotate_left
           ·simp only [Act.put, List.setIfInBounds_toArray, List.set_cons_zero, List.set_cons_succ, i64_w, i32_w]
            rfl
           refine take_ (i := 7) (N := some 35) (v := ?_) (a' := ?_) #[true, true, true, true, true, true, true, true, false, false, false, false] rfl rfl (take_ofW HT_.out HW_.out (by kernel_rfl)) (fun _ _ _ h => h) (Or.inl ⟨by rfl, ?_⟩) hHeld ?_ ?_
           rotate_left
           ·rintro w' ⟨s0, s1, s2, s3, s4, s5, s6, s7, s8, s9, s10, s11⟩
            go_simp
            with_reducible rfl
           rotate_left
           ·simp only [Act.put, List.setIfInBounds_toArray, List.set_cons_zero, List.set_cons_succ, i64_w, i32_w]
            rfl
           refine pure_ (i := 8) (N := some 36) (v := ?_) (a' := ?_) #[true, true, true, true, true, true, true, true, true, false, false, false] rfl rfl (any_of HT_.out (by kernel_rfl)) (fun _ _ _ h => h) (Or.inl ⟨by rfl, ?_⟩) ?_ ?_
           rotate_left
           ·intro w'
            go_simp
            with_reducible rfl
           rotate_left
           ·simp only [Act.put, List.setIfInBounds_toArray, List.set_cons_zero, List.set_cons_succ, i64_w, i32_w]
            rfl
           refine pure_ (i := 9) (N := some 37) (v := ?_) (a' := ?_) #[true, true, true, true, true, true, true, true, true, true, false, false] rfl rfl (any_of HT_.out (by kernel_rfl)) (fun _ _ _ h => h) (Or.inl ⟨by rfl, ?_⟩) ?_ ?_
           rotate_left
           ·intro w'
            go_simp
            with_reducible rfl
           rotate_left
           ·simp only [Act.put, List.setIfInBounds_toArray, List.set_cons_zero, List.set_cons_succ, i64_w, i32_w]
            rfl
           refine pure_ (i := 10) (N := some 38) (v := ?_) (a' := ?_) #[true, true, true, true, true, true, true, true, true, true, true, false] rfl rfl (any_of HT_.out (by kernel_rfl)) (fun _ _ _ h => h) (Or.inl ⟨by rfl, ?_⟩) ?_ ?_
           rotate_left
           ·intro w'
            go_simp
            with_reducible rfl
           rotate_left
           ·simp only [Act.put, List.setIfInBounds_toArray, List.set_cons_zero, List.set_cons_succ, i64_w, i32_w]
            rfl
           refine last_ (i := 11) (N := none) #[true, true, true, true, true, true, true, true, true, true, true, true] rfl rfl (one_of HT_.out (by kernel_rfl)) (by decide) (fun K hK => ?_)
           refine skip_ (w1 := ?_) (by rfl) rfl ?_ ?_
           rotate_left
           ·go_simp
            rfl
           refine hK.out _ _ ?_
           clear hK K
           refine done_ (done_of HT_.out (by kernel_rfl)) ?_
           try go_wp2
           go_roundg k1
           case measure => have := HK1.out; omega
           case rel => exact ⟨(y165), (wrap64 (x9_1 + 1)), (by first | rfl | (simp; done) | (simp [*]; done)), H', ⟨by have := HK1.out; omega⟩, ⟨by (with_reducible repeat (first | apply Kd.R_alloc | apply Kd.R_drewN | apply Kd.R_drew)); exact Kd.R_mono HQ18.out (fun _ hk => trivial)⟩, ⟨by repeat (first | (with_reducible first | exact HB.out | apply below_alloc | apply pw_below_drewN | apply below_drew1 | refine below_set ?_ GB11.out | refine below_set ?_ GE162.out) | exact HB.out)⟩⟩
          ·rw [if_neg c10] at H
           exact absurd H (by simp)
         ·rw [if_neg c9] at H
          have c9b0 : (((rd_T42 x3_1 (ji6)).f1.f0) == ((rd_T42 l0 x9_1).f1.f0) && (((rd_T42 x3_1 (ji6)).f1.f1) == ((rd_T42 l0 x9_1).f1.f1) && (((rd_T42 x3_1 (ji6)).f1.f2) == ((rd_T42 l0 x9_1).f1.f2) && (((rd_T42 x3_1 (ji6)).f1.f3) == ((rd_T42 l0 x9_1).f1.f3) && (((rd_T42 x3_1 (ji6)).f1.f4) == ((rd_T42 l0 x9_1).f1.f4)))))) = false := by simpa using c9
          (try (have c9b1 : decide (((rd_T42 x3_1 (ji6)).f1.f0) = ((rd_T42 l0 x9_1).f1.f0) && (((rd_T42 x3_1 (ji6)).f1.f1) == ((rd_T42 l0 x9_1).f1.f1) && (((rd_T42 x3_1 (ji6)).f1.f2) == ((rd_T42 l0 x9_1).f1.f2) && (((rd_T42 x3_1 (ji6)).f1.f3) == ((rd_T42 l0 x9_1).f1.f3) && (((rd_T42 x3_1 (ji6)).f1.f4) == ((rd_T42 l0 x9_1).f1.f4)))))) = false := by simpa using c9))
          (try (have c9b2 : (((rd_T42 x3_1 (ji6)).f1.f0) == ((rd_T42 l0 x9_1).f1.f0) && (((rd_T42 x3_1 (ji6)).f1.f1) == ((rd_T42 l0 x9_1).f1.f1) && (((rd_T42 x3_1 (ji6)).f1.f2) == ((rd_T42 l0 x9_1).f1.f2) && (((rd_T42 x3_1 (ji6)).f1.f3) == ((rd_T42 l0 x9_1).f1.f3) && (((rd_T42 x3_1 (ji6)).f1.f4) == ((rd_T42 l0 x9_1).f1.f4)))))) = false := by simpa using c9))
          (try (have c9b3 : ¬ (((rd_T42 x3_1 (ji6)).f1.f0) = ((rd_T42 l0 x9_1).f1.f0) && (((rd_T42 x3_1 (ji6)).f1.f1) == ((rd_T42 l0 x9_1).f1.f1) && (((rd_T42 x3_1 (ji6)).f1.f2) == ((rd_T42 l0 x9_1).f1.f2) && (((rd_T42 x3_1 (ji6)).f1.f3) == ((rd_T42 l0 x9_1).f1.f3) && (((rd_T42 x3_1 (ji6)).f1.f4) == ((rd_T42 l0 x9_1).f1.f4)))))) := by simpa using c9))
          clear c9
          by_cases c19 : x3_1.length < 3518437208883
          ·rw [if_pos c19] at H
           have LMc19 := Aside0.mk c19
           clear c19
           obtain ⟨y166, hy166⟩ : ∃ y_ : List (S42), y_ = (x3_1 ++ [(⟨(rd_T42 l0 x9_1).f0, (⟨(rd_T42 l0 x9_1).f1.f0, (rd_T42 l0 x9_1).f1.f1, (rd_T42 l0 x9_1).f1.f2, (rd_T42 l0 x9_1).f1.f3, (rd_T42 l0 x9_1).f1.f4⟩ : S40)⟩ : S42)]) := ⟨_, rfl⟩
           replace H : (text_joined.l0 k1 y166 l0 (l0.length : Int) (wrap64 (x9_1 + 1))) = some r := by first | (rw [hy166]; with_reducible exact H) | (have H2_ := (Option.bind_some _ _).symm.trans H; rw [hy166]; with_reducible exact H2_) | (have H2_ := (Option.bind_some _ _).symm.trans H; with_reducible exact H2_) | with_reducible exact H | (rw [hy166]; exact H) | exact H
           have Ny166 := Aside0.mk hy166
           clear hy166
           have H' := Aside0.mk H
           clear H
           have p161 : 0 ≤ (x9_1 : Int) := of_decide_eq_true (by first | (with_reducible assumption) | assumption)
           have q161 : x9_1 < (l0.length : Int) := of_decide_eq_true (by first | (with_reducible assumption) | assumption)
           obtain ⟨ad161, e161, hx161_0, hx161_1, hx161_2, hx161_3, hx161_4, hx161_5⟩ := at_T42 HR0.out x9_1 p161 q161
           cases e161
           replace hx161_0 := (HB.out.cell (World.block_lt_of_cell? w _ hx161_0)).trans hx161_0
           replace hx161_1 := (HB.out.cell (World.block_lt_of_cell? w _ hx161_1)).trans hx161_1
           replace hx161_2 := (HB.out.cell (World.block_lt_of_cell? w _ hx161_2)).trans hx161_2
           replace hx161_3 := (HB.out.cell (World.block_lt_of_cell? w _ hx161_3)).trans hx161_3
           replace hx161_4 := (HB.out.cell (World.block_lt_of_cell? w _ hx161_4)).trans hx161_4
           replace hx161_5 := (HB.out.cell (World.block_lt_of_cell? w _ hx161_5)).trans hx161_5
           replace p161 := eq_true p161
           replace q161 := eq_true q161
           try go_wp2_with (first | ((with_reducible refine gate_dst (N := 5) rfl ?_); refine box_event ?hg (N := 5) ?hd (cs := #[.string (⟨#[]⟩ : ByteArray), .bool false, .bool false, .bool false, .int .i64 0, .int .i64 0]) (t := 42) ?hr ?_; (case hd => rfl); (case hg => rfl); (case hr => first | (go_simp; done) | (go_simp; rfl)); intro gb162 hg w20 hbox hb; have n0_ := Aside0.mk (Kd.R_below (Kd.R_elderB (by (with_reducible repeat (first | apply Kd.R_alloc | apply Kd.R_drewN | apply Kd.R_drew)); exact HO_3.out) gb162 (Nat.le_of_eq hg.symm)) hb); have n1_ := Aside0.mk (below_step (by repeat (first | (with_reducible first | exact HB.out | apply below_alloc | apply pw_below_drewN | apply below_drew1) | exact HB.out)) hb); have n2_ := Aside0.mk (hbox); have n3_ := Aside0.mk ((by rw [hg]; exact (below_size (by repeat (first | (with_reducible first | exact HB.out | apply below_alloc | apply pw_below_drewN | apply below_drew1) | exact HB.out))) : w.heap.size ≤ gb162)); have n4_ := Aside0.mk ((by rw [hg]; exact (below_size (by repeat (first | (with_reducible first | exact HB.out | apply below_alloc | apply pw_below_drewN | apply below_drew1) | exact HB.out))) : w.heap.size ≤ gb162)); clear HO_3; clear HB; have HO_3 := n0_; have HB := n1_; have BK162 := n2_; have GW162 := n3_; have GE162 := n4_; clear n0_ n1_ n2_ n3_ n4_; clear hb hbox hg; have hcz21_0 : w20.cell? ⟨gb162, 0, none⟩ = some (.string (⟨#[]⟩ : ByteArray)) := (blk_cell BK162.out 0).trans rfl; have hcz21_1 : w20.cell? ⟨gb162, 1, none⟩ = some (.bool false) := (blk_cell BK162.out 1).trans rfl; have hcz21_2 : w20.cell? ⟨gb162, 2, none⟩ = some (.bool false) := (blk_cell BK162.out 2).trans rfl; have hcz21_3 : w20.cell? ⟨gb162, 3, none⟩ = some (.bool false) := (blk_cell BK162.out 3).trans rfl; have hcz21_4 : w20.cell? ⟨gb162, 4, none⟩ = some (.int .i64 0) := (blk_cell BK162.out 4).trans rfl; have hcz21_5 : w20.cell? ⟨gb162, 5, none⟩ = some (.int .i64 0) := (blk_cell BK162.out 5).trans rfl; have hfz21_0 := blk_frozen BK162.out 0; have hfz21_1 := blk_frozen BK162.out 1; have hfz21_2 := blk_frozen BK162.out 2; have hfz21_3 := blk_frozen BK162.out 3; have hfz21_4 := blk_frozen BK162.out 4; have hfz21_5 := blk_frozen BK162.out 5; obtain ⟨Ao22, co22, eo22⟩ := Kd.R_slice HO_3.out; subst eo22))
           have n0_ : Aside0 (Kd.R k42 42 ((((((w20.setCell ⟨gb162, 0, none⟩ (.string ((rd_T42 l0 x9_1).f0))).setCell ⟨gb162, 1, none⟩ (.bool ((rd_T42 l0 x9_1).f1.f0))).setCell ⟨gb162, 2, none⟩ (.bool ((rd_T42 l0 x9_1).f1.f1))).setCell ⟨gb162, 3, none⟩ (.bool ((rd_T42 l0 x9_1).f1.f2))).setCell ⟨gb162, 4, none⟩ (.int .i64 ((rd_T42 l0 x9_1).f1.f3))).setCell ⟨gb162, 5, none⟩ (.int .i64 ((rd_T42 l0 x9_1).f1.f4))) w.heap.size (fun k_ => k_ ≠ gb162) (.slice Ao22 x3_1.length co22) x3_1) := ⟨by (with_reducible repeat (first | apply Kd.R_alloc | apply Kd.R_drewN | apply Kd.R_drew)); exact Kd.R_mono (Kd.R_far (p := ⟨gb162, 5, none⟩) (Kd.R_far (p := ⟨gb162, 4, none⟩) (Kd.R_far (p := ⟨gb162, 3, none⟩) (Kd.R_far (p := ⟨gb162, 2, none⟩) (Kd.R_far (p := ⟨gb162, 1, none⟩) (Kd.R_far (p := ⟨gb162, 0, none⟩) (Kd.R_mono HO_3.out (fun k_ hk => (⟨hk, hk.2⟩ : _ ∧ k_ ≠ gb162))) (fun _ hk => hk.2) (.string ((rd_T42 l0 x9_1).f0))) (fun _ hk => hk.2) (.bool ((rd_T42 l0 x9_1).f1.f0))) (fun _ hk => hk.2) (.bool ((rd_T42 l0 x9_1).f1.f1))) (fun _ hk => hk.2) (.bool ((rd_T42 l0 x9_1).f1.f2))) (fun _ hk => hk.2) (.int .i64 ((rd_T42 l0 x9_1).f1.f3))) (fun _ hk => hk.2) (.int .i64 ((rd_T42 l0 x9_1).f1.f4))) (fun _ hk => hk.1.2)⟩
           have n1_ : Aside0 (((((((w20.setCell ⟨gb162, 0, none⟩ (.string ((rd_T42 l0 x9_1).f0))).setCell ⟨gb162, 1, none⟩ (.bool ((rd_T42 l0 x9_1).f1.f0))).setCell ⟨gb162, 2, none⟩ (.bool ((rd_T42 l0 x9_1).f1.f1))).setCell ⟨gb162, 3, none⟩ (.bool ((rd_T42 l0 x9_1).f1.f2))).setCell ⟨gb162, 4, none⟩ (.int .i64 ((rd_T42 l0 x9_1).f1.f3))).setCell ⟨gb162, 5, none⟩ (.int .i64 ((rd_T42 l0 x9_1).f1.f4))).heap[gb162]? = some (.cells #[.string ((rd_T42 l0 x9_1).f0), .bool ((rd_T42 l0 x9_1).f1.f0), .bool ((rd_T42 l0 x9_1).f1.f1), .bool ((rd_T42 l0 x9_1).f1.f2), .int .i64 ((rd_T42 l0 x9_1).f1.f3), .int .i64 ((rd_T42 l0 x9_1).f1.f4)] 42 (0, 0))) := ⟨by (with_reducible repeat (first | refine blk_drewN ?_ _ | refine blk_drew ?_ | refine blk_alloc ?_ _)); refine blk_put (cs := #[.string ((rd_T42 l0 x9_1).f0), .bool ((rd_T42 l0 x9_1).f1.f0), .bool ((rd_T42 l0 x9_1).f1.f1), .bool ((rd_T42 l0 x9_1).f1.f2), .int .i64 ((rd_T42 l0 x9_1).f1.f3), .int .i64 0]) ?_ 5 _ rfl; (with_reducible repeat (first | refine blk_drewN ?_ _ | refine blk_drew ?_ | refine blk_alloc ?_ _)); refine blk_put (cs := #[.string ((rd_T42 l0 x9_1).f0), .bool ((rd_T42 l0 x9_1).f1.f0), .bool ((rd_T42 l0 x9_1).f1.f1), .bool ((rd_T42 l0 x9_1).f1.f2), .int .i64 0, .int .i64 0]) ?_ 4 _ rfl; (with_reducible repeat (first | refine blk_drewN ?_ _ | refine blk_drew ?_ | refine blk_alloc ?_ _)); refine blk_put (cs := #[.string ((rd_T42 l0 x9_1).f0), .bool ((rd_T42 l0 x9_1).f1.f0), .bool ((rd_T42 l0 x9_1).f1.f1), .bool false, .int .i64 0, .int .i64 0]) ?_ 3 _ rfl; (with_reducible repeat (first | refine blk_drewN ?_ _ | refine blk_drew ?_ | refine blk_alloc ?_ _)); refine blk_put (cs := #[.string ((rd_T42 l0 x9_1).f0), .bool ((rd_T42 l0 x9_1).f1.f0), .bool false, .bool false, .int .i64 0, .int .i64 0]) ?_ 2 _ rfl; (with_reducible repeat (first | refine blk_drewN ?_ _ | refine blk_drew ?_ | refine blk_alloc ?_ _)); refine blk_put (cs := #[.string ((rd_T42 l0 x9_1).f0), .bool false, .bool false, .bool false, .int .i64 0, .int .i64 0]) ?_ 1 _ rfl; (with_reducible repeat (first | refine blk_drewN ?_ _ | refine blk_drew ?_ | refine blk_alloc ?_ _)); refine blk_put (cs := #[.string (⟨#[]⟩ : ByteArray), .bool false, .bool false, .bool false, .int .i64 0, .int .i64 0]) ?_ 0 _ rfl; (with_reducible repeat (first | refine blk_drewN ?_ _ | refine blk_drew ?_ | refine blk_alloc ?_ _)); exact BK162.out⟩
           have n2_ : Aside0 (Below w.heap.size w ((((((w20.setCell ⟨gb162, 0, none⟩ (.string ((rd_T42 l0 x9_1).f0))).setCell ⟨gb162, 1, none⟩ (.bool ((rd_T42 l0 x9_1).f1.f0))).setCell ⟨gb162, 2, none⟩ (.bool ((rd_T42 l0 x9_1).f1.f1))).setCell ⟨gb162, 3, none⟩ (.bool ((rd_T42 l0 x9_1).f1.f2))).setCell ⟨gb162, 4, none⟩ (.int .i64 ((rd_T42 l0 x9_1).f1.f3))).setCell ⟨gb162, 5, none⟩ (.int .i64 ((rd_T42 l0 x9_1).f1.f4)))) := ⟨by repeat (first | (with_reducible first | exact HB.out | apply below_alloc | apply pw_below_drewN | apply below_drew1 | refine below_set ?_ GE162.out) | exact HB.out)⟩
           (try clear HO_3)
           (try clear BK162)
           (try clear HB)
           generalize ((((((w20.setCell ⟨gb162, 0, none⟩ (.string ((rd_T42 l0 x9_1).f0))).setCell ⟨gb162, 1, none⟩ (.bool ((rd_T42 l0 x9_1).f1.f0))).setCell ⟨gb162, 2, none⟩ (.bool ((rd_T42 l0 x9_1).f1.f1))).setCell ⟨gb162, 3, none⟩ (.bool ((rd_T42 l0 x9_1).f1.f2))).setCell ⟨gb162, 4, none⟩ (.int .i64 ((rd_T42 l0 x9_1).f1.f3))).setCell ⟨gb162, 5, none⟩ (.int .i64 ((rd_T42 l0 x9_1).f1.f4))) = w23 at n0_ n1_ n2_ ⊢
           have HO_3 := n0_
           have BK162 := n1_
           have HB := n2_
           clear n0_ n1_ n2_
           have n0_ := Aside0.mk (Kd.R_drew HO_3.out)
           have n1_ := Aside0.mk (blk_drew BK162.out)
           have n2_ := Aside0.mk (below_drew1 HB.out)
           clear HO_3
           clear BK162
           clear HB
           have HO_3 := n0_
           have BK162 := n1_
           have HB := n2_
           clear n0_ n1_ n2_
           have p163 : 0 ≤ ((ji6) : Int) := of_decide_eq_true (by first | (with_reducible assumption) | assumption)
           have q163 : (ji6) < (x3_1.length : Int) := of_decide_eq_true (by first | (with_reducible assumption) | assumption)
           obtain ⟨ad163, e163, hx163_0, hx163_1, hx163_2, hx163_3, hx163_4, hx163_5⟩ := at_T42 (Kd.R_reads' HO_3.out).2.2 (ji6) p163 q163
           cases e163
           replace p163 := eq_true p163
           replace q163 := eq_true q163
           refine start_ (n := 13) (S := fun w' => w'.cell? ⟨gb162, 0, none⟩ = some (.string ((rd_T42 l0 x9_1).f0)) ∧ w'.cell? ⟨gb162, 1, none⟩ = some (.bool ((rd_T42 l0 x9_1).f1.f0)) ∧ w'.cell? ⟨gb162, 2, none⟩ = some (.bool ((rd_T42 l0 x9_1).f1.f1)) ∧ w'.cell? ⟨gb162, 3, none⟩ = some (.bool ((rd_T42 l0 x9_1).f1.f2)) ∧ w'.cell? ⟨gb162, 4, none⟩ = some (.int .i64 ((rd_T42 l0 x9_1).f1.f3)) ∧ w'.cell? ⟨gb162, 5, none⟩ = some (.int .i64 ((rd_T42 l0 x9_1).f1.f4)) ∧ w'.cell? (ad163.add (((ji6)).toNat * 6)) = some (.string ((rd_T42 x3_1 (ji6)).f0)) ∧ w'.cell? ⟨(ad163.add (((ji6)).toNat * 6)).block, (ad163.add (((ji6)).toNat * 6)).off + 1, none⟩ = some (.bool ((rd_T42 x3_1 (ji6)).f1.f0)) ∧ w'.cell? ⟨(ad163.add (((ji6)).toNat * 6)).block, (ad163.add (((ji6)).toNat * 6)).off + 2, none⟩ = some (.bool ((rd_T42 x3_1 (ji6)).f1.f1)) ∧ w'.cell? ⟨(ad163.add (((ji6)).toNat * 6)).block, (ad163.add (((ji6)).toNat * 6)).off + 3, none⟩ = some (.bool ((rd_T42 x3_1 (ji6)).f1.f2)) ∧ w'.cell? ⟨(ad163.add (((ji6)).toNat * 6)).block, (ad163.add (((ji6)).toNat * 6)).off + 4, none⟩ = some (.int .i64 ((rd_T42 x3_1 (ji6)).f1.f3)) ∧ w'.cell? ⟨(ad163.add (((ji6)).toNat * 6)).block, (ad163.add (((ji6)).toNat * 6)).off + 5, none⟩ = some (.int .i64 ((rd_T42 x3_1 (ji6)).f1.f4))) (ds := []) #[false, false, false, false, false, false, false, false, false, false, false, false, false] (by kernel_rfl) rfl rfl ⟨(blk_cell BK162.out 0).trans rfl, (blk_cell BK162.out 1).trans rfl, (blk_cell BK162.out 2).trans rfl, (blk_cell BK162.out 3).trans rfl, (blk_cell BK162.out 4).trans rfl, (blk_cell BK162.out 5).trans rfl, hx163_0, hx163_1, hx163_2, hx163_3, hx163_4, hx163_5⟩ (fun hHeld => ?_); refine with_tabW text_joined.tab6 text_joined.bits6 (fun HT_ HW_ => ?_)
           generalize w23.drew = w24 at HO_3 BK162 HB hx163_0 hx163_1 hx163_2 hx163_3 hx163_4 hx163_5 hHeld ⊢
           refine pure_ (i := 0) (N := some 15) (v := ?_) (a' := ?_) #[true, false, false, false, false, false, false, false, false, false, false, false, false] rfl rfl (any_of HT_.out (by kernel_rfl)) (fun _ _ _ h => h) (Or.inl ⟨by rfl, ?_⟩) ?_ ?_
           rotate_left
           ·intro w'
            go_simp
            with_reducible rfl
           rotate_left
           ·simp only [Act.put, List.setIfInBounds_toArray, List.set_cons_zero, List.set_cons_succ, i64_w, i32_w]
            rfl
           refine pure_ (i := 1) (N := some 16) (v := ?_) (a' := ?_) #[true, true, false, false, false, false, false, false, false, false, false, false, false] rfl rfl (any_of HT_.out (by kernel_rfl)) (fun _ _ _ h => h) (Or.inl ⟨by rfl, ?_⟩) ?_ ?_
           rotate_left
           ·intro w'
            go_simp
            with_reducible rfl
           rotate_left
           ·simp only [Act.put, List.setIfInBounds_toArray, List.set_cons_zero, List.set_cons_succ, i64_w, i32_w]
            rfl
           refine pure_ (i := 2) (N := some 17) (v := ?_) (a' := ?_) #[true, true, true, false, false, false, false, false, false, false, false, false, false] rfl rfl (any_of HT_.out (by kernel_rfl)) (fun _ _ _ h => h) (Or.inl ⟨by rfl, ?_⟩) ?_ ?_
           rotate_left
           ·intro w'
            go_simp
            with_reducible rfl
           rotate_left
           ·simp only [Act.put, List.setIfInBounds_toArray, List.set_cons_zero, List.set_cons_succ, i64_w, i32_w]
            rfl
           refine pure_ (i := 3) (N := some 18) (v := ?_) (a' := ?_) #[true, true, true, true, false, false, false, false, false, false, false, false, false] rfl rfl (any_of HT_.out (by kernel_rfl)) (fun _ _ _ h => h) (Or.inl ⟨by rfl, ?_⟩) ?_ ?_
           rotate_left
           ·intro w'
            go_simp
            with_reducible rfl
           rotate_left
           ·simp only [Act.put, List.setIfInBounds_toArray, List.set_cons_zero, List.set_cons_succ, i64_w, i32_w]
            rfl
           refine pure_ (i := 4) (N := some 19) (v := ?_) (a' := ?_) #[true, true, true, true, true, false, false, false, false, false, false, false, false] rfl rfl (any_of HT_.out (by kernel_rfl)) (fun _ _ _ h => h) (Or.inl ⟨by rfl, ?_⟩) ?_ ?_
           rotate_left
           ·intro w'
            go_simp
            with_reducible rfl
           rotate_left
           ·simp only [Act.put, List.setIfInBounds_toArray, List.set_cons_zero, List.set_cons_succ, i64_w, i32_w]
            rfl
           refine pure_ (i := 5) (N := some 20) (v := ?_) (a' := ?_) #[true, true, true, true, true, true, false, false, false, false, false, false, false] rfl rfl (any_of HT_.out (by kernel_rfl)) (fun _ _ _ h => h) (Or.inl ⟨by rfl, ?_⟩) ?_ ?_
           rotate_left
           ·intro w'
            go_simp
            with_reducible rfl
           rotate_left
           ·simp only [Act.put, List.setIfInBounds_toArray, List.set_cons_zero, List.set_cons_succ, i64_w, i32_w]
            rfl
           refine pure_ (i := 6) (N := some 21) (v := ?_) (a' := ?_) #[true, true, true, true, true, true, true, false, false, false, false, false, false] rfl rfl (any_of HT_.out (by kernel_rfl)) (fun _ _ _ h => h) (Or.inl ⟨by rfl, ?_⟩) ?_ ?_
           rotate_left
           ·intro w'
            go_simp
            with_reducible rfl
           rotate_left
           ·simp only [Act.put, List.setIfInBounds_toArray, List.set_cons_zero, List.set_cons_succ, i64_w, i32_w]
            rfl
           refine pure_ (i := 7) (N := some 22) (v := ?_) (a' := ?_) #[true, true, true, true, true, true, true, true, false, false, false, false, false] rfl rfl (any_of HT_.out (by kernel_rfl)) (fun _ _ _ h => h) (Or.inl ⟨by rfl, ?_⟩) ?_ ?_
           rotate_left
           ·intro w'
            go_simp
            with_reducible rfl
           rotate_left
           ·simp only [Act.put, List.setIfInBounds_toArray, List.set_cons_zero, List.set_cons_succ, i64_w, i32_w]
            rfl
           refine pure_ (i := 9) (N := some 24) (v := ?_) (a' := ?_) #[true, true, true, true, true, true, true, true, false, true, false, false, false] rfl rfl (any_of HT_.out (by kernel_rfl)) (fun _ _ _ h => h) (Or.inl ⟨by rfl, ?_⟩) ?_ ?_
           rotate_left
           ·intro w'
            go_simp
            with_reducible rfl
           rotate_left
           ·simp only [Act.put, List.setIfInBounds_toArray, List.set_cons_zero, List.set_cons_succ, i64_w, i32_w]
            rfl
           refine take_ (i := 8) (N := some 23) (v := ?_) (a' := ?_) #[true, true, true, true, true, true, true, true, true, true, false, false, false] rfl rfl (take_ofW HT_.out HW_.out (by kernel_rfl)) (fun _ _ _ h => h) (Or.inl ⟨by rfl, ?_⟩) hHeld ?_ ?_
           rotate_left
           ·rintro w' ⟨s0, s1, s2, s3, s4, s5, s6, s7, s8, s9, s10, s11⟩
            go_simp
            with_reducible rfl
           rotate_left
           ·simp only [Act.put, List.setIfInBounds_toArray, List.set_cons_zero, List.set_cons_succ, i64_w, i32_w]
            rfl
           refine take_ (i := 10) (N := some 25) (v := ?_) (a' := ?_) #[true, true, true, true, true, true, true, true, true, true, true, false, false] rfl rfl (take_ofW HT_.out HW_.out (by kernel_rfl)) (fun _ _ _ h => h) (Or.inl ⟨by rfl, ?_⟩) hHeld ?_ ?_
           rotate_left
           ·rintro w' ⟨s0, s1, s2, s3, s4, s5, s6, s7, s8, s9, s10, s11⟩
            go_simp
            with_reducible rfl
           rotate_left
           ·simp only [Act.put, List.setIfInBounds_toArray, List.set_cons_zero, List.set_cons_succ, i64_w, i32_w]
            rfl
           refine pure_ (i := 11) (N := some 26) (v := ?_) (a' := ?_) #[true, true, true, true, true, true, true, true, true, true, true, true, false] rfl rfl (any_of HT_.out (by kernel_rfl)) (fun _ _ _ h => h) (Or.inl ⟨by rfl, ?_⟩) ?_ ?_
           rotate_left
           ·intro w'
            go_simp
            with_reducible rfl
           rotate_left
           ·simp only [Act.put, List.setIfInBounds_toArray, List.set_cons_zero, List.set_cons_succ, i64_w, i32_w]
            rfl
           refine pure_ (i := 12) (N := some 27) (v := ?_) (a' := ?_) #[true, true, true, true, true, true, true, true, true, true, true, true, true] rfl rfl (any_of HT_.out (by kernel_rfl)) (fun _ _ _ h => h) (Or.inl ⟨by rfl, ?_⟩) ?_ ?_
           rotate_left
           ·intro w'
            go_simp
            with_reducible rfl
           rotate_left
           ·simp only [Act.put, List.setIfInBounds_toArray, List.set_cons_zero, List.set_cons_succ, i64_w, i32_w]
            rfl
           refine done_ (done_of HT_.out (by kernel_rfl)) ?_
           have hcz25_0 : w24.cell? ⟨gb162, 0, none⟩ = some (.string ((rd_T42 l0 x9_1).f0)) := (blk_cell BK162.out 0).trans rfl
           have hcz25_1 : w24.cell? ⟨gb162, 1, none⟩ = some (.bool ((rd_T42 l0 x9_1).f1.f0)) := (blk_cell BK162.out 1).trans rfl
           have hcz25_2 : w24.cell? ⟨gb162, 2, none⟩ = some (.bool ((rd_T42 l0 x9_1).f1.f1)) := (blk_cell BK162.out 2).trans rfl
           have hcz25_3 : w24.cell? ⟨gb162, 3, none⟩ = some (.bool ((rd_T42 l0 x9_1).f1.f2)) := (blk_cell BK162.out 3).trans rfl
           have hcz25_4 : w24.cell? ⟨gb162, 4, none⟩ = some (.int .i64 ((rd_T42 l0 x9_1).f1.f3)) := (blk_cell BK162.out 4).trans rfl
           have hcz25_5 : w24.cell? ⟨gb162, 5, none⟩ = some (.int .i64 ((rd_T42 l0 x9_1).f1.f4)) := (blk_cell BK162.out 5).trans rfl
           have hfz25_0 := blk_frozen BK162.out 0
           have hfz25_1 := blk_frozen BK162.out 1
           have hfz25_2 := blk_frozen BK162.out 2
           have hfz25_3 := blk_frozen BK162.out 3
           have hfz25_4 := blk_frozen BK162.out 4
           have hfz25_5 := blk_frozen BK162.out 5
           try go_wp2_with (first | ((with_reducible refine gate_builtin (b := .append) (xs := #[.tmp 39, .tmp 41]) rfl ?_); at_builtin; refine Kd.R_append k42 (w0 := w) w.heap.size rfl (.tmp 39) (.tmp 41) 23 42 (.agg #[(.string ⟨#[]⟩), (.bool false), (.bool false), (.bool false), (.int .i64 0), (.int .i64 0)]) 40 rfl Tryz.underlying23 info42 rfl (by decide) (by omega) (.slice (some ad163) x3_1.length co22) x3_1 (⟨(rd_T42 l0 x9_1).f0, (⟨(rd_T42 l0 x9_1).f1.f0, (rd_T42 l0 x9_1).f1.f1, (rd_T42 l0 x9_1).f1.f2, (rd_T42 l0 x9_1).f1.f3, (rd_T42 l0 x9_1).f1.f4⟩ : S40)⟩ : S42) [.string ((rd_T42 l0 x9_1).f0), .bool ((rd_T42 l0 x9_1).f1.f0), .bool ((rd_T42 l0 x9_1).f1.f1), .bool ((rd_T42 l0 x9_1).f1.f2), .int .i64 ((rd_T42 l0 x9_1).f1.f3), .int .i64 ((rd_T42 l0 x9_1).f1.f4)] (fun k_ => k_ ≠ gb162) (fun _ => False) rfl rfl ?aP (fun _ hk => hk.elim) ?aF ?aO ?aB ?aS ?aL ?_; (case aP => exact k42_mkM _ _ _ (⟨(rd_T42 l0 x9_1).f0, (⟨(rd_T42 l0 x9_1).f1.f0, (rd_T42 l0 x9_1).f1.f1, (rd_T42 l0 x9_1).f1.f2, (rd_T42 l0 x9_1).f1.f3, (rd_T42 l0 x9_1).f1.f4⟩ : S40)⟩ : S42)); (case aB => exact (by repeat (first | (with_reducible first | exact HB.out | apply below_alloc | apply pw_below_drewN | apply below_drew1 | refine below_set ?_ GE162.out) | exact HB.out))); (case aF => exact (fun k_ hk => Kd.freshB (g := gb162) (o := .cells #[.string ((rd_T42 l0 x9_1).f0), .bool ((rd_T42 l0 x9_1).f1.f0), .bool ((rd_T42 l0 x9_1).f1.f1), .bool ((rd_T42 l0 x9_1).f1.f2), .int .i64 ((rd_T42 l0 x9_1).f1.f3), .int .i64 ((rd_T42 l0 x9_1).f1.f4)] 42 (0, 0)) (by (with_reducible repeat (first | refine blk_drewN ?_ _ | refine blk_drew ?_ | refine blk_alloc ?_ _)); exact BK162.out) k_ hk)); (case aO => exact (by (with_reducible repeat (first | apply Kd.R_alloc | apply Kd.R_drewN | apply Kd.R_drew)); exact HO_3.out)); (case aS => exact (below_size (by repeat (first | (with_reducible first | exact HB.out | apply below_alloc | apply pw_below_drewN | apply below_drew1 | refine below_set ?_ GE162.out) | exact HB.out)))); (case aL => have := LMc19.out; omega); intro v167 w26 ho hb hg hat; rw [← Ny166.out] at ho; have n0_ := Aside0.mk (blk_grown (g := gb162) (o := .cells #[.string ((rd_T42 l0 x9_1).f0), .bool ((rd_T42 l0 x9_1).f1.f0), .bool ((rd_T42 l0 x9_1).f1.f1), .bool ((rd_T42 l0 x9_1).f1.f2), .int .i64 ((rd_T42 l0 x9_1).f1.f3), .int .i64 ((rd_T42 l0 x9_1).f1.f4)] 42 (0, 0)) (by (with_reducible repeat (first | refine blk_drewN ?_ _ | refine blk_drew ?_ | refine blk_alloc ?_ _)); exact BK162.out) hg (Kd.R_away HO_3.out (fun _ hk => hk))); have n1_ := Aside0.mk (hb); have n2_ := Aside0.mk (ho); clear BK162; clear HB; clear HO_3; have BK162 := n0_; have HB := n1_; have HO168 := n2_; clear n0_ n1_ n2_; clear ho hb hg hat))
           go_roundg k1
           case measure => have := HK1.out; omega
           case rel => exact ⟨(y166), (wrap64 (x9_1 + 1)), (by first | rfl | (simp; done) | (simp [*]; done)), H', ⟨by have := HK1.out; omega⟩, ⟨by (with_reducible repeat (first | apply Kd.R_alloc | apply Kd.R_drewN | apply Kd.R_drew)); exact Kd.R_mono HO168.out (fun _ hk => trivial)⟩, ⟨by repeat (first | (with_reducible first | exact HB.out | apply below_alloc | apply pw_below_drewN | apply below_drew1 | refine below_set ?_ GE162.out) | exact HB.out)⟩⟩
          ·rw [if_neg c19] at H
           exact absurd H (by simp)
        ·rw [if_neg c8] at H
         exact absurd H (by simp)
       ·rw [if_neg c7] at H
        exact absurd H (by simp)
      ·rw [if_neg c5] at H
       have c5b0 : decide (0 < (x3_1.length : Int)) = false := decide_eq_false c5
       have c5b1 : decide (0 < x3_1.length) = false := decide_eq_false (by omega)
       clear c5
       by_cases c27 : x3_1.length < 3518437208883
       ·rw [if_pos c27] at H
        have LMc27 := Aside0.mk c27
        clear c27
        obtain ⟨y169, hy169⟩ : ∃ y_ : List (S42), y_ = (x3_1 ++ [(⟨(rd_T42 l0 x9_1).f0, (⟨(rd_T42 l0 x9_1).f1.f0, (rd_T42 l0 x9_1).f1.f1, (rd_T42 l0 x9_1).f1.f2, (rd_T42 l0 x9_1).f1.f3, (rd_T42 l0 x9_1).f1.f4⟩ : S40)⟩ : S42)]) := ⟨_, rfl⟩
        replace H : (text_joined.l0 k1 y169 l0 (l0.length : Int) (wrap64 (x9_1 + 1))) = some r := by first | (rw [hy169]; with_reducible exact H) | (have H2_ := (Option.bind_some _ _).symm.trans H; rw [hy169]; with_reducible exact H2_) | (have H2_ := (Option.bind_some _ _).symm.trans H; with_reducible exact H2_) | with_reducible exact H | (rw [hy169]; exact H) | exact H
        have Ny169 := Aside0.mk hy169
        clear hy169
        have H' := Aside0.mk H
        clear H
        have p161 : 0 ≤ (x9_1 : Int) := of_decide_eq_true (by first | (with_reducible assumption) | assumption)
        have q161 : x9_1 < (l0.length : Int) := of_decide_eq_true (by first | (with_reducible assumption) | assumption)
        obtain ⟨ad161, e161, hx161_0, hx161_1, hx161_2, hx161_3, hx161_4, hx161_5⟩ := at_T42 HR0.out x9_1 p161 q161
        cases e161
        replace hx161_0 := (HB.out.cell (World.block_lt_of_cell? w _ hx161_0)).trans hx161_0
        replace hx161_1 := (HB.out.cell (World.block_lt_of_cell? w _ hx161_1)).trans hx161_1
        replace hx161_2 := (HB.out.cell (World.block_lt_of_cell? w _ hx161_2)).trans hx161_2
        replace hx161_3 := (HB.out.cell (World.block_lt_of_cell? w _ hx161_3)).trans hx161_3
        replace hx161_4 := (HB.out.cell (World.block_lt_of_cell? w _ hx161_4)).trans hx161_4
        replace hx161_5 := (HB.out.cell (World.block_lt_of_cell? w _ hx161_5)).trans hx161_5
        replace p161 := eq_true p161
        replace q161 := eq_true q161
        try go_wp2_with (first | ((with_reducible refine gate_dst (N := 5) rfl ?_); refine box_event ?hg (N := 5) ?hd (cs := #[.string (⟨#[]⟩ : ByteArray), .bool false, .bool false, .bool false, .int .i64 0, .int .i64 0]) (t := 42) ?hr ?_; (case hd => rfl); (case hg => rfl); (case hr => first | (go_simp; done) | (go_simp; rfl)); intro gb162 hg w28 hbox hb; have n0_ := Aside0.mk (Kd.R_below (Kd.R_elderB (by (with_reducible repeat (first | apply Kd.R_alloc | apply Kd.R_drewN | apply Kd.R_drew)); exact HO_3.out) gb162 (Nat.le_of_eq hg.symm)) hb); have n1_ := Aside0.mk (below_step (by repeat (first | (with_reducible first | exact HB.out | apply below_alloc | apply pw_below_drewN | apply below_drew1) | exact HB.out)) hb); have n2_ := Aside0.mk (hbox); have n3_ := Aside0.mk ((by rw [hg]; exact (below_size (by repeat (first | (with_reducible first | exact HB.out | apply below_alloc | apply pw_below_drewN | apply below_drew1) | exact HB.out))) : w.heap.size ≤ gb162)); have n4_ := Aside0.mk ((by rw [hg]; exact (below_size (by repeat (first | (with_reducible first | exact HB.out | apply below_alloc | apply pw_below_drewN | apply below_drew1) | exact HB.out))) : w.heap.size ≤ gb162)); clear HO_3; clear HB; have HO_3 := n0_; have HB := n1_; have BK162 := n2_; have GW162 := n3_; have GE162 := n4_; clear n0_ n1_ n2_ n3_ n4_; clear hb hbox hg; have hcz29_0 : w28.cell? ⟨gb162, 0, none⟩ = some (.string (⟨#[]⟩ : ByteArray)) := (blk_cell BK162.out 0).trans rfl; have hcz29_1 : w28.cell? ⟨gb162, 1, none⟩ = some (.bool false) := (blk_cell BK162.out 1).trans rfl; have hcz29_2 : w28.cell? ⟨gb162, 2, none⟩ = some (.bool false) := (blk_cell BK162.out 2).trans rfl; have hcz29_3 : w28.cell? ⟨gb162, 3, none⟩ = some (.bool false) := (blk_cell BK162.out 3).trans rfl; have hcz29_4 : w28.cell? ⟨gb162, 4, none⟩ = some (.int .i64 0) := (blk_cell BK162.out 4).trans rfl; have hcz29_5 : w28.cell? ⟨gb162, 5, none⟩ = some (.int .i64 0) := (blk_cell BK162.out 5).trans rfl; have hfz29_0 := blk_frozen BK162.out 0; have hfz29_1 := blk_frozen BK162.out 1; have hfz29_2 := blk_frozen BK162.out 2; have hfz29_3 := blk_frozen BK162.out 3; have hfz29_4 := blk_frozen BK162.out 4; have hfz29_5 := blk_frozen BK162.out 5; obtain ⟨Ao30, co30, eo30⟩ := Kd.R_slice HO_3.out; subst eo30))
        have n0_ : Aside0 (Kd.R k42 42 ((((((w28.setCell ⟨gb162, 0, none⟩ (.string ((rd_T42 l0 x9_1).f0))).setCell ⟨gb162, 1, none⟩ (.bool ((rd_T42 l0 x9_1).f1.f0))).setCell ⟨gb162, 2, none⟩ (.bool ((rd_T42 l0 x9_1).f1.f1))).setCell ⟨gb162, 3, none⟩ (.bool ((rd_T42 l0 x9_1).f1.f2))).setCell ⟨gb162, 4, none⟩ (.int .i64 ((rd_T42 l0 x9_1).f1.f3))).setCell ⟨gb162, 5, none⟩ (.int .i64 ((rd_T42 l0 x9_1).f1.f4))) w.heap.size (fun k_ => k_ ≠ gb162) (.slice Ao30 x3_1.length co30) x3_1) := ⟨by (with_reducible repeat (first | apply Kd.R_alloc | apply Kd.R_drewN | apply Kd.R_drew)); exact Kd.R_mono (Kd.R_far (p := ⟨gb162, 5, none⟩) (Kd.R_far (p := ⟨gb162, 4, none⟩) (Kd.R_far (p := ⟨gb162, 3, none⟩) (Kd.R_far (p := ⟨gb162, 2, none⟩) (Kd.R_far (p := ⟨gb162, 1, none⟩) (Kd.R_far (p := ⟨gb162, 0, none⟩) (Kd.R_mono HO_3.out (fun k_ hk => (⟨hk, hk.2⟩ : _ ∧ k_ ≠ gb162))) (fun _ hk => hk.2) (.string ((rd_T42 l0 x9_1).f0))) (fun _ hk => hk.2) (.bool ((rd_T42 l0 x9_1).f1.f0))) (fun _ hk => hk.2) (.bool ((rd_T42 l0 x9_1).f1.f1))) (fun _ hk => hk.2) (.bool ((rd_T42 l0 x9_1).f1.f2))) (fun _ hk => hk.2) (.int .i64 ((rd_T42 l0 x9_1).f1.f3))) (fun _ hk => hk.2) (.int .i64 ((rd_T42 l0 x9_1).f1.f4))) (fun _ hk => hk.1.2)⟩
        have n1_ : Aside0 (((((((w28.setCell ⟨gb162, 0, none⟩ (.string ((rd_T42 l0 x9_1).f0))).setCell ⟨gb162, 1, none⟩ (.bool ((rd_T42 l0 x9_1).f1.f0))).setCell ⟨gb162, 2, none⟩ (.bool ((rd_T42 l0 x9_1).f1.f1))).setCell ⟨gb162, 3, none⟩ (.bool ((rd_T42 l0 x9_1).f1.f2))).setCell ⟨gb162, 4, none⟩ (.int .i64 ((rd_T42 l0 x9_1).f1.f3))).setCell ⟨gb162, 5, none⟩ (.int .i64 ((rd_T42 l0 x9_1).f1.f4))).heap[gb162]? = some (.cells #[.string ((rd_T42 l0 x9_1).f0), .bool ((rd_T42 l0 x9_1).f1.f0), .bool ((rd_T42 l0 x9_1).f1.f1), .bool ((rd_T42 l0 x9_1).f1.f2), .int .i64 ((rd_T42 l0 x9_1).f1.f3), .int .i64 ((rd_T42 l0 x9_1).f1.f4)] 42 (0, 0))) := ⟨by (with_reducible repeat (first | refine blk_drewN ?_ _ | refine blk_drew ?_ | refine blk_alloc ?_ _)); refine blk_put (cs := #[.string ((rd_T42 l0 x9_1).f0), .bool ((rd_T42 l0 x9_1).f1.f0), .bool ((rd_T42 l0 x9_1).f1.f1), .bool ((rd_T42 l0 x9_1).f1.f2), .int .i64 ((rd_T42 l0 x9_1).f1.f3), .int .i64 0]) ?_ 5 _ rfl; (with_reducible repeat (first | refine blk_drewN ?_ _ | refine blk_drew ?_ | refine blk_alloc ?_ _)); refine blk_put (cs := #[.string ((rd_T42 l0 x9_1).f0), .bool ((rd_T42 l0 x9_1).f1.f0), .bool ((rd_T42 l0 x9_1).f1.f1), .bool ((rd_T42 l0 x9_1).f1.f2), .int .i64 0, .int .i64 0]) ?_ 4 _ rfl; (with_reducible repeat (first | refine blk_drewN ?_ _ | refine blk_drew ?_ | refine blk_alloc ?_ _)); refine blk_put (cs := #[.string ((rd_T42 l0 x9_1).f0), .bool ((rd_T42 l0 x9_1).f1.f0), .bool ((rd_T42 l0 x9_1).f1.f1), .bool false, .int .i64 0, .int .i64 0]) ?_ 3 _ rfl; (with_reducible repeat (first | refine blk_drewN ?_ _ | refine blk_drew ?_ | refine blk_alloc ?_ _)); refine blk_put (cs := #[.string ((rd_T42 l0 x9_1).f0), .bool ((rd_T42 l0 x9_1).f1.f0), .bool false, .bool false, .int .i64 0, .int .i64 0]) ?_ 2 _ rfl; (with_reducible repeat (first | refine blk_drewN ?_ _ | refine blk_drew ?_ | refine blk_alloc ?_ _)); refine blk_put (cs := #[.string ((rd_T42 l0 x9_1).f0), .bool false, .bool false, .bool false, .int .i64 0, .int .i64 0]) ?_ 1 _ rfl; (with_reducible repeat (first | refine blk_drewN ?_ _ | refine blk_drew ?_ | refine blk_alloc ?_ _)); refine blk_put (cs := #[.string (⟨#[]⟩ : ByteArray), .bool false, .bool false, .bool false, .int .i64 0, .int .i64 0]) ?_ 0 _ rfl; (with_reducible repeat (first | refine blk_drewN ?_ _ | refine blk_drew ?_ | refine blk_alloc ?_ _)); exact BK162.out⟩
        have n2_ : Aside0 (Below w.heap.size w ((((((w28.setCell ⟨gb162, 0, none⟩ (.string ((rd_T42 l0 x9_1).f0))).setCell ⟨gb162, 1, none⟩ (.bool ((rd_T42 l0 x9_1).f1.f0))).setCell ⟨gb162, 2, none⟩ (.bool ((rd_T42 l0 x9_1).f1.f1))).setCell ⟨gb162, 3, none⟩ (.bool ((rd_T42 l0 x9_1).f1.f2))).setCell ⟨gb162, 4, none⟩ (.int .i64 ((rd_T42 l0 x9_1).f1.f3))).setCell ⟨gb162, 5, none⟩ (.int .i64 ((rd_T42 l0 x9_1).f1.f4)))) := ⟨by repeat (first | (with_reducible first | exact HB.out | apply below_alloc | apply pw_below_drewN | apply below_drew1 | refine below_set ?_ GE162.out) | exact HB.out)⟩
        (try clear HO_3)
        (try clear BK162)
        (try clear HB)
        generalize ((((((w28.setCell ⟨gb162, 0, none⟩ (.string ((rd_T42 l0 x9_1).f0))).setCell ⟨gb162, 1, none⟩ (.bool ((rd_T42 l0 x9_1).f1.f0))).setCell ⟨gb162, 2, none⟩ (.bool ((rd_T42 l0 x9_1).f1.f1))).setCell ⟨gb162, 3, none⟩ (.bool ((rd_T42 l0 x9_1).f1.f2))).setCell ⟨gb162, 4, none⟩ (.int .i64 ((rd_T42 l0 x9_1).f1.f3))).setCell ⟨gb162, 5, none⟩ (.int .i64 ((rd_T42 l0 x9_1).f1.f4))) = w31 at n0_ n1_ n2_ ⊢
        have HO_3 := n0_
        have BK162 := n1_
        have HB := n2_
        clear n0_ n1_ n2_
        have n0_ := Aside0.mk (Kd.R_drew HO_3.out)
        have n1_ := Aside0.mk (blk_drew BK162.out)
        have n2_ := Aside0.mk (below_drew1 HB.out)
        clear HO_3
        clear BK162
        clear HB
        have HO_3 := n0_
        have BK162 := n1_
        have HB := n2_
        clear n0_ n1_ n2_
        refine start_ (n := 13) (S := fun w' => True) (ds := []) #[false, false, false, false, false, false, false, false, false, false, false, false, false] (by kernel_rfl) rfl rfl trivial (fun hHeld => ?_); refine with_tabW text_joined.tab6 text_joined.bits6 (fun HT_ HW_ => ?_)
        generalize w31.drew = w32 at HO_3 BK162 HB hHeld ⊢
        refine pure_ (i := 0) (N := some 15) (v := ?_) (a' := ?_) #[true, false, false, false, false, false, false, false, false, false, false, false, false] rfl rfl (any_of HT_.out (by kernel_rfl)) (fun _ _ _ h => h) (Or.inl ⟨by rfl, ?_⟩) ?_ ?_
        rotate_left
        ·intro w'
         go_simp
         with_reducible rfl
        rotate_left
        ·simp only [Act.put, List.setIfInBounds_toArray, List.set_cons_zero, List.set_cons_succ, i64_w, i32_w]
         rfl
        refine pure_ (i := 1) (N := some 16) (v := ?_) (a' := ?_) #[true, true, false, false, false, false, false, false, false, false, false, false, false] rfl rfl (any_of HT_.out (by kernel_rfl)) (fun _ _ _ h => h) (Or.inl ⟨by rfl, ?_⟩) ?_ ?_
        rotate_left
        ·intro w'
         go_simp
         with_reducible rfl
        rotate_left
        ·simp only [Act.put, List.setIfInBounds_toArray, List.set_cons_zero, List.set_cons_succ, i64_w, i32_w]
         rfl
        refine pure_ (i := 2) (N := some 17) (v := ?_) (a' := ?_) #[true, true, true, false, false, false, false, false, false, false, false, false, false] rfl rfl (any_of HT_.out (by kernel_rfl)) (fun _ _ _ h => h) (Or.inl ⟨by rfl, ?_⟩) ?_ ?_
        rotate_left
        ·intro w'
         go_simp
         with_reducible rfl
        rotate_left
        ·simp only [Act.put, List.setIfInBounds_toArray, List.set_cons_zero, List.set_cons_succ, i64_w, i32_w]
         rfl
        refine pure_ (i := 3) (N := some 18) (v := undef) (a' := ?_) #[true, true, true, true, false, false, false, false, false, false, false, false, false] rfl rfl (any_of HT_.out (by kernel_rfl)) (fun _ _ _ h => h) (Or.inr ⟨by rfl, rfl⟩) ?_ ?_
        rotate_left
        ·simp only [Act.put, List.setIfInBounds_toArray, List.set_cons_zero, List.set_cons_succ, i64_w, i32_w]
         rfl
        refine pure_ (i := 4) (N := some 19) (v := undef) (a' := ?_) #[true, true, true, true, true, false, false, false, false, false, false, false, false] rfl rfl (any_of HT_.out (by kernel_rfl)) (fun _ _ _ h => h) (Or.inr ⟨by rfl, rfl⟩) ?_ ?_
        rotate_left
        ·simp only [Act.put, List.setIfInBounds_toArray, List.set_cons_zero, List.set_cons_succ, i64_w, i32_w]
         rfl
        refine pure_ (i := 5) (N := some 20) (v := undef) (a' := ?_) #[true, true, true, true, true, true, false, false, false, false, false, false, false] rfl rfl (any_of HT_.out (by kernel_rfl)) (fun _ _ _ h => h) (Or.inr ⟨by rfl, rfl⟩) ?_ ?_
        rotate_left
        ·simp only [Act.put, List.setIfInBounds_toArray, List.set_cons_zero, List.set_cons_succ, i64_w, i32_w]
         rfl
        refine pure_ (i := 6) (N := some 21) (v := undef) (a' := ?_) #[true, true, true, true, true, true, true, false, false, false, false, false, false] rfl rfl (any_of HT_.out (by kernel_rfl)) (fun _ _ _ h => h) (Or.inr ⟨by rfl, rfl⟩) ?_ ?_
        rotate_left
        ·simp only [Act.put, List.setIfInBounds_toArray, List.set_cons_zero, List.set_cons_succ, i64_w, i32_w]
         rfl
        refine pure_ (i := 7) (N := some 22) (v := undef) (a' := ?_) #[true, true, true, true, true, true, true, true, false, false, false, false, false] rfl rfl (any_of HT_.out (by kernel_rfl)) (fun _ _ _ h => h) (Or.inr ⟨by rfl, rfl⟩) ?_ ?_
        rotate_left
        ·simp only [Act.put, List.setIfInBounds_toArray, List.set_cons_zero, List.set_cons_succ, i64_w, i32_w]
         rfl
        refine pure_ (i := 8) (N := some 23) (v := undef) (a' := ?_) #[true, true, true, true, true, true, true, true, true, false, false, false, false] rfl rfl (any_of HT_.out (by kernel_rfl)) (fun _ _ _ h => h) (Or.inr ⟨by rfl, rfl⟩) ?_ ?_
        rotate_left
        ·simp only [Act.put, List.setIfInBounds_toArray, List.set_cons_zero, List.set_cons_succ, i64_w, i32_w]
         rfl
        refine pure_ (i := 9) (N := some 24) (v := undef) (a' := ?_) #[true, true, true, true, true, true, true, true, true, true, false, false, false] rfl rfl (any_of HT_.out (by kernel_rfl)) (fun _ _ _ h => h) (Or.inr ⟨by rfl, rfl⟩) ?_ ?_
        rotate_left
        ·simp only [Act.put, List.setIfInBounds_toArray, List.set_cons_zero, List.set_cons_succ, i64_w, i32_w]
         rfl
        refine pure_ (i := 10) (N := some 25) (v := undef) (a' := ?_) #[true, true, true, true, true, true, true, true, true, true, true, false, false] rfl rfl (any_of HT_.out (by kernel_rfl)) (fun _ _ _ h => h) (Or.inr ⟨by rfl, rfl⟩) ?_ ?_
        rotate_left
        ·simp only [Act.put, List.setIfInBounds_toArray, List.set_cons_zero, List.set_cons_succ, i64_w, i32_w]
         rfl
        refine pure_ (i := 11) (N := some 26) (v := undef) (a' := ?_) #[true, true, true, true, true, true, true, true, true, true, true, true, false] rfl rfl (any_of HT_.out (by kernel_rfl)) (fun _ _ _ h => h) (Or.inr ⟨by rfl, rfl⟩) ?_ ?_
        rotate_left
        ·simp only [Act.put, List.setIfInBounds_toArray, List.set_cons_zero, List.set_cons_succ, i64_w, i32_w]
         rfl
        refine pure_ (i := 12) (N := some 27) (v := ?_) (a' := ?_) #[true, true, true, true, true, true, true, true, true, true, true, true, true] rfl rfl (any_of HT_.out (by kernel_rfl)) (fun _ _ _ h => h) (Or.inl ⟨by rfl, ?_⟩) ?_ ?_
        rotate_left
        ·intro w'
         go_simp
         with_reducible rfl
        rotate_left
        ·simp only [Act.put, List.setIfInBounds_toArray, List.set_cons_zero, List.set_cons_succ, i64_w, i32_w]
         rfl
        refine done_ (done_of HT_.out (by kernel_rfl)) ?_
        have hcz33_0 : w32.cell? ⟨gb162, 0, none⟩ = some (.string ((rd_T42 l0 x9_1).f0)) := (blk_cell BK162.out 0).trans rfl
        have hcz33_1 : w32.cell? ⟨gb162, 1, none⟩ = some (.bool ((rd_T42 l0 x9_1).f1.f0)) := (blk_cell BK162.out 1).trans rfl
        have hcz33_2 : w32.cell? ⟨gb162, 2, none⟩ = some (.bool ((rd_T42 l0 x9_1).f1.f1)) := (blk_cell BK162.out 2).trans rfl
        have hcz33_3 : w32.cell? ⟨gb162, 3, none⟩ = some (.bool ((rd_T42 l0 x9_1).f1.f2)) := (blk_cell BK162.out 3).trans rfl
        have hcz33_4 : w32.cell? ⟨gb162, 4, none⟩ = some (.int .i64 ((rd_T42 l0 x9_1).f1.f3)) := (blk_cell BK162.out 4).trans rfl
        have hcz33_5 : w32.cell? ⟨gb162, 5, none⟩ = some (.int .i64 ((rd_T42 l0 x9_1).f1.f4)) := (blk_cell BK162.out 5).trans rfl
        have hfz33_0 := blk_frozen BK162.out 0
        have hfz33_1 := blk_frozen BK162.out 1
        have hfz33_2 := blk_frozen BK162.out 2
        have hfz33_3 := blk_frozen BK162.out 3
        have hfz33_4 := blk_frozen BK162.out 4
        have hfz33_5 := blk_frozen BK162.out 5
        try go_wp2_with (first | ((with_reducible refine gate_builtin (b := .append) (xs := #[.tmp 39, .tmp 41]) rfl ?_); at_builtin; refine Kd.R_append k42 (w0 := w) w.heap.size rfl (.tmp 39) (.tmp 41) 23 42 (.agg #[(.string ⟨#[]⟩), (.bool false), (.bool false), (.bool false), (.int .i64 0), (.int .i64 0)]) 40 rfl Tryz.underlying23 info42 rfl (by decide) (by omega) (.slice Ao30 x3_1.length co30) x3_1 (⟨(rd_T42 l0 x9_1).f0, (⟨(rd_T42 l0 x9_1).f1.f0, (rd_T42 l0 x9_1).f1.f1, (rd_T42 l0 x9_1).f1.f2, (rd_T42 l0 x9_1).f1.f3, (rd_T42 l0 x9_1).f1.f4⟩ : S40)⟩ : S42) [.string ((rd_T42 l0 x9_1).f0), .bool ((rd_T42 l0 x9_1).f1.f0), .bool ((rd_T42 l0 x9_1).f1.f1), .bool ((rd_T42 l0 x9_1).f1.f2), .int .i64 ((rd_T42 l0 x9_1).f1.f3), .int .i64 ((rd_T42 l0 x9_1).f1.f4)] (fun k_ => k_ ≠ gb162) (fun _ => False) rfl rfl ?aP (fun _ hk => hk.elim) ?aF ?aO ?aB ?aS ?aL ?_; (case aP => exact k42_mkM _ _ _ (⟨(rd_T42 l0 x9_1).f0, (⟨(rd_T42 l0 x9_1).f1.f0, (rd_T42 l0 x9_1).f1.f1, (rd_T42 l0 x9_1).f1.f2, (rd_T42 l0 x9_1).f1.f3, (rd_T42 l0 x9_1).f1.f4⟩ : S40)⟩ : S42)); (case aB => exact (by repeat (first | (with_reducible first | exact HB.out | apply below_alloc | apply pw_below_drewN | apply below_drew1 | refine below_set ?_ GE162.out) | exact HB.out))); (case aF => exact (fun k_ hk => Kd.freshB (g := gb162) (o := .cells #[.string ((rd_T42 l0 x9_1).f0), .bool ((rd_T42 l0 x9_1).f1.f0), .bool ((rd_T42 l0 x9_1).f1.f1), .bool ((rd_T42 l0 x9_1).f1.f2), .int .i64 ((rd_T42 l0 x9_1).f1.f3), .int .i64 ((rd_T42 l0 x9_1).f1.f4)] 42 (0, 0)) (by (with_reducible repeat (first | refine blk_drewN ?_ _ | refine blk_drew ?_ | refine blk_alloc ?_ _)); exact BK162.out) k_ hk)); (case aO => exact (by (with_reducible repeat (first | apply Kd.R_alloc | apply Kd.R_drewN | apply Kd.R_drew)); exact HO_3.out)); (case aS => exact (below_size (by repeat (first | (with_reducible first | exact HB.out | apply below_alloc | apply pw_below_drewN | apply below_drew1 | refine below_set ?_ GE162.out) | exact HB.out)))); (case aL => have := LMc27.out; omega); intro v170 w34 ho hb hg hat; rw [← Ny169.out] at ho; have n0_ := Aside0.mk (blk_grown (g := gb162) (o := .cells #[.string ((rd_T42 l0 x9_1).f0), .bool ((rd_T42 l0 x9_1).f1.f0), .bool ((rd_T42 l0 x9_1).f1.f1), .bool ((rd_T42 l0 x9_1).f1.f2), .int .i64 ((rd_T42 l0 x9_1).f1.f3), .int .i64 ((rd_T42 l0 x9_1).f1.f4)] 42 (0, 0)) (by (with_reducible repeat (first | refine blk_drewN ?_ _ | refine blk_drew ?_ | refine blk_alloc ?_ _)); exact BK162.out) hg (Kd.R_away HO_3.out (fun _ hk => hk))); have n1_ := Aside0.mk (hb); have n2_ := Aside0.mk (ho); clear BK162; clear HB; clear HO_3; have BK162 := n0_; have HB := n1_; have HO171 := n2_; clear n0_ n1_ n2_; clear ho hb hg hat))
        go_roundg k1
        case measure => have := HK1.out; omega
        case rel => exact ⟨(y169), (wrap64 (x9_1 + 1)), (by first | rfl | (simp; done) | (simp [*]; done)), H', ⟨by have := HK1.out; omega⟩, ⟨by (with_reducible repeat (first | apply Kd.R_alloc | apply Kd.R_drewN | apply Kd.R_drew)); exact Kd.R_mono HO171.out (fun _ hk => trivial)⟩, ⟨by repeat (first | (with_reducible first | exact HB.out | apply below_alloc | apply pw_below_drewN | apply below_drew1 | refine below_set ?_ GE162.out) | exact HB.out)⟩⟩
       ·rw [if_neg c27] at H
        exact absurd H (by simp)
     ·rw [if_neg c4] at H
      exact absurd H (by simp)
    ·rw [if_neg c3] at H
     exact absurd H (by simp)
   ·rw [if_neg c2] at H
    have c2b0 : decide (x9_1 < (l0.length : Int)) = false := decide_eq_false c2
    clear c2
    obtain rfl := Option.some.inj H
    go_wp2
    go_ret
    exact ⟨_, by first | rfl | (simp [errW_none, errW_some] <;> rfl) | (simp [*, errW_none, errW_some] <;> rfl), by (with_reducible repeat (first | apply Kd.R_alloc | apply Kd.R_drewN | apply Kd.R_drew)); exact HO_3.out, by repeat (first | (with_reducible first | exact HB.out | apply below_alloc | apply pw_below_drewN | apply below_drew1) | exact HB.out)⟩


/-! ### w18_awake: function 13 -/


/-! ### r18_EqPieces: function 37 -/
def r18_EqPieces.l0 : Nat → List (S42) → List (S42) → Int → Option (Bool)
 | 0, _, _, _ => none
 | k + 1, x0, x1, x5 => if x5 < (x0.length : Int) then (if 0 ≤ x5 then (if x5 < (x1.length : Int) then (if (!((((rd_T42 x0 x5).f0).toList) == (((rd_T42 x1 x5).f0).toList)) || ((!(((rd_T42 x0 x5).f1.f0) == ((rd_T42 x1 x5).f1.f0)) || (!(((rd_T42 x0 x5).f1.f1) == ((rd_T42 x1 x5).f1.f1)) || (!(((rd_T42 x0 x5).f1.f2) == ((rd_T42 x1 x5).f1.f2)) || (!(((rd_T42 x0 x5).f1.f3) == ((rd_T42 x1 x5).f1.f3)) || (!(((rd_T42 x0 x5).f1.f4) == ((rd_T42 x1 x5).f1.f4))))))))) = true then (some false) else (r18_EqPieces.l0 k x0 x1 (wrap64 (x5 + 1)))) else (none)) else (none)) else (some true)
def r18_EqPieces.f (k : Nat) (l0 : List (S42)) (l1 : List (S42)) : Option (Bool) := if (l0.length : Int) = (l1.length : Int) then (r18_EqPieces.l0 k l0 l1 0) else (some false)
set_option maxHeartbeats 8000000 in
set_option maxRecDepth 100000 in
theorem r18_EqPieces.calls (k : Nat) (A0 : Option Addr) (c0 : Nat) (l0 : List (S42)) (A1 : Option Addr) (c1 : Nat) (l1 : List (S42)) (r : Bool) (w : World) (hr0 : Kd.C k42 w A0 l0.length l0) (hc0 : l0.length ≤ c0) (hr1 : Kd.C k42 w A1 l1.length l1) (hc1 : l1.length ≤ c1) (h : r18_EqPieces.f k l0 l1 = some r) :
  Calls Tryz.prog 37 #[.slice A0 l0.length c0, .slice A1 l1.length c1] w fun e w' => e = .returned (.bool r) ∧ Drawn0 w w' := by
 have hu42 := Tryz.underlying42
 have HR0 := Aside0.mk hr0
 have HC0 := Aside0.mk hc0
 clear hr0 hc0
 have HR1 := Aside0.mk hr1
 have HC1 := Aside0.mk hc1
 clear hr1 hc1
 have H : (if (l0.length : Int) = (l1.length : Int) then (r18_EqPieces.l0 k l0 l1 0) else (some false)) = some r := h
 clear h
 by_cases c3 : (l0.length : Int) = (l1.length : Int)
 ·rw [if_pos c3] at H
  have c3b0 : ((l0.length : Int) == (l1.length : Int)) = true := beq_iff_eq.mpr c3
  have c3b1 : ((l0.length : Int) != (l1.length : Int)) = false := bne_eq_false_iff_eq.mpr c3
  have c3b2 : (l0.length == l1.length) = true := by first | simpa using c3 | (simp at c3 ⊢; omega)
  clear c3
  have H' := Aside0.mk H
  clear H
  go_enter Tryz.func37, Tryz.ntmps37
  go_wp2
  repeat (go_quiet (fail); try go_wp2)
  go_loopg [5] k (fun kq v5 w' => ∃ (x5_1 : Int), v5 = .int .i64 x5_1 ∧ Aside0 (r18_EqPieces.l0 kq l0 l1 x5_1 = some r) ∧ Aside0 (kq ≤ k) ∧ Drawn0 w w')
  case atStart => exact ⟨(0), (by first | rfl | (simp; done) | (simp [*]; done)), H', ⟨Nat.le_refl _⟩, by repeat (first | exact Drawn0.refl _ | apply Drawn0.step)⟩
  case round =>
   clear H'
   try clear c1
   try clear p2
   try clear c3
   try clear c3b0
   try clear c3b1
   try clear c3b2
   obtain ⟨x5_1, rfl, HA, HK1, ⟨m1, rfl⟩⟩ := hrel
   cases gk with
   | zero => exact absurd HA.out (by simp [r18_EqPieces.l0])
   | succ k1 =>
    have H := HA.out
    clear HA
    simp only [r18_EqPieces.l0] at H
    by_cases c4 : x5_1 < (l0.length : Int)
    ·rw [if_pos c4] at H
     have c4b0 : decide (x5_1 < (l0.length : Int)) = true := decide_eq_true c4
     clear c4
     by_cases c5 : 0 ≤ x5_1
     ·rw [if_pos c5] at H
      have c5b0 : decide (0 ≤ x5_1) = true := decide_eq_true c5
      clear c5
      by_cases c6 : x5_1 < (l1.length : Int)
      ·rw [if_pos c6] at H
       have c6b0 : decide (x5_1 < (l1.length : Int)) = true := decide_eq_true c6
       clear c6
       by_cases c7 : (!((((rd_T42 l0 x5_1).f0).toList) == (((rd_T42 l1 x5_1).f0).toList)) || ((!(((rd_T42 l0 x5_1).f1.f0) == ((rd_T42 l1 x5_1).f1.f0)) || (!(((rd_T42 l0 x5_1).f1.f1) == ((rd_T42 l1 x5_1).f1.f1)) || (!(((rd_T42 l0 x5_1).f1.f2) == ((rd_T42 l1 x5_1).f1.f2)) || (!(((rd_T42 l0 x5_1).f1.f3) == ((rd_T42 l1 x5_1).f1.f3)) || (!(((rd_T42 l0 x5_1).f1.f4) == ((rd_T42 l1 x5_1).f1.f4))))))))) = true
       ·rw [if_pos c7] at H
        have c7b0 : (!((((rd_T42 l0 x5_1).f0).toList) == (((rd_T42 l1 x5_1).f0).toList)) || ((!(((rd_T42 l0 x5_1).f1.f0) == ((rd_T42 l1 x5_1).f1.f0)) || (!(((rd_T42 l0 x5_1).f1.f1) == ((rd_T42 l1 x5_1).f1.f1)) || (!(((rd_T42 l0 x5_1).f1.f2) == ((rd_T42 l1 x5_1).f1.f2)) || (!(((rd_T42 l0 x5_1).f1.f3) == ((rd_T42 l1 x5_1).f1.f3)) || (!(((rd_T42 l0 x5_1).f1.f4) == ((rd_T42 l1 x5_1).f1.f4))))))))) = true := c7
        clear c7
        obtain rfl := Option.some.inj H
        have p181 : 0 ≤ (x5_1 : Int) := of_decide_eq_true (by first | (with_reducible assumption) | assumption)
        have q181 : x5_1 < (l0.length : Int) := of_decide_eq_true (by first | (with_reducible assumption) | assumption)
        obtain ⟨ad181, e181, hx181_0, hx181_1, hx181_2, hx181_3, hx181_4, hx181_5⟩ := at_T42 HR0.out x5_1 p181 q181
        cases e181
        replace p181 := eq_true p181
        replace q181 := eq_true q181
        have p182 : 0 ≤ (x5_1 : Int) := of_decide_eq_true (by first | (with_reducible assumption) | assumption)
        have q182 : x5_1 < (l1.length : Int) := of_decide_eq_true (by first | (with_reducible assumption) | assumption)
        obtain ⟨ad182, e182, hx182_0, hx182_1, hx182_2, hx182_3, hx182_4, hx182_5⟩ := at_T42 HR1.out x5_1 p182 q182
        cases e182
        replace p182 := eq_true p182
        replace q182 := eq_true q182
        go_wp2
        repeat (go_quiet (fail); try go_wp2)
        go_ret
        exact ⟨by first | rfl | (simp; done) | (simp [*]; done), by repeat (first | exact Drawn0.refl _ | apply Drawn0.step)⟩
       ·rw [if_neg c7] at H
        have c7b0 : (!((((rd_T42 l0 x5_1).f0).toList) == (((rd_T42 l1 x5_1).f0).toList)) || ((!(((rd_T42 l0 x5_1).f1.f0) == ((rd_T42 l1 x5_1).f1.f0)) || (!(((rd_T42 l0 x5_1).f1.f1) == ((rd_T42 l1 x5_1).f1.f1)) || (!(((rd_T42 l0 x5_1).f1.f2) == ((rd_T42 l1 x5_1).f1.f2)) || (!(((rd_T42 l0 x5_1).f1.f3) == ((rd_T42 l1 x5_1).f1.f3)) || (!(((rd_T42 l0 x5_1).f1.f4) == ((rd_T42 l1 x5_1).f1.f4))))))))) = false := by simpa using c7
        clear c7
        have H' := Aside0.mk H
        clear H
        have p181 : 0 ≤ (x5_1 : Int) := of_decide_eq_true (by first | (with_reducible assumption) | assumption)
        have q181 : x5_1 < (l0.length : Int) := of_decide_eq_true (by first | (with_reducible assumption) | assumption)
        obtain ⟨ad181, e181, hx181_0, hx181_1, hx181_2, hx181_3, hx181_4, hx181_5⟩ := at_T42 HR0.out x5_1 p181 q181
        cases e181
        replace p181 := eq_true p181
        replace q181 := eq_true q181
        have p182 : 0 ≤ (x5_1 : Int) := of_decide_eq_true (by first | (with_reducible assumption) | assumption)
        have q182 : x5_1 < (l1.length : Int) := of_decide_eq_true (by first | (with_reducible assumption) | assumption)
        obtain ⟨ad182, e182, hx182_0, hx182_1, hx182_2, hx182_3, hx182_4, hx182_5⟩ := at_T42 HR1.out x5_1 p182 q182
        cases e182
        replace p182 := eq_true p182
        replace q182 := eq_true q182
        go_wp2
        repeat (go_quiet (fail); try go_wp2)
        go_roundg k1
        case measure => have := HK1.out; omega
        case rel => exact ⟨(wrap64 (x5_1 + 1)), (by first | rfl | (simp; done) | (simp [*]; done)), H', ⟨by have := HK1.out; omega⟩, by repeat (first | exact Drawn0.refl _ | apply Drawn0.step)⟩
      ·rw [if_neg c6] at H
       exact absurd H (by simp)
     ·rw [if_neg c5] at H
      exact absurd H (by simp)
    ·rw [if_neg c4] at H
     have c4b0 : decide (x5_1 < (l0.length : Int)) = false := decide_eq_false c4
     clear c4
     obtain rfl := Option.some.inj H
     go_wp2
     repeat (go_quiet (fail); try go_wp2)
     go_ret
     exact ⟨by first | rfl | (simp; done) | (simp [*]; done), by repeat (first | exact Drawn0.refl _ | apply Drawn0.step)⟩
 ·rw [if_neg c3] at H
  have c3b0 : ((l0.length : Int) == (l1.length : Int)) = false := beq_eq_false_iff_ne.mpr c3
  have c3b1 : ((l0.length : Int) != (l1.length : Int)) = true := bne_iff_ne.mpr c3
  have c3b2 : (l0.length == l1.length) = false := by first | simpa using c3 | (simp at c3 ⊢; omega)
  obtain rfl := Option.some.inj H
  go_enter Tryz.func37, Tryz.ntmps37
  go_wp2
  repeat (go_quiet (fail); try go_wp2)
  go_ret
  exact ⟨by first | rfl | (simp; done) | (simp [*]; done), by repeat (first | exact Drawn0.refl _ | apply Drawn0.step)⟩


/-! ### r18_Same: function 16 -/
def r18_Same.f (k : Nat) (a0_0 : Int) (a0_1 : Int) (a0_2 : Int) (l0_3 : List (S42)) (a1_0 : Int) (a1_1 : Int) (a1_2 : Int) (l1_3 : List (S42)) : Option (Bool) := if a0_0 = a1_0 then (if a0_1 = a1_1 then (if a0_2 = a1_2 then ((r18_EqPieces.f k l0_3 l1_3).bind fun t185 => (some t185)) else (some false)) else (some false)) else (some false)


/-! ### r18_Words: function 30 -/
def r18_Words.l0 : Nat → ByteArray → Int → Int → Int → Int → List (S42) → Option (ByteArray)
 | 0, _, _, _, _, _, _ => none
 | k + 1, x3, x4, x187000, x187001, x187002, x187003 => if x4 < (x187003.length : Int) then (if 0 ≤ x4 then (if x3.size + ((rd_T42 x187003 x4).f0).size ≤ 9223372036854775807 then (r18_Words.l0 k (x3 ++ ((rd_T42 x187003 x4).f0)) (wrap64 (x4 + 1)) x187000 x187001 x187002 x187003) else (none)) else (none)) else (some x3)
def r18_Words.f (k : Nat) (a0_0 : Int) (a0_1 : Int) (a0_2 : Int) (l0_3 : List (S42)) : Option (ByteArray) := r18_Words.l0 k (⟨#[]⟩ : ByteArray) 0 a0_0 a0_1 a0_2 l0_3
set_option maxHeartbeats 8000000 in
set_option maxRecDepth 100000 in
theorem r18_Words.calls (k : Nat) (a0_0 : Int) (a0_1 : Int) (a0_2 : Int) (A0_3 : Option Addr) (c0_3 : Nat) (l0_3 : List (S42)) (r : ByteArray) (w : World) (hr0_3 : Kd.C k42 w A0_3 l0_3.length l0_3) (hc0_3 : l0_3.length ≤ c0_3) (h : r18_Words.f k a0_0 a0_1 a0_2 l0_3 = some r) :
  Calls Tryz.prog 30 #[.agg #[.int .i64 a0_0, .int .i64 a0_1, .int .i64 a0_2, .slice A0_3 l0_3.length c0_3]] w fun e w' => e = .returned (.string r) ∧ Below w.heap.size w w' := by
 have hu25 := Tryz.underlying25
 have HR0_3 := Aside0.mk hr0_3
 have HC0_3 := Aside0.mk hc0_3
 clear hr0_3 hc0_3
 have HB := Aside0.mk (Below.refl w.heap.size w)
 have H : (r18_Words.l0 k (⟨#[]⟩ : ByteArray) 0 a0_0 a0_1 a0_2 l0_3) = some r := h
 clear h
 have H' := Aside0.mk H
 clear H
 go_enter Tryz.func30, Tryz.ntmps30
 go_wp2_with (first | ((with_reducible refine gate_dst (N := 1) rfl ?_); refine box_event ?hg (N := 1) ?hd (cs := #[.int .i64 a0_0, .int .i64 a0_1, .int .i64 a0_2, .slice A0_3 l0_3.length c0_3]) (t := 25) ?hr ?_; (case hd => rfl); (case hg => rfl); (case hr => first | (go_simp; done) | (go_simp; rfl)); intro gb186 hg w2 hbox hb; have n0_ := Aside0.mk (below_step (by repeat (first | (with_reducible first | exact HB.out | apply below_alloc | apply pw_below_drewN | apply below_drew1) | exact HB.out)) hb); have n1_ := Aside0.mk (hbox); have n2_ := Aside0.mk ((by rw [hg]; exact (below_size (by repeat (first | (with_reducible first | exact HB.out | apply below_alloc | apply pw_below_drewN | apply below_drew1) | exact HB.out))) : w.heap.size ≤ gb186)); have n3_ := Aside0.mk ((by rw [hg]; exact (below_size (by repeat (first | (with_reducible first | exact HB.out | apply below_alloc | apply pw_below_drewN | apply below_drew1) | exact HB.out))) : w.heap.size ≤ gb186)); clear HB; have HB := n0_; have BK186 := n1_; have GW186 := n2_; have GE186 := n3_; clear n0_ n1_ n2_ n3_; clear hb hbox hg))
 go_loopg [3, 4] k (fun kq v3 v4 w' => ∃ (x3_1 : ByteArray) (x4_1 : Int), v3 = .string x3_1 ∧ v4 = .int .i64 x4_1 ∧ Aside0 (r18_Words.l0 kq x3_1 x4_1 a0_0 a0_1 a0_2 l0_3 = some r) ∧ Aside0 (kq ≤ k) ∧ Aside0 (w'.heap[gb186]? = some (.cells #[.int .i64 a0_0, .int .i64 a0_1, .int .i64 a0_2, (.slice A0_3 l0_3.length c0_3)] 25 (0, 0))) ∧ Aside0 (Below w.heap.size w w'))
 case atStart => exact ⟨((⟨#[]⟩ : ByteArray)), (0), (by first | rfl | (simp; done) | (simp [*]; done)), (by first | rfl | (simp; done) | (simp [*]; done)), H', ⟨Nat.le_refl _⟩, ⟨by (with_reducible repeat (first | refine blk_drewN ?_ _ | refine blk_drew ?_ | refine blk_alloc ?_ _)); exact BK186.out⟩, ⟨by repeat (first | (with_reducible first | exact HB.out | apply below_alloc | apply pw_below_drewN | apply below_drew1 | refine below_set ?_ GE186.out) | exact HB.out)⟩⟩
 case round =>
  clear H'
  try clear p2
  obtain ⟨x3_1, x4_1, rfl, rfl, HA, HK1, BK186, HB⟩ := hrel
  cases gk with
  | zero => exact absurd HA.out (by simp [r18_Words.l0])
  | succ k1 =>
   have H := HA.out
   clear HA
   simp only [r18_Words.l0] at H
   by_cases c3 : x4_1 < (l0_3.length : Int)
   ·rw [if_pos c3] at H
    have c3b0 : decide (x4_1 < (l0_3.length : Int)) = true := decide_eq_true c3
    clear c3
    by_cases c4 : 0 ≤ x4_1
    ·rw [if_pos c4] at H
     have c4b0 : decide (0 ≤ x4_1) = true := decide_eq_true c4
     clear c4
     by_cases c5 : x3_1.size + ((rd_T42 l0_3 x4_1).f0).size ≤ 9223372036854775807
     ·rw [if_pos c5] at H
      have c5b0 := eq_true c5
      have c5b1 : decide (x3_1.size + ((rd_T42 l0_3 x4_1).f0).size ≤ 9223372036854775807) = true := decide_eq_true c5
      try have c5b2 : (9223372036854775807 < x3_1.size + ((rd_T42 l0_3 x4_1).f0).size) = False := eq_false (Nat.not_lt.2 c5)
      have H' := Aside0.mk H
      clear H
      have hcz6_0 : wr.cell? ⟨gb186, 0, none⟩ = some (.int .i64 a0_0) := (blk_cell BK186.out 0).trans rfl
      have hcz6_1 : wr.cell? ⟨gb186, 1, none⟩ = some (.int .i64 a0_1) := (blk_cell BK186.out 1).trans rfl
      have hcz6_2 : wr.cell? ⟨gb186, 2, none⟩ = some (.int .i64 a0_2) := (blk_cell BK186.out 2).trans rfl
      have hcz6_3 : wr.cell? ⟨gb186, 3, none⟩ = some (.slice A0_3 l0_3.length c0_3) := (blk_cell BK186.out 3).trans rfl
      have hfz6_0 := blk_frozen BK186.out 0
      have hfz6_1 := blk_frozen BK186.out 1
      have hfz6_2 := blk_frozen BK186.out 2
      have hfz6_3 := blk_frozen BK186.out 3
      have p187 : 0 ≤ (x4_1 : Int) := of_decide_eq_true (by first | (with_reducible assumption) | assumption)
      have q187 : x4_1 < (l0_3.length : Int) := of_decide_eq_true (by first | (with_reducible assumption) | assumption)
      obtain ⟨ad187, e187, hx187_0, hx187_1, hx187_2, hx187_3, hx187_4, hx187_5⟩ := at_T42 HR0_3.out x4_1 p187 q187
      cases e187
      replace hx187_0 := (HB.out.cell (World.block_lt_of_cell? w _ hx187_0)).trans hx187_0
      replace hx187_1 := (HB.out.cell (World.block_lt_of_cell? w _ hx187_1)).trans hx187_1
      replace hx187_2 := (HB.out.cell (World.block_lt_of_cell? w _ hx187_2)).trans hx187_2
      replace hx187_3 := (HB.out.cell (World.block_lt_of_cell? w _ hx187_3)).trans hx187_3
      replace hx187_4 := (HB.out.cell (World.block_lt_of_cell? w _ hx187_4)).trans hx187_4
      replace hx187_5 := (HB.out.cell (World.block_lt_of_cell? w _ hx187_5)).trans hx187_5
      replace p187 := eq_true p187
      replace q187 := eq_true q187
      go_wp2
      go_roundg k1
      case measure => have := HK1.out; omega
      case rel => exact ⟨(x3_1 ++ ((rd_T42 l0_3 x4_1).f0)), (wrap64 (x4_1 + 1)), (by first | rfl | (simp; done) | (simp [*]; done)), (by first | rfl | (simp; done) | (simp [*]; done)), H', ⟨by have := HK1.out; omega⟩, ⟨by (with_reducible repeat (first | refine blk_drewN ?_ _ | refine blk_drew ?_ | refine blk_alloc ?_ _)); exact BK186.out⟩, ⟨by repeat (first | (with_reducible first | exact HB.out | apply below_alloc | apply pw_below_drewN | apply below_drew1 | refine below_set ?_ GE186.out) | exact HB.out)⟩⟩
     ·rw [if_neg c5] at H
      exact absurd H (by simp)
    ·rw [if_neg c4] at H
     exact absurd H (by simp)
   ·rw [if_neg c3] at H
    have c3b0 : decide (x4_1 < (l0_3.length : Int)) = false := decide_eq_false c3
    clear c3
    obtain rfl := Option.some.inj H
    have hcz7_0 : wr.cell? ⟨gb186, 0, none⟩ = some (.int .i64 a0_0) := (blk_cell BK186.out 0).trans rfl
    have hcz7_1 : wr.cell? ⟨gb186, 1, none⟩ = some (.int .i64 a0_1) := (blk_cell BK186.out 1).trans rfl
    have hcz7_2 : wr.cell? ⟨gb186, 2, none⟩ = some (.int .i64 a0_2) := (blk_cell BK186.out 2).trans rfl
    have hcz7_3 : wr.cell? ⟨gb186, 3, none⟩ = some (.slice A0_3 l0_3.length c0_3) := (blk_cell BK186.out 3).trans rfl
    have hfz7_0 := blk_frozen BK186.out 0
    have hfz7_1 := blk_frozen BK186.out 1
    have hfz7_2 := blk_frozen BK186.out 2
    have hfz7_3 := blk_frozen BK186.out 3
    go_wp2
    go_ret
    exact ⟨by first | rfl | (simp [errW_none, errW_some] <;> rfl) | (simp [*, errW_none, errW_some] <;> rfl), by repeat (first | (with_reducible first | exact HB.out | apply below_alloc | apply pw_below_drewN | apply below_drew1 | refine below_set ?_ GE186.out) | exact HB.out)⟩


/-! ### w18_long: function 17 -/
def w18_long.f (k : Nat) (a0_0 : Int) (a0_1 : Int) (a0_2 : Int) (l0_3 : List (S42)) : Option (Bool) := if (l0_3.length : Int) > 400 then (some true) else ((r18_Words.f k a0_0 a0_1 a0_2 l0_3).bind fun t189 => (some (decide ((t189.size : Int) > 10000))))
set_option maxHeartbeats 8000000 in
set_option maxRecDepth 100000 in
theorem w18_long.calls (k : Nat) (a0_0 : Int) (a0_1 : Int) (a0_2 : Int) (A0_3 : Option Addr) (c0_3 : Nat) (l0_3 : List (S42)) (r : Bool) (w : World) (hr0_3 : Kd.C k42 w A0_3 l0_3.length l0_3) (hc0_3 : l0_3.length ≤ c0_3) (h : w18_long.f k a0_0 a0_1 a0_2 l0_3 = some r) :
  Calls Tryz.prog 17 #[.agg #[.int .i64 a0_0, .int .i64 a0_1, .int .i64 a0_2, .slice A0_3 l0_3.length c0_3]] w fun e w' => e = .returned (.bool r) ∧ Below w.heap.size w w' := by
 have hu25 := Tryz.underlying25
 have HR0_3 := Aside0.mk hr0_3
 have HC0_3 := Aside0.mk hc0_3
 clear hr0_3 hc0_3
 have HB := Aside0.mk (Below.refl w.heap.size w)
 have H : (if (l0_3.length : Int) > 400 then (some true) else ((r18_Words.f k a0_0 a0_1 a0_2 l0_3).bind fun t189 => (some (decide ((t189.size : Int) > 10000))))) = some r := h
 clear h
 by_cases c2 : (l0_3.length : Int) > 400
 ·rw [if_pos c2] at H
  have c2b0 : decide (400 < (l0_3.length : Int)) = true := decide_eq_true c2
  have c2b1 : decide (400 < l0_3.length) = true := decide_eq_true (by omega)
  clear c2
  obtain rfl := Option.some.inj H
  go_enter Tryz.func17, Tryz.ntmps17
  go_wp2_with (first | ((with_reducible refine gate_dst (N := 1) rfl ?_); (try (refine gate_guard (by rfl) ?_; dsimp only)); refine box_event ?hg (N := 1) ?hd (cs := #[.int .i64 a0_0, .int .i64 a0_1, .int .i64 a0_2, .slice A0_3 l0_3.length c0_3]) (t := 25) ?hr ?_; (case hd => rfl); (case hg => rfl); (case hr => first | (go_simp; done) | (go_simp; rfl)); intro gb188 hg w3 hbox hb; have n0_ := Aside0.mk (below_step (by repeat (first | (with_reducible first | exact HB.out | apply below_alloc | apply pw_below_drewN | apply below_drew1) | exact HB.out)) hb); have n1_ := Aside0.mk (hbox); have n2_ := Aside0.mk ((by rw [hg]; exact (below_size (by repeat (first | (with_reducible first | exact HB.out | apply below_alloc | apply pw_below_drewN | apply below_drew1) | exact HB.out))) : w.heap.size ≤ gb188)); have n3_ := Aside0.mk ((by rw [hg]; exact (below_size (by repeat (first | (with_reducible first | exact HB.out | apply below_alloc | apply pw_below_drewN | apply below_drew1) | exact HB.out))) : w.heap.size ≤ gb188)); clear HB; have HB := n0_; have BK188 := n1_; have GW188 := n2_; have GE188 := n3_; clear n0_ n1_ n2_ n3_; clear hb hbox hg; have hcz4_0 : w3.cell? ⟨gb188, 0, none⟩ = some (.int .i64 a0_0) := (blk_cell BK188.out 0).trans rfl; have hcz4_1 : w3.cell? ⟨gb188, 1, none⟩ = some (.int .i64 a0_1) := (blk_cell BK188.out 1).trans rfl; have hcz4_2 : w3.cell? ⟨gb188, 2, none⟩ = some (.int .i64 a0_2) := (blk_cell BK188.out 2).trans rfl; have hcz4_3 : w3.cell? ⟨gb188, 3, none⟩ = some (.slice A0_3 l0_3.length c0_3) := (blk_cell BK188.out 3).trans rfl; have hfz4_0 := blk_frozen BK188.out 0; have hfz4_1 := blk_frozen BK188.out 1; have hfz4_2 := blk_frozen BK188.out 2; have hfz4_3 := blk_frozen BK188.out 3))
  go_ret
  exact ⟨by first | rfl | (simp [errW_none, errW_some] <;> rfl) | (simp [*, errW_none, errW_some] <;> rfl), by repeat (first | (with_reducible first | exact HB.out | apply below_alloc | apply pw_below_drewN | apply below_drew1 | refine below_set ?_ GE188.out) | exact HB.out)⟩
 ·rw [if_neg c2] at H
  have c2b0 : decide (400 < (l0_3.length : Int)) = false := decide_eq_false c2
  have c2b1 : decide (400 < l0_3.length) = false := decide_eq_false (by omega)
  clear c2
  replace H := Option.bind_eq_some_iff.mp H
  obtain ⟨t189, A50, H⟩ := H
  replace H : (some (decide ((t189.size : Int) > 10000))) = some r := H
  have A5 := Aside0.mk A50
  clear A50
  obtain rfl := Option.some.inj H
  go_enter Tryz.func17, Tryz.ntmps17
  go_wp2_with (first | ((with_reducible refine gate_dst (N := 1) rfl ?_); (try (refine gate_guard (by rfl) ?_; dsimp only)); refine box_event ?hg (N := 1) ?hd (cs := #[.int .i64 a0_0, .int .i64 a0_1, .int .i64 a0_2, .slice A0_3 l0_3.length c0_3]) (t := 25) ?hr ?_; (case hd => rfl); (case hg => rfl); (case hr => first | (go_simp; done) | (go_simp; rfl)); intro gb188 hg w6 hbox hb; have n0_ := Aside0.mk (below_step (by repeat (first | (with_reducible first | exact HB.out | apply below_alloc | apply pw_below_drewN | apply below_drew1) | exact HB.out)) hb); have n1_ := Aside0.mk (hbox); have n2_ := Aside0.mk ((by rw [hg]; exact (below_size (by repeat (first | (with_reducible first | exact HB.out | apply below_alloc | apply pw_below_drewN | apply below_drew1) | exact HB.out))) : w.heap.size ≤ gb188)); have n3_ := Aside0.mk ((by rw [hg]; exact (below_size (by repeat (first | (with_reducible first | exact HB.out | apply below_alloc | apply pw_below_drewN | apply below_drew1) | exact HB.out))) : w.heap.size ≤ gb188)); clear HB; have HB := n0_; have BK188 := n1_; have GW188 := n2_; have GE188 := n3_; clear n0_ n1_ n2_ n3_; clear hb hbox hg; have hcz7_0 : w6.cell? ⟨gb188, 0, none⟩ = some (.int .i64 a0_0) := (blk_cell BK188.out 0).trans rfl; have hcz7_1 : w6.cell? ⟨gb188, 1, none⟩ = some (.int .i64 a0_1) := (blk_cell BK188.out 1).trans rfl; have hcz7_2 : w6.cell? ⟨gb188, 2, none⟩ = some (.int .i64 a0_2) := (blk_cell BK188.out 2).trans rfl; have hcz7_3 : w6.cell? ⟨gb188, 3, none⟩ = some (.slice A0_3 l0_3.length c0_3) := (blk_cell BK188.out 3).trans rfl; have hfz7_0 := blk_frozen BK188.out 0; have hfz7_1 := blk_frozen BK188.out 1; have hfz7_2 := blk_frozen BK188.out 2; have hfz7_3 := blk_frozen BK188.out 3) | (go_at_call 30; (with_reducible refine (r18_Words.calls k a0_0 a0_1 a0_2 _ _ l0_3 t189 _ ?side1 ?side2 A5.out).mono ?_); (case side1 => repeat (first | exact (Kd.C_below HR0_3.out HB.out) | (with_reducible refine Kd.C_alloc ?_ _) | (with_reducible refine Kd.C_drewN ?_ _) | (with_reducible refine Kd.C_drew ?_))); (case side2 => exact HC0_3.out); rintro e w8 ⟨rfl, hb⟩; have n0_ := Aside0.mk (blk_below (g := gb188) (o := .cells #[.int .i64 a0_0, .int .i64 a0_1, .int .i64 a0_2, .slice A0_3 l0_3.length c0_3] 25 (0, 0)) (by (with_reducible repeat (first | refine blk_drewN ?_ _ | refine blk_drew ?_ | refine blk_alloc ?_ _)); exact BK188.out) hb); have n1_ := Aside0.mk (below_step (by repeat (first | (with_reducible first | exact HB.out | apply below_alloc | apply pw_below_drewN | apply below_drew1 | refine below_set ?_ GE188.out) | exact HB.out)) hb); clear BK188; clear HB; have BK188 := n0_; have HB := n1_; clear n0_ n1_; (try clear hb); (try clear hb2); (try clear hk); (try clear hi)))
  go_ret
  exact ⟨by first | rfl | (simp [errW_none, errW_some] <;> rfl) | (simp [*, errW_none, errW_some] <;> rfl), by repeat (first | (with_reducible first | exact HB.out | apply below_alloc | apply pw_below_drewN | apply below_drew1 | refine below_set ?_ GE188.out) | exact HB.out)⟩


/-! ### strings_IndexByte: function 124 -/
def strings_IndexByte.f (a0 : ByteArray) (a1 : Int) : Option (Int) := some (Lib.indexByte a0.data.toList a1.toNat.toUInt8)
theorem strings_IndexByte.calls (a0 : ByteArray) (a1 : Int) (r : Int) (w : World) (h : strings_IndexByte.f a0 a1 = some r) :
  Calls Tryz.prog 124 #[.string a0, .int .u8 a1] w fun e w' => e = .returned (.int .i64 r) ∧ Drawn0 w w' := by
 unfold strings_IndexByte.f at h
 obtain rfl := Option.some.inj h
 refine (Tryz.strings_IndexByte a0 a1 w).mono ?_
 rintro e w' ⟨rfl, rfl⟩
 exact ⟨rfl, Drawn0.refl _⟩


/-! ### text_class: function 97 -/
def text_class.f (a0 : Int) : Option (Int) := if a0 = 10 then (some 0) else ((strings_IndexByte.f (⟨#[105, 108, 46, 44, 39, 33, 124, 58, 32]⟩ : ByteArray) a0).bind fun t190 => (if t190 ≥ 0 then (some 1) else (if a0 ≥ 65 then (if a0 ≤ 90 then (some 3) else ((strings_IndexByte.f (⟨#[109, 119, 64, 35]⟩ : ByteArray) a0).bind fun t191 => (if t191 ≥ 0 then (some 3) else (some 2)))) else ((strings_IndexByte.f (⟨#[109, 119, 64, 35]⟩ : ByteArray) a0).bind fun t192 => (if t192 ≥ 0 then (some 3) else (some 2))))))
set_option maxHeartbeats 8000000 in
set_option maxRecDepth 100000 in
theorem text_class.calls (a0 : Int) (r : Int) (w : World) (h : text_class.f a0 = some r) :
  Calls Tryz.prog 97 #[.int .u8 a0] w fun e w' => e = .returned (.int .i64 r) ∧ Drawn0 w w' := by
 have H : (if a0 = 10 then (some 0) else ((strings_IndexByte.f (⟨#[105, 108, 46, 44, 39, 33, 124, 58, 32]⟩ : ByteArray) a0).bind fun t190 => (if t190 ≥ 0 then (some 1) else (if a0 ≥ 65 then (if a0 ≤ 90 then (some 3) else ((strings_IndexByte.f (⟨#[109, 119, 64, 35]⟩ : ByteArray) a0).bind fun t191 => (if t191 ≥ 0 then (some 3) else (some 2)))) else ((strings_IndexByte.f (⟨#[109, 119, 64, 35]⟩ : ByteArray) a0).bind fun t192 => (if t192 ≥ 0 then (some 3) else (some 2))))))) = some r := h
 clear h
 by_cases c2 : a0 = 10
 ·rw [if_pos c2] at H
  have c2b0 : (a0 == 10) = true := beq_iff_eq.mpr c2
  have c2b1 : (a0 != 10) = false := bne_eq_false_iff_eq.mpr c2
  clear c2
  obtain rfl := Option.some.inj H
  go_enter Tryz.func97, Tryz.ntmps97
  go_wp2
  go_ret
  exact ⟨by first | rfl | (simp; done) | (simp [*]; done), by repeat (first | exact Drawn0.refl _ | apply Drawn0.step)⟩
 ·rw [if_neg c2] at H
  have c2b0 : (a0 == 10) = false := beq_eq_false_iff_ne.mpr c2
  have c2b1 : (a0 != 10) = true := bne_iff_ne.mpr c2
  replace H := Option.bind_eq_some_iff.mp H
  obtain ⟨t190, A30, H⟩ := H
  replace H : (if t190 ≥ 0 then (some 1) else (if a0 ≥ 65 then (if a0 ≤ 90 then (some 3) else ((strings_IndexByte.f (⟨#[109, 119, 64, 35]⟩ : ByteArray) a0).bind fun t191 => (if t191 ≥ 0 then (some 3) else (some 2)))) else ((strings_IndexByte.f (⟨#[109, 119, 64, 35]⟩ : ByteArray) a0).bind fun t192 => (if t192 ≥ 0 then (some 3) else (some 2))))) = some r := H
  have A3 := Aside0.mk A30
  clear A30
  by_cases c4 : t190 ≥ 0
  ·rw [if_pos c4] at H
   have c4b0 : decide (0 ≤ t190) = true := decide_eq_true c4
   clear c4
   obtain rfl := Option.some.inj H
   go_enter Tryz.func97, Tryz.ntmps97
   go_wp2_with (first | ((with_reducible refine gate_callee (f := 124) rfl ?_); refine goesL_ (some 8) rfl rfl Tryz.func124 (by kernel_rfl) rfl #[.string (⟨#[105, 108, 46, 44, 39, 33, 124, 58, 32]⟩ : ByteArray), .int .u8 a0] rfl (by (try simp only [List.map_toArray, List.map_cons, List.map_nil]); first | done | rfl | (simp only [List.length_drop, List.length_take]; rfl)) ?_; (with_reducible refine (strings_IndexByte.calls (⟨#[105, 108, 46, 44, 39, 33, 124, 58, 32]⟩ : ByteArray) a0 t190 _ A3.out).mono ?_); rintro e w' ⟨rfl, ⟨nd, rfl⟩⟩; refine ⟨_, rfl, ?_⟩))
   go_ret
   exact ⟨by first | rfl | (simp; done) | (simp [*]; done), by repeat (first | exact Drawn0.refl _ | apply Drawn0.step)⟩
  ·rw [if_neg c4] at H
   have c4b0 : decide (0 ≤ t190) = false := decide_eq_false c4
   clear c4
   by_cases c5 : a0 ≥ 65
   ·rw [if_pos c5] at H
    have c5b0 : decide (65 ≤ a0) = true := decide_eq_true c5
    clear c5
    by_cases c6 : a0 ≤ 90
    ·rw [if_pos c6] at H
     have c6b0 : decide (a0 ≤ 90) = true := decide_eq_true c6
     clear c6
     obtain rfl := Option.some.inj H
     go_enter Tryz.func97, Tryz.ntmps97
     go_wp2_with (first | ((with_reducible refine gate_callee (f := 124) rfl ?_); refine goesL_ (some 8) rfl rfl Tryz.func124 (by kernel_rfl) rfl #[.string (⟨#[105, 108, 46, 44, 39, 33, 124, 58, 32]⟩ : ByteArray), .int .u8 a0] rfl (by (try simp only [List.map_toArray, List.map_cons, List.map_nil]); first | done | rfl | (simp only [List.length_drop, List.length_take]; rfl)) ?_; (with_reducible refine (strings_IndexByte.calls (⟨#[105, 108, 46, 44, 39, 33, 124, 58, 32]⟩ : ByteArray) a0 t190 _ A3.out).mono ?_); rintro e w' ⟨rfl, ⟨nd, rfl⟩⟩; refine ⟨_, rfl, ?_⟩))
     go_ret
     exact ⟨by first | rfl | (simp; done) | (simp [*]; done), by repeat (first | exact Drawn0.refl _ | apply Drawn0.step)⟩
    ·rw [if_neg c6] at H
     have c6b0 : decide (a0 ≤ 90) = false := decide_eq_false c6
     clear c6
     replace H := Option.bind_eq_some_iff.mp H
     obtain ⟨t191, A70, H⟩ := H
     replace H : (if t191 ≥ 0 then (some 3) else (some 2)) = some r := H
     have A7 := Aside0.mk A70
     clear A70
     by_cases c8 : t191 ≥ 0
     ·rw [if_pos c8] at H
      have c8b0 : decide (0 ≤ t191) = true := decide_eq_true c8
      clear c8
      obtain rfl := Option.some.inj H
      go_enter Tryz.func97, Tryz.ntmps97
      go_wp2_with (first | ((with_reducible refine gate_callee (f := 124) rfl ?_); refine goesL_ (some 8) rfl rfl Tryz.func124 (by kernel_rfl) rfl #[.string (⟨#[105, 108, 46, 44, 39, 33, 124, 58, 32]⟩ : ByteArray), .int .u8 a0] rfl (by (try simp only [List.map_toArray, List.map_cons, List.map_nil]); first | done | rfl | (simp only [List.length_drop, List.length_take]; rfl)) ?_; (with_reducible refine (strings_IndexByte.calls (⟨#[105, 108, 46, 44, 39, 33, 124, 58, 32]⟩ : ByteArray) a0 t190 _ A3.out).mono ?_); rintro e w' ⟨rfl, ⟨nd, rfl⟩⟩; refine ⟨_, rfl, ?_⟩) | (go_at_call 124; (with_reducible refine (strings_IndexByte.calls (⟨#[109, 119, 64, 35]⟩ : ByteArray) a0 t191 _ A7.out).mono ?_); rintro e w' ⟨rfl, ⟨nd, rfl⟩⟩))
      go_ret
      exact ⟨by first | rfl | (simp; done) | (simp [*]; done), by repeat (first | exact Drawn0.refl _ | apply Drawn0.step)⟩
     ·rw [if_neg c8] at H
      have c8b0 : decide (0 ≤ t191) = false := decide_eq_false c8
      clear c8
      obtain rfl := Option.some.inj H
      go_enter Tryz.func97, Tryz.ntmps97
      go_wp2_with (first | ((with_reducible refine gate_callee (f := 124) rfl ?_); refine goesL_ (some 8) rfl rfl Tryz.func124 (by kernel_rfl) rfl #[.string (⟨#[105, 108, 46, 44, 39, 33, 124, 58, 32]⟩ : ByteArray), .int .u8 a0] rfl (by (try simp only [List.map_toArray, List.map_cons, List.map_nil]); first | done | rfl | (simp only [List.length_drop, List.length_take]; rfl)) ?_; (with_reducible refine (strings_IndexByte.calls (⟨#[105, 108, 46, 44, 39, 33, 124, 58, 32]⟩ : ByteArray) a0 t190 _ A3.out).mono ?_); rintro e w' ⟨rfl, ⟨nd, rfl⟩⟩; refine ⟨_, rfl, ?_⟩) | (go_at_call 124; (with_reducible refine (strings_IndexByte.calls (⟨#[109, 119, 64, 35]⟩ : ByteArray) a0 t191 _ A7.out).mono ?_); rintro e w' ⟨rfl, ⟨nd, rfl⟩⟩))
      go_ret
      exact ⟨by first | rfl | (simp; done) | (simp [*]; done), by repeat (first | exact Drawn0.refl _ | apply Drawn0.step)⟩
   ·rw [if_neg c5] at H
    have c5b0 : decide (65 ≤ a0) = false := decide_eq_false c5
    clear c5
    replace H := Option.bind_eq_some_iff.mp H
    obtain ⟨t192, A90, H⟩ := H
    replace H : (if t192 ≥ 0 then (some 3) else (some 2)) = some r := H
    have A9 := Aside0.mk A90
    clear A90
    by_cases c10 : t192 ≥ 0
    ·rw [if_pos c10] at H
     have c10b0 : decide (0 ≤ t192) = true := decide_eq_true c10
     clear c10
     obtain rfl := Option.some.inj H
     go_enter Tryz.func97, Tryz.ntmps97
     go_wp2_with (first | ((with_reducible refine gate_callee (f := 124) rfl ?_); refine goesL_ (some 8) rfl rfl Tryz.func124 (by kernel_rfl) rfl #[.string (⟨#[105, 108, 46, 44, 39, 33, 124, 58, 32]⟩ : ByteArray), .int .u8 a0] rfl (by (try simp only [List.map_toArray, List.map_cons, List.map_nil]); first | done | rfl | (simp only [List.length_drop, List.length_take]; rfl)) ?_; (with_reducible refine (strings_IndexByte.calls (⟨#[105, 108, 46, 44, 39, 33, 124, 58, 32]⟩ : ByteArray) a0 t190 _ A3.out).mono ?_); rintro e w' ⟨rfl, ⟨nd, rfl⟩⟩; refine ⟨_, rfl, ?_⟩) | (go_at_call 124; (with_reducible refine (strings_IndexByte.calls (⟨#[109, 119, 64, 35]⟩ : ByteArray) a0 t192 _ A9.out).mono ?_); rintro e w' ⟨rfl, ⟨nd, rfl⟩⟩))
     go_ret
     exact ⟨by first | rfl | (simp; done) | (simp [*]; done), by repeat (first | exact Drawn0.refl _ | apply Drawn0.step)⟩
    ·rw [if_neg c10] at H
     have c10b0 : decide (0 ≤ t192) = false := decide_eq_false c10
     clear c10
     obtain rfl := Option.some.inj H
     go_enter Tryz.func97, Tryz.ntmps97
     go_wp2_with (first | ((with_reducible refine gate_callee (f := 124) rfl ?_); refine goesL_ (some 8) rfl rfl Tryz.func124 (by kernel_rfl) rfl #[.string (⟨#[105, 108, 46, 44, 39, 33, 124, 58, 32]⟩ : ByteArray), .int .u8 a0] rfl (by (try simp only [List.map_toArray, List.map_cons, List.map_nil]); first | done | rfl | (simp only [List.length_drop, List.length_take]; rfl)) ?_; (with_reducible refine (strings_IndexByte.calls (⟨#[105, 108, 46, 44, 39, 33, 124, 58, 32]⟩ : ByteArray) a0 t190 _ A3.out).mono ?_); rintro e w' ⟨rfl, ⟨nd, rfl⟩⟩; refine ⟨_, rfl, ?_⟩) | (go_at_call 124; (with_reducible refine (strings_IndexByte.calls (⟨#[109, 119, 64, 35]⟩ : ByteArray) a0 t192 _ A9.out).mono ?_); rintro e w' ⟨rfl, ⟨nd, rfl⟩⟩))
     go_ret
     exact ⟨by first | rfl | (simp; done) | (simp [*]; done), by repeat (first | exact Drawn0.refl _ | apply Drawn0.step)⟩


/-! ### text_wide: function 60 -/
def text_wide.f (a0 : Int) (a1_0 : Bool) (a1_1 : Bool) (a1_2 : Bool) (a1_3 : Int) (a1_4 : Int) : Option (Int) := (text_class.f a0).bind fun t194 => (if a1_0 = true then (if a0 = 10 then (some (wrap64 (a1_3 * t194))) else (some (wrap64 ((wrap64 (a1_3 * t194)) + 1)))) else (some (wrap64 (a1_3 * t194))))
set_option maxHeartbeats 8000000 in
set_option maxRecDepth 100000 in
theorem text_wide.calls (a0 : Int) (a1_0 : Bool) (a1_1 : Bool) (a1_2 : Bool) (a1_3 : Int) (a1_4 : Int) (r : Int) (w : World) (h : text_wide.f a0 a1_0 a1_1 a1_2 a1_3 a1_4 = some r) :
  Calls Tryz.prog 60 #[.int .u8 a0, .agg #[.bool a1_0, .bool a1_1, .bool a1_2, .int .i64 a1_3, .int .i64 a1_4]] w fun e w' => e = .returned (.int .i64 r) ∧ Below w.heap.size w w' := by
 have hu40 := Tryz.underlying40
 have HB := Aside0.mk (Below.refl w.heap.size w)
 have H : ((text_class.f a0).bind fun t194 => (if a1_0 = true then (if a0 = 10 then (some (wrap64 (a1_3 * t194))) else (some (wrap64 ((wrap64 (a1_3 * t194)) + 1)))) else (some (wrap64 (a1_3 * t194))))) = some r := h
 clear h
 replace H := Option.bind_eq_some_iff.mp H
 obtain ⟨t194, A30, H⟩ := H
 replace H : (if a1_0 = true then (if a0 = 10 then (some (wrap64 (a1_3 * t194))) else (some (wrap64 ((wrap64 (a1_3 * t194)) + 1)))) else (some (wrap64 (a1_3 * t194)))) = some r := H
 have A3 := Aside0.mk A30
 clear A30
 by_cases c4 : a1_0 = true
 ·subst c4
  have H1 : (if a0 = 10 then (some (wrap64 (a1_3 * t194))) else (some (wrap64 ((wrap64 (a1_3 * t194)) + 1)))) = some r := by rw [if_pos rfl] at H; exact H
  clear H
  have H := H1
  clear H1
  by_cases c5 : a0 = 10
  ·rw [if_pos c5] at H
   have c5b0 : (a0 == 10) = true := beq_iff_eq.mpr c5
   have c5b1 : (a0 != 10) = false := bne_eq_false_iff_eq.mpr c5
   clear c5
   obtain rfl := Option.some.inj H
   go_enter Tryz.func60, Tryz.ntmps60
   go_wp2_with (first | ((with_reducible refine gate_dst (N := 3) rfl ?_); refine box_event ?hg (N := 3) ?hd (cs := #[.bool true, .bool a1_1, .bool a1_2, .int .i64 a1_3, .int .i64 a1_4]) (t := 40) ?hr ?_; (case hd => rfl); (case hg => rfl); (case hr => first | (go_simp; done) | (go_simp; rfl)); intro gb193 hg w6 hbox hb; have n0_ := Aside0.mk (below_step (by repeat (first | (with_reducible first | exact HB.out | apply below_alloc | apply pw_below_drewN | apply below_drew1) | exact HB.out)) hb); have n1_ := Aside0.mk (hbox); have n2_ := Aside0.mk ((by rw [hg]; exact (below_size (by repeat (first | (with_reducible first | exact HB.out | apply below_alloc | apply pw_below_drewN | apply below_drew1) | exact HB.out))) : w.heap.size ≤ gb193)); have n3_ := Aside0.mk ((by rw [hg]; exact (below_size (by repeat (first | (with_reducible first | exact HB.out | apply below_alloc | apply pw_below_drewN | apply below_drew1) | exact HB.out))) : w.heap.size ≤ gb193)); clear HB; have HB := n0_; have BK193 := n1_; have GW193 := n2_; have GE193 := n3_; clear n0_ n1_ n2_ n3_; clear hb hbox hg; have hcz7_0 : w6.cell? ⟨gb193, 0, none⟩ = some (.bool true) := (blk_cell BK193.out 0).trans rfl; have hcz7_1 : w6.cell? ⟨gb193, 1, none⟩ = some (.bool a1_1) := (blk_cell BK193.out 1).trans rfl; have hcz7_2 : w6.cell? ⟨gb193, 2, none⟩ = some (.bool a1_2) := (blk_cell BK193.out 2).trans rfl; have hcz7_3 : w6.cell? ⟨gb193, 3, none⟩ = some (.int .i64 a1_3) := (blk_cell BK193.out 3).trans rfl; have hcz7_4 : w6.cell? ⟨gb193, 4, none⟩ = some (.int .i64 a1_4) := (blk_cell BK193.out 4).trans rfl; have hfz7_0 := blk_frozen BK193.out 0; have hfz7_1 := blk_frozen BK193.out 1; have hfz7_2 := blk_frozen BK193.out 2; have hfz7_3 := blk_frozen BK193.out 3; have hfz7_4 := blk_frozen BK193.out 4) | (go_at_call 97; (with_reducible refine (text_class.calls a0 t194 _ A3.out).mono ?_); rintro e w' ⟨rfl, ⟨nd, rfl⟩⟩; (try first | exact ⟨rfl, _, World.drewN_drewN _ _ _⟩ | exact ⟨rfl, _, Eq.trans (World.drewN_drewN _ _ _) (congrArg (World.drewN _) (Nat.add_assoc _ _ _))⟩)))
   repeat (go_quiet (first | ((with_reducible refine gate_dst (N := 3) rfl ?_); refine box_event ?hg (N := 3) ?hd (cs := #[.bool true, .bool a1_1, .bool a1_2, .int .i64 a1_3, .int .i64 a1_4]) (t := 40) ?hr ?_; (case hd => rfl); (case hg => rfl); (case hr => first | (go_simp; done) | (go_simp; rfl)); intro gb193 hg w6 hbox hb; have n0_ := Aside0.mk (below_step (by repeat (first | (with_reducible first | exact HB.out | apply below_alloc | apply pw_below_drewN | apply below_drew1) | exact HB.out)) hb); have n1_ := Aside0.mk (hbox); have n2_ := Aside0.mk ((by rw [hg]; exact (below_size (by repeat (first | (with_reducible first | exact HB.out | apply below_alloc | apply pw_below_drewN | apply below_drew1) | exact HB.out))) : w.heap.size ≤ gb193)); have n3_ := Aside0.mk ((by rw [hg]; exact (below_size (by repeat (first | (with_reducible first | exact HB.out | apply below_alloc | apply pw_below_drewN | apply below_drew1) | exact HB.out))) : w.heap.size ≤ gb193)); clear HB; have HB := n0_; have BK193 := n1_; have GW193 := n2_; have GE193 := n3_; clear n0_ n1_ n2_ n3_; clear hb hbox hg; have hcz7_0 : w6.cell? ⟨gb193, 0, none⟩ = some (.bool true) := (blk_cell BK193.out 0).trans rfl; have hcz7_1 : w6.cell? ⟨gb193, 1, none⟩ = some (.bool a1_1) := (blk_cell BK193.out 1).trans rfl; have hcz7_2 : w6.cell? ⟨gb193, 2, none⟩ = some (.bool a1_2) := (blk_cell BK193.out 2).trans rfl; have hcz7_3 : w6.cell? ⟨gb193, 3, none⟩ = some (.int .i64 a1_3) := (blk_cell BK193.out 3).trans rfl; have hcz7_4 : w6.cell? ⟨gb193, 4, none⟩ = some (.int .i64 a1_4) := (blk_cell BK193.out 4).trans rfl; have hfz7_0 := blk_frozen BK193.out 0; have hfz7_1 := blk_frozen BK193.out 1; have hfz7_2 := blk_frozen BK193.out 2; have hfz7_3 := blk_frozen BK193.out 3; have hfz7_4 := blk_frozen BK193.out 4) | (go_at_call 97; (with_reducible refine (text_class.calls a0 t194 _ A3.out).mono ?_); rintro e w' ⟨rfl, ⟨nd, rfl⟩⟩; (try first | exact ⟨rfl, _, World.drewN_drewN _ _ _⟩ | exact ⟨rfl, _, Eq.trans (World.drewN_drewN _ _ _) (congrArg (World.drewN _) (Nat.add_assoc _ _ _))⟩))); try go_wp2_with (first | ((with_reducible refine gate_dst (N := 3) rfl ?_); refine box_event ?hg (N := 3) ?hd (cs := #[.bool true, .bool a1_1, .bool a1_2, .int .i64 a1_3, .int .i64 a1_4]) (t := 40) ?hr ?_; (case hd => rfl); (case hg => rfl); (case hr => first | (go_simp; done) | (go_simp; rfl)); intro gb193 hg w6 hbox hb; have n0_ := Aside0.mk (below_step (by repeat (first | (with_reducible first | exact HB.out | apply below_alloc | apply pw_below_drewN | apply below_drew1) | exact HB.out)) hb); have n1_ := Aside0.mk (hbox); have n2_ := Aside0.mk ((by rw [hg]; exact (below_size (by repeat (first | (with_reducible first | exact HB.out | apply below_alloc | apply pw_below_drewN | apply below_drew1) | exact HB.out))) : w.heap.size ≤ gb193)); have n3_ := Aside0.mk ((by rw [hg]; exact (below_size (by repeat (first | (with_reducible first | exact HB.out | apply below_alloc | apply pw_below_drewN | apply below_drew1) | exact HB.out))) : w.heap.size ≤ gb193)); clear HB; have HB := n0_; have BK193 := n1_; have GW193 := n2_; have GE193 := n3_; clear n0_ n1_ n2_ n3_; clear hb hbox hg; have hcz7_0 : w6.cell? ⟨gb193, 0, none⟩ = some (.bool true) := (blk_cell BK193.out 0).trans rfl; have hcz7_1 : w6.cell? ⟨gb193, 1, none⟩ = some (.bool a1_1) := (blk_cell BK193.out 1).trans rfl; have hcz7_2 : w6.cell? ⟨gb193, 2, none⟩ = some (.bool a1_2) := (blk_cell BK193.out 2).trans rfl; have hcz7_3 : w6.cell? ⟨gb193, 3, none⟩ = some (.int .i64 a1_3) := (blk_cell BK193.out 3).trans rfl; have hcz7_4 : w6.cell? ⟨gb193, 4, none⟩ = some (.int .i64 a1_4) := (blk_cell BK193.out 4).trans rfl; have hfz7_0 := blk_frozen BK193.out 0; have hfz7_1 := blk_frozen BK193.out 1; have hfz7_2 := blk_frozen BK193.out 2; have hfz7_3 := blk_frozen BK193.out 3; have hfz7_4 := blk_frozen BK193.out 4) | (go_at_call 97; (with_reducible refine (text_class.calls a0 t194 _ A3.out).mono ?_); rintro e w' ⟨rfl, ⟨nd, rfl⟩⟩; (try first | exact ⟨rfl, _, World.drewN_drewN _ _ _⟩ | exact ⟨rfl, _, Eq.trans (World.drewN_drewN _ _ _) (congrArg (World.drewN _) (Nat.add_assoc _ _ _))⟩))))
   go_ret
   exact ⟨by first | rfl | (simp [errW_none, errW_some] <;> rfl) | (simp [*, errW_none, errW_some] <;> rfl), by repeat (first | (with_reducible first | exact HB.out | apply below_alloc | apply pw_below_drewN | apply below_drew1 | refine below_set ?_ GE193.out) | exact HB.out)⟩
  ·rw [if_neg c5] at H
   have c5b0 : (a0 == 10) = false := beq_eq_false_iff_ne.mpr c5
   have c5b1 : (a0 != 10) = true := bne_iff_ne.mpr c5
   obtain rfl := Option.some.inj H
   go_enter Tryz.func60, Tryz.ntmps60
   go_wp2_with (first | ((with_reducible refine gate_dst (N := 3) rfl ?_); refine box_event ?hg (N := 3) ?hd (cs := #[.bool true, .bool a1_1, .bool a1_2, .int .i64 a1_3, .int .i64 a1_4]) (t := 40) ?hr ?_; (case hd => rfl); (case hg => rfl); (case hr => first | (go_simp; done) | (go_simp; rfl)); intro gb193 hg w8 hbox hb; have n0_ := Aside0.mk (below_step (by repeat (first | (with_reducible first | exact HB.out | apply below_alloc | apply pw_below_drewN | apply below_drew1) | exact HB.out)) hb); have n1_ := Aside0.mk (hbox); have n2_ := Aside0.mk ((by rw [hg]; exact (below_size (by repeat (first | (with_reducible first | exact HB.out | apply below_alloc | apply pw_below_drewN | apply below_drew1) | exact HB.out))) : w.heap.size ≤ gb193)); have n3_ := Aside0.mk ((by rw [hg]; exact (below_size (by repeat (first | (with_reducible first | exact HB.out | apply below_alloc | apply pw_below_drewN | apply below_drew1) | exact HB.out))) : w.heap.size ≤ gb193)); clear HB; have HB := n0_; have BK193 := n1_; have GW193 := n2_; have GE193 := n3_; clear n0_ n1_ n2_ n3_; clear hb hbox hg; have hcz9_0 : w8.cell? ⟨gb193, 0, none⟩ = some (.bool true) := (blk_cell BK193.out 0).trans rfl; have hcz9_1 : w8.cell? ⟨gb193, 1, none⟩ = some (.bool a1_1) := (blk_cell BK193.out 1).trans rfl; have hcz9_2 : w8.cell? ⟨gb193, 2, none⟩ = some (.bool a1_2) := (blk_cell BK193.out 2).trans rfl; have hcz9_3 : w8.cell? ⟨gb193, 3, none⟩ = some (.int .i64 a1_3) := (blk_cell BK193.out 3).trans rfl; have hcz9_4 : w8.cell? ⟨gb193, 4, none⟩ = some (.int .i64 a1_4) := (blk_cell BK193.out 4).trans rfl; have hfz9_0 := blk_frozen BK193.out 0; have hfz9_1 := blk_frozen BK193.out 1; have hfz9_2 := blk_frozen BK193.out 2; have hfz9_3 := blk_frozen BK193.out 3; have hfz9_4 := blk_frozen BK193.out 4) | (go_at_call 97; (with_reducible refine (text_class.calls a0 t194 _ A3.out).mono ?_); rintro e w' ⟨rfl, ⟨nd, rfl⟩⟩; (try first | exact ⟨rfl, _, World.drewN_drewN _ _ _⟩ | exact ⟨rfl, _, Eq.trans (World.drewN_drewN _ _ _) (congrArg (World.drewN _) (Nat.add_assoc _ _ _))⟩)))
   repeat (go_quiet (first | ((with_reducible refine gate_dst (N := 3) rfl ?_); refine box_event ?hg (N := 3) ?hd (cs := #[.bool true, .bool a1_1, .bool a1_2, .int .i64 a1_3, .int .i64 a1_4]) (t := 40) ?hr ?_; (case hd => rfl); (case hg => rfl); (case hr => first | (go_simp; done) | (go_simp; rfl)); intro gb193 hg w8 hbox hb; have n0_ := Aside0.mk (below_step (by repeat (first | (with_reducible first | exact HB.out | apply below_alloc | apply pw_below_drewN | apply below_drew1) | exact HB.out)) hb); have n1_ := Aside0.mk (hbox); have n2_ := Aside0.mk ((by rw [hg]; exact (below_size (by repeat (first | (with_reducible first | exact HB.out | apply below_alloc | apply pw_below_drewN | apply below_drew1) | exact HB.out))) : w.heap.size ≤ gb193)); have n3_ := Aside0.mk ((by rw [hg]; exact (below_size (by repeat (first | (with_reducible first | exact HB.out | apply below_alloc | apply pw_below_drewN | apply below_drew1) | exact HB.out))) : w.heap.size ≤ gb193)); clear HB; have HB := n0_; have BK193 := n1_; have GW193 := n2_; have GE193 := n3_; clear n0_ n1_ n2_ n3_; clear hb hbox hg; have hcz9_0 : w8.cell? ⟨gb193, 0, none⟩ = some (.bool true) := (blk_cell BK193.out 0).trans rfl; have hcz9_1 : w8.cell? ⟨gb193, 1, none⟩ = some (.bool a1_1) := (blk_cell BK193.out 1).trans rfl; have hcz9_2 : w8.cell? ⟨gb193, 2, none⟩ = some (.bool a1_2) := (blk_cell BK193.out 2).trans rfl; have hcz9_3 : w8.cell? ⟨gb193, 3, none⟩ = some (.int .i64 a1_3) := (blk_cell BK193.out 3).trans rfl; have hcz9_4 : w8.cell? ⟨gb193, 4, none⟩ = some (.int .i64 a1_4) := (blk_cell BK193.out 4).trans rfl; have hfz9_0 := blk_frozen BK193.out 0; have hfz9_1 := blk_frozen BK193.out 1; have hfz9_2 := blk_frozen BK193.out 2; have hfz9_3 := blk_frozen BK193.out 3; have hfz9_4 := blk_frozen BK193.out 4) | (go_at_call 97; (with_reducible refine (text_class.calls a0 t194 _ A3.out).mono ?_); rintro e w' ⟨rfl, ⟨nd, rfl⟩⟩; (try first | exact ⟨rfl, _, World.drewN_drewN _ _ _⟩ | exact ⟨rfl, _, Eq.trans (World.drewN_drewN _ _ _) (congrArg (World.drewN _) (Nat.add_assoc _ _ _))⟩))); try go_wp2_with (first | ((with_reducible refine gate_dst (N := 3) rfl ?_); refine box_event ?hg (N := 3) ?hd (cs := #[.bool true, .bool a1_1, .bool a1_2, .int .i64 a1_3, .int .i64 a1_4]) (t := 40) ?hr ?_; (case hd => rfl); (case hg => rfl); (case hr => first | (go_simp; done) | (go_simp; rfl)); intro gb193 hg w8 hbox hb; have n0_ := Aside0.mk (below_step (by repeat (first | (with_reducible first | exact HB.out | apply below_alloc | apply pw_below_drewN | apply below_drew1) | exact HB.out)) hb); have n1_ := Aside0.mk (hbox); have n2_ := Aside0.mk ((by rw [hg]; exact (below_size (by repeat (first | (with_reducible first | exact HB.out | apply below_alloc | apply pw_below_drewN | apply below_drew1) | exact HB.out))) : w.heap.size ≤ gb193)); have n3_ := Aside0.mk ((by rw [hg]; exact (below_size (by repeat (first | (with_reducible first | exact HB.out | apply below_alloc | apply pw_below_drewN | apply below_drew1) | exact HB.out))) : w.heap.size ≤ gb193)); clear HB; have HB := n0_; have BK193 := n1_; have GW193 := n2_; have GE193 := n3_; clear n0_ n1_ n2_ n3_; clear hb hbox hg; have hcz9_0 : w8.cell? ⟨gb193, 0, none⟩ = some (.bool true) := (blk_cell BK193.out 0).trans rfl; have hcz9_1 : w8.cell? ⟨gb193, 1, none⟩ = some (.bool a1_1) := (blk_cell BK193.out 1).trans rfl; have hcz9_2 : w8.cell? ⟨gb193, 2, none⟩ = some (.bool a1_2) := (blk_cell BK193.out 2).trans rfl; have hcz9_3 : w8.cell? ⟨gb193, 3, none⟩ = some (.int .i64 a1_3) := (blk_cell BK193.out 3).trans rfl; have hcz9_4 : w8.cell? ⟨gb193, 4, none⟩ = some (.int .i64 a1_4) := (blk_cell BK193.out 4).trans rfl; have hfz9_0 := blk_frozen BK193.out 0; have hfz9_1 := blk_frozen BK193.out 1; have hfz9_2 := blk_frozen BK193.out 2; have hfz9_3 := blk_frozen BK193.out 3; have hfz9_4 := blk_frozen BK193.out 4) | (go_at_call 97; (with_reducible refine (text_class.calls a0 t194 _ A3.out).mono ?_); rintro e w' ⟨rfl, ⟨nd, rfl⟩⟩; (try first | exact ⟨rfl, _, World.drewN_drewN _ _ _⟩ | exact ⟨rfl, _, Eq.trans (World.drewN_drewN _ _ _) (congrArg (World.drewN _) (Nat.add_assoc _ _ _))⟩))))
   go_ret
   exact ⟨by first | rfl | (simp [errW_none, errW_some] <;> rfl) | (simp [*, errW_none, errW_some] <;> rfl), by repeat (first | (with_reducible first | exact HB.out | apply below_alloc | apply pw_below_drewN | apply below_drew1 | refine below_set ?_ GE193.out) | exact HB.out)⟩
 ·replace c4 := Bool.eq_false_iff.mpr c4
  subst c4
  have H1 : (some (wrap64 (a1_3 * t194))) = some r := by rw [if_neg (show ¬ (false = true) by decide)] at H; exact H
  clear H
  have H := H1
  clear H1
  obtain rfl := Option.some.inj H
  go_enter Tryz.func60, Tryz.ntmps60
  go_wp2_with (first | ((with_reducible refine gate_dst (N := 3) rfl ?_); refine box_event ?hg (N := 3) ?hd (cs := #[.bool false, .bool a1_1, .bool a1_2, .int .i64 a1_3, .int .i64 a1_4]) (t := 40) ?hr ?_; (case hd => rfl); (case hg => rfl); (case hr => first | (go_simp; done) | (go_simp; rfl)); intro gb193 hg w10 hbox hb; have n0_ := Aside0.mk (below_step (by repeat (first | (with_reducible first | exact HB.out | apply below_alloc | apply pw_below_drewN | apply below_drew1) | exact HB.out)) hb); have n1_ := Aside0.mk (hbox); have n2_ := Aside0.mk ((by rw [hg]; exact (below_size (by repeat (first | (with_reducible first | exact HB.out | apply below_alloc | apply pw_below_drewN | apply below_drew1) | exact HB.out))) : w.heap.size ≤ gb193)); have n3_ := Aside0.mk ((by rw [hg]; exact (below_size (by repeat (first | (with_reducible first | exact HB.out | apply below_alloc | apply pw_below_drewN | apply below_drew1) | exact HB.out))) : w.heap.size ≤ gb193)); clear HB; have HB := n0_; have BK193 := n1_; have GW193 := n2_; have GE193 := n3_; clear n0_ n1_ n2_ n3_; clear hb hbox hg; have hcz11_0 : w10.cell? ⟨gb193, 0, none⟩ = some (.bool false) := (blk_cell BK193.out 0).trans rfl; have hcz11_1 : w10.cell? ⟨gb193, 1, none⟩ = some (.bool a1_1) := (blk_cell BK193.out 1).trans rfl; have hcz11_2 : w10.cell? ⟨gb193, 2, none⟩ = some (.bool a1_2) := (blk_cell BK193.out 2).trans rfl; have hcz11_3 : w10.cell? ⟨gb193, 3, none⟩ = some (.int .i64 a1_3) := (blk_cell BK193.out 3).trans rfl; have hcz11_4 : w10.cell? ⟨gb193, 4, none⟩ = some (.int .i64 a1_4) := (blk_cell BK193.out 4).trans rfl; have hfz11_0 := blk_frozen BK193.out 0; have hfz11_1 := blk_frozen BK193.out 1; have hfz11_2 := blk_frozen BK193.out 2; have hfz11_3 := blk_frozen BK193.out 3; have hfz11_4 := blk_frozen BK193.out 4) | (go_at_call 97; (with_reducible refine (text_class.calls a0 t194 _ A3.out).mono ?_); rintro e w' ⟨rfl, ⟨nd, rfl⟩⟩; (try first | exact ⟨rfl, _, World.drewN_drewN _ _ _⟩ | exact ⟨rfl, _, Eq.trans (World.drewN_drewN _ _ _) (congrArg (World.drewN _) (Nat.add_assoc _ _ _))⟩)))
  repeat (go_quiet (first | ((with_reducible refine gate_dst (N := 3) rfl ?_); refine box_event ?hg (N := 3) ?hd (cs := #[.bool false, .bool a1_1, .bool a1_2, .int .i64 a1_3, .int .i64 a1_4]) (t := 40) ?hr ?_; (case hd => rfl); (case hg => rfl); (case hr => first | (go_simp; done) | (go_simp; rfl)); intro gb193 hg w10 hbox hb; have n0_ := Aside0.mk (below_step (by repeat (first | (with_reducible first | exact HB.out | apply below_alloc | apply pw_below_drewN | apply below_drew1) | exact HB.out)) hb); have n1_ := Aside0.mk (hbox); have n2_ := Aside0.mk ((by rw [hg]; exact (below_size (by repeat (first | (with_reducible first | exact HB.out | apply below_alloc | apply pw_below_drewN | apply below_drew1) | exact HB.out))) : w.heap.size ≤ gb193)); have n3_ := Aside0.mk ((by rw [hg]; exact (below_size (by repeat (first | (with_reducible first | exact HB.out | apply below_alloc | apply pw_below_drewN | apply below_drew1) | exact HB.out))) : w.heap.size ≤ gb193)); clear HB; have HB := n0_; have BK193 := n1_; have GW193 := n2_; have GE193 := n3_; clear n0_ n1_ n2_ n3_; clear hb hbox hg; have hcz11_0 : w10.cell? ⟨gb193, 0, none⟩ = some (.bool false) := (blk_cell BK193.out 0).trans rfl; have hcz11_1 : w10.cell? ⟨gb193, 1, none⟩ = some (.bool a1_1) := (blk_cell BK193.out 1).trans rfl; have hcz11_2 : w10.cell? ⟨gb193, 2, none⟩ = some (.bool a1_2) := (blk_cell BK193.out 2).trans rfl; have hcz11_3 : w10.cell? ⟨gb193, 3, none⟩ = some (.int .i64 a1_3) := (blk_cell BK193.out 3).trans rfl; have hcz11_4 : w10.cell? ⟨gb193, 4, none⟩ = some (.int .i64 a1_4) := (blk_cell BK193.out 4).trans rfl; have hfz11_0 := blk_frozen BK193.out 0; have hfz11_1 := blk_frozen BK193.out 1; have hfz11_2 := blk_frozen BK193.out 2; have hfz11_3 := blk_frozen BK193.out 3; have hfz11_4 := blk_frozen BK193.out 4) | (go_at_call 97; (with_reducible refine (text_class.calls a0 t194 _ A3.out).mono ?_); rintro e w' ⟨rfl, ⟨nd, rfl⟩⟩; (try first | exact ⟨rfl, _, World.drewN_drewN _ _ _⟩ | exact ⟨rfl, _, Eq.trans (World.drewN_drewN _ _ _) (congrArg (World.drewN _) (Nat.add_assoc _ _ _))⟩))); try go_wp2_with (first | ((with_reducible refine gate_dst (N := 3) rfl ?_); refine box_event ?hg (N := 3) ?hd (cs := #[.bool false, .bool a1_1, .bool a1_2, .int .i64 a1_3, .int .i64 a1_4]) (t := 40) ?hr ?_; (case hd => rfl); (case hg => rfl); (case hr => first | (go_simp; done) | (go_simp; rfl)); intro gb193 hg w10 hbox hb; have n0_ := Aside0.mk (below_step (by repeat (first | (with_reducible first | exact HB.out | apply below_alloc | apply pw_below_drewN | apply below_drew1) | exact HB.out)) hb); have n1_ := Aside0.mk (hbox); have n2_ := Aside0.mk ((by rw [hg]; exact (below_size (by repeat (first | (with_reducible first | exact HB.out | apply below_alloc | apply pw_below_drewN | apply below_drew1) | exact HB.out))) : w.heap.size ≤ gb193)); have n3_ := Aside0.mk ((by rw [hg]; exact (below_size (by repeat (first | (with_reducible first | exact HB.out | apply below_alloc | apply pw_below_drewN | apply below_drew1) | exact HB.out))) : w.heap.size ≤ gb193)); clear HB; have HB := n0_; have BK193 := n1_; have GW193 := n2_; have GE193 := n3_; clear n0_ n1_ n2_ n3_; clear hb hbox hg; have hcz11_0 : w10.cell? ⟨gb193, 0, none⟩ = some (.bool false) := (blk_cell BK193.out 0).trans rfl; have hcz11_1 : w10.cell? ⟨gb193, 1, none⟩ = some (.bool a1_1) := (blk_cell BK193.out 1).trans rfl; have hcz11_2 : w10.cell? ⟨gb193, 2, none⟩ = some (.bool a1_2) := (blk_cell BK193.out 2).trans rfl; have hcz11_3 : w10.cell? ⟨gb193, 3, none⟩ = some (.int .i64 a1_3) := (blk_cell BK193.out 3).trans rfl; have hcz11_4 : w10.cell? ⟨gb193, 4, none⟩ = some (.int .i64 a1_4) := (blk_cell BK193.out 4).trans rfl; have hfz11_0 := blk_frozen BK193.out 0; have hfz11_1 := blk_frozen BK193.out 1; have hfz11_2 := blk_frozen BK193.out 2; have hfz11_3 := blk_frozen BK193.out 3; have hfz11_4 := blk_frozen BK193.out 4) | (go_at_call 97; (with_reducible refine (text_class.calls a0 t194 _ A3.out).mono ?_); rintro e w' ⟨rfl, ⟨nd, rfl⟩⟩; (try first | exact ⟨rfl, _, World.drewN_drewN _ _ _⟩ | exact ⟨rfl, _, Eq.trans (World.drewN_drewN _ _ _) (congrArg (World.drewN _) (Nat.add_assoc _ _ _))⟩))))
  go_ret
  exact ⟨by first | rfl | (simp [errW_none, errW_some] <;> rfl) | (simp [*, errW_none, errW_some] <;> rfl), by repeat (first | (with_reducible first | exact HB.out | apply below_alloc | apply pw_below_drewN | apply below_drew1 | refine below_set ?_ GE193.out) | exact HB.out)⟩


/-! ### text_Width: function 23 -/


/-! ### r18_letters: function 59 -/
/-! ### r18_in: function 51 -/


/-! ### r18_holds: function 125 -/


end Go.Proofs.YtogidacejbjljaaGreatDoor.PTextChecks
end
section
-- by the kit's print program, over a listing in which some functions are constants; their contracts are proved in other texts
namespace Go.Proofs.YtogidacejbjljaaGreatDoor.PTextChecks
open Go.RowKit Go.Proofs.YtogidacejbjljaaGreatDoorW.PrintWords Go.Proofs.YtogidacejbjljaaGreatDoorW.PrintLast Go.Proofs.YtogidacejbjljaaGreatDoorW.PrintMore
set_option linter.unusedVariables false
set_option linter.unusedSimpArgs false
attribute [local go_sem high] eqA40 eqA42
/-! ### r18_wide: function 98 -/
/-! ### r18_length: function 61 -/


/-! ### r18_Width: function 24 -/


/-! ### r18_Lines: function 28 -/


/-! ### r18_isText: function 67 -/


/-! ### r18_Plain: function 34 -/


end Go.Proofs.YtogidacejbjljaaGreatDoor.PTextChecks
end
section
/- The text laws' plain side: what the functions compute, in lists and numbers; the printed functions compute it. -/
set_option linter.unusedVariables false
set_option linter.unusedSimpArgs false
namespace Go.Proofs.YtogidacejbjljaaGreatDoor.PTextChecks
open Go.RowKit Go.Proofs.YtogidacejbjljaaGreatDoorW.PrintWords Go.Proofs.YtogidacejbjljaaGreatDoorW.PrintLast Go.Proofs.YtogidacejbjljaaGreatDoorW.PrintMore

/-! ### words of this side -/
def bs (s : ByteArray) : List UInt8 := s.data.toList
theorem bs_length (s : ByteArray) : (bs s).length = s.size := Array.length_toList
def byteAt (s : ByteArray) (i : Nat) (h : i < s.size) : UInt8 := (bs s)[i]'(by rw [bs_length]; exact h)
theorem drop_bs (s : ByteArray) (i : Nat) (h : i < s.size) : (bs s).drop i = byteAt s i h :: (bs s).drop (i + 1) :=
 List.drop_eq_getElem_cons _
theorem wsucc {i n : Nat} (h : i < n) (hn : n ≤ 4611686018427387904) : wrap64 ((i : Int) + 1) = ((i + 1 : Nat) : Int) := by unfold wrap64; omega
theorem bs_append (a b : ByteArray) : bs (a ++ b) = bs a ++ bs b := by simp [bs, ByteArray.data_append]

def inB (a lo hi : Int) : Bool := decide (lo ≤ a) && decide (a ≤ hi)
theorem within_run (a lo hi : Int) : text_within.f a lo hi = some (inB a lo hi) := by
 unfold text_within.f inB
 by_cases h : a ≥ lo
 ·rw [if_pos h]; simp [show lo ≤ a from h]
 ·rw [if_neg h]; simp [show ¬ lo ≤ a from h]
def eqS (a b : S40) : Bool := (a.f0 == b.f0 && (a.f1 == b.f1 && (a.f2 == b.f2 && (a.f3 == b.f3 && (a.f4 == b.f4)))))
theorem eqS_iff (a b : S40) : eqS a b = true ↔ a = b := by
 cases a; cases b
 simp only [eqS, Bool.and_eq_true, beq_iff_eq, S40.mk.injEq]
theorem eqS_comm (a b : S40) : eqS a b = eqS b a := by
 rw [Bool.eq_iff_iff, eqS_iff, eqS_iff]; exact eq_comm
def headB (a b c : Int) : Bool := inB a 0 7 && (inB b 1 9 && inB c 0 100)
def styB (s : S40) : Bool := inB s.f3 1 8 && inB s.f4 0 15
theorem headed_run (a b c : Int) (l : List S42) : text_headed.f a b c l = some (headB a b c) := by
 unfold text_headed.f headB
 rw [within_run, within_run, within_run]
 cases inB a 0 7 <;> cases inB b 1 9 <;> cases inB c 0 100 <;> rfl
theorem styled_run (s : S40) : text_styled.f s.f0 s.f1 s.f2 s.f3 s.f4 = some (styB s) := by
 unfold text_styled.f styB
 rw [within_run, within_run]
 cases inB s.f3 1 8 <;> cases inB s.f4 0 15 <;> rfl

/-! ### the words, the lines -/
def wordsOf (l : List S42) : ByteArray := l.foldl (fun s p => s ++ p.f0) ⟨#[]⟩
def wordsLen (l : List S42) : Nat := (l.map fun p => p.f0.size).sum
theorem foldl_size (l : List S42) (s : ByteArray) : (l.foldl (fun s p => s ++ p.f0) s).size = s.size + wordsLen l := by
 induction l generalizing s with
 | nil => simp [wordsLen]
 | cons p l ih => rw [List.foldl_cons, ih, ByteArray.size_append]; simp [wordsLen, Nat.add_assoc]
theorem wordsOf_size (l : List S42) : (wordsOf l).size = wordsLen l := by rw [wordsOf, foldl_size]; simp [ByteArray.size]
theorem wordsLen_mem {l : List S42} {p : S42} (h : p ∈ l) : p.f0.size ≤ wordsLen l := by
 induction l with
 | nil => simp at h
 | cons q l ih =>
  have e : wordsLen (q :: l) = q.f0.size + wordsLen l := by simp [wordsLen]
  rw [e]
  rcases List.mem_cons.1 h with rfl | h
  ·omega
  ·have := ih h; omega
theorem wordsLen_take (l : List S42) (n : Nat) : wordsLen (l.take n) ≤ wordsLen l := by
 induction l generalizing n with
 | nil => simp [wordsLen]
 | cons q l ih =>
  cases n with
  | zero => simp [wordsLen]
  | succ n => have := ih n; simp [wordsLen] at *; omega
theorem rd42_drop (l : List S42) (i : Nat) (h : i < l.length) : l.drop i = rd_T42 l (i : Int) :: l.drop (i + 1) := by
 rw [List.drop_eq_getElem_cons h]
 congr 1
 simp [rd_T42, List.getElem?_eq_getElem h]
theorem words_loop {l : List S42} (hl : l.length ≤ 140737488351232) (a b c : Int) :
  ∀ (d i k : Nat) (s : ByteArray), i + d = l.length → s.size + wordsLen (l.drop i) ≤ 9223372036854775807 → d < k → r18_Words.l0 k s (i : Int) a b c l = some ((l.drop i).foldl (fun s p => s ++ p.f0) s) := by
 intro d
 induction d with
 | zero =>
  intro i k s hi hs hk
  obtain ⟨k, rfl⟩ : ∃ m, k = m + 1 := ⟨k - 1, by omega⟩
  unfold r18_Words.l0
  rw [if_neg (by omega), List.drop_of_length_le (by omega)]
  rfl
 | succ d ih =>
  intro i k s hi hs hk
  obtain ⟨k, rfl⟩ : ∃ m, k = m + 1 := ⟨k - 1, by omega⟩
  have hlt : i < l.length := by omega
  rw [rd42_drop l i hlt] at hs ⊢
  have e : wordsLen (rd_T42 l (i : Int) :: l.drop (i + 1)) = (rd_T42 l (i : Int)).f0.size + wordsLen (l.drop (i + 1)) := by simp [wordsLen]
  rw [e] at hs
  unfold r18_Words.l0
  rw [if_pos (by omega), if_pos (by omega), if_pos (by omega), wsucc hlt (by omega), ih (i + 1) k _ (by omega) (by rw [ByteArray.size_append]; omega) (by omega)]
  rfl
theorem rWords_big {l : List S42} (hl : l.length ≤ 140737488351232) (hw : wordsLen l ≤ 9223372036854775807) (a b c : Int) (k : Nat) (hk : l.length < k) : r18_Words.f k a b c l = some (wordsOf l) :=
 words_loop hl a b c l.length 0 k ⟨#[]⟩ (by omega) (by simpa [ByteArray.size] using hw) hk
theorem rWords_run {l : List S42} (hl : l.length ≤ 140737488351232) (hw : wordsLen l ≤ 1000000) (a b c : Int) (k : Nat) (hk : l.length < k) : r18_Words.f k a b c l = some (wordsOf l) := by
 exact rWords_big hl (by omega) a b c k hk
def nlf (l : List UInt8) : Nat := (l.filter fun c => c == 10).length
theorem nlf_le (l : List UInt8) : nlf l ≤ l.length := List.length_filter_le _ _

/-! ### valid text -/
def okByte (n : Nat) : Bool := n == 10 || (decide (32 ≤ n) && decide (n ≤ 126))
def isTextB (s : ByteArray) : Bool := (bs s).all (fun b => okByte b.toNat) && decide (0 < s.size)

/-! ### the widths -/
def clsN (n : Nat) : Int := if n = 10 then 0 else if n = 105 ∨ n = 108 ∨ n = 46 ∨ n = 44 ∨ n = 39 ∨ n = 33 ∨ n = 124 ∨ n = 58 ∨ n = 32 then 1 else if (65 ≤ n ∧ n ≤ 90) ∨ n = 109 ∨ n = 119 ∨ n = 64 ∨ n = 35 then 3 else 2
theorem class_run : ∀ n : Fin 256, text_class.f (n.val : Int) = some (clsN n.val) := by decide +kernel
def wideS (n : Nat) (s : S40) : Int := if n = 10 then 0 else if s.f0 = true then wrap64 (wrap64 (s.f3 * clsN n) + 1) else wrap64 (s.f3 * clsN n)
theorem wide_run (n : Nat) (hn : n < 256) (s : S40) : text_wide.f (n : Int) s.f0 s.f1 s.f2 s.f3 s.f4 = some (wideS n s) := by
 unfold text_wide.f wideS
 rw [class_run ⟨n, hn⟩]
 simp only [Option.bind_some]
 by_cases h : n = 10
 ·subst h; simp [clsN, wrap64]
 ·have h' : ¬ (n : Int) = 10 := by omega
  rw [if_neg h, if_neg h']
  cases s.f0 <;> simp
def sumW (l : List S81) (z : Int) : Int := l.foldl (fun z x => wrap64 (z + wideS x.f0.toNat x.f1)) z
def Byt (l : List S81) : Prop := ∀ x ∈ l, 0 ≤ x.f0 ∧ x.f0 < 256
theorem rd81_drop (l : List S81) (i : Nat) (h : i < l.length) : l.drop i = rd_T81 l (i : Int) :: l.drop (i + 1) := by
 rw [List.drop_eq_getElem_cons h]
 congr 1
 simp [rd_T81, List.getElem?_eq_getElem h]
theorem rd81_mem (l : List S81) (i : Nat) (h : i < l.length) : rd_T81 l (i : Int) ∈ l := by
 rw [show rd_T81 l (i : Int) = l[i] from by simp [rd_T81, List.getElem?_eq_getElem h]]
 exact List.getElem_mem h
def lettersOf (l : List S42) : List S81 := l.flatMap fun p => (bs p.f0).map fun c => ⟨(c.toNat : Int), p.f1⟩
theorem lettersOf_length (l : List S42) : (lettersOf l).length = wordsLen l := by
 induction l with
 | nil => rfl
 | cons p l ih => simp only [lettersOf, List.flatMap_cons, List.length_append, List.length_map, bs_length, wordsLen, List.map_cons, List.sum_cons] at *; rw [ih]
def rowOf (p : S42) : List S81 := (bs p.f0).map fun c => ⟨(c.toNat : Int), p.f1⟩
end Go.Proofs.YtogidacejbjljaaGreatDoor.PTextChecks
end
section
/- Neighbours of one style joined: pieces and letters. -/
set_option linter.unusedVariables false
set_option linter.unusedSimpArgs false
namespace Go.Proofs.YtogidacejbjljaaGreatDoor.PTextChecks
open Go.RowKit Go.Proofs.YtogidacejbjljaaGreatDoorW.PrintWords Go.Proofs.YtogidacejbjljaaGreatDoorW.PrintLast Go.Proofs.YtogidacejbjljaaGreatDoorW.PrintMore
def lastP (out : List S42) : S42 := out.getD (out.length - 1) z42
def joinP (out : List S42) (p : S42) : List S42 :=
 if 0 < out.length then (if eqS (lastP out).f1 p.f1 = true then out.set (out.length - 1) ⟨(lastP out).f0 ++ p.f0, (lastP out).f1⟩ else out ++ [p]) else out ++ [p]
def joinS (l : List S42) : List S42 := l.foldl joinP []
def chP (x : S81) : S42 := ⟨⟨#[x.f0.toNat.toUInt8]⟩, x.f1⟩
def piecesS (ls : List S81) : List S42 := ls.foldl (fun out x => joinP out (chP x)) []

theorem lastP_set (out : List S42) (p : S42) (h : 0 < out.length) : lastP (out.set (out.length - 1) p) = p := by
 unfold lastP
 rw [List.length_set, List.getD_eq_getElem?_getD, List.getElem?_set_self (by omega)]
 rfl
theorem wl_append (a b : List S42) : wordsLen (a ++ b) = wordsLen a + wordsLen b := by simp [wordsLen]
theorem wl_set : ∀ (out : List S42) (i : Nat) (p : S42), i < out.length → wordsLen (out.set i p) + (out.getD i z42).f0.size = wordsLen out + p.f0.size
 | [], i, p, h => by simp at h
 | q :: l, 0, p, _ => by simp [wordsLen]; omega
 | q :: l, i + 1, p, h => by
  have := wl_set l i p (by simpa using h)
  simp [wordsLen] at this ⊢
  omega
theorem joinP_wl (out : List S42) (p : S42) : wordsLen (joinP out p) = wordsLen out + p.f0.size := by
 unfold joinP
 split
 ·rename_i h
  split
  ·have := wl_set out (out.length - 1) ⟨(lastP out).f0 ++ p.f0, (lastP out).f1⟩ (by omega)
   simp only [ByteArray.size_append] at this
   unfold lastP at this ⊢
   omega
  ·rw [wl_append]; simp [wordsLen]
 ·rw [wl_append]; simp [wordsLen]
theorem joinP_len (out : List S42) (p : S42) : (joinP out p).length ≤ out.length + 1 := by
 unfold joinP; split
 ·split <;> simp
 ·simp
theorem joined_loop {l : List S42} (hl : l.length ≤ 1000000) (hw : wordsLen l ≤ 1000000) :
  ∀ (d i k : Nat) (out : List S42), i + d = l.length → out.length ≤ i → wordsLen out + wordsLen (l.drop i) ≤ 1000000 → d < k → text_joined.l0 k out l (l.length : Int) (i : Int) = some ((l.drop i).foldl joinP out) := by
 intro d
 induction d with
 | zero =>
  intro i k out hi ho hs hk
  obtain ⟨k, rfl⟩ : ∃ m, k = m + 1 := ⟨k - 1, by omega⟩
  unfold text_joined.l0
  rw [if_neg (by omega), List.drop_of_length_le (by omega)]
  rfl
 | succ d ih =>
  intro i k out hi ho hs hk
  obtain ⟨k, rfl⟩ : ∃ m, k = m + 1 := ⟨k - 1, by omega⟩
  have hlt : i < l.length := by omega
  have hd := rd42_drop l i hlt
  rw [hd] at hs ⊢
  generalize hp : rd_T42 l (i : Int) = p at hs
  have e : wordsLen (p :: l.drop (i + 1)) = p.f0.size + wordsLen (l.drop (i + 1)) := by simp [wordsLen]
  rw [e] at hs
  have hn := ih (i + 1) k (joinP out p) (by omega) (by have := joinP_len out p; omega) (by rw [joinP_wl]; omega) (by omega)
  unfold text_joined.l0
  rw [if_pos (by omega), if_pos (by omega), if_pos (by omega), hp, wsucc hlt (by omega)]
  rw [List.foldl_cons, ← hn]
  by_cases h : 0 < out.length
  ·have hwr : wrap64 ((out.length : Int) - 1) = ((out.length - 1 : Nat) : Int) := by unfold wrap64; omega
   have hlast : rd_T42 out ((out.length - 1 : Nat) : Int) = lastP out := by simp [rd_T42, lastP]
   rw [if_pos (by omega), hwr, if_pos (by omega), if_pos (by omega), hlast]
   have hsz : (lastP out).f0.size ≤ wordsLen out := by
    unfold lastP; rw [List.getD_eq_getElem?_getD, List.getElem?_eq_getElem (by omega)]
    exact wordsLen_mem (List.getElem_mem _)
   by_cases he : eqS (lastP out).f1 p.f1 = true
   ·rw [if_pos (by unfold eqS at he; exact he), if_pos (by omega)]
    simp only [joinP, if_pos h, if_pos he, Int.toNat_natCast]
   ·rw [if_neg (by unfold eqS at he; exact he), if_pos (by omega)]
    simp only [joinP, if_pos h, if_neg he]
  ·rw [if_neg (by omega), if_pos (by omega)]
   simp only [joinP, if_neg h]
theorem joined_run {l : List S42} (hl : l.length ≤ 1000000) (hw : wordsLen l ≤ 1000000) (k : Nat) (hk : l.length < k) : text_joined.f k l = some (joinS l) := by
 have := joined_loop hl hw l.length 0 k [] (by omega) (by simp) (by simpa [wordsLen] using hw) hk
 exact this
end Go.Proofs.YtogidacejbjljaaGreatDoor.PTextChecks
end
section
/- The plain side of breaking: letters into lines of a width. -/
set_option linter.unusedVariables false
set_option linter.unusedSimpArgs false
namespace Go.Proofs.YtogidacejbjljaaGreatDoor.PTextChecks
open Go.RowKit Go.Proofs.YtogidacejbjljaaGreatDoorW.PrintWords Go.Proofs.YtogidacejbjljaaGreatDoorW.PrintLast Go.Proofs.YtogidacejbjljaaGreatDoorW.PrintMore
def wd (x : S81) : Int := wideS x.f0.toNat x.f1
def takeF (room : Int) : List S81 → Int → Nat → Nat → Nat
 | [], _, i, _ => i
 | x :: r, sum, i, blank =>
  if decide (room < wrap64 (sum + wd x)) && decide (0 < i) then (if 0 < blank then blank else i)
  else takeF room r (wrap64 (sum + wd x)) (i + 1) (if x.f0 = 32 then i + 1 else blank)
def takenS (l : List S81) (room : Int) : Nat := takeF room l 0 0 0
theorem takeF_le (room : Int) : ∀ (l : List S81) (sum : Int) (i blank : Nat), blank ≤ i → takeF room l sum i blank ≤ i + l.length
 | [], _, i, _, _ => Nat.le_refl _
 | x :: r, sum, i, blank, hb => by
  unfold takeF
  split
  ·split <;> simp only [List.length_cons] <;> omega
  ·have := takeF_le room r (wrap64 (sum + wd x)) (i + 1) (if x.f0 = 32 then i + 1 else blank) (by split <;> omega)
   simp only [List.length_cons]
   omega
theorem takeF_pos (room : Int) : ∀ (l : List S81) (sum : Int) (i blank : Nat), 0 < i + l.length → 0 < takeF room l sum i blank
 | [], _, i, _, h => by simpa [takeF] using h
 | x :: r, sum, i, blank, h => by
  unfold takeF
  split
  ·rename_i hc
   rw [Bool.and_eq_true, decide_eq_true_iff, decide_eq_true_iff] at hc
   split <;> omega
  ·exact takeF_pos room r _ _ _ (by omega)
theorem takenS_le (l : List S81) (room : Int) : takenS l room ≤ l.length := by
 have := takeF_le room l 0 0 0 (Nat.le_refl _)
 simpa [takenS] using this
theorem takenS_pos {l : List S81} (h : l ≠ []) (room : Int) : 0 < takenS l room :=
 takeF_pos room l 0 0 0 (by have := List.length_pos_iff.2 h; omega)
theorem takenS_nil (room : Int) : takenS [] room = 0 := rfl
def brkF (room : Int) : Nat → List S81 → List (List S81)
 | 0, _ => []
 | k + 1, l => if l.isEmpty then [] else l.take (takenS l room) :: brkF room k (l.drop (takenS l room))
theorem brkF_eq (room : Int) : ∀ (k m : Nat) (l : List S81), l.length ≤ k → l.length ≤ m → brkF room k l = brkF room m l
 | 0, m, l, hk, hm => by
  obtain rfl : l = [] := List.eq_nil_of_length_eq_zero (by omega)
  cases m <;> rfl
 | k + 1, 0, l, hk, hm => by
  obtain rfl : l = [] := List.eq_nil_of_length_eq_zero (by omega)
  rfl
 | k + 1, m + 1, l, hk, hm => by
  unfold brkF
  cases l with
  | nil => rfl
  | cons x r =>
   have := takenS_pos (l := x :: r) (by simp) room
   have hlen : ((x :: r).drop (takenS (x :: r) room)).length ≤ r.length := by rw [List.length_drop]; simp only [List.length_cons]; omega
   simp only [List.length_cons] at hk hm
   rw [brkF_eq room k m _ (by omega) (by omega)]
def brk (room : Int) (l : List S81) : List (List S81) := brkF room l.length l
theorem brk_nil (room : Int) : brk room [] = [] := rfl
theorem brk_cons {l : List S81} (h : l ≠ []) (room : Int) : brk room l = l.take (takenS l room) :: brk room (l.drop (takenS l room)) := by
 unfold brk
 have hp := takenS_pos h room
 have hl := List.length_pos_iff.2 h
 obtain ⟨n, hn⟩ : ∃ n, l.length = n + 1 := ⟨l.length - 1, by omega⟩
 rw [hn]
 conv => lhs; unfold brkF
 rw [if_neg (by simp [h])]
 congr 1
 exact brkF_eq room _ _ _ (by rw [List.length_drop]; omega) (Nat.le_refl _)
def topS (l : List S81) : Int := l.foldl (fun m x => max m x.f1.f3) 0
def heightS (l : List S81) : Int := 4 * topS l
/-- The lines of one stretch between line feeds; sz is the size of an empty one. -/
def flushS (room : Int) (l : List S81) (sz : Int) : List (List S81 × Int) := if l.isEmpty then [([], 4 * sz)] else (brk room l).map fun r => (r, heightS r)
def segsF : List S81 → List S81 → Int → List (List S81 × Int)
 | [], cur, sz => [(cur, sz)]
 | x :: r, cur, _ => if x.f0 = 10 then (cur, x.f1.f3) :: segsF r [] x.f1.f3 else segsF r (cur ++ [x]) x.f1.f3
def restS (room : Int) (l cur : List S81) (sz : Int) : List (List S81 × Int) := (segsF l cur sz).flatMap fun s => flushS room s.1 s.2
def linesS (room : Int) (l : List S81) : List (List S81 × Int) := restS room l [] 2
theorem restS_nil (room : Int) (cur : List S81) (sz : Int) : restS room [] cur sz = flushS room cur sz := by simp [restS, segsF]
theorem restS_nl (room : Int) (x : S81) (r cur : List S81) (sz : Int) (h : x.f0 = 10) : restS room (x :: r) cur sz = flushS room cur x.f1.f3 ++ restS room r [] x.f1.f3 := by simp [restS, segsF, h]
theorem restS_no (room : Int) (x : S81) (r cur : List S81) (sz : Int) (h : x.f0 ≠ 10) : restS room (x :: r) cur sz = restS room r (cur ++ [x]) x.f1.f3 := by simp [restS, segsF, h]
theorem restS_sz (room : Int) (l cur : List S81) (sz sz' : Int) (h : l ≠ []) : restS room l cur sz = restS room l cur sz' := by
 cases l with
 | nil => exact absurd rfl h
 | cons x r => rfl
theorem lettersOf_cons (p : S42) (l : List S42) : lettersOf (p :: l) = rowOf p ++ lettersOf l := rfl
theorem rowOf_drop (p : S42) (j : Nat) (h : j < p.f0.size) : (rowOf p).drop j = ⟨((byteAt p.f0 j h).toNat : Int), p.f1⟩ :: (rowOf p).drop (j + 1) := by
 unfold rowOf
 rw [← List.map_drop, drop_bs p.f0 j h, List.map_cons, List.map_drop]
theorem rowOf_length (p : S42) : (rowOf p).length = p.f0.size := by simp [rowOf, bs_length]
theorem pieces_map (l : List S81) : piecesS l = joinS (l.map chP) := by
 unfold piecesS joinS
 rw [List.foldl_map]
/-- How many lines there may be. -/
theorem brkF_len (room : Int) : ∀ (k : Nat) (l : List S81), (brkF room k l).length ≤ k
 | 0, _ => Nat.le_refl _
 | k + 1, l => by
  unfold brkF
  split
  ·exact Nat.zero_le _
  ·have := brkF_len room k (l.drop (takenS l room)); simp only [List.length_cons]; omega
theorem brk_len (room : Int) (l : List S81) : (brk room l).length ≤ l.length := brkF_len room _ _
theorem flushS_len (room : Int) (l : List S81) (sz : Int) : (flushS room l sz).length ≤ l.length + 1 := by
 unfold flushS
 split
 ·simp
 ·rw [List.length_map]; have := brk_len room l; omega
theorem restS_len (room : Int) : ∀ (l cur : List S81) (sz : Int), (restS room l cur sz).length ≤ cur.length + 2 * l.length + 1
 | [], cur, sz => by rw [restS_nil]; have := flushS_len room cur sz; simp only [List.length_nil]; omega
 | x :: r, cur, sz => by
  by_cases h : x.f0 = 10
  ·rw [restS_nl room x r cur sz h, List.length_append]
   have h1 := flushS_len room cur x.f1.f3
   have h2 := restS_len room r [] x.f1.f3
   simp only [List.length_cons, List.length_nil] at h2 ⊢
   omega
  ·rw [restS_no room x r cur sz h]
   have h2 := restS_len room r (cur ++ [x]) x.f1.f3
   simp only [List.length_append, List.length_cons, List.length_nil] at h2 ⊢
   omega
theorem linesS_len (room : Int) (l : List S81) : (linesS room l).length ≤ 2 * l.length + 1 := by
 have := restS_len room l [] 2
 simp only [List.length_nil] at this
 unfold linesS
 omega
end Go.Proofs.YtogidacejbjljaaGreatDoor.PTextChecks
end
section
/- The reference's Check: what it computes (checkS). -/
set_option linter.unusedVariables false
set_option linter.unusedSimpArgs false
namespace Go.Proofs.YtogidacejbjljaaGreatDoor.PTextChecks
open Go.RowKit Go.Proofs.YtogidacejbjljaaGreatDoorW.PrintWords Go.Proofs.YtogidacejbjljaaGreatDoorW.PrintLast Go.Proofs.YtogidacejbjljaaGreatDoorW.PrintMore
def chk : Option S40 → List S42 → Int
 | _, [] => 0
 | prev, p :: l => bif !isTextB p.f0 then 4 else bif !(inB p.f1.f3 1 8) || !(inB p.f1.f4 0 15) || (match prev with | some q => eqS q p.f1 | none => false) then 180 else chk (some p.f1) l
def checkS (a b c : Int) (l : List S42) : Int :=
 bif !(headB a b c) then 1 else bif decide (100 < l.length) || (decide (2000 < wordsLen l) || decide (20 < nlf (bs (wordsOf l)) + 1)) then 2 else chk none l
theorem bdrewN {B : Nat} {w w' : World} (h : Below B w w') (n : Nat) : Below B w (w'.drewN n) := by
 induction n with
 | zero => exact h
 | succ n ih => exact ih.drew
attribute [local go_sem high] eqA40
/-- What a cue's pieces must be for these functions: not too many, not too long. -/
def Fit (l : List S42) : Prop := l.length ≤ 140737488351232 ∧ wordsLen l ≤ 1000000
theorem rWords_calls (a b c : Int) (A : Option Addr) (cap : Nat) (l : List S42) (w : World) (hr : Kd.C k42 w A l.length l) (hc : l.length ≤ cap) (hf : Fit l) :
  Calls Tryz.prog 30 #[.agg #[.int .i64 a, .int .i64 b, .int .i64 c, .slice A l.length cap]] w fun e w' => e = .returned (.string (wordsOf l)) ∧ Below w.heap.size w w' :=
 r18_Words.calls (l.length + 1) a b c A cap l _ w hr hc (rWords_run hf.1 hf.2 a b c _ (by omega))
def prevOf (l : List S42) (n : Nat) : Option S40 := if n = 0 then none else some (l.getD (n - 1) z42).f1
def ChkRel (l : List S42) (w2 : World) (n : Nat) (wr : World) : Prop := Below w2.heap.size w2 wr ∧ chk (prevOf l n) (l.drop n) = chk none l
theorem ret_int {k : IntKind} {a b : Int} (h : a = b) : Ending.returned (.int k a) = .returned (.int k b) := by rw [h]
theorem chk_4 {l : List S42} {n : Nat} {p : S42} {r : List S42} (h : Hid (chk (prevOf l n) (l.drop n) = chk none l)) (hd : Hid (l.drop n = p :: r)) (hT : isTextB p.f0 = false) : 4 = chk none l := by
 rw [← h.out, hd.out]; simp [chk, hT]
theorem chk_st {l : List S42} {n : Nat} {p : S42} {r : List S42} (h : Hid (chk (prevOf l n) (l.drop n) = chk none l)) (hd : Hid (l.drop n = p :: r)) (hT : isTextB p.f0 = true)
  (hs : inB p.f1.f3 1 8 = false ∨ inB p.f1.f4 0 15 = false) : 180 = chk none l := by
 rw [← h.out, hd.out]; rcases hs with hs | hs <;> simp [chk, hT, hs]
theorem chk_eq {l : List S42} {n : Nat} {p v : S42} {r : List S42} (h : Hid (chk (prevOf l n) (l.drop n) = chk none l)) (hd : Hid (l.drop n = p :: r)) (hT : isTextB p.f0 = true)
  (h0 : 0 < n) (hv : Hid (rd_T42 l ((n - 1 : Nat) : Int) = v)) (hs : eqS p.f1 v.f1 = true) : 180 = chk none l := by
 have hv := hv.out
 simp only [rd_T42, Int.toNat_natCast, List.getD_eq_getElem?_getD] at hv
 rw [← h.out, hd.out]
 simp [chk, hT, prevOf, show n ≠ 0 from by omega, hv, eqS_comm v.f1 p.f1, hs]
theorem chk_next {l : List S42} {n : Nat} {p : S42} {r : List S42} (h : Hid (chk (prevOf l n) (l.drop n) = chk none l)) (hd : Hid (l.drop n = p :: l.drop (n + 1))) (hp : Hid (l.getD n z42 = p)) (hT : isTextB p.f0 = true)
  (e1 : inB p.f1.f3 1 8 = true) (e2 : inB p.f1.f4 0 15 = true) (hs : (match prevOf l n with | some q => eqS q p.f1 | none => false) = false) : chk (prevOf l (n + 1)) (l.drop (n + 1)) = chk none l := by
 rw [← h.out, hd.out]
 conv => rhs; unfold chk
 rw [hs]
 have hp := hp.out
 rw [List.getD_eq_getElem?_getD] at hp
 simp [hT, e1, e2, prevOf, hp]

end Go.Proofs.YtogidacejbjljaaGreatDoor.PTextChecks
end
section
/- strings.Builder at the text seat: copyCheck, after the shelf's proof. -/
set_option linter.unusedVariables false
namespace Go.Proofs.YtogidacejbjljaaGreatDoor
open Go.RowKit

theorem sizeBuilder : (Tryz.prog.info? 96).map (fun i => i.size) = some 2 := by kernel_rfl

set_option maxHeartbeats 1000000 in
set_option maxRecDepth 100000 in
theorem copyCheck_used (b : Nat) (w : World) (h0 : w.cell? ⟨b, 0, none⟩ = some (.pointer (some ⟨b, 0, none⟩))) :
  Calls Tryz.prog 103 #[.pointer (some ⟨b, 0, none⟩)] w fun e w' => e = .returned (.tuple #[]) ∧ w' = w := by
 obtain ⟨j, hj, _⟩ := Option.map_eq_some_iff.1 sizeBuilder
 go_enter Tryz.func103, Tryz.ntmps103
 go_wp2
 rw [Lib.run_neq_ptr_same w _ Tryz.underlying93 hj]
 go_wp2
 go_end0
 exact ⟨rfl, rfl⟩

set_option maxHeartbeats 1000000 in
set_option maxRecDepth 100000 in
theorem copyCheck_fresh (b : Nat) (w : World) (h0 : w.cell? ⟨b, 0, none⟩ = some (.pointer none)) (hsh : w.shape? b = some (96, 2)) (hfz : w.frozen? ⟨b, 0, none⟩ = false) :
  Calls Tryz.prog 103 #[.pointer (some ⟨b, 0, none⟩)] w fun e w' => e = .returned (.tuple #[]) ∧ w' = w.setCell ⟨b, 0, none⟩ (.pointer (some ⟨b, 0, none⟩)) := by
 obtain ⟨j, hj, hjs⟩ := Option.map_eq_some_iff.1 sizeBuilder
 go_enter Tryz.func103, Tryz.ntmps103
 go_wp2
 rw [Lib.run_to_unsafe w ⟨b, 0, none⟩ Tryz.underlying93 Tryz.underlying187 hj (by rw [hjs]; decide) hsh (Nat.zero_lt_succ 1)]
 simp only [Result.andThen]
 rw [Oper.upon_value]
 go_wp2
 rw [run_callFunc_extern Tryz.func128 (by kernel_rfl) (by kernel_rfl) (by kernel_rfl) (e := Extern.AbiNoEscape.same) (by kernel_rfl)]
 rw [Lib.run_noEscape]
 simp only [Result.andThen]
 rw [Oper.upon_value]
 go_wp2
 rw [Lib.run_from_unsafe w ⟨b, 0, none⟩ Tryz.underlying187 Tryz.underlying93 hj hsh (by kernel_rfl)]
 simp only [Result.andThen]
 rw [Oper.upon_value]
 go_wp2
 go_end0
 exact ⟨rfl, rfl⟩

theorem copyCheck_calls (B b : Nat) (bs : List Value) (w : World) (h : Lib.IsBuilder 96 5 B b bs w) :
  Calls Tryz.prog 103 #[.pointer (some ⟨b, 0, none⟩)] w fun e w' => e = .returned (.tuple #[]) ∧ (Lib.BuilderAt 96 5 B b (.pointer (some ⟨b, 0, none⟩)) bs w' ∧ Below B w w') := by
 rcases h with h | h
 ·refine (copyCheck_fresh b w h.cell0 h.shape h.frozen0).mono ?_
  rintro e w' ⟨rfl, rfl⟩
  exact ⟨rfl, h.used _, (Below.refl B w).setCell (p := ⟨b, 0, none⟩) h.1 _⟩
 ·refine (copyCheck_used b w h.cell0).mono ?_
  rintro e w' ⟨rfl, rfl⟩
  exact ⟨rfl, h, Below.refl B _⟩

theorem infoByte : (Tryz.prog.info? 5).map (fun i => (i.zero, i.size, i.bytes)) = some (some (.int .u8 0), 1, 1) := by kernel_rfl
set_option maxHeartbeats 1000000 in
set_option maxRecDepth 100000 in
theorem writeString_calls (B b : Nat) (bs : List Value) (s : ByteArray) (w : World) (h : Lib.IsBuilder 96 5 B b bs w) (hlen : bs.length + s.size ≤ 140737488355328) (hBw : B ≤ w.heap.size) :
  Calls Tryz.prog 69 #[.pointer (some ⟨b, 0, none⟩), .string s] w fun e w' => e = .returned (.tuple #[.int .i64 s.size, .nilIface]) ∧ (Lib.BuilderAt 96 5 B b (.pointer (some ⟨b, 0, none⟩)) (bs ++ Lib.strCells s) w' ∧ Below B w w') := by
 obtain ⟨i0, hi, hii⟩ := Option.map_eq_some_iff.1 infoByte
 simp only [Prod.mk.injEq] at hii
 obtain ⟨hz0, hz1, hz2⟩ := hii
 go_enter Tryz.func69, Tryz.ntmps69
 go_wp2_with (go_at_call 103; refine (copyCheck_calls B b bs _ h).mono ?_)
 rintro e w1 ⟨rfl, h1, hb1⟩
 obtain ⟨hB, v, hbk, hown, hne⟩ := h1
 have c0 : w1.cell? ⟨b, 0, none⟩ = some (.pointer (some ⟨b, 0, none⟩)) := by rw [Lib.cell_of_heap hbk]; rfl
 have c1 : w1.cell? ⟨b, 1, none⟩ = some v := by rw [Lib.cell_of_heap hbk]; rfl
 go_wp2_with (at_builtin; refine Lib.wpList_append_own_string _ rfl _ _ 94 9 rfl B 5 i0 Tryz.underlying94 Tryz.underlying9 hi hz0 hz1 hz2 _ _ _ rfl hown s rfl ?c3 ?c4 ?c5 ?_)
 case c3 => unfold maxLen; omega
 case c4 => omega
 case c5 => have := hb1.size; omega
 intro v' w2 hown' hgrow _
 have hlt : b < w1.heap.size := by
  rcases Nat.lt_or_ge b w1.heap.size with h' | h'
  ·exact h'
  ·simp [Array.getElem?_eq_none h'] at hbk
 have hb2 : w2.heap[b]? = some (.cells #[.pointer (some ⟨b, 0, none⟩), v] 96 (0, 0)) := by
  rw [hgrow.block b hlt (fun e => hne e.symm)]
  exact hbk
 have d0 : w2.cell? ⟨b, 0, none⟩ = some (.pointer (some ⟨b, 0, none⟩)) := by rw [Lib.cell_of_heap hb2]; rfl
 have d1 : w2.cell? ⟨b, 1, none⟩ = some v := by rw [Lib.cell_of_heap hb2]; rfl
 have f1 : w2.frozen? ⟨b, 1, none⟩ = false := Lib.frozen_of_heap hb2 1
 obtain ⟨ao, n', cap, rfl⟩ : ∃ ao n' cap, v' = .slice ao n' cap := by
  rcases hown'.2 with ⟨hv, _⟩ | ⟨g, cap, cur, hv, _⟩
  ·exact ⟨_, _, _, hv⟩
  ·exact ⟨_, _, _, hv⟩
 go_wp2
 go_ret2
 refine ⟨rfl, ?_, ?_⟩
 ·exact Lib.BuilderAt.put (T := 96) (e := 5) hB hb2 (bs' := bs ++ Lib.strCells s) (by simpa [Lib.strCells_length] using hown') (by decide)
 ·exact (hb1.grown hgrow (by have := hb1.size; omega) (fun k hk => (hown.lt k hk).1)).setCell (p := ⟨b, 1, none⟩) hB _
end Go.Proofs.YtogidacejbjljaaGreatDoor
end
section
/- The program's Words and Lines: what they compute. -/
set_option linter.unusedVariables false
set_option linter.unusedSimpArgs false
namespace Go.Proofs.YtogidacejbjljaaGreatDoor.PTextChecks
open Go.RowKit Go.Proofs.YtogidacejbjljaaGreatDoorW.PrintWords Go.Proofs.YtogidacejbjljaaGreatDoorW.PrintLast Go.Proofs.YtogidacejbjljaaGreatDoorW.PrintMore
theorem BuilderAt_alloc {T e : TypeId} {B b : Nat} {p : Value} {bs : List Value} {w : World} (h : Lib.BuilderAt T e B b p bs w) (o : Obj) : Lib.BuilderAt T e B b p bs (w.alloc o) := by
 have hlt := h.lt
 obtain ⟨hB, v, hb, hown, hne⟩ := h
 exact ⟨hB, v, by simp only [World.alloc, Array.getElem?_push, if_neg (Nat.ne_of_lt hlt)]; exact hb, hown.alloc _, hne⟩
theorem IsBuilder_alloc {T e : TypeId} {B b : Nat} {bs : List Value} {w : World} (h : Lib.IsBuilder T e B b bs w) (o : Obj) : Lib.IsBuilder T e B b bs (w.alloc o) :=
 h.elim (fun h => .inl (BuilderAt_alloc h o)) (fun h => .inr (BuilderAt_alloc h o))
def upto (l : List S42) (n : Nat) : List UInt8 := bs (wordsOf (l.take n))
theorem upto_succ (l : List S42) (n : Nat) (h : n < l.length) : upto l (n + 1) = upto l n ++ bs (rd_T42 l (n : Int)).f0 := by
 unfold upto
 rw [List.take_succ_eq_append_getElem h, wordsOf, List.foldl_append, List.foldl_cons, List.foldl_nil, bs_append, show rd_T42 l (n : Int) = l[n] from by simp [rd_T42, List.getElem?_eq_getElem h]]
 rfl
theorem upto_length (l : List S42) (n : Nat) : (upto l n).length ≤ wordsLen l := by
 unfold upto; rw [bs_length, wordsOf_size]; exact wordsLen_take l n
def WRel (l : List S42) (w : World) (n : Nat) (wr : World) : Prop := Lib.IsBuilder 96 5 (w.heap.size + 1) (w.heap.size + 1) (Lib.byteCells (upto l n)) wr ∧ Below w.heap.size w wr ∧ w.heap.size + 2 ≤ wr.heap.size
set_option maxHeartbeats 4000000 in
set_option maxRecDepth 100000 in
theorem tWords_calls (a b c : Int) (A : Option Addr) (cap : Nat) (l : List S42) (w : World) (hr : Kd.C k42 w A l.length l) (hc : l.length ≤ cap) (hf : Fit l) :
  Calls Tryz.prog 29 #[.agg #[.int .i64 a, .int .i64 b, .int .i64 c, .slice A l.length cap]] w fun e w' => e = .returned (.string (wordsOf l)) ∧ Below w.heap.size w w' := by
 have hl := hf.1
 go_enter Tryz.func29, Tryz.ntmps29
 go_wp2
 go_loopw [9] (fun i wr => ∃ n : Nat, n ≤ l.length ∧ i = .int .i64 n ∧ WRel l w n wr) (fun i wr => l.length - (intOf i).toNat)
 case atStart =>
  refine ⟨0, by omega, rfl, ?_, ((Below.refl _ w).alloc (Nat.le_refl _) _).alloc (by simp) _, by simp⟩
  have h := Lib.fresh_isBuilder 96 5 (w.alloc (.cells #[.int .i64 a, .int .i64 b, .int .i64 c, .slice A l.length cap] 25))
  simpa [upto, wordsOf, bs, Lib.byteCells] using h
 case round =>
  obtain ⟨n, hn, rfl, hI, hb, hz⟩ := hrel
  by_cases hlt : n < l.length
  ·have hr3 := Kd.C_below hr hb
   obtain ⟨ad, rfl, d0, d1, d2, d3, d4, d5⟩ := at_T42 hr3 (n : Int) (by omega) (by omega)
   have hup := upto_succ l n hlt
   have hl1 := upto_length l (n + 1)
   obtain ⟨p, hp⟩ : ∃ p, rd_T42 l (n : Int) = p := ⟨_, rfl⟩
   rw [hp] at d0 d1 d2 d3 d4 d5 hup
   simp only [Int.toNat_natCast] at d0 d1 d2 d3 d4 d5
   have hlen : (Lib.byteCells (upto l n)).length + p.f0.size ≤ 140737488355328 := by
    have := hf.2
    rw [Lib.byteCells_length]; rw [hup, List.length_append, bs_length] at hl1; omega
   have HUP := Lib.hid hup
   clear hup hl1 hp hr3
   have cS := fun o => writeString_calls (w.heap.size + 1) (w.heap.size + 1) (Lib.byteCells (upto l n)) p.f0 (wr.alloc o) (IsBuilder_alloc hI o) hlen (by simp; omega)
   have hbo : ∀ o, Below w.heap.size w (wr.alloc o) := fun o => hb.alloc (by omega) o
   clear hI hb
   go_wp2_with (go_at_call 69; refine (cS _).mono ?_; rintro e W ⟨rfl, hI2, hbW⟩)
   go_roundw
   case rel =>
    refine ⟨n + 1, by omega, by go_num, .inr ?_, (hbo _).trans (hbW.mono (by omega)), ?_⟩
    ·rw [HUP.out, Lib.byteCells_append]; exact hI2
    ·have := hbW.size; simp at this; omega
   case measure => simp [intOf]; omega
  ·have hnl : n = l.length := by omega
   have hw : (⟨(upto l n).toArray⟩ : ByteArray) = wordsOf l := by
    rw [hnl]; simp only [upto, List.take_length, bs]
   have HW := Lib.hid hw
   have cS := Tryz.Builder_String_any (w.heap.size + 1) (w.heap.size + 1) (upto l n) wr hI (by omega)
   clear hI hw hnl
   go_wp2_with (go_at_call 70; refine cS.mono ?_; rintro e W ⟨rfl, hbW⟩)
   go_ret
   exact ⟨by rw [HW.out]; rfl, hb.trans (hbW.mono (by omega))⟩
theorem countByte_nlf (l : List UInt8) : Lib.countByte l 10 = nlf l := by
 unfold Lib.countByte nlf List.count
 exact List.countP_eq_length_filter
set_option maxHeartbeats 4000000 in
theorem tLines_calls (a b c : Int) (A : Option Addr) (cap : Nat) (l : List S42) (w : World) (hr : Kd.C k42 w A l.length l) (hc : l.length ≤ cap) (hf : Fit l) :
  Calls Tryz.prog 27 #[.agg #[.int .i64 a, .int .i64 b, .int .i64 c, .slice A l.length cap]] w fun e w' => e = .returned (.int .i64 ((nlf (bs (wordsOf l)) : Int) + 1)) ∧ Below w.heap.size w w' := by
 have hn : nlf (bs (wordsOf l)) ≤ 1000000 := Nat.le_trans (nlf_le _) (by rw [bs_length, wordsOf_size]; exact hf.2)
 have hq : Lib.countByte (wordsOf l).data.toList 10 = nlf (bs (wordsOf l)) := countByte_nlf _
 obtain ⟨q, hqq⟩ : ∃ q : Nat, nlf (bs (wordsOf l)) = q := ⟨_, rfl⟩
 rw [hqq] at hn hq ⊢
 have cW := fun W (h : Kd.C k42 W A l.length l) => tWords_calls a b c A cap l W h hc hf
 have cC := fun W => Tryz.strings_Count_one (wordsOf l) 10 W
 rw [hq] at cC
 generalize wordsOf l = s at cW cC
 clear hq hqq
 go_enter Tryz.func27, Tryz.ntmps27
 go_wp2_with (first | (go_at_call 29; refine (cW _ ?s1).mono ?_; (case s1 => exact Kd.C_alloc hr _); rintro e W ⟨rfl, hbW⟩) | (go_at_call 68; refine (cC _).mono ?_; rintro e W2 ⟨rfl, rfl⟩))
 go_ret
 exact ⟨rfl, ((Below.refl _ w).alloc (Nat.le_refl _) _).trans (hbW.mono (by simp))⟩
end Go.Proofs.YtogidacejbjljaaGreatDoor.PTextChecks
end
section
/- strings.ContainsFunc at the closure of text.Check: whether a text has a rune that may not be. -/
set_option linter.unusedVariables false
set_option linter.unusedSimpArgs false
namespace Go.Proofs.YtogidacejbjljaaGreatDoor.PTextChecks
open Go.RowKit Go.Proofs.YtogidacejbjljaaGreatDoorW.PrintWords Go.Proofs.YtogidacejbjljaaGreatDoorW.PrintLast Go.Proofs.YtogidacejbjljaaGreatDoorW.PrintMore
def badRune (r : Nat) : Bool := !okByte r
theorem may_calls (r : Nat) (hr : r ≤ 1114111) (w : World) : Calls Tryz.prog 65 #[.int .i32 (r : Int)] w fun e w' => e = .returned (.bool (okByte r)) ∧ w = w' := by
 by_cases h0 : r = 10
 ·have e1 : ((r : Int) == 10) = true := by simp [h0]
  have H := Lib.hid h0; clear h0
  go_enter Tryz.func65, Tryz.ntmps65
  go_wp2
  go_ret
  exact ⟨by have := H.out; subst this; rfl, rfl⟩
 ·have e1 : ((r : Int) == 10) = false := beq_eq_false_iff_ne.2 (by omega)
  by_cases h1 : 32 ≤ r
  ·have e2 : decide ((32 : Int) ≤ (r : Int)) = true := decide_eq_true (by omega)
   have H := Lib.hid h0; have H1 := Lib.hid h1; clear h0 h1
   go_enter Tryz.func65, Tryz.ntmps65
   go_wp2
   go_ret
   exact ⟨by have h := H.out; have h1 := H1.out; have e3 : decide ((r : Int) ≤ 126) = decide (r ≤ 126) := by rw [Bool.eq_iff_iff]; simp; omega
             simp [okByte, h, h1, e3], rfl⟩
  ·have e2 : decide ((32 : Int) ≤ (r : Int)) = false := decide_eq_false (by omega)
   have H := Lib.hid h0; have H1 := Lib.hid h1; clear h0 h1
   go_enter Tryz.func65, Tryz.ntmps65
   go_wp2
   go_ret
   exact ⟨by have := H.out; have := H1.out; simp [okByte, *], rfl⟩
theorem clos64_calls (r : Nat) (hr : r ≤ 1114111) (w : World) : Calls Tryz.prog 64 #[.int .i32 (r : Int)] w fun e w' => e = .returned (.bool (badRune r)) ∧ w = w' := by
 have cM := fun W => may_calls r hr W
 cases hb : okByte r
 all_goals
  rw [hb] at cM
  go_enter Tryz.func64, Tryz.ntmps64
  go_wp2_with (go_at_call 65; refine (cM _).mono ?_; rintro e W ⟨rfl, rfl⟩)
  go_ret
  exact ⟨by simp [badRune, hb], rfl⟩
set_option maxHeartbeats 2000000 in
set_option maxRecDepth 1000000 in
theorem indexFunc_calls (s : ByteArray) (w : World) :
  Calls Tryz.prog 126 #[.string s, .func (.func 64) #[] #[], .bool true] w fun e w' => e = .returned (.int .i64 (Lib.idxFunc badRune true s)) ∧ Below w.heap.size w w' := by
 go_enter Tryz.func126, Tryz.ntmps126
 go_wp2
 go_loopg [] s.size (fun gf wx => ∃ pos : Nat, wx.heap[w.heap.size]? = some (.stringIter s pos) ∧ Below w.heap.size w wx ∧ Lib.idxFuncFrom badRune true s gf pos = Lib.idxFunc badRune true s ∧ s.size ≤ pos + gf)
 case atStart => exact ⟨0, World.iter_heap w s 0, (Below.refl _ w).alloc (Nat.le_refl _) _, rfl, by omega⟩
 case round =>
  obtain ⟨pos, hit, hbw, hleft, hfu⟩ := hrel
  by_cases hps : pos < s.size
  ·obtain ⟨g', rfl⟩ : ∃ g', gk = g' + 1 := ⟨gk - 1, by omega⟩
   have hnx : ∀ ty, (Instr.next (.pointer (some ⟨w.heap.size, 0, none⟩)) true ty).run Tryz.prog wr = _ := fun ty => Lib.run_next_any_at wr w.heap.size s pos ty hit hps
   have hwd := Lib.width_pos s pos
   obtain ⟨R, hR⟩ : ∃ R, (Utf8.decode s pos).1 = R := ⟨_, rfl⟩
   obtain ⟨K, hK⟩ : ∃ K, (Utf8.decode s pos).2 = K := ⟨_, rfl⟩
   simp only [Lib.idxFuncFrom, hps, if_true, hR, hK] at hleft
   rw [hR, hK] at hnx
   rw [hK] at hwd
   have hRle : R ≤ 1114111 := by rw [← hR]; exact Lib.rune_le s pos
   have hit2 := Lib.iterAt_heap wr w.heap.size s pos (pos + K) hit
   have hbw2 := Lib.below_iterAt hbw (k := w.heap.size) (Nat.le_refl _) s (pos + K)
   obtain ⟨W, hWd⟩ : ∃ W, wr.iterAt w.heap.size s (pos + K) = W := ⟨_, rfl⟩
   rw [hWd] at hnx hit2 hbw2
   have cS := clos64_calls R hRle W
   cases hsp : badRune R <;> rw [hsp] at cS <;> simp only [hsp, if_true, Bool.false_eq_true, if_false] at hleft
   ·go_wp2_with (go_at_call 64; refine cS.mono ?_; rintro e W' ⟨rfl, rfl⟩)
    go_roundg g'
    case measure => omega
    case rel => exact ⟨pos + K, hit2, hbw2, hleft, by omega⟩
   ·go_wp2_with (go_at_call 64; refine cS.mono ?_; rintro e W' ⟨rfl, rfl⟩)
    go_ret
    exact ⟨by rw [← hleft] <;> rfl, hbw2⟩
  ·have hnx : ∀ ty, (Instr.next (.pointer (some ⟨w.heap.size, 0, none⟩)) true ty).run Tryz.prog wr = _ := fun ty => Lib.run_next_end_at wr w.heap.size s pos ty hit hps
   rw [Lib.idxFuncFrom_end badRune true s gk pos hps] at hleft
   go_wp2
   go_ret
   exact ⟨by rw [← hleft] <;> rfl, hbw⟩
theorem IndexFunc_calls (s : ByteArray) (w : World) :
  Calls Tryz.prog 99 #[.string s, .func (.func 64) #[] #[]] w fun e w' => e = .returned (.int .i64 (Lib.idxFunc badRune true s)) ∧ Below w.heap.size w w' := by
 go_enter Tryz.func99, Tryz.ntmps99
 go_wp2_with (go_at_call 126; refine (indexFunc_calls _ _).mono ?_; rintro e W ⟨rfl, hb⟩)
 go_ret
 exact ⟨rfl, hb⟩
theorem ContainsFunc_calls (s : ByteArray) (w : World) :
  Calls Tryz.prog 63 #[.string s, .func (.func 64) #[] #[]] w fun e w' => e = .returned (.bool (decide (0 ≤ Lib.idxFunc badRune true s))) ∧ Below w.heap.size w w' := by
 go_enter Tryz.func63, Tryz.ntmps63
 go_wp2_with (go_at_call 99; refine (IndexFunc_calls _ _).mono ?_; rintro e W ⟨rfl, hb⟩)
 go_ret
 exact ⟨by simp, hb⟩
theorem badRune_high {r : Nat} (h : 128 ≤ r) : badRune r = true := by
 have : okByte r = false := by unfold okByte; rw [Bool.or_eq_false_iff, Bool.and_eq_false_iff]; exact ⟨beq_eq_false_iff_ne.2 (by omega), .inr (decide_eq_false (by omega))⟩
 unfold badRune; rw [this]; rfl
theorem idx_bad (s : ByteArray) : ∀ (f pos : Nat), s.size ≤ pos + f → decide (0 ≤ Lib.idxFuncFrom badRune true s f pos) = !((bs s).drop pos).all fun c => okByte c.toNat := by
 intro f
 induction f with
 | zero =>
  intro pos h
  rw [List.drop_of_length_le (by rw [bs_length]; omega)]
  rfl
 | succ f ih =>
  intro pos h
  by_cases hp : pos < s.size
  ·rw [drop_bs s pos hp]
   have hb : (s[pos]'hp) = byteAt s pos hp := rfl
   simp only [Lib.idxFuncFrom, if_pos hp, List.all_cons]
   by_cases ha : (byteAt s pos hp).toNat < 128
   ·rw [decode_ascii s pos hp (by rw [hb]; exact ha), hb]
    simp only
    cases hk : okByte (byteAt s pos hp).toNat
    ·rw [if_pos (by simp [badRune, hk])]; simp
    ·rw [if_neg (by simp [badRune, hk]), ih (pos + 1) (by omega)]; simp
   ·obtain ⟨h1, _⟩ := decode_high s pos hp (by rw [hb]; omega)
    rw [if_pos (badRune_high h1)]
    have : okByte (byteAt s pos hp).toNat = false := by have := badRune_high (r := (byteAt s pos hp).toNat) (by omega); simpa [badRune] using this
    simp [this]
  ·rw [Lib.idxFuncFrom_end _ _ _ _ _ hp, List.drop_of_length_le (by rw [bs_length]; omega)]
   rfl
theorem contains_bad (s : ByteArray) (w : World) :
  Calls Tryz.prog 63 #[.string s, .func (.func 64) #[] #[]] w fun e w' => e = .returned (.bool (!(bs s).all fun c => okByte c.toNat)) ∧ Below w.heap.size w w' := by
 have h := idx_bad s s.size 0 (by omega)
 rw [List.drop_zero] at h
 rw [← h]
 exact ContainsFunc_calls s w
end Go.Proofs.YtogidacejbjljaaGreatDoor.PTextChecks
end
section
/- The program's Check: it computes checkS too. -/
set_option linter.unusedVariables false
set_option linter.unusedSimpArgs false
namespace Go.Proofs.YtogidacejbjljaaGreatDoor.PTextChecks
open Go.RowKit Go.Proofs.YtogidacejbjljaaGreatDoorW.PrintWords Go.Proofs.YtogidacejbjljaaGreatDoorW.PrintLast Go.Proofs.YtogidacejbjljaaGreatDoorW.PrintMore
attribute [local go_sem high] eqA40
theorem headed_calls (a b c : Int) (A : Option Addr) (cap : Nat) (l : List S42) (w : World) (hr : Kd.C k42 w A l.length l) (hc : l.length ≤ cap) :
  Calls Tryz.prog 62 #[.agg #[.int .i64 a, .int .i64 b, .int .i64 c, .slice A l.length cap]] w fun e w' => e = .returned (.bool (headB a b c)) ∧ Below w.heap.size w w' :=
 text_headed.calls a b c A cap l _ w hr hc (headed_run a b c l)
theorem styled_calls (s : S40) (w : World) :
  Calls Tryz.prog 66 #[.agg #[.bool s.f0, .bool s.f1, .bool s.f2, .int .i64 s.f3, .int .i64 s.f4]] w fun e w' => e = .returned (.bool (styB s)) ∧ Below w.heap.size w w' :=
 text_styled.calls _ _ _ _ _ _ w (styled_run s)
theorem cell_later {W w1 : World} (hb : Below W.heap.size W w1) {a : Addr} {v : Value} (h : W.cell? a = some v) : w1.cell? a = some v := (hb.cell (World.block_lt_of_cell? W _ h)).trans h
/-- The worlds in which all that lay in W lies unturned. -/
def Ext (W : World) : Type := { w' : World // Below W.heap.size W w' }
instance (W : World) : Nonempty (Ext W) := ⟨⟨W, Below.refl _ W⟩⟩
def Ext.w {W : World} (x : Ext W) : World := x.1
theorem Ext.cell {W : World} (x : Ext W) {b o : Nat} {v : Value} (h : W.cell? ⟨b, o, none⟩ = some v) : x.w.cell? ⟨b, o, none⟩ = some v := by
 have hlt : b < W.heap.size := World.block_lt_of_cell? W _ h
 exact (x.2.cell (p := ⟨b, o, none⟩) hlt).trans h
theorem wp_region_ext {P : Program} {id : Nat} {Q : Exit → Act → World → Prop} {a : Act} {W : World} {l : List Oper} (hm : P.follows .mixedOrders = true) (hB : Region.lexB .any l.toArray = true)
  (h : wpQuiet P l.toArray (fun w' => ∃ x : Ext W, w' = x.w) (fun a' => ∀ w', (∃ x : Ext W, w' = x.w) → Q .normal a' w') l a) : (Code.region id l.toArray true).wp P Q a W :=
 wp_region_quiet (C := fun w' => ∃ x : Ext W, w' = x.w) hm hB ⟨⟨W.drew, (Below.refl _ W).drew⟩, rfl⟩ (by simpa using h)
theorem Calls.ext {P : Program} {f : FuncId} {args : Array Value} {W : World} {x : Ext W} {v : Value} (h : Calls P f args x.w fun e w' => e = .returned v ∧ Below x.w.heap.size x.w w') :
  Calls P f args x.w fun e w'' => e = .returned v ∧ ∃ y : Ext W, w'' = y.w :=
 h.mono fun _ w' ⟨he, hb⟩ => ⟨he, ⟨⟨w', x.2.trans (hb.mono x.2.size)⟩, rfl⟩⟩
theorem box6 {w W : World} {v0 v1 v2 v3 v4 v5 : Value} {t : TypeId} (hb : Below (w.alloc (.cells #[v0, v1, v2, v3, v4, v5] t)).heap.size (w.alloc (.cells #[v0, v1, v2, v3, v4, v5] t)) W) :
  W.cell? ⟨w.heap.size, 0, none⟩ = some v0 ∧ W.cell? ⟨w.heap.size, 1, none⟩ = some v1 ∧ W.cell? ⟨w.heap.size, 2, none⟩ = some v2 ∧ W.cell? ⟨w.heap.size, 3, none⟩ = some v3 ∧ W.cell? ⟨w.heap.size, 4, none⟩ = some v4 ∧ W.cell? ⟨w.heap.size, 5, none⟩ = some v5 := by
 refine ⟨?_, ?_, ?_, ?_, ?_, ?_⟩ <;> (rw [hb.cell (by simp)]; simp)
theorem box4 {w W : World} {v0 v1 v2 v3 : Value} {t : TypeId} (hb : Below (w.alloc (.cells #[v0, v1, v2, v3] t)).heap.size (w.alloc (.cells #[v0, v1, v2, v3] t)) W) :
  W.cell? ⟨w.heap.size, 0, none⟩ = some v0 ∧ W.cell? ⟨w.heap.size, 1, none⟩ = some v1 ∧ W.cell? ⟨w.heap.size, 2, none⟩ = some v2 ∧ W.cell? ⟨w.heap.size, 3, none⟩ = some v3 := by
 refine ⟨?_, ?_, ?_, ?_⟩ <;> (rw [hb.cell (by simp)]; simp)
set_option maxHeartbeats 4000000 in
set_option maxRecDepth 100000 in
theorem tchk_head (a b c : Int) (A : Option Addr) (cap : Nat) (l : List S42) (w : World) (hr : Kd.C k42 w A l.length l) (hc : l.length ≤ cap) (hh : headB a b c = false) :
  Calls Tryz.prog 25 #[.agg #[.int .i64 a, .int .i64 b, .int .i64 c, .slice A l.length cap]] w fun e w' => e = .returned (.int .i64 1) ∧ Below w.heap.size w w' := by
 have cH := fun W (h : Kd.C k42 W A l.length l) => headed_calls a b c A cap l W h hc
 rw [hh] at cH
 go_enter Tryz.func25, Tryz.ntmps25
 go_wp2_with (go_at_call 62; refine (cH _ ?s1).mono ?_; (case s1 => exact Kd.C_alloc hr _); rintro e W ⟨rfl, hbW⟩)
 go_ret
 exact ⟨rfl, ((Below.refl _ w).alloc (Nat.le_refl _) _).trans (hbW.mono (by simp))⟩
set_option maxHeartbeats 4000000 in
set_option maxRecDepth 100000 in
theorem tchk_limit (a b c : Int) (A : Option Addr) (cap : Nat) (l : List S42) (w : World) (hr : Kd.C k42 w A l.length l) (hc : l.length ≤ cap) (hh : headB a b c = true)
  (rw_ : ByteArray) (rl : Int)
  (hW : ∀ cap w, Kd.C k42 w A l.length l → l.length ≤ cap → Calls Tryz.prog 29 #[.agg #[.int .i64 a, .int .i64 b, .int .i64 c, .slice A l.length cap]] w fun e w' => e = .returned (.string rw_) ∧ Below w.heap.size w w')
  (hL : ∀ cap w, Kd.C k42 w A l.length l → l.length ≤ cap → Calls Tryz.prog 27 #[.agg #[.int .i64 a, .int .i64 b, .int .i64 c, .slice A l.length cap]] w fun e w' => e = .returned (.int .i64 rl) ∧ Below w.heap.size w w')
  (hl : 100 < l.length ∨ (l.length ≤ 100 ∧ 2000 < rw_.size) ∨ (l.length ≤ 100 ∧ rw_.size ≤ 2000 ∧ 20 < rl)) :
  Calls Tryz.prog 25 #[.agg #[.int .i64 a, .int .i64 b, .int .i64 c, .slice A l.length cap]] w fun e w' => e = .returned (.int .i64 2) ∧ Below w.heap.size w w' := by
 have cH := fun W (h : Kd.C k42 W A l.length l) => headed_calls a b c A cap l W h hc
 rw [hh] at cH
 have fin : ∀ w1 : World, Below (w.alloc (.cells #[.int .i64 a, .int .i64 b, .int .i64 c, .slice A l.length cap] 25)).heap.size (w.alloc (.cells #[.int .i64 a, .int .i64 b, .int .i64 c, .slice A l.length cap] 25)) w1 → Below w.heap.size w w1 := fun w1 h => ((Below.refl _ w).alloc (Nat.le_refl _) _).trans (h.mono (by simp))
 rcases hl with hl | ⟨hl, hw1⟩ | ⟨hl, hw1, hrl⟩
 ·have t1 : decide ((100 : Int) < (l.length : Int)) = true := decide_eq_true (by omega)
  go_enter Tryz.func25, Tryz.ntmps25
  go_wp2_with (first | (go_at_call 62; refine (cH _ ?s1).mono ?_; (case s1 => exact Kd.C_alloc hr _); rintro e W ⟨rfl, hbW⟩; obtain ⟨f0, f1, f2, f3⟩ := box4 hbW))
  go_ret
  exact ⟨rfl, fin _ hbW⟩
 ·have t1 : decide ((100 : Int) < (l.length : Int)) = false := decide_eq_false (by omega)
  have t2 : decide ((2000 : Int) < (rw_.size : Int)) = true := decide_eq_true (by omega)
  go_enter Tryz.func25, Tryz.ntmps25
  go_wp2_with (first | (go_at_call 62; refine (cH _ ?s1).mono ?_; (case s1 => exact Kd.C_alloc hr _); rintro e W ⟨rfl, hbW⟩; obtain ⟨f0, f1, f2, f3⟩ := box4 hbW) | (go_at_call 29; refine (hW _ _ ?s1 ?s2).mono ?_; (case s1 => exact Kd.C_below (Kd.C_alloc hr _) hbW); (case s2 => exact hc); rintro e w1 ⟨rfl, hb1⟩))
  go_ret
  exact ⟨rfl, fin _ (hbW.trans (hb1.mono hbW.size))⟩
 ·have t1 : decide ((100 : Int) < (l.length : Int)) = false := decide_eq_false (by omega)
  have t2 : decide ((2000 : Int) < (rw_.size : Int)) = false := decide_eq_false (by omega)
  have t3 : decide ((20 : Int) < rl) = true := decide_eq_true (by omega)
  go_enter Tryz.func25, Tryz.ntmps25
  go_wp2_with (first | (go_at_call 62; refine (cH _ ?s1).mono ?_; (case s1 => exact Kd.C_alloc hr _); rintro e W ⟨rfl, hbW⟩; obtain ⟨f0, f1, f2, f3⟩ := box4 hbW) | (go_at_call 29; refine (hW _ _ ?s1 ?s2).mono ?_; (case s1 => exact Kd.C_below (Kd.C_alloc hr _) hbW); (case s2 => exact hc); rintro e w1 ⟨rfl, hb1⟩; obtain ⟨g0, g1, g2, g3⟩ := box4 (hbW.trans (hb1.mono hbW.size))) | (go_at_call 27; refine (hL _ _ ?s1 ?s2).mono ?_; (case s1 => exact Kd.C_below (Kd.C_below (Kd.C_alloc hr _) hbW) hb1); (case s2 => exact hc); rintro e w2 ⟨rfl, hb2⟩))
  go_ret
  exact ⟨rfl, fin _ (hbW.trans ((hb1.trans (hb2.mono hb1.size)).mono hbW.size))⟩
set_option maxHeartbeats 8000000 in
set_option maxRecDepth 100000 in
theorem tchk_loop (a b c : Int) (A : Option Addr) (cap : Nat) (l : List S42) (w : World) (hr : Kd.C k42 w A l.length l) (hc : l.length ≤ cap) (hh : headB a b c = true)
  (rw_ : ByteArray) (rl : Int)
  (hW : ∀ cap w, Kd.C k42 w A l.length l → l.length ≤ cap → Calls Tryz.prog 29 #[.agg #[.int .i64 a, .int .i64 b, .int .i64 c, .slice A l.length cap]] w fun e w' => e = .returned (.string rw_) ∧ Below w.heap.size w w')
  (hL : ∀ cap w, Kd.C k42 w A l.length l → l.length ≤ cap → Calls Tryz.prog 27 #[.agg #[.int .i64 a, .int .i64 b, .int .i64 c, .slice A l.length cap]] w fun e w' => e = .returned (.int .i64 rl) ∧ Below w.heap.size w w')
  (hl : l.length ≤ 100) (hw1 : rw_.size ≤ 2000) (hrl : rl ≤ 20) :
  Calls Tryz.prog 25 #[.agg #[.int .i64 a, .int .i64 b, .int .i64 c, .slice A l.length cap]] w fun e w' => e = .returned (.int .i64 (chk none l)) ∧ Below w.heap.size w w' := by
 have cH := fun W (h : Kd.C k42 W A l.length l) => headed_calls a b c A cap l W h hc
 rw [hh] at cH
 have t1 : decide ((100 : Int) < (l.length : Int)) = false := decide_eq_false (by omega)
 have t2 : decide ((2000 : Int) < (rw_.size : Int)) = false := decide_eq_false (by omega)
 have t3 : decide ((20 : Int) < rl) = false := decide_eq_false (by omega)
 go_enter Tryz.func25, Tryz.ntmps25
 go_wp2_with (first | (go_at_call 62; refine (cH _ ?s1).mono ?_; (case s1 => exact Kd.C_alloc hr _); rintro e W ⟨rfl, hbW⟩; obtain ⟨f0, f1, f2, f3⟩ := box4 hbW) | (go_at_call 29; refine (hW _ _ ?s1 ?s2).mono ?_; (case s1 => exact Kd.C_below (Kd.C_alloc hr _) hbW); (case s2 => exact hc); rintro e w1 ⟨rfl, hb1⟩; obtain ⟨g0, g1, g2, g3⟩ := box4 (hbW.trans (hb1.mono hbW.size))) | (go_at_call 27; refine (hL _ _ ?s1 ?s2).mono ?_; (case s1 => exact Kd.C_below (Kd.C_below (Kd.C_alloc hr _) hbW) hb1); (case s2 => exact hc); rintro e w2 ⟨rfl, hb2⟩; obtain ⟨h0, h1, h2, h3⟩ := box4 (hbW.trans ((hb1.trans (hb2.mono hb1.size)).mono hbW.size))))
 have hzW := hbW.size
 have hz1 := hb1.size
 have hz2 := hb2.size
 simp at hzW
 have hb12 : Below (w.alloc (.cells #[.int .i64 a, .int .i64 b, .int .i64 c, .slice A l.length cap] 25)).heap.size (w.alloc (.cells #[.int .i64 a, .int .i64 b, .int .i64 c, .slice A l.length cap] 25)) w2 := hbW.trans ((hb1.trans (hb2.mono hb1.size)).mono hbW.size)
 have hbw : Below w.heap.size w w2 := ((Below.refl _ w).alloc (Nat.le_refl _) _).trans (hb12.mono (by simp))
 have hr2 : Kd.C k42 w2 A l.length l := Kd.C_below hr hbw
 have b3 : w2.cell? ⟨w.heap.size, 3, none⟩ = some (.slice A l.length cap) := h3
 have hlt2 : w.heap.size < w2.heap.size := by omega
 clear f0 f1 f2 f3 g0 g1 g2 g3 h0 h1 h2 h3 hbW hb1 hb2 hb12 hr t1 t2 t3 cH hW hL hzW hz1 hz2
 go_loopw [26] (fun i wr => ∃ n : Nat, n ≤ l.length ∧ i = .int .i64 n ∧ ChkRel l w2 n wr) (fun i wr => l.length - (intOf i).toNat)
 case atStart => exact ⟨0, by omega, rfl, Below.refl _ _, rfl⟩
 case round =>
  obtain ⟨n, hn, rfl, hbr, hch⟩ := hrel
  have c3 : wr.cell? ⟨w.heap.size, 3, none⟩ = some (.slice A l.length cap) := by rw [hbr.cell (p := ⟨w.heap.size, 3, none⟩) hlt2]; exact b3
  have hz := hbr.size
  by_cases hlt : n < l.length
  ·have hr3 := Kd.C_below hr2 hbr
   obtain ⟨ad, rfl, d0, d1, d2, d3, d4, d5⟩ := at_T42 hr3 (n : Int) (by omega) (by omega)
   obtain ⟨p, hp⟩ : ∃ p, rd_T42 l (n : Int) = p := ⟨_, rfl⟩
   rw [hp] at d0 d1 d2 d3 d4 d5
   have hlp : l.getD n z42 = p := by rw [← hp]; simp [rd_T42]
   have hdr : l.drop n = p :: l.drop (n + 1) := by rw [rd42_drop l n hlt, hp]
   have HCH := Lib.hid hch
   have HDR := Lib.hid hdr
   have HLP := Lib.hid hlp
   clear hch hdr hlp hp
   simp only [Int.toNat_natCast] at d0 d1 d2 d3 d4 d5
   have BL : ∀ W, Below (wr.alloc (.cells #[.string p.f0, .bool p.f1.f0, .bool p.f1.f1, .bool p.f1.f2, .int .i64 p.f1.f3, .int .i64 p.f1.f4] 42)).heap.size (wr.alloc (.cells #[.string p.f0, .bool p.f1.f0, .bool p.f1.f1, .bool p.f1.f2, .int .i64 p.f1.f3, .int .i64 p.f1.f4] 42)) W → Below w2.heap.size w2 W :=
    fun W h => hbr.trans (((Below.refl _ wr).alloc (Nat.le_refl _) _).mono hz |>.trans (h.mono (by simp; omega)))
   have BW : ∀ W, Below w2.heap.size w2 W → Below w.heap.size w W := fun W h => hbw.trans (h.mono (by omega))
   by_cases hem : p.f0.size = 0
   ·have hT : isTextB p.f0 = false := by simp [isTextB, hem]
    have hemp : p.f0.toList = [] := by rw [ByteArray.toList_eq]; exact List.eq_nil_of_length_eq_zero (by rw [Array.length_toList]; exact hem)
    have hemp2 : p.f0.toList.isEmpty = true := by rw [hemp]; rfl
    go_wp2_with fail
    go_ret
    exact ⟨ret_int (chk_4 HCH HDR hT), BW _ (BL _ (Below.refl _ _))⟩
   ·have hne : p.f0.toList ≠ [] := by rw [ByteArray.toList_eq]; intro h; exact hem (by have := congrArg List.length h; rw [Array.length_toList] at this; exact this)
    have hne2 : p.f0.toList.isEmpty = false := by cases h : p.f0.toList with | nil => exact absurd h hne | cons _ _ => rfl
    have cB := contains_bad p.f0
    cases hT : isTextB p.f0
    ·have hall : (bs p.f0).all (fun c => okByte c.toNat) = false := by
      unfold isTextB at hT; rw [decide_eq_true (by omega), Bool.and_true] at hT; exact hT
     rw [hall] at cB
     clear hall
     go_wp2_with (go_at_call 63; refine (cB _).mono ?_; rintro e W ⟨rfl, hbW⟩)
     go_ret
     exact ⟨ret_int (chk_4 HCH HDR hT), BW _ (BL _ hbW)⟩
    ·have hall : (bs p.f0).all (fun c => okByte c.toNat) = true := by
      unfold isTextB at hT; rw [Bool.and_eq_true] at hT; exact hT.1
     rw [hall] at cB
     clear hall
     have cSt := fun W => styled_calls p.f1 W
     cases hst : styB p.f1
     ·rw [hst] at cSt
      go_wp2_with (go_at_call 63; refine (cB _).mono ?_; rintro e W ⟨rfl, hbW⟩)
      obtain ⟨k0, k1, k2, k3, k4, k5⟩ := box6 hbW
      have e1 := fun x : Ext W => x.cell k1
      have e2 := fun x : Ext W => x.cell k2
      have e3 := fun x : Ext W => x.cell k3
      have e4 := fun x : Ext W => x.cell k4
      have e5 := fun x : Ext W => x.cell k5
      refine wp_region_ext (by kernel_rfl) (by kernel_rfl) ?_
      repeat (go_big_quiet_step ((go_at_call 66; exact Calls.ext (cSt _))))
      refine wpQuiet_nil ?_
      rintro _ ⟨x, rfl⟩
      have hbx : Below w2.heap.size w2 x.w := BL _ (hbW.trans (x.2.mono hbW.size))
      generalize x.w = X at hbx
      go_wp2
      go_ret
      exact ⟨ret_int (chk_st HCH HDR hT (by unfold styB at hst; rw [Bool.and_eq_false_iff] at hst; exact hst)), BW _ hbx⟩
     ·rw [hst] at cSt
      have est : inB p.f1.f3 1 8 = true ∧ inB p.f1.f4 0 15 = true := by unfold styB at hst; rw [Bool.and_eq_true] at hst; exact hst
      obtain ⟨e1, e2⟩ := est
      rcases Nat.eq_zero_or_pos n with h0 | h0
      ·have td : decide ((0 : Int) < (n : Int)) = false := decide_eq_false (by omega)
       have td' : decide (0 < n) = false := decide_eq_false (by omega)
       have E3 := Lib.hid h0
       clear h0
       go_wp2_with (go_at_call 63; refine (cB _).mono ?_; rintro e W ⟨rfl, hbW⟩)
       obtain ⟨k0, k1, k2, k3, k4, k5⟩ := box6 hbW
       have e1' := fun x : Ext W => x.cell k1
       have e2' := fun x : Ext W => x.cell k2
       have e3' := fun x : Ext W => x.cell k3
       have e4' := fun x : Ext W => x.cell k4
       have e5' := fun x : Ext W => x.cell k5
       refine wp_region_ext (by kernel_rfl) (by kernel_rfl) ?_
       repeat (go_big_quiet_step ((go_at_call 66; exact Calls.ext (cSt _))))
       refine wpQuiet_nil ?_
       rintro _ ⟨x, rfl⟩
       have hbx : Below w2.heap.size w2 x.w := BL _ (hbW.trans (x.2.mono hbW.size))
       generalize x.w = X at hbx
       clear k0 k1 k2 k3 k4 k5 e1' e2' e3' e4' e5'
       go_wp2
       go_roundw
       case rel => exact ⟨n + 1, by omega, by go_num, hbx, chk_next (r := []) HCH HDR HLP hT e1 e2 (by rw [E3.out]; rfl)⟩
       case measure => simp [intOf]; omega
      ·have td : decide ((0 : Int) < (n : Int)) = true := decide_eq_true (by omega)
       have td' : decide (0 < n) = true := decide_eq_true (by omega)
       obtain ⟨v, hpv⟩ : ∃ v, rd_T42 l ((n - 1 : Nat) : Int) = v := ⟨_, rfl⟩
       go_wp2_with (go_at_call 63; refine (cB _).mono ?_; rintro e W ⟨rfl, hbW⟩)
       obtain ⟨k0, k1, k2, k3, k4, k5⟩ := box6 hbW
       have hbW' : Below wr.heap.size wr W := ((Below.refl _ wr).alloc (Nat.le_refl _) _).trans (hbW.mono (by simp))
       have hr4 : Kd.C k42 wr (some ad) l.length l := hr3
       obtain ⟨ad', hae, g0, g1, g2, g3, g4, g5⟩ := at_T42 hr4 ((n - 1 : Nat) : Int) (by omega) (by omega)
       obtain rfl : ad' = ad := by injection hae with hae; exact hae.symm
       rw [hpv] at g0 g1 g2 g3 g4 g5
       simp only [Int.toNat_natCast] at g0 g1 g2 g3 g4 g5
       have HPV := Lib.hid hpv
       clear hpv
       have BLW := fun X (h : Below W.heap.size W X) => BL X (hbW.trans (h.mono hbW.size))
       have cc : ∀ {ad : Addr} {u : Value}, wr.cell? ad = some u → ∀ x : Ext W, x.w.cell? ad = some u := fun h x =>
        cell_later (hbW'.trans (x.2.mono hbW'.size)) h
       have c3' := cc c3
       have g0' := cc g0
       have g1' := cc g1
       have g2' := cc g2
       have g3' := cc g3
       have g4' := cc g4
       have g5' := cc g5
       have e1' := fun x : Ext W => x.cell k1
       have e2' := fun x : Ext W => x.cell k2
       have e3' := fun x : Ext W => x.cell k3
       have e4' := fun x : Ext W => x.cell k4
       have e5' := fun x : Ext W => x.cell k5
       clear cc
       have wr1 : IntKind.i64.wrap ((n : Int) - 1) = (n : Int) - 1 := IntWalk.i64_in _ (by omega)
       have wr2 : (0 : Int) ≤ (n : Int) - 1 := by omega
       have wr3 : (n : Int) - 1 < (l.length : Int) := by omega
       have wr4 : 1 ≤ n := by omega
       have wr5 : (1 : Int) ≤ (n : Int) := by omega
       have wr6 : ¬ ((n : Int) - 1 < 0) := by omega
       have wr7 : ((n : Int) - 1).toNat < l.length := by omega
       have wr8 : n - 1 < l.length := by omega
       cases hq : eqS p.f1 v.f1
       all_goals
        have hq' : eqS v.f1 p.f1 = _ := (eqS_comm v.f1 p.f1).trans hq
        unfold eqS at hq'
        refine wp_region_ext (by kernel_rfl) (by kernel_rfl) ?_
        repeat (go_big_quiet_step ((go_at_call 66; exact Calls.ext (cSt _))))
        refine wpQuiet_nil ?_
        rintro _ ⟨x, rfl⟩
        have hbx : Below w2.heap.size w2 x.w := BLW _ x.2
        generalize x.w = X at hbx
        clear wr1 wr2 wr3 wr4 wr5 wr6 wr7 wr8 c3' g0' g1' g2' g3' g4' g5' e1' e2' e3' e4' e5'
        go_wp2
       ·go_roundw
        case rel => exact ⟨n + 1, by omega, by go_num, hbx, chk_next (r := []) HCH HDR HLP hT e1 e2 (by have hv := HPV.out; simp only [rd_T42, Int.toNat_natCast, List.getD_eq_getElem?_getD] at hv; simp [prevOf, show n ≠ 0 from by omega, hv, eqS_comm v.f1 p.f1, hq])⟩
        case measure => simp [intOf]; omega
       ·go_ret
        exact ⟨ret_int (chk_eq HCH HDR hT h0 HPV hq), BW _ hbx⟩
  ·go_wp2
   go_ret
   exact ⟨ret_int (by rw [← hch, List.drop_of_length_le (by omega)]; rfl), hbw.trans (hbr.mono (by omega))⟩
theorem tCheck_calls (a b c : Int) (A : Option Addr) (cap : Nat) (l : List S42) (w : World) (hr : Kd.C k42 w A l.length l) (hc : l.length ≤ cap) (hf : Fit l) :
  Calls Tryz.prog 25 #[.agg #[.int .i64 a, .int .i64 b, .int .i64 c, .slice A l.length cap]] w fun e w' => e = .returned (.int .i64 (checkS a b c l)) ∧ Below w.heap.size w w' := by
 have hs := wordsOf_size l
 cases hh : headB a b c
 ·rw [show checkS a b c l = 1 from by simp [checkS, hh]]
  exact tchk_head a b c A cap l w hr hc hh
 ·have hW := fun cap w hr hc => tWords_calls a b c A cap l w hr hc hf
  have hL := fun cap w hr hc => tLines_calls a b c A cap l w hr hc hf
  by_cases h : 100 < l.length ∨ 2000 < wordsLen l ∨ 20 < nlf (bs (wordsOf l)) + 1
  ·rw [show checkS a b c l = 2 from by
    have : (decide (100 < l.length) || (decide (2000 < wordsLen l) || decide (20 < nlf (bs (wordsOf l)) + 1))) = true := by simp only [Bool.or_eq_true, decide_eq_true_eq]; exact h
    unfold checkS; rw [hh, this]; rfl]
   exact tchk_limit a b c A cap l w hr hc hh _ _ hW hL (by omega)
  ·rw [show checkS a b c l = chk none l from by
    have : (decide (100 < l.length) || (decide (2000 < wordsLen l) || decide (20 < nlf (bs (wordsOf l)) + 1))) = false := by simp only [Bool.or_eq_false_iff, decide_eq_false_iff_not]; omega
    unfold checkS; rw [hh, this]; rfl]
   exact tchk_loop a b c A cap l w hr hc hh _ _ hW hL (by omega) (by omega) (by omega)
end Go.Proofs.YtogidacejbjljaaGreatDoor.PTextChecks
end
section
/- The program's Normal: empty pieces left out, neighbours of one style joined. -/
set_option linter.unusedVariables false
set_option linter.unusedSimpArgs false
namespace Go.Proofs.YtogidacejbjljaaGreatDoor.PTextChecks
open Go.RowKit Go.Proofs.YtogidacejbjljaaGreatDoorW.PrintWords Go.Proofs.YtogidacejbjljaaGreatDoorW.PrintLast Go.Proofs.YtogidacejbjljaaGreatDoorW.PrintMore
/-! ### a row of pieces in a block -/
def enc (p : S42) : List Value := [.string p.f0, .bool p.f1.f0, .bool p.f1.f1, .bool p.f1.f2, .int .i64 p.f1.f3, .int .i64 p.f1.f4]
def flat (l : List S42) : List Value := l.flatMap enc
theorem flat_length (l : List S42) : (flat l).length = l.length * 6 := by
 induction l with
 | nil => rfl
 | cons p l ih => simp only [flat, List.flatMap_cons, List.length_append] at *; rw [ih]; simp [enc]; omega
theorem flat_get : ∀ (l : List S42) (k j : Nat) (p : S42), l[k]? = some p → j < 6 → (flat l)[k * 6 + j]? = (enc p)[j]?
 | [], k, j, p, h, _ => by simp at h
 | q :: l, 0, j, p, h, hj => by
  simp at h; subst h
  simp only [flat, List.flatMap_cons]
  rw [List.getElem?_append_left (by simp [enc]; omega)]; simp
 | q :: l, k + 1, j, p, h, hj => by
  rw [List.getElem?_cons_succ] at h
  have := flat_get l k j p h hj
  simp only [flat, List.flatMap_cons] at *
  rw [List.getElem?_append_right (by simp [enc]; omega), ← this]
  congr 1; simp [enc]; omega
def Lays (cur : Array Value) (ys : List S42) : Prop := ∀ k p, ys[k]? = some p → ∀ j u, (enc p)[j]? = some u → cur[k * 6 + j]? = some u
theorem Lays.of_take {cur : Array Value} {l : List S42} (h : cur.toList.take (l.length * 6) = flat l) : Lays cur l := by
 intro k p hk j u hj
 have hj6 : j < 6 := by have := (List.getElem?_eq_some_iff.1 hj).1; simpa [enc] using this
 have hkl : k < l.length := (List.getElem?_eq_some_iff.1 hk).1
 have h1 := flat_get l k j p hk hj6
 rw [← h, List.getElem?_take_of_lt (by omega), hj] at h1
 rw [← Array.getElem?_toList]; exact h1
theorem add0 (g i : Nat) : (⟨g, 0, none⟩ : Addr).add i = ⟨g, i, none⟩ := by unfold Addr.add; split <;> simp_all
theorem Lays.C {cur : Array Value} {l : List S42} {w : World} {g : Nat} {fr : Nat × Nat} (h : Lays cur l) (hg : w.heap[g]? = some (.cells cur 42 fr)) (hl : l.length ≤ 9223372036854775807) : Kd.C k42 w (some ⟨g, 0, none⟩) l.length l := by
 refine ⟨rfl, hl, fun _ => ⟨_, rfl, fun k p hk => ⟨enc p, rfl, k42_mk w p, fun j u hj => ?_⟩⟩⟩
 have := h k p hk j u hj
 change w.cell? ((⟨g, 0, none⟩ : Addr).add (k * 6 + j)) = some u
 rw [add0]
 simp [World.cell?, hg, this]
theorem enc_cases {p : S42} {j : Nat} {u : Value} (h : (enc p)[j]? = some u) : (j = 0 ∧ u = .string p.f0) ∨ (j = 1 ∧ u = .bool p.f1.f0) ∨ (j = 2 ∧ u = .bool p.f1.f1) ∨ (j = 3 ∧ u = .bool p.f1.f2) ∨ (j = 4 ∧ u = .int .i64 p.f1.f3) ∨ (j = 5 ∧ u = .int .i64 p.f1.f4) := by
 match j, h with
 | 0, h => exact .inl ⟨rfl, (Option.some.inj h).symm⟩
 | 1, h => exact .inr (.inl ⟨rfl, (Option.some.inj h).symm⟩)
 | 2, h => exact .inr (.inr (.inl ⟨rfl, (Option.some.inj h).symm⟩))
 | 3, h => exact .inr (.inr (.inr (.inl ⟨rfl, (Option.some.inj h).symm⟩)))
 | 4, h => exact .inr (.inr (.inr (.inr (.inl ⟨rfl, (Option.some.inj h).symm⟩))))
 | 5, h => exact .inr (.inr (.inr (.inr (.inr ⟨rfl, (Option.some.inj h).symm⟩))))
 | j + 6, h => exact absurd h (by simp [enc])
theorem heap_set {w : World} {g i : Nat} {cs : Array Value} {t : TypeId} {fr : Nat × Nat} {v : Value} (hg : w.heap[g]? = some (.cells cs t fr)) : (w.setCell ⟨g, i, none⟩ v).heap[g]? = some (.cells (cs.setIfInBounds i v) t fr) := by
 simp [World.setCell, Array.getElem?_modify, hg]

/-! ### slices.Clone -/
theorem infoPiece : (Tryz.prog.info? 42).map (fun i => (i.zero, i.size, i.bytes)) = some (some (.agg #[(.string ⟨#[]⟩), (.bool false), (.bool false), (.bool false), (.int .i64 0), (.int .i64 0)]), 6, 40) := by kernel_rfl
def Own (g : Nat) (l : List S42) (cap : Nat) (w : World) : Prop := ∃ cur, w.heap[g]? = some (.cells cur 42 (0, 0)) ∧ cur.size = cap * 6 ∧ l.length ≤ cap ∧ cap ≤ 9223372036854775807 ∧ Lays cur l

/-! ### slices.IndexFunc, slices.DeleteFunc at the closure of text.Normal -/


/-! ### text.Normal -/
/-- What a row of pieces reads as, behind a call. -/
def RowOut (v : Value) (l : List S42) (w : World) : Prop := ∃ A cap, v = .slice A l.length cap ∧ l.length ≤ cap ∧ Kd.C k42 w A l.length l
theorem two_new (w : World) (o1 o2 : Obj) : ((w.alloc o1).alloc o2).heap[w.heap.size]? = some o1 ∧ ((w.alloc o1).alloc o2).heap[w.heap.size + 1]? = some o2 ∧ ((w.alloc o1).alloc o2).heap.size = w.heap.size + 2 := by
 have h1 : ((w.alloc o1).alloc o2).heap = (w.heap.push o1).push o2 := rfl
 rw [h1]
 refine ⟨?_, ?_, by simp⟩
 ·rw [Array.getElem?_push_lt (by simp)]; simp
 ·rw [show w.heap.size + 1 = (w.heap.push o1).size from by simp, Array.getElem?_push_size]
theorem blk4 {W : World} {b : Nat} {v0 v1 v2 v3 : Value} {t : TypeId} (h : W.heap[b]? = some (.cells #[v0, v1, v2, v3] t (0, 0))) :
  (W.cell? ⟨b, 0, none⟩ = some v0 ∧ W.cell? ⟨b, 1, none⟩ = some v1 ∧ W.cell? ⟨b, 2, none⟩ = some v2 ∧ W.cell? ⟨b, 3, none⟩ = some v3) ∧ (W.frozen? ⟨b, 0, none⟩ = false ∧ W.frozen? ⟨b, 1, none⟩ = false ∧ W.frozen? ⟨b, 2, none⟩ = false ∧ W.frozen? ⟨b, 3, none⟩ = false) := by
 simp [World.cell?, World.frozen?, h]
theorem joined2 (v : Value) (l : List S42) (w : World) (h : RowOut v l w) (hl : l.length ≤ 1000000) (hw : wordsLen l ≤ 1000000) :
  Calls Tryz.prog 71 #[v] w fun e w' => ∃ A' c', e = .returned (.slice A' (joinS l).length c') ∧ Kd.R k42 42 w' w.heap.size (fun _ => True) (.slice A' (joinS l).length c') (joinS l) ∧ Below w.heap.size w w' := by
 obtain ⟨A, cap, rfl, hc, hC⟩ := h
 refine (text_joined.calls (l.length + 1) A cap l _ w hC hc (joined_run hl hw _ (by omega))).mono ?_
 rintro e w' ⟨v', rfl, hR, hb⟩
 obtain ⟨A', c', rfl⟩ := Kd.R_slice hR
 exact ⟨A', c', rfl, hR, hb⟩
end Go.Proofs.YtogidacejbjljaaGreatDoor.PTextChecks
end
section
/- The reference's pieces: letters joined to pieces. -/
set_option linter.unusedVariables false
set_option linter.unusedSimpArgs false
namespace Go.Proofs.YtogidacejbjljaaGreatDoor.PTextChecks
open Go.RowKit Go.Proofs.YtogidacejbjljaaGreatDoorW.PrintWords Go.Proofs.YtogidacejbjljaaGreatDoorW.PrintLast Go.Proofs.YtogidacejbjljaaGreatDoorW.PrintMore
attribute [local go_sem high] eqA40
theorem newcell (W : World) (cs : Array Value) (t i : Nat) (u : Value) (h : cs[i]? = some u) : (W.alloc (.cells cs t)).cell? ⟨W.heap.size, i, none⟩ = some u := by
 have e : (W.alloc (.cells cs t)).heap[W.heap.size]? = some (.cells cs t (0, 0)) := by
  show (W.heap.push _)[W.heap.size]? = _
  exact Array.getElem?_push_size
 unfold World.cell?
 rw [e]
 simpa using h
theorem piecesS_len (l : List S81) (n : Nat) : (piecesS (l.take n)).length ≤ n := by
 have : ∀ (l : List S81) (out : List S42), (l.foldl (fun out x => joinP out (chP x)) out).length ≤ out.length + l.length := by
  intro l
  induction l with
  | nil => intro out; simp
  | cons x l ih => intro out; have := ih (joinP out (chP x)); have := joinP_len out (chP x); simp; omega
 have := this (l.take n) []
 simp only [List.length_nil, Nat.zero_add] at this
 exact Nat.le_trans this (List.length_take_le _ _)
structure PRel (l : List S81) (w : World) (n : Nat) (v : Value) (wr : World) : Prop where
 own : wr.ownsRow w.heap.size 42 6 v (piecesS (l.take n)).length (flat (piecesS (l.take n)))
 below : Below w.heap.size w wr
end Go.Proofs.YtogidacejbjljaaGreatDoor.PTextChecks
end
section
/- text.taken: how many letters the next line has. -/
set_option linter.unusedVariables false
set_option linter.unusedSimpArgs false
namespace Go.Proofs.YtogidacejbjljaaGreatDoor.PTextChecks
open Go.RowKit Go.Proofs.YtogidacejbjljaaGreatDoorW.PrintWords Go.Proofs.YtogidacejbjljaaGreatDoorW.PrintLast Go.Proofs.YtogidacejbjljaaGreatDoorW.PrintMore
theorem twide_calls (x : S81) (h : 0 ≤ x.f0 ∧ x.f0 < 256) (w : World) :
  Calls Tryz.prog 60 #[.int .u8 x.f0, .agg #[.bool x.f1.f0, .bool x.f1.f1, .bool x.f1.f2, .int .i64 x.f1.f3, .int .i64 x.f1.f4]] w fun e w' => e = .returned (.int .i64 (wd x)) ∧ Below w.heap.size w w' := by
 refine text_wide.calls x.f0 x.f1.f0 x.f1.f1 x.f1.f2 x.f1.f3 x.f1.f4 (wd x) w ?_
 have := wide_run x.f0.toNat (by omega) x.f1
 rw [Int.toNat_of_nonneg h.1] at this
 exact this
def TRel (l : List S81) (room : Int) (w : World) (n : Nat) (sum : Int) (bl : Nat) (wr : World) : Prop := takeF room (l.drop n) sum n bl = takenS l room ∧ Below w.heap.size w wr
theorem take_go {l : List S81} {room : Int} {n bl : Nat} {sum s1 : Int} {x : S81} (ht : Hid (takeF room (l.drop n) sum n bl = takenS l room)) (hd : Hid (l.drop n = x :: l.drop (n + 1))) (hs : Hid (wrap64 (sum + wd x) = s1))
  (h1 : (decide (room < s1) && decide (0 < n)) = false) : takeF room (l.drop (n + 1)) s1 (n + 1) (if x.f0 = 32 then n + 1 else bl) = takenS l room := by
 have := ht.out
 rw [hd.out] at this
 unfold takeF at this
 rw [hs.out, h1] at this
 simpa using this
theorem take_end {l : List S81} {room : Int} {n bl : Nat} {sum s1 : Int} {x : S81} (ht : Hid (takeF room (l.drop n) sum n bl = takenS l room)) (hd : Hid (l.drop n = x :: l.drop (n + 1))) (hs : Hid (wrap64 (sum + wd x) = s1))
  (h1 : (decide (room < s1) && decide (0 < n)) = true) : (if 0 < bl then bl else n) = takenS l room := by
 have := ht.out
 rw [hd.out] at this
 unfold takeF at this
 rw [hs.out, h1] at this
 simpa using this
set_option maxHeartbeats 4000000 in
set_option maxRecDepth 100000 in
theorem taken_calls (A : Option Addr) (cap : Nat) (l : List S81) (room : Int) (w : World) (hr : Kd.C k81 w A l.length l) (hl : l.length ≤ 1000000) (hb : Byt l) :
  Calls Tryz.prog 106 #[.slice A l.length cap, .int .i64 room] w fun e w' => e = .returned (.int .i64 (takenS l room)) ∧ Below w.heap.size w w' := by
 go_enter Tryz.func106, Tryz.ntmps106
 go_wp2
 go_loopw [5, 6, 11] (fun s b i wr => ∃ (n : Nat) (sum : Int) (bl : Nat), n ≤ l.length ∧ bl ≤ n ∧ s = .int .i64 sum ∧ b = .int .i64 bl ∧ i = .int .i64 n ∧ TRel l room w n sum bl wr) (fun _ _ i wr => l.length - (intOf i).toNat)
 case atStart => exact ⟨0, 0, 0, by omega, by omega, rfl, rfl, rfl, rfl, Below.refl _ _⟩
 case round =>
  obtain ⟨n, sum, bl, hn, hbl, rfl, rfl, rfl, htk⟩ := hrel
  by_cases hlt : n < l.length
  ·obtain ⟨htk, hbw⟩ := htk
   have hr3 := Kd.C_below hr hbw
   obtain ⟨ad, rfl, d0, d1, d2, d3, d4, d5⟩ := at_T81 hr3 (n : Int) (by omega) (by omega)
   obtain ⟨x, hx⟩ : ∃ x, rd_T81 l (n : Int) = x := ⟨_, rfl⟩
   rw [hx] at d0 d1 d2 d3 d4 d5
   have hxb := hb x (by rw [← hx]; exact rd81_mem l n hlt)
   have hdr : l.drop n = x :: l.drop (n + 1) := by rw [rd81_drop l n hlt, hx]
   obtain ⟨s1, hs1⟩ : ∃ s1, wrap64 (sum + wd x) = s1 := ⟨_, rfl⟩
   have HS := Lib.hid hs1
   have HD := Lib.hid hdr
   have HT := Lib.hid htk
   have hs1' : IntKind.i64.wrap (sum + wd x) = s1 := by rw [i64_w]; exact hs1
   have cW := fun X => twide_calls x hxb X
   generalize wd x = z at cW hs1'
   clear htk hdr hs1 hx
   simp only [Int.toNat_natCast] at d0 d1 d2 d3 d4 d5
   have hBW : ∀ W, Below (wr.alloc (.cells #[.int .u8 x.f0, .bool x.f1.f0, .bool x.f1.f1, .bool x.f1.f2, .int .i64 x.f1.f3, .int .i64 x.f1.f4] 151)).heap.size (wr.alloc (.cells #[.int .u8 x.f0, .bool x.f1.f0, .bool x.f1.f1, .bool x.f1.f2, .int .i64 x.f1.f3, .int .i64 x.f1.f4] 151)) W → Below w.heap.size w W :=
    fun W h => hbw.trans (((Below.refl _ wr).alloc (Nat.le_refl _) _).mono hbw.size |>.trans (h.mono (by have := hbw.size; simp; omega)))
   have wr1 : IntKind.i64.wrap ((n : Int) + 1) = (n : Int) + 1 := IntWalk.i64_in _ (by omega)
   cases hc1 : decide (room < s1)
   case false =>
    cases hsp : decide (x.f0 = 32)
    case false =>
     have HG := Lib.hid (take_go HT HD HS (by rw [hc1]; rfl))
     have hsp1 : (x.f0 == 32) = false := hsp
     go_wp2_with (go_at_call 60; refine (cW _).mono ?_; rintro e W ⟨rfl, hbW⟩; obtain ⟨k0, k1, k2, k3, k4, k5⟩ := box6 hbW)
     go_roundw
     case rel => exact ⟨n + 1, s1, bl, by omega, by omega, by go_num, by go_num, by go_num, by rw [← HG.out, if_neg (of_decide_eq_false hsp)], hBW _ hbW⟩
     case measure => simp [intOf]; omega
    case true =>
     have HG := Lib.hid (take_go HT HD HS (by rw [hc1]; rfl))
     have hsp1 : (x.f0 == 32) = true := hsp
     go_wp2_with (go_at_call 60; refine (cW _).mono ?_; rintro e W ⟨rfl, hbW⟩; obtain ⟨k0, k1, k2, k3, k4, k5⟩ := box6 hbW)
     go_roundw
     case rel => exact ⟨n + 1, s1, n + 1, by omega, by omega, by go_num, by go_num, by go_num, by rw [← HG.out, if_pos (of_decide_eq_true hsp)], hBW _ hbW⟩
     case measure => simp [intOf]; omega
   case true =>
    rcases Nat.eq_zero_or_pos n with h0 | h0
    ·have hc2 : decide ((0 : Int) < (n : Int)) = false := decide_eq_false (by omega)
     have hc3 : decide (0 < n) = false := decide_eq_false (by omega)
     have H0 := Lib.hid h0
     clear h0
     cases hsp : decide (x.f0 = 32)
     case false =>
      have HG := Lib.hid (take_go HT HD HS (by rw [hc1, hc3]; rfl))
      have hsp1 : (x.f0 == 32) = false := hsp
      go_wp2_with (go_at_call 60; refine (cW _).mono ?_; rintro e W ⟨rfl, hbW⟩; obtain ⟨k0, k1, k2, k3, k4, k5⟩ := box6 hbW)
      go_roundw
      case rel => exact ⟨n + 1, s1, bl, by omega, by omega, by go_num, by go_num, by go_num, by rw [← HG.out, if_neg (of_decide_eq_false hsp)], hBW _ hbW⟩
      case measure => simp [intOf]; omega
     case true =>
      have HG := Lib.hid (take_go HT HD HS (by rw [hc1, hc3]; rfl))
      have hsp1 : (x.f0 == 32) = true := hsp
      go_wp2_with (go_at_call 60; refine (cW _).mono ?_; rintro e W ⟨rfl, hbW⟩; obtain ⟨k0, k1, k2, k3, k4, k5⟩ := box6 hbW)
      go_roundw
      case rel => exact ⟨n + 1, s1, n + 1, by omega, by omega, by go_num, by go_num, by go_num, by rw [← HG.out, if_pos (of_decide_eq_true hsp)], hBW _ hbW⟩
      case measure => simp [intOf]; omega
    ·have hc2 : decide ((0 : Int) < (n : Int)) = true := decide_eq_true (by omega)
     have HE := Lib.hid (take_end HT HD HS (by rw [hc1, decide_eq_true h0]; rfl))
     cases hbp : decide (0 < bl)
     case false =>
      have hbp' : decide ((0 : Int) < (bl : Int)) = false := decide_eq_false (by have := of_decide_eq_false hbp; omega)
      go_wp2_with (go_at_call 60; refine (cW _).mono ?_; rintro e W ⟨rfl, hbW⟩; obtain ⟨k0, k1, k2, k3, k4, k5⟩ := box6 hbW)
      go_ret
      exact ⟨ret_int (by rw [← HE.out, if_neg (of_decide_eq_false hbp)]), hBW _ hbW⟩
     case true =>
      have hbp' : decide ((0 : Int) < (bl : Int)) = true := decide_eq_true (by have := of_decide_eq_true hbp; omega)
      go_wp2_with (go_at_call 60; refine (cW _).mono ?_; rintro e W ⟨rfl, hbW⟩; obtain ⟨k0, k1, k2, k3, k4, k5⟩ := box6 hbW)
      go_ret
      exact ⟨ret_int (by rw [← HE.out, if_pos (of_decide_eq_true hbp)]), hBW _ hbW⟩
  ·have htk' : (n : Int) = (takenS l room : Int) := by
    have h1 : l.drop n = [] := List.drop_of_length_le (by omega)
    have := htk.1
    rw [h1] at this
    exact congrArg _ this
   have hnl : n = l.length := by omega
   have HN := Lib.hid htk'
   have hbw := htk.2
   clear htk htk'
   go_wp2_with fail
   go_ret
   exact ⟨ret_int (by rw [← HN.out, hnl]), hbw⟩
end Go.Proofs.YtogidacejbjljaaGreatDoor.PTextChecks
end
