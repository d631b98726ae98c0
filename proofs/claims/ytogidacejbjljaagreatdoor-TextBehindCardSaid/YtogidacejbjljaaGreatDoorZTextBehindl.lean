/- Proved here: the given statement TextBehindCardSaid, the tied card of the law TextBehind. Conditions: none but the statement's own. -/
import Derived.Test.YtogidacejbjljaaGreatDoorCards
import Derived.Test.YtogidacejbjljaaGreatDoorTie
import Derived.Test.YtogidacejbjljaaGreatDoorZTextBehinda
import Derived.Test.YtogidacejbjljaaGreatDoorZTextBehindc
import Derived.Test.YtogidacejbjljaaGreatDoorZTextBehindi
import Derived.Test.YtogidacejbjljaaGreatDoorZTextBehindj
import Derived.WalkKit
import Derived.ProofKit
import Derived.OpenShut
import Derived.Deep.DeepHandedRow
import Derived.SevenTiedAt
import Derived.Test.YtogidacejbjljaaGreatDoorZTextBehindk
/- TextBehind: the row and the card. -/
namespace Go.Proofs.YtogidacejbjljaaGreatDoor.textBehind
open Go.Joins Go.ChangeShapes Go.WideShapes Go.ChangeAt Go.RowKit Go.Deep Go.Proofs.YtogidacejbjljaaGreatDoorW.PrintWords Go.Proofs.YtogidacejbjljaaGreatDoor.PTextChecks
set_option maxRecDepth 100000
set_option linter.unusedVariables false

theorem one25 : oneCellFields Tryz.prog #[{ name := "Layer", type := 3, offset := 0, embedded := false, tag := "", pkgPath := "", byteOffset := 0 },
    { name := "Align", type := 3, offset := 1, embedded := false, tag := "", pkgPath := "", byteOffset := 8 },
    { name := "Margin", type := 3, offset := 2, embedded := false, tag := "", pkgPath := "", byteOffset := 16 },
    { name := "Pieces", type := 23, offset := 3, embedded := false, tag := "", pkgPath := "", byteOffset := 24 }] = true := by kernel_rfl
theorem cells25 : Tryz.prog.cellsOf 25 = 4 := by kernel_rfl

/-- A cue as an argument. -/
theorem openCue {H : Type} {enc : TypeId × Value → H} {w : World} {base : Nat} {spare : Nat → Bool} {held : Bool} {r : Reach} {b0 : Nat} {v : Value} {d : DataW H} {p : List MemPlace}
  (hv : Value.okWide Tryz.prog w r b0 25 v) (h : DataW.Trod enc Tryz.prog w base spare held 25 v d p) (hL : Light 25 d) :
  ∃ (a b c : Int) (A : Option Addr) (cap : Nat) (l : List S42), v = .agg #[.int .i64 a, .int .i64 b, .int .i64 c, .slice A l.length cap] ∧ l.length ≤ cap ∧ Kd.C k42 w A l.length l ∧ l.length ≤ 140737488351232 ∧ ∀ s ∈ l, s.f0.size ≤ 140737488351232 := by
 obtain ⟨v0, v1, v2, v3, y0, y1, y2, y3, n, rfl, rfl, rfl, t0, t1, t2, t3⟩ := open_agg4 Tryz.underlying25 one25 cells25 hv h
 obtain ⟨a, e0, _⟩ := DataW.trod_int Tryz.underlying3 t0
 obtain ⟨b, e1, _⟩ := DataW.trod_int Tryz.underlying3 t1
 obtain ⟨c, e2, _⟩ := DataW.trod_int Tryz.underlying3 t2
 have hL3 : Light 23 y3.1 := by
  intro n hn
  refine hL n ?_
  unfold DataW.weights
  rw [Tryz.underlying25]
  exact DataW.weights_mem_each (j := 3) (t := 23) (d := y3.1) rfl rfl _ hn
 obtain ⟨A, cap, l, e3, h1, h2, h3, h4⟩ := openPieces t3 hL3
 simp only [List.cons.injEq, and_true] at e0 e1 e2
 subst e0 e1 e2 e3
 exact ⟨a, b, c, A, cap, l, rfl, h1, h2, h3, h4⟩

theorem light_of {H : Type} {ts : List TypeId} {ds : List (DataW H)} (h : (DataW.weightsEach Tryz.prog ts ds).all (· ≤ reachBytes) = true) (j : Nat) {t : TypeId} {d : DataW H} (ht : ts[j]? = some t) (hd : ds[j]? = some d) : Light t d :=
 fun n hn => by
  have := List.all_eq_true.1 h n (DataW.weights_mem_each ht hd n hn)
  simpa using this

theorem contract (H : Type) (enc : TypeId × Value → H) (W : World) (base : Nat) (args : Array Value) (ds gs : List (DataW H)) (before : List MemPlace)
  (hval : ∀ (j : Nat) t v, Tryz.f12.params[j]? = some t → args[j]? = some v → Value.okWide Tryz.prog W .any base t v)
  (hW : DataW.Whole enc Tryz.prog Tryz.f12.params.toList Rows.textBehindSpec.vars false W args.toList ds gs before)
  (hsz : (DataW.weightsEach Tryz.prog (Tryz.f12.params.toList ++ Rows.textBehindSpec.plain.varTypes Tryz.prog) (ds ++ gs)).all (· ≤ reachBytes) = true) :
  Calls Tryz.prog 12 args W fun e W' => ∃ v, e = .returned v ∧ Rows.textBehindSpec.post enc Tryz.prog Tryz.f12 false true false false W args v W' := by
 have hW' := hW
 obtain ⟨p, q, hA0, hV, rfl, hfz, hnd⟩ := hW
 have hA : DataW.TrodAll enc Tryz.prog W 0 (fun _ => true) true Tryz.f12.params.toList args.toList ds p := hA0
 rw [Tryz.params12] at hA hval hsz
 obtain ⟨v0, vs0, d0, ds0, p0, q0, hargs, rfl, rfl, h0, r0⟩ := trodAll_cons hA
 obtain ⟨v1, vs1, d1, ds1, p1, q1, rfl, rfl, rfl, h1, r1⟩ := trodAll_cons r0
 obtain ⟨v2, vs2, d2, ds2, p2, q2, rfl, rfl, rfl, h2, r2⟩ := trodAll_cons r1
 obtain ⟨rfl, rfl, rfl⟩ := trodAll_nil r2
 obtain rfl : args = #[v0, v1, v2] := by cases args; simp_all
 obtain ⟨rfl, rfl⟩ := trodVars_none hV
 have k0 := h0
 have lt0 : ∀ x ∈ p0, x.block < W.heap.size := by obtain ⟨m, hm⟩ := k0; exact DataW.trod_lt m _ _ _ hm
 have L0 : Light 53 d0 := light_of hsz 0 rfl rfl
 obtain ⟨A0, cap0, C0, rfl, hc0, hA0, hl0, sl0⟩ := openRow (hval 0 53 _ rfl rfl) h0 L0
 have k1 := h1
 have lt1 : ∀ x ∈ p1, x.block < W.heap.size := by obtain ⟨m, hm⟩ := k1; exact DataW.trod_lt m _ _ _ hm
 have L1 : Light 25 d1 := light_of hsz 1 rfl rfl
 obtain ⟨a1, b1, c1, A1, cap1, l1, rfl, hc1, hr1, hl1, sl1⟩ := openCue (hval 1 25 _ rfl rfl) h1 L1
 have k2 := h2
 have lt2 : ∀ x ∈ p2, x.block < W.heap.size := by obtain ⟨m, hm⟩ := k2; exact DataW.trod_lt m _ _ _ hm
 obtain ⟨n2, m2, rfl⟩ := openPair (hval 2 66 _ rfl rfl) h2
 clear hA0
 refine (law12_calls C0 A0 cap0 a1 b1 c1 A1 cap1 l1 n2 m2 W hA0 hc0 hl0 sl0 hr1 hc1 sl1).mono ?_
 rintro e W' ⟨rfl, bel⟩
 exact ⟨_, rfl, _, _, _, [], _, [], hW', trodAll_mk1 (shut_bool Tryz.underlying4 _), (trodAll_cons_mk (Below.trod textLaidOut (by kernel_rfl) (of_decide_eq_true (by kernel_rfl)) k0 bel lt0) (trodAll_cons_mk (Below.trod textLaidOut (by kernel_rfl) (of_decide_eq_true (by kernel_rfl)) k1 bel lt1) (trodAll_cons_mk (Below.trod textLaidOut (by kernel_rfl) (of_decide_eq_true (by kernel_rfl)) k2 bel lt2) trodAll_mk0))), rfl, bel.frame _, fun h => by cases h⟩

noncomputable def zeroCue : Value := .agg #[.int .i64 0, .int .i64 0, .int .i64 0, .slice none 0 0]
theorem reads (os : Os) {H : Type} (enc : TypeId × Value → H) : ∃ places, DataW.whole enc Tryz.prog ((laidWorld os).forCall (fun _ _ => 0) ⟨#[], #[.slice none 0 0, zeroCue, .agg #[.int .i64 0, .int .i64 0]], []⟩).memory Tryz.f12.params.toList Rows.textBehindSpec.vars false #[.slice none 0 0, zeroCue, .agg #[.int .i64 0, .int .i64 0]].toList 8 =
  some ([.nil, .agg [.lit (.int .i64 0), .lit (.int .i64 0), .lit (.int .i64 0), .nil], .agg [.lit (.int .i64 0), .lit (.int .i64 0)]], [], places) :=
 ⟨[], by kernel_rfl⟩

set_option maxRecDepth 100000 in
theorem lifted (os : Os) (started : os.Started) (H : Type) (enc : TypeId × Value → H) (F : Stop.Interp) :
  ReturnsInHanded {} Tryz.checked os 12 .any ((OpenSpec.ofChange Rows.textBehindSpec).preRow enc Tryz.prog Tryz.f12 Rows.textBehindRow.domain false Rows.textBehindRow.laid) (((OpenSpec.ofChange Rows.textBehindSpec).at F).post enc Tryz.prog Tryz.f12 false true false false) := by
 obtain ⟨places, hx⟩ := reads os enc
 refine returnsInHanded_of_row (C := Tryz.checked) (s := OpenSpec.ofChange Rows.textBehindSpec) textOwn started (by kernel_rfl) Tryz.func12
  (witness_row_at (enc := enc) (C := Tryz.checked) false (laidWorld os) #[.slice none 0 0, zeroCue, .agg #[.int .i64 0, .int .i64 0]] rfl (by kernel_rfl) (by kernel_rfl) (by kernel_rfl)
   (OpenSpec.preRow_of_cond 8 hx (by kernel_rfl) (fun k hk => by cases hk) (by kernel_rfl) (laid_met os _))) ?_
 intro W base args ds gs before hval hW _ _ hsz hL _ _
 exact contract H enc W base args ds gs before hval hW hsz

theorem said : Rows.TextBehindSaid :=
 OpenClaim.holds_of_cond 12 Tryz.f12 rfl rfl rfl rfl rfl rfl rfl ⟨rfl, rfl, rfl, rfl, rfl⟩ rfl rfl rfl rfl rfl (by as_aux_lemma => kernel_rfl) Tryz.func12 textBehind_facts
  (of_decide_eq_true (by as_aux_lemma => kernel_rfl)) (by unfold Func.isWrapper; first | (rw [if_pos (by decide +kernel)]; kernel_rfl) | (rw [if_neg (by decide +kernel)]; exact ⟨rfl, rfl⟩))
  (fun os started H enc _ F => by rw [OpenClaim.pre_eq_preRow]; exact lifted os started H enc F)

theorem plain (f : FuncId) (fn : Func) (hf : Tryz.pinned.checked.prog.funcNamed "diorama/dioramalaw18.TextBehind" = some f) (hfn : Tryz.pinned.checked.prog.funcs[f]? = some fn) :
  true = Tryz.pinned.checked.prog.looks [] ∧ ∀ (j : Nat) t, fn.params[j]? = some t → Tryz.pinned.checked.prog.wantsStandIn t = false := by
 obtain rfl : f = 12 := Option.some.inj ((show Tryz.prog.funcNamed "diorama/dioramalaw18.TextBehind" = some 12 by kernel_rfl).symm.trans hf) |>.symm
 obtain rfl : fn = Tryz.f12 := (Option.some.inj (Tryz.func12.symm.trans hfn)).symm
 refine ⟨by kernel_rfl, fun j t ht => ?_⟩
 rw [Tryz.params12] at ht
 have hm := Array.mem_of_getElem? ht
 simp only [List.mem_toArray, List.mem_cons, List.mem_nil_iff, or_false] at hm
 rcases hm with rfl | rfl | rfl
 ·exact (show Tryz.prog.wantsStandIn 53 = false by kernel_rfl)
 ·exact (show Tryz.prog.wantsStandIn 25 = false by kernel_rfl)
 ·exact (show Tryz.prog.wantsStandIn 66 = false by kernel_rfl)

theorem card : Rows.TextBehindCardSaid :=
 Claim7.holds_tied_plain_at .later [] _ _ _ _ said (fun _ h => by cases h) (by kernel_rfl) (fun _ h => by cases h) textBehind_row_tie rfl ⟨rfl, rfl⟩ (by kernel_rfl) rfl plain (by kernel_rfl)
end Go.Proofs.YtogidacejbjljaaGreatDoor.textBehind
namespace Go.Proofs.YtogidacejbjljaaGreatDoor
theorem textBehind_card : Rows.TextBehindCardSaid := textBehind.card
#print axioms textBehind_card
end Go.Proofs.YtogidacejbjljaaGreatDoor
