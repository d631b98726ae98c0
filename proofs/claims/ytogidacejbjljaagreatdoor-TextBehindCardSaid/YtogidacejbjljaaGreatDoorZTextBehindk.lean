/- Lemmas on the way to the card of TextBehind, joined from: CCue CPair. Conditions: as each lemma says. -/
import Derived.Test.YtogidacejbjljaaGreatDoorZTextBehindc
import Derived.Test.YtogidacejbjljaaGreatDoorZTextBehindi
import Derived.OpenShut
section
/- A row of cues as an argument, opened. -/
set_option linter.unusedVariables false
namespace Go.Proofs.YtogidacejbjljaaGreatDoor.PTextChecks
open Go.Joins Go.ChangeShapes Go.WideShapes Go.RowKit Go.Deep Go.Proofs.YtogidacejbjljaaGreatDoorW.PrintWords
variable {H : Type} {enc : TypeId × Value → H} {w : World} {base : Nat} {spare : Nat → Bool} {held : Bool}
theorem cells25' : Tryz.prog.cellsOf 25 = 4 := by kernel_rfl
theorem cells23' : Tryz.prog.cellsOf 23 = 1 := by kernel_rfl
theorem bytes25' : Tryz.prog.bytesOf 25 = 48 := by kernel_rfl
theorem list4 {α : Type} {l : List α} (h : l.length = 4) : ∃ a b c d, l = [a, b, c, d] := by
 match l, h with
 | [a, b, c, d], _ => exact ⟨a, b, c, d, rfl⟩
/-- The cells of a cue. -/
theorem open25 {fuel : Nat} {cs : List Value} {x : DataW H × List MemPlace} (h : DataW.trod enc Tryz.prog w base spare held fuel 25 cs = some x) (hL : Light 25 x.1) :
  ∃ (q : Cu) (A : Option Addr) (c : Nat), cs = [.int .i64 q.a, .int .i64 q.b, .int .i64 q.c, .slice A q.l.length c] ∧ q.l.length ≤ c ∧ Kd.C k42 w A q.l.length q.l ∧ ∀ s ∈ q.l, s.f0.size ≤ 140737488351232 := by
 obtain ⟨xs, n, _, hx, hlen, hxl, hf⟩ := DataW.trod_struct Tryz.underlying25 h
 rw [cells25'] at hlen
 obtain ⟨v0, v1, v2, v3, rfl⟩ := list4 hlen
 have hxl : xs.length = 4 := hxl
 obtain ⟨y0, g0⟩ := someAt hxl 0 (by omega)
 obtain ⟨y1, g1⟩ := someAt hxl 1 (by omega)
 obtain ⟨y2, g2⟩ := someAt hxl 2 (by omega)
 obtain ⟨y3, g3⟩ := someAt hxl 3 (by omega)
 have f0 : DataW.trod enc Tryz.prog w base spare held n 3 [v0] = some y0 := by
  have h := (hf 0 _ rfl).trans g0
  change DataW.trod enc Tryz.prog w base spare held n 3 (List.take (Tryz.prog.cellsOf 3) _) = _ at h
  rw [cells3] at h
  exact h
 have f1 : DataW.trod enc Tryz.prog w base spare held n 3 [v1] = some y1 := by
  have h := (hf 1 _ rfl).trans g1
  change DataW.trod enc Tryz.prog w base spare held n 3 (List.take (Tryz.prog.cellsOf 3) _) = _ at h
  rw [cells3] at h
  exact h
 have f2 : DataW.trod enc Tryz.prog w base spare held n 3 [v2] = some y2 := by
  have h := (hf 2 _ rfl).trans g2
  change DataW.trod enc Tryz.prog w base spare held n 3 (List.take (Tryz.prog.cellsOf 3) _) = _ at h
  rw [cells3] at h
  exact h
 have f3 : DataW.trod enc Tryz.prog w base spare held n 23 [v3] = some y3 := by
  have h := (hf 3 _ rfl).trans g3
  change DataW.trod enc Tryz.prog w base spare held n 23 (List.take (Tryz.prog.cellsOf 23) _) = _ at h
  rw [cells23'] at h
  exact h
 obtain ⟨a, e0, _⟩ := DataW.trod_int Tryz.underlying3 f0
 obtain ⟨b, e1, _⟩ := DataW.trod_int Tryz.underlying3 f1
 obtain ⟨c, e2, _⟩ := DataW.trod_int Tryz.underlying3 f2
 have hL3 : Light 23 y3.1 := by
  intro m hm
  refine hL m ?_
  rw [hx]
  simp only [DataW.weights, Tryz.underlying25]
  exact DataW.weights_mem_each (j := 3) (t := 23) (d := y3.1) rfl (by rw [List.getElem?_map, g3]; rfl) _ hm
 obtain ⟨A, cap, l, e3, h1, h2, h3, h4⟩ := openPieces f3 hL3
 simp only [List.cons.injEq, and_true] at e0 e1 e2 e3
 subst e0 e1 e2 e3
 exact ⟨⟨a, b, c, l⟩, A, cap, rfl, h1, h2, h4⟩
def z25 : Cu := ⟨0, 0, 0, []⟩
/-- A row of cues. -/
theorem openCues {fuel : Nat} {v : Value} {x : DataW H × List MemPlace} (h : DataW.trod enc Tryz.prog w base spare held fuel 53 [v] = some x) (hL : Light 53 x.1) :
  ∃ (A : Option Addr) (c : Nat) (C : List Cu), v = .slice A C.length c ∧ C.length ≤ c ∧ CuesIn w A C ∧ C.length ≤ 140737488351232 ∧ ∀ q ∈ C, ∀ s ∈ q.l, s.f0.size ≤ 140737488351232 := by
 rcases open_slice Tryz.underlying53 h with ⟨hv, _⟩ | ⟨a, len, cap, m, n, D, Pl, hv, _, hl, hm, hmm, hx, hi⟩
 ·simp only [List.cons.injEq, and_true] at hv
  exact ⟨none, 0, [], hv, Nat.le_refl _, fun k q h => by simp at h, by simp, fun s hs => absurd hs (by simp)⟩
 ·simp only [List.cons.injEq, and_true] at hv
  have hlm : len ≤ m := by rw [hmm]; split <;> omega
  have hw : ∀ i, i < len → Light 25 (D i) := by
   intro i hil n hn
   refine hL n ?_
   rw [hx]
   simp only [DataW.weights, Tryz.underlying53]
   exact List.mem_cons_of_mem _ (List.mem_append_left _ (weights_mem_all hn (List.mem_map.2 ⟨i, List.mem_range.2 hil, rfl⟩)))
  have hr : reachBytes = 140737488351232 := by unfold reachBytes; decide
  have hlen0 : len ≤ 140737488351232 := by
   have := hL ((((List.range len).map D).length + ((List.range (m - len)).map fun j => D (len + j)).length) * Tryz.prog.bytesOf 25) (by
    rw [hx]
    simp only [DataW.weights, Tryz.underlying53]
    exact List.mem_cons_self)
   rw [bytes25', List.length_map, List.length_range, List.length_map, List.length_range, hr] at this
   omega
  have key : ∀ i, i < len → ∃ q : Cu, (∃ A c, (∀ j u, [Value.int .i64 q.a, .int .i64 q.b, .int .i64 q.c, .slice A q.l.length c][j]? = some u → w.cell? (a.add (i * 4 + j)) = some u) ∧ q.l.length ≤ c ∧ Kd.C k42 w A q.l.length q.l) ∧ ∀ s ∈ q.l, s.f0.size ≤ 140737488351232 := by
   intro i hil
   obtain ⟨cs', hc, ht⟩ := hi i (by omega)
   rw [cells25'] at hc
   obtain ⟨q, A, c, rfl, h1, h2, h3⟩ := open25 ht (hw i hil)
   obtain ⟨_, hcl, hat⟩ := World.cells?_some hc
   refine ⟨q, ⟨A, c, fun j u hj => ?_, h1, h2⟩, h3⟩
   have hj4 : j < 4 := (List.getElem?_eq_some_iff.1 hj).1
   rw [← Go.Deep.add_add, hat j hj4, hj]
  let f : Nat → Cu := fun i => if h : i < len then Classical.choose (key i h) else z25
  have hf : ∀ i, i < len → (∃ A c, (∀ j u, [Value.int .i64 (f i).a, .int .i64 (f i).b, .int .i64 (f i).c, .slice A (f i).l.length c][j]? = some u → w.cell? (a.add (i * 4 + j)) = some u) ∧ (f i).l.length ≤ c ∧ Kd.C k42 w A (f i).l.length (f i).l) ∧ ∀ s ∈ (f i).l, s.f0.size ≤ 140737488351232 := by
   intro i hil
   have := Classical.choose_spec (key i hil)
   simp only [f, dif_pos hil]
   exact this
  have hlen : ((List.range len).map f).length = len := by simp
  refine ⟨some a, cap, (List.range len).map f, by rw [hlen]; exact hv, by rw [hlen]; exact hl, ?_, by rw [hlen]; exact hlen0, ?_⟩
  ·intro k q hq
   have hk : k < len := by rw [← hlen]; exact (List.getElem?_eq_some_iff.1 hq).1
   have hqf : q = f k := by
    rw [List.getElem?_map, List.getElem?_range hk] at hq
    simpa using hq.symm
   subst hqf
   obtain ⟨⟨A, c, h1, h2, h3⟩, _⟩ := hf k hk
   exact ⟨a, A, c, rfl, h1 0 _ rfl, by rw [← add_field _ _ 1 (by omega)]; exact h1 1 _ rfl, by rw [← add_field _ _ 2 (by omega)]; exact h1 2 _ rfl, by rw [← add_field _ _ 3 (by omega)]; exact h1 3 _ rfl, h2, h3⟩
  ·intro q hq
   obtain ⟨i, hi2, rfl⟩ := List.mem_map.1 hq
   exact (hf i (List.mem_range.1 hi2)).2
set_option maxRecDepth 100000 in
theorem openRow {r : Reach} {b0 : Nat} {v : Value} {d : DataW H} {p : List MemPlace} (hv : Value.okWide Tryz.prog w r b0 53 v) (hd : DataW.Trod enc Tryz.prog w base spare held 53 v d p) (hL : Light 53 d) :
  ∃ (A : Option Addr) (c : Nat) (C : List Cu), v = .slice A C.length c ∧ C.length ≤ c ∧ CuesIn w A C ∧ C.length ≤ 140737488351232 ∧ ∀ q ∈ C, ∀ s ∈ q.l, s.f0.size ≤ 140737488351232 := by
 obtain ⟨a, n, c, rfl⟩ := okWide_slice Tryz.underlying53 hv
 obtain ⟨m, hm⟩ := hd
 exact openCues hm hL
end Go.Proofs.YtogidacejbjljaaGreatDoor.PTextChecks
end
section
/- An array of two ints as an argument, opened. -/
set_option linter.unusedVariables false
namespace Go.Proofs.YtogidacejbjljaaGreatDoor.PTextChecks
open Go.Joins Go.ChangeShapes Go.WideShapes Go.RowKit Go.Deep Go.Proofs.YtogidacejbjljaaGreatDoorW.PrintWords
variable {H : Type} {enc : TypeId × Value → H} {w : World} {base : Nat} {spare : Nat → Bool} {held : Bool}
theorem under66 : Tryz.prog.underlying 66 = some (.array 2 3) := by kernel_rfl
theorem cells66 : Tryz.prog.cellsOf 66 = 2 := by kernel_rfl
theorem cells3' : Tryz.prog.cellsOf 3 = 1 := by kernel_rfl
set_option maxRecDepth 100000 in
theorem openPair {r : Reach} {b0 : Nat} {v : Value} {d : DataW H} {p : List MemPlace} (hv : Value.okWide Tryz.prog w r b0 66 v) (hd : DataW.Trod enc Tryz.prog w base spare held 66 v d p) :
  ∃ n m : Int, v = .agg #[.int .i64 n, .int .i64 m] := by
 simp only [Value.okWide, under66] at hv
 obtain ⟨cs, rfl, h2, _⟩ := hv
 obtain ⟨fuel, hf⟩ := hd
 obtain ⟨xs, m, _, hx, hlen, hxl, hf⟩ := DataW.trod_array under66 hf
 obtain ⟨cl⟩ := cs
 have hcl : cl.length = 2 := by rw [cells66] at hlen; exact hlen
 match cl, hcl with
 | [v0, v1], _ =>
  match xs, hxl with
  | [y0, y1], _ =>
   have g0 := hf 0 (by omega)
   have g1 := hf 1 (by omega)
   rw [cells3'] at g0 g1
   obtain ⟨a, e0, _⟩ := DataW.trod_int Tryz.underlying3 (show DataW.trod enc Tryz.prog w base spare held m 3 [v0] = some y0 from g0)
   obtain ⟨b, e1, _⟩ := DataW.trod_int Tryz.underlying3 (show DataW.trod enc Tryz.prog w base spare held m 3 [v1] = some y1 from g1)
   simp only [List.cons.injEq, and_true] at e0 e1
   subst e0 e1
   exact ⟨a, b, rfl⟩
end Go.Proofs.YtogidacejbjljaaGreatDoor.PTextChecks
end
