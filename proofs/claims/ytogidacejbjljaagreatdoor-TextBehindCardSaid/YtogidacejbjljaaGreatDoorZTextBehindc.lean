/- Lemmas on the way to the card of TextBehind, joined from: TextChecksy0 COpen. Conditions: as each lemma says. -/
import Derived.Test.YtogidacejbjljaaGreatDoorProg
import Derived.Below
import Derived.Deep.Draws
import Derived.Deep.AppendLies
import Derived.Maps.AppendAt
import Derived.OwnWalk
import Derived.Laws.BytesArg
import Derived.Laws.MakeOwn
import Derived.Laws.OwnMore
import Derived.Deep.OwnRows
import Derived.Tactics
import Derived.Lib.ConvBytes
import Derived.Laws.Slices
import Derived.WalkKit
import Derived.KernelRfl
import Derived.RowKit3
import Derived.Deep.LoopGhost
import Derived.Deep.QuietTactic
import Derived.BigQuiet
import Derived.WideLaws
import Derived.Deep.DeepCutAuto
import Derived.Deep.CutBlock
import Derived.Deep.RegionHeld3
import Derived.Laws.Rows
import Derived.Lib.AppendStr
import Derived.ArgAppend
import Derived.Laws.IdiomCopy
import Derived.OrdersHeld
import Derived.Laws.BitsLemmas
import Derived.RowKit
import Derived.Test.YtogidacejbjljaaGreatDoorZTextBehindb
import Derived.Lib.SmallJoins
import Derived.Deep.Slices
import Derived.Deep.Fields
import Derived.ChangeSame
import Derived.ProofKit
import Derived.SizedLaws
section
-- by the kit's print program, over a listing in which some functions are constants; their contracts are proved in other texts
namespace Go.Proofs.YtogidacejbjljaaGreatDoor.PTextChecks
open Go.RowKit Go.Proofs.YtogidacejbjljaaGreatDoorW.PrintWords Go.Proofs.YtogidacejbjljaaGreatDoorW.PrintLast Go.Proofs.YtogidacejbjljaaGreatDoorW.PrintMore
set_option linter.unusedVariables false
set_option linter.unusedSimpArgs false



def errW : Option Int → Value
 | none => .nilIface
 | some c => .iface 246 (.int .i64 c)
theorem errW_none : errW none = .nilIface := rfl
theorem errW_some (c : Int) : errW (some c) = .iface 246 (.int .i64 c) := rfl

theorem info42 : (Tryz.prog.info? 42).map (fun i => (i.zero, i.size, i.bytes)) = some (some (.agg #[(.string ⟨#[]⟩), (.bool false), (.bool false), (.bool false), (.int .i64 0), (.int .i64 0)]), 6, 40) := by kernel_rfl
-- the values' own types
/-! #### struct type 40 -/
structure S40 where
 f0 : Bool
 f1 : Bool
 f2 : Bool
 f3 : Int
 f4 : Int
def z40 : S40 := ⟨false, false, false, (0 : Int), (0 : Int)⟩
def k40 : Kd S40 := Kd.iso (Kd.pair Kd.bool (Kd.pair Kd.bool (Kd.pair Kd.bool (Kd.pair (Kd.int .i64) (Kd.int .i64))))) (fun x : S40 => (x.f0, x.f1, x.f2, x.f3, x.f4))
theorem k40_open {w : World} {x : S40} {cs : List Value} (h : k40.K w x cs) : cs = [.bool x.f0, .bool x.f1, .bool x.f2, .int .i64 x.f3, .int .i64 x.f4] := by
 obtain ⟨_, _, rfl, rfl, ⟨_, _, rfl, rfl, ⟨_, _, rfl, rfl, ⟨_, _, rfl, rfl, rfl⟩⟩⟩⟩ := h
 exact rfl
theorem k40_openM {w : World} {base : Nat} {ok : Nat → Prop} {x : S40} {cs : List Value} (h : k40.M w base ok x cs) : cs = [.bool x.f0, .bool x.f1, .bool x.f2, .int .i64 x.f3, .int .i64 x.f4] := by
 obtain ⟨_, _, rfl, rfl, ⟨_, _, rfl, rfl, ⟨_, _, rfl, rfl, ⟨_, _, rfl, rfl, rfl⟩⟩⟩⟩ := h
 exact rfl
theorem k40_mk (w : World) (x : S40)  : k40.K w x [.bool x.f0, .bool x.f1, .bool x.f2, .int .i64 x.f3, .int .i64 x.f4] := ⟨[.bool x.f0], [.bool x.f1, .bool x.f2, .int .i64 x.f3, .int .i64 x.f4], rfl, rfl, ⟨[.bool x.f1], [.bool x.f2, .int .i64 x.f3, .int .i64 x.f4], rfl, rfl, ⟨[.bool x.f2], [.int .i64 x.f3, .int .i64 x.f4], rfl, rfl, ⟨[.int .i64 x.f3], [.int .i64 x.f4], rfl, rfl, rfl⟩⟩⟩⟩
theorem k40_mkM (w : World) (base : Nat) (ok : Nat → Prop) (x : S40)  : k40.M w base ok x [.bool x.f0, .bool x.f1, .bool x.f2, .int .i64 x.f3, .int .i64 x.f4] := ⟨[.bool x.f0], [.bool x.f1, .bool x.f2, .int .i64 x.f3, .int .i64 x.f4], rfl, rfl, ⟨[.bool x.f1], [.bool x.f2, .int .i64 x.f3, .int .i64 x.f4], rfl, rfl, ⟨[.bool x.f2], [.int .i64 x.f3, .int .i64 x.f4], rfl, rfl, ⟨[.int .i64 x.f3], [.int .i64 x.f4], rfl, rfl, rfl⟩⟩⟩⟩

/-! #### struct type 42 -/
structure S42 where
 f0 : ByteArray
 f1 : S40
def z42 : S42 := ⟨(⟨#[]⟩ : ByteArray), z40⟩
def k42 : Kd S42 := Kd.iso (Kd.pair Kd.string k40) (fun x : S42 => (x.f0, x.f1))
theorem k42_open {w : World} {x : S42} {cs : List Value} (h : k42.K w x cs) : cs = [.string x.f0, .bool x.f1.f0, .bool x.f1.f1, .bool x.f1.f2, .int .i64 x.f1.f3, .int .i64 x.f1.f4] := by
 obtain ⟨_, _, rfl, rfl, s1⟩ := h
 obtain rfl := k40_open s1
 exact rfl
theorem k42_openM {w : World} {base : Nat} {ok : Nat → Prop} {x : S42} {cs : List Value} (h : k42.M w base ok x cs) : cs = [.string x.f0, .bool x.f1.f0, .bool x.f1.f1, .bool x.f1.f2, .int .i64 x.f1.f3, .int .i64 x.f1.f4] := by
 obtain ⟨_, _, rfl, rfl, s1⟩ := h
 obtain rfl := k40_openM s1
 exact rfl
theorem k42_mk (w : World) (x : S42)  : k42.K w x [.string x.f0, .bool x.f1.f0, .bool x.f1.f1, .bool x.f1.f2, .int .i64 x.f1.f3, .int .i64 x.f1.f4] := ⟨[.string x.f0], [.bool x.f1.f0, .bool x.f1.f1, .bool x.f1.f2, .int .i64 x.f1.f3, .int .i64 x.f1.f4], rfl, rfl, (k40_mk w x.f1 )⟩
theorem k42_mkM (w : World) (base : Nat) (ok : Nat → Prop) (x : S42)  : k42.M w base ok x [.string x.f0, .bool x.f1.f0, .bool x.f1.f1, .bool x.f1.f2, .int .i64 x.f1.f3, .int .i64 x.f1.f4] := ⟨[.string x.f0], [.bool x.f1.f0, .bool x.f1.f1, .bool x.f1.f2, .int .i64 x.f1.f3, .int .i64 x.f1.f4], rfl, rfl, (k40_mkM w base ok x.f1 )⟩
def rd_T42 (xs : List S42) (i : Int) : S42 := xs.getD i.toNat z42
theorem at_T42 {w : World} {A : Option Addr} {n : Nat} {xs : List S42} (h : Kd.C k42 w A n xs) (i : Int) (h0 : 0 ≤ i) (h1 : i < n) : ∃ ad , A = some ad ∧ w.cell? (ad.add (i.toNat * 6)) = some (.string (rd_T42 xs i).f0) ∧ w.cell? ⟨(ad.add (i.toNat * 6)).block, (ad.add (i.toNat * 6)).off + 1, none⟩ = some (.bool (rd_T42 xs i).f1.f0) ∧ w.cell? ⟨(ad.add (i.toNat * 6)).block, (ad.add (i.toNat * 6)).off + 2, none⟩ = some (.bool (rd_T42 xs i).f1.f1) ∧ w.cell? ⟨(ad.add (i.toNat * 6)).block, (ad.add (i.toNat * 6)).off + 3, none⟩ = some (.bool (rd_T42 xs i).f1.f2) ∧ w.cell? ⟨(ad.add (i.toNat * 6)).block, (ad.add (i.toNat * 6)).off + 4, none⟩ = some (.int .i64 (rd_T42 xs i).f1.f3) ∧ w.cell? ⟨(ad.add (i.toNat * 6)).block, (ad.add (i.toNat * 6)).off + 5, none⟩ = some (.int .i64 (rd_T42 xs i).f1.f4) := by
 obtain ⟨ad, c, e, _, hK, hc0⟩ := Kd.C_get h z42 i h0 h1
 have hc : ∀ j u, c[j]? = some u → w.cell? (ad.add (i.toNat * 6 + j)) = some u := hc0
 obtain rfl := k42_open hK
 exact ⟨ad, e, hc 0 _ rfl, by rw [← add_field _ _ 1 (by omega)]; exact hc 1 _ rfl, by rw [← add_field _ _ 2 (by omega)]; exact hc 2 _ rfl, by rw [← add_field _ _ 3 (by omega)]; exact hc 3 _ rfl, by rw [← add_field _ _ 4 (by omega)]; exact hc 4 _ rfl, by rw [← add_field _ _ 5 (by omega)]; exact hc 5 _ rfl⟩

/-! #### struct type 81 -/
structure S81 where
 f0 : Int
 f1 : S40
def z81 : S81 := ⟨(0 : Int), z40⟩
def k81 : Kd S81 := Kd.iso (Kd.pair (Kd.int .u8) k40) (fun x : S81 => (x.f0, x.f1))
theorem k81_open {w : World} {x : S81} {cs : List Value} (h : k81.K w x cs) : cs = [.int .u8 x.f0, .bool x.f1.f0, .bool x.f1.f1, .bool x.f1.f2, .int .i64 x.f1.f3, .int .i64 x.f1.f4] := by
 obtain ⟨_, _, rfl, rfl, s1⟩ := h
 obtain rfl := k40_open s1
 exact rfl
theorem k81_mk (w : World) (x : S81)  : k81.K w x [.int .u8 x.f0, .bool x.f1.f0, .bool x.f1.f1, .bool x.f1.f2, .int .i64 x.f1.f3, .int .i64 x.f1.f4] := ⟨[.int .u8 x.f0], [.bool x.f1.f0, .bool x.f1.f1, .bool x.f1.f2, .int .i64 x.f1.f3, .int .i64 x.f1.f4], rfl, rfl, (k40_mk w x.f1 )⟩
def rd_T81 (xs : List S81) (i : Int) : S81 := xs.getD i.toNat z81
theorem at_T81 {w : World} {A : Option Addr} {n : Nat} {xs : List S81} (h : Kd.C k81 w A n xs) (i : Int) (h0 : 0 ≤ i) (h1 : i < n) : ∃ ad , A = some ad ∧ w.cell? (ad.add (i.toNat * 6)) = some (.int .u8 (rd_T81 xs i).f0) ∧ w.cell? ⟨(ad.add (i.toNat * 6)).block, (ad.add (i.toNat * 6)).off + 1, none⟩ = some (.bool (rd_T81 xs i).f1.f0) ∧ w.cell? ⟨(ad.add (i.toNat * 6)).block, (ad.add (i.toNat * 6)).off + 2, none⟩ = some (.bool (rd_T81 xs i).f1.f1) ∧ w.cell? ⟨(ad.add (i.toNat * 6)).block, (ad.add (i.toNat * 6)).off + 3, none⟩ = some (.bool (rd_T81 xs i).f1.f2) ∧ w.cell? ⟨(ad.add (i.toNat * 6)).block, (ad.add (i.toNat * 6)).off + 4, none⟩ = some (.int .i64 (rd_T81 xs i).f1.f3) ∧ w.cell? ⟨(ad.add (i.toNat * 6)).block, (ad.add (i.toNat * 6)).off + 5, none⟩ = some (.int .i64 (rd_T81 xs i).f1.f4) := by
 obtain ⟨ad, c, e, _, hK, hc0⟩ := Kd.C_get h z81 i h0 h1
 have hc : ∀ j u, c[j]? = some u → w.cell? (ad.add (i.toNat * 6 + j)) = some u := hc0
 obtain rfl := k81_open hK
 exact ⟨ad, e, hc 0 _ rfl, by rw [← add_field _ _ 1 (by omega)]; exact hc 1 _ rfl, by rw [← add_field _ _ 2 (by omega)]; exact hc 2 _ rfl, by rw [← add_field _ _ 3 (by omega)]; exact hc 3 _ rfl, by rw [← add_field _ _ 4 (by omega)]; exact hc 4 _ rfl, by rw [← add_field _ _ 5 (by omega)]; exact hc 5 _ rfl⟩

end Go.Proofs.YtogidacejbjljaaGreatDoor.PTextChecks
end
section
/- The arguments of the text laws, opened: a cue is three numbers and a row of pieces. -/
namespace Go.Proofs.YtogidacejbjljaaGreatDoor.PTextChecks
open Go.Joins Go.ChangeShapes Go.WideShapes Go.RowKit Go.Deep Go.Proofs.YtogidacejbjljaaGreatDoorW.PrintWords
set_option linter.unusedVariables false

variable {H : Type} {enc : TypeId × Value → H} {w : World} {base : Nat} {spare : Nat → Bool} {held : Bool}

theorem cells40 : Tryz.prog.cellsOf 40 = 5 := by kernel_rfl
theorem cells42 : Tryz.prog.cellsOf 42 = 6 := by kernel_rfl
theorem bytes42 : Tryz.prog.bytesOf 42 = 40 := by kernel_rfl
theorem cells3 : Tryz.prog.cellsOf 3 = 1 := by kernel_rfl
theorem cells4 : Tryz.prog.cellsOf 4 = 1 := by kernel_rfl
theorem cells9 : Tryz.prog.cellsOf 9 = 1 := by kernel_rfl

theorem list5 {α : Type} {l : List α} (h : l.length = 5) : ∃ a b c d e, l = [a, b, c, d, e] := by
 match l, h with
 | [a, b, c, d, e], _ => exact ⟨a, b, c, d, e, rfl⟩
theorem list6 {α : Type} {l : List α} (h : l.length = 6) : ∃ a b c d e f, l = [a, b, c, d, e, f] := by
 match l, h with
 | [a, b, c, d, e, f], _ => exact ⟨a, b, c, d, e, f, rfl⟩
theorem someAt {α : Type} {xs : List α} {n : Nat} (h : xs.length = n) (i : Nat) (hi : i < n) : ∃ y, xs[i]? = some y := ⟨xs[i]'(by omega), List.getElem?_eq_getElem (by omega)⟩

theorem open40 {fuel : Nat} {cs : List Value} {x : DataW H × List MemPlace} (h : DataW.trod enc Tryz.prog w base spare held fuel 40 cs = some x) : ∃ s : S40, k40.K w s cs := by
 obtain ⟨xs, n, _, _, hlen, hxl, hf⟩ := DataW.trod_struct Tryz.underlying40 h
 rw [cells40] at hlen
 obtain ⟨c0, c1, c2, c3, c4, rfl⟩ := list5 hlen
 have hxl : xs.length = 5 := hxl
 obtain ⟨y0, g0⟩ := someAt hxl 0 (by omega)
 obtain ⟨y1, g1⟩ := someAt hxl 1 (by omega)
 obtain ⟨y2, g2⟩ := someAt hxl 2 (by omega)
 obtain ⟨y3, g3⟩ := someAt hxl 3 (by omega)
 obtain ⟨y4, g4⟩ := someAt hxl 4 (by omega)
 have f0 : DataW.trod enc Tryz.prog w base spare held n 4 [c0] = some y0 := by
  have h := (hf 0 _ rfl).trans g0
  change DataW.trod enc Tryz.prog w base spare held n 4 (List.take (Tryz.prog.cellsOf 4) _) = _ at h
  rw [cells4] at h
  exact h
 have f1 : DataW.trod enc Tryz.prog w base spare held n 4 [c1] = some y1 := by
  have h := (hf 1 _ rfl).trans g1
  change DataW.trod enc Tryz.prog w base spare held n 4 (List.take (Tryz.prog.cellsOf 4) _) = _ at h
  rw [cells4] at h
  exact h
 have f2 : DataW.trod enc Tryz.prog w base spare held n 4 [c2] = some y2 := by
  have h := (hf 2 _ rfl).trans g2
  change DataW.trod enc Tryz.prog w base spare held n 4 (List.take (Tryz.prog.cellsOf 4) _) = _ at h
  rw [cells4] at h
  exact h
 have f3 : DataW.trod enc Tryz.prog w base spare held n 3 [c3] = some y3 := by
  have h := (hf 3 _ rfl).trans g3
  change DataW.trod enc Tryz.prog w base spare held n 3 (List.take (Tryz.prog.cellsOf 3) _) = _ at h
  rw [cells3] at h
  exact h
 have f4 : DataW.trod enc Tryz.prog w base spare held n 3 [c4] = some y4 := by
  have h := (hf 4 _ rfl).trans g4
  change DataW.trod enc Tryz.prog w base spare held n 3 (List.take (Tryz.prog.cellsOf 3) _) = _ at h
  rw [cells3] at h
  exact h
 obtain ⟨b0, e0, _⟩ := DataW.trod_bool Tryz.underlying4 f0
 obtain ⟨b1, e1, _⟩ := DataW.trod_bool Tryz.underlying4 f1
 obtain ⟨b2, e2, _⟩ := DataW.trod_bool Tryz.underlying4 f2
 obtain ⟨n3, e3, _⟩ := DataW.trod_int Tryz.underlying3 f3
 obtain ⟨n4, e4, _⟩ := DataW.trod_int Tryz.underlying3 f4
 simp only [List.cons.injEq, and_true] at e0 e1 e2 e3 e4
 subst e0 e1 e2 e3 e4
 exact ⟨⟨b0, b1, b2, n3, n4⟩, k40_mk w _⟩
theorem weights_mem_all {P : Program} {e : TypeId} {d : DataW H} {n : Nat} (hn : n ∈ d.weights P e) : ∀ {l : List (DataW H)}, d ∈ l → n ∈ DataW.weightsAll P e l
 | [], h => absurd h (by simp)
 | x :: l, h => by
  unfold DataW.weightsAll
  rcases List.mem_cons.1 h with rfl | h
  ·exact List.mem_append_left _ hn
  ·exact List.mem_append_right _ (weights_mem_all hn h)
/-- No weight of a datum is beyond what a machine can hold. -/
def Light (t : TypeId) (d : DataW H) : Prop := ∀ n ∈ d.weights Tryz.prog t, n ≤ reachBytes

theorem open42 {fuel : Nat} {cs : List Value} {x : DataW H × List MemPlace} (h : DataW.trod enc Tryz.prog w base spare held fuel 42 cs = some x) (hL : Light 42 x.1) : ∃ s : S42, k42.K w s cs ∧ s.f0.size ≤ reachBytes := by
 obtain ⟨xs, n, _, hx, hlen, hxl, hf⟩ := DataW.trod_struct Tryz.underlying42 h
 rw [cells42] at hlen
 obtain ⟨c0, c1, c2, c3, c4, c5, rfl⟩ := list6 hlen
 have hxl : xs.length = 2 := hxl
 obtain ⟨y0, g0⟩ := someAt hxl 0 (by omega)
 obtain ⟨y1, g1⟩ := someAt hxl 1 (by omega)
 have f0 : DataW.trod enc Tryz.prog w base spare held n 9 [c0] = some y0 := by
  have h := (hf 0 _ rfl).trans g0
  change DataW.trod enc Tryz.prog w base spare held n 9 (List.take (Tryz.prog.cellsOf 9) _) = _ at h
  rw [cells9] at h
  exact h
 have f1 : DataW.trod enc Tryz.prog w base spare held n 40 [c1, c2, c3, c4, c5] = some y1 := by
  have h := (hf 1 _ rfl).trans g1
  change DataW.trod enc Tryz.prog w base spare held n 40 (List.take (Tryz.prog.cellsOf 40) _) = _ at h
  rw [cells40] at h
  exact h
 obtain ⟨s, e0, ey, _⟩ := DataW.trod_string Tryz.underlying9 f0
 have hs : s.size ≤ reachBytes := by
  refine hL s.size ?_
  rw [hx]
  simp only [DataW.weights, Tryz.underlying42]
  refine DataW.weights_mem_each (j := 0) (t := 9) (d := y0.1) rfl (by rw [List.getElem?_map, g0]; rfl) _ ?_
  rw [ey]
  unfold DataW.weights
  exact List.mem_singleton.2 (by rw [Array.length_toList]; rfl)
 obtain ⟨y, hy⟩ := open40 f1
 simp only [List.cons.injEq, and_true] at e0
 subst e0
 exact ⟨⟨s, y⟩, ⟨[.string s], _, rfl, rfl, hy⟩, hs⟩
/-- A row of pieces. -/
theorem openPieces {fuel : Nat} {v : Value} {x : DataW H × List MemPlace} (h : DataW.trod enc Tryz.prog w base spare held fuel 23 [v] = some x) (hL : Light 23 x.1) :
  ∃ (A : Option Addr) (c : Nat) (l : List S42), v = .slice A l.length c ∧ l.length ≤ c ∧ Kd.C k42 w A l.length l ∧ l.length ≤ 140737488351232 ∧ ∀ s ∈ l, s.f0.size ≤ 140737488351232 := by
 rcases open_slice Tryz.underlying23 h with ⟨hv, _⟩ | ⟨a, len, cap, m, n, D, Pl, hv, _, hl, hm, hmm, hx, hi⟩
 ·simp only [List.cons.injEq, and_true] at hv
  exact ⟨none, 0, [], hv, Nat.le_refl _, ⟨rfl, by simp, fun h => absurd h (by simp)⟩, by simp, fun s hs => absurd hs (by simp)⟩
 ·simp only [List.cons.injEq, and_true] at hv
  have hlm : len ≤ m := by rw [hmm]; split <;> omega
  have hw : ∀ i, i < len → Light 42 (D i) := by
   intro i hil n hn
   refine hL n ?_
   rw [hx]
   simp only [DataW.weights, Tryz.underlying23]
   exact List.mem_cons_of_mem _ (List.mem_append_left _ (weights_mem_all hn (List.mem_map.2 ⟨i, List.mem_range.2 hil, rfl⟩)))
  have hr : reachBytes = 140737488351232 := by unfold reachBytes; decide
  have hlen0 : len ≤ 140737488351232 := by
   have := hL ((((List.range len).map D).length + ((List.range (m - len)).map fun j => D (len + j)).length) * Tryz.prog.bytesOf 42) (by
    rw [hx]
    simp only [DataW.weights, Tryz.underlying23]
    exact List.mem_cons_self)
   rw [bytes42, List.length_map, List.length_range, List.length_map, List.length_range, hr] at this
   omega
  have key : ∀ i, i < len → ∃ s : S42, (∃ c, c.length = 6 ∧ k42.K w s c ∧ ∀ j u, c[j]? = some u → w.cell? (a.add (i * 6 + j)) = some u) ∧ s.f0.size ≤ 140737488351232 := by
   intro i hil
   obtain ⟨cs', hc, ht⟩ := hi i (by omega)
   rw [cells42] at hc
   obtain ⟨s, hs, hsz⟩ := open42 ht (hw i hil)
   obtain ⟨_, hcl, hat⟩ := World.cells?_some hc
   refine ⟨s, ⟨cs', hcl, hs, fun j u hj => ?_⟩, hsz⟩
   have hj6 : j < 6 := by rw [← hcl]; exact (List.getElem?_eq_some_iff.1 hj).1
   rw [← Go.Deep.add_add, hat j hj6, hj]
  let f : Nat → S42 := fun i => if h : i < len then Classical.choose (key i h) else z42
  have hf : ∀ i, i < len → (∃ c, c.length = 6 ∧ k42.K w (f i) c ∧ ∀ j u, c[j]? = some u → w.cell? (a.add (i * 6 + j)) = some u) ∧ (f i).f0.size ≤ 140737488351232 := by
   intro i hil
   have := Classical.choose_spec (key i hil)
   simp only [f, dif_pos hil]
   exact this
  have hlen : ((List.range len).map f).length = len := by simp
  refine ⟨some a, cap, (List.range len).map f, by rw [hlen]; exact hv, by rw [hlen]; exact hl, ?_, by rw [hlen]; exact hlen0, ?_⟩
  ·rw [hlen]
   refine ⟨hlen, by omega, fun _ => ⟨a, rfl, fun j p hp => ?_⟩⟩
   have hj : j < len := by rw [← hlen]; exact (List.getElem?_eq_some_iff.1 hp).1
   have hpj : p = f j := by
    rw [List.getElem?_map, List.getElem?_range hj] at hp
    simpa using hp.symm
   rw [hpj]
   exact (hf j hj).1
  ·intro s hs
   obtain ⟨i, hi2, rfl⟩ := List.mem_map.1 hs
   exact (hf i (List.mem_range.1 hi2)).2
end Go.Proofs.YtogidacejbjljaaGreatDoor.PTextChecks
end
