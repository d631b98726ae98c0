/- Lemmas on the way to the card of TextLays, joined from: LLost LRow LLay TLaw LCom ALaw LEqP LRBlk LMeet LRun LRLay LLaw. Conditions: as each lemma says. -/
import Derived.Outline
import Derived.Sort.WalkA
import Derived.Test.YtogidacejbjljaaGreatDoorZTextLaysi
import Derived.WalkMore
import Derived.Deep.LoopGhost
import Derived.Test.YtogidacejbjljaaGreatDoorZTextLaysh
import Derived.BigQuiet
import Derived.BigGuard
import Derived.Deep.QuietTactic
import Derived.OwnWalk
import Derived.Laws.OwnMore
import Derived.Deep.Draws
import Derived.Deep.RegionLaw
section
/- slices.Sort over the lost cues. -/
set_option linter.unusedVariables false
set_option linter.unusedSimpArgs false
namespace Go.Proofs.YtogidacejbjljaaGreatDoor.PTextChecks
open Go.RowKit Go.Mix Go.Own Go.Sort Go.Proofs.YtogidacejbjljaaGreatDoorW.PrintWords Go.Proofs.YtogidacejbjljaaGreatDoorW.PrintLast Go.Proofs.YtogidacejbjljaaGreatDoorW.PrintMore
theorem isNaN_calls (x : Int) (w : World) : Calls Tryz.prog 167 #[.int .i64 x] w fun e w' => e = .returned (.bool false) ∧ w' = w := by
 go_enter Tryz.func167, Tryz.ntmps167
 go_wp2
 go_ret
 exact ⟨by simp, rfl⟩
set_option maxHeartbeats 1000000 in
theorem less_calls (x y : Nat) (w : World) : Calls Tryz.prog 138 #[.int .i64 x, .int .i64 y] w fun e w' => e = .returned (.bool (decide (x < y))) ∧ w' = w := by
 go_enter Tryz.func138, Tryz.ntmps138
 go_wp2_with (go_at_call 167; refine (isNaN_calls _ _).mono ?_; rintro e w' ⟨rfl, hw⟩; rw [hw]; clear hw w')
 go_ret
 exact ⟨rfl, rfl⟩
set_option maxHeartbeats 4000000 in
set_option maxRecDepth 100000 in
theorem insOrd_calls (nn : Nat) (X : List Nat) (hnd : X.Nodup) (hlt0 : ∀ k ∈ X, k < nn) (hXl : X.length ≤ 8) (blk off cap : Nat) (w : World) (d : Array Nat) (hd : d.toList = X) (hH : Holds encN w blk off d) :
  Calls Tryz.prog 132 #[.slice (some ⟨blk, off, none⟩) X.length cap, .int .i64 0, .int .i64 X.length] w fun e w' => e = .returned (.tuple #[]) ∧ ∃ n dk, dk.toList = riseF nn X ∧ w' = putRow encN (Sort.ahead w n) blk off dk := by
 have hsz : d.size = X.length := by rw [← Array.length_toList, hd]
 have HH := Lib.hid hH
 have HSZ := Lib.hid hsz
 go_enter Tryz.func132, Tryz.ntmps132
 go_wp2
 go_loopw [6] (fun vi wr => ∃ (i n : Nat) (dk : Array Nat), vi = .int .i64 i ∧ 1 ≤ i ∧ i ≤ X.length + 1 ∧ (i ≤ X.length → dk.toList = riseF nn (X.take i) ++ X.drop i) ∧ (X.length < i → dk.toList = riseF nn X) ∧ dk.size = d.size ∧ wr = putRow encN (Sort.ahead w n) blk off dk) (fun vi _ => X.length + 1 - (intOf vi).toNat)
 case atStart =>
  refine ⟨1, 0, d, by go_num, by omega, by omega, fun h1 => ?_, fun h1 => ?_, rfl, (putRow_self _ _ _ _ _ hH).symm⟩
  ·obtain ⟨x, r, hx⟩ : ∃ x r, X = x :: r := by
    cases X with
    | nil => simp at h1
    | cons x r => exact ⟨x, r, rfl⟩
   subst hx
   have this : riseF nn [x] = [x] := (riseF_step nn [] x (hlt0 x (by simp)) (by simp) (Q := [x]) ⟨[], [], by simp [riseF], rfl, fun b hb => by simp at hb, fun a ha => by simp at ha⟩).symm
   rw [hd]
   show x :: r = riseF nn [x] ++ r
   rw [this]
   rfl
  ·have h0 : X = [] := List.eq_nil_of_length_eq_zero (by omega)
   rw [hd, h0]
   simp [riseF]
 case round =>
  obtain ⟨i, n, dk, rfl, hi1, hi2, hO, hE, hsk, hwr⟩ := hrel
  by_cases hlt : i < X.length
  ·have hO := hO (by omega)
   obtain ⟨x, hxi⟩ : ∃ x, X[i]? = some x := ⟨_, List.getElem?_eq_getElem hlt⟩
   have hxe : X[i] = x := by rw [List.getElem?_eq_getElem hlt] at hxi; exact Option.some.inj hxi
   have hro : X.drop i = x :: X.drop (i + 1) := by rw [List.drop_eq_getElem_cons hlt, hxe]
   have htk : X.take (i + 1) = X.take i ++ [x] := by rw [List.take_succ_eq_append_getElem hlt, hxe]
   rw [hro] at hO
   have hxm : x ∈ X := List.mem_of_getElem? hxi
   have hxn : x ∉ X.take i := by
    intro hm
    have h2 : (X.take i ++ X.drop i).Nodup := by rw [List.take_append_drop]; exact hnd
    rw [hro, List.nodup_append] at h2
    exact h2.2.2 x hm x (by simp) rfl
   have hpl : (riseF nn (X.take i)).length = i := by
    have := congrArg List.length hO
    simp only [Array.length_toList, List.length_append, List.length_cons, List.length_drop] at this
    omega
   have hstep := fun Q => riseF_step nn (X.take i) x (hlt0 x hxm) hxn (Q := Q)
   rw [← htk] at hstep
   obtain ⟨P, hP⟩ : ∃ P, riseF nn (X.take i) = P := ⟨_, rfl⟩
   rw [hP] at hO hpl hstep
   obtain ⟨R, hR⟩ : ∃ R, X.drop (i + 1) = R := ⟨_, rfl⟩
   rw [hR] at hO
   have HS := Lib.hid hstep
   have HR := Lib.hid hR
   clear hstep hP hro hE hR hd hH hxi hxe htk hxm hxn hnd hlt0
   go_wp2
   go_loopw [7] (fun vj wr2 => ∃ (j m : Nat) (dj : Array Nat) (A B : List Nat), vj = .int .i64 j ∧ A.length = j ∧ P = A ++ B ∧ dj.toList = A ++ x :: (B ++ R) ∧ (∀ b ∈ B, decide (x < b) = true) ∧ dj.size = d.size ∧ wr2 = putRow encN (Sort.ahead w m) blk off dj) (fun vj _ => (intOf vj).toNat)
   case atStart => exact ⟨i, n, dk, P, [], rfl, hpl, by simp, by simpa using hO, fun b hb => by simp at hb, hsk, rfl⟩
   case round =>
    obtain ⟨j, m, dj, A, B, rfl, hA, hPA, hdj, hB, hsj, hw2⟩ := hrel
    have hji : j ≤ i := by rw [← hpl, hPA, List.length_append]; omega
    have hsd := HSZ.out
    obtain ⟨G, hG⟩ : ∃ G : Nat → Nat, ∀ t, G t = dj[t]! := ⟨fun t => dj[t]!, fun _ => rfl⟩
    have gj : G j = x := by rw [hG, get_bang dj j (by omega)]; simp [hdj, ← hA]
    have hcw : ∀ t, t < d.size → wr.cell? ⟨blk, off + t, none⟩ = some (.int .i64 (G t : Nat)) := fun t ht => by
     rw [hw2, hG]; exact cell?_putRow encN _ _ _ d dj (holds_ahead _ _ _ _ _ _ HH.out) hsj t (by omega)
    have hfw : ∀ t, t < d.size → wr.frozen? ⟨blk, off + t, none⟩ = false := fun t ht => by
     rw [hw2, frozen?_putRow]; exact ((holds_ahead _ _ m _ _ _ HH.out) t ht).2
    have HW := Lib.hid hw2
    have HG := Lib.hid hG
    have HB := Lib.hid hB
    have HPA := Lib.hid hPA
    have HD := Lib.hid hdj
    have HA := Lib.hid hA
    -- the end of the round: x has come to its place
    have out : (∀ a, A.getLast? = some a → decide (x < a) = false) → ∀ q, ∃ (i' n' : Nat) (dk' : Array Nat), Value.int .i64 ((i : Int) + 1) = .int .i64 (i' : Nat) ∧ 1 ≤ i' ∧ i' ≤ X.length + 1 ∧ (i' ≤ X.length → dk'.toList = riseF nn (X.take i') ++ X.drop i') ∧ (X.length < i' → dk'.toList = riseF nn X) ∧ dk'.size = d.size ∧ wr.drewN q = putRow encN (Sort.ahead w n') blk off dk' := fun hl q =>
     ⟨i + 1, m + q, dj, by go_num, by omega, by omega, fun _ => by rw [HD.out, ← HS.out _ ⟨A, B, HPA.out, rfl, HB.out, hl⟩, HR.out]; simp, fun hh => by omega, hsj, by rw [HW.out]; exact putRow_drewN _ _ _ _ _ _ _⟩
    have OUT := Lib.hid out
    clear out hw2 hG hB hPA hdj
    by_cases hja : 0 < j
    ·obtain ⟨A', b, rfl⟩ : ∃ A' b, A = A' ++ [b] := ⟨A.dropLast, A.getLast (by intro e; rw [e] at hA; simp at hA; omega), (List.dropLast_concat_getLast _).symm⟩
     have hA' : A'.length = j - 1 := by rw [List.length_append, List.length_singleton] at hA; omega
     have gb : G (j - 1) = b := by rw [HG.out, get_bang dj (j - 1) (by omega)]; simp [HD.out, ← hA']
     have hlast : (A' ++ [b]).getLast? = some b := by simp
     have hcl : ∀ W, Calls Tryz.prog 138 #[.int .i64 ((G j : Nat) : Int), .int .i64 ((G (j - 1) : Nat) : Int)] W fun e w' => e = .returned (.bool (decide (x < b))) ∧ w' = W := by
      intro W
      rw [gj, gb]
      exact less_calls x b W
     have HL := Lib.hid hlast
     have HLB := Lib.hid (rfl : decide (x < b) = decide (x < b))
     obtain ⟨D, hD⟩ : ∃ D, decide (x < b) = D := ⟨_, rfl⟩
     rw [hD] at hcl
     have HDD := Lib.hid hD
     clear hlast hA gj gb hD
     cases D
     case true =>
      go_wp2
      go_quiet (first | (go_at_call 138; exact Calls.quiet_of_same (hcl _)))
      go_wp2
      go_region
      all_goals go_wp2
      go_roundw
      case rel =>
       refine ⟨j - 1, m + (nq + 1), swp dj j (j - 1), A', b :: B, by congr 1; omega, hA', by rw [HPA.out]; simp, ?_, ?_, by rw [size_swp]; exact hsj, ?_⟩
       ·have := swp_list (d := dj) (A := A') (x := x) (b := b) (rest := B ++ R) (by rw [HD.out]; simp)
        rw [hA', show j - 1 + 1 = j by omega] at this
        rw [this]; simp
       ·intro c hc
        rcases List.mem_cons.1 hc with rfl | hc
        ·exact HDD.out
        ·exact HB.out c hc
       ·rw [HW.out, HG.out, HG.out]
        exact swap_worldA encN w m (nq + 1) blk off dj j (j - 1) (by omega) (by omega)
      case measure => simp [intOf]; omega
     case false =>
      go_wp2
      go_quiet (first | (go_at_call 138; exact Calls.quiet_of_same (hcl _)))
      go_wp2
      go_roundw
      case rel => exact OUT.out (fun a ha => by rw [HL.out] at ha; injection ha with ha; rw [← ha]; exact HDD.out) nq
      case measure => simp [intOf]; omega
    ·have hA0 : A = [] := List.eq_nil_of_length_eq_zero (by omega)
     clear gj
     go_wp2
     go_quiet (fail)
     go_wp2
     go_roundw
     case rel => exact OUT.out (fun a ha => by rw [hA0] at ha; simp at ha) nq
     case measure => simp [intOf]; omega
  ·have hfin : dk.toList = riseF nn X := by
    rcases Nat.lt_or_ge X.length i with h1 | h1
    ·exact hE h1
    ·rw [hO h1, show i = X.length by omega, List.drop_of_length_le (Nat.le_refl _), List.append_nil, List.take_length]
   have HF := Lib.hid hfin
   clear hO hE hfin
   go_wp2
   go_end0
   exact ⟨rfl, n, dk, HF.out, rfl⟩
set_option maxHeartbeats 1000000 in
set_option maxRecDepth 100000 in
theorem len64_calls (n : Nat) (hn : n ≤ 8) (w : World) : Calls Tryz.prog 142 #[.int .u64 n] w fun e w' => (∃ r : Int, e = .returned (.int .i64 r)) ∧ w' = w := by
 have hc : n = 0 ∨ n = 1 ∨ n = 2 ∨ n = 3 ∨ n = 4 ∨ n = 5 ∨ n = 6 ∨ n = 7 ∨ n = 8 := by omega
 rcases hc with rfl | rfl | rfl | rfl | rfl | rfl | rfl | rfl | rfl
 all_goals
  go_enter Tryz.func142, Tryz.ntmps142
  go_wp2
  go_ret
  exact ⟨⟨_, rfl⟩, rfl⟩
set_option maxHeartbeats 1000000 in
set_option maxRecDepth 100000 in
theorem sort_calls (nn : Nat) (X : List Nat) (hnd : X.Nodup) (hlt0 : ∀ k ∈ X, k < nn) (hXl : X.length ≤ 8) (blk off cap : Nat) (w : World) (d : Array Nat) (hd : d.toList = X) (hH : Holds encN w blk off d) :
  Calls Tryz.prog 83 #[.slice (some ⟨blk, off, none⟩) X.length cap] w fun e w' => e = .returned (.tuple #[]) ∧ ∃ n dk, dk.toList = riseF nn X ∧ w' = putRow encN (Sort.ahead w n) blk off dk := by
 have cI := insOrd_calls nn X hnd hlt0 hXl blk off cap w d hd hH
 have cB : Calls Tryz.prog 113 #[.int .u64 X.length] w fun e w' => (∃ r : Int, e = .returned (.int .i64 r)) ∧ w' = w := by
  have cL := len64_calls X.length hXl w
  clear cI hd hH hnd hlt0
  go_enter Tryz.func113, Tryz.ntmps113
  go_wp2_with (go_at_call 142; refine cL.mono ?_; rintro e w' ⟨⟨r, rfl⟩, hw⟩; rw [hw]; clear hw w')
  go_ret
  exact ⟨⟨_, rfl⟩, rfl⟩
 have c1 : decide ((X.length : Int) ≤ 12) = true := decide_eq_true (by omega)
 have cP : ∀ r : Int, Calls Tryz.prog 112 #[.slice (some ⟨blk, off, none⟩) X.length cap, .int .i64 0, .int .i64 X.length, .int .i64 r] w fun e w' => e = .returned (.tuple #[]) ∧ ∃ n dk, dk.toList = riseF nn X ∧ w' = putRow encN (Sort.ahead w n) blk off dk := by
  intro r
  have w1 : IntKind.i64.wrap (X.length : Int) = (X.length : Int) := IntWalk.i64_in _ (by omega)
  clear cB hd hH hnd hlt0
  go_enter Tryz.func112, Tryz.ntmps112
  go_wp2
  go_loopw [1, 2] (fun u v wr => u = .int .i64 0 ∧ v = .int .i64 X.length ∧ wr = w) (fun _ _ _ => 0)
  case atStart => exact ⟨rfl, rfl, rfl⟩
  case round =>
   obtain ⟨rfl, rfl, rfl⟩ := hrel
   go_wp2_with (go_at_call 132; refine cI.mono ?_; rintro e W ⟨rfl, n, dk, h1, h2⟩; have H2 := Lib.hid h2; clear h2)
   refine bodyPost_ret (results_none rfl _ _ _) rfl ?_
   exact ⟨rfl, n, dk, h1, H2.out⟩
 have w1 : IntKind.u64.wrap (X.length : Int) = (X.length : Int) := by show (X.length : Int) % 18446744073709551616 = _; omega
 clear cI hd hH hnd hlt0
 go_enter Tryz.func83, Tryz.ntmps83
 go_wp2_with (first | (go_at_call 113; refine cB.mono ?_; rintro e w' ⟨⟨r, rfl⟩, hw⟩; rw [hw]; clear hw w') | (go_at_call 112; refine (cP _).mono ?_; rintro e W ⟨rfl, n, dk, h1, h2⟩; have H2 := Lib.hid h2; clear h2))
 go_end0
 exact ⟨rfl, n, dk, h1, H2.out⟩
end Go.Proofs.YtogidacejbjljaaGreatDoor.PTextChecks
end
section
/- The two sorts of the layout, over rows that a call owns. -/
set_option linter.unusedVariables false
set_option linter.unusedSimpArgs false
namespace Go.Proofs.YtogidacejbjljaaGreatDoor.PTextChecks
open Go.RowKit Go.Mix Go.Own Go.Sort Go.Proofs.YtogidacejbjljaaGreatDoorW.PrintWords Go.Proofs.YtogidacejbjljaaGreatDoorW.PrintLast Go.Proofs.YtogidacejbjljaaGreatDoorW.PrintMore
theorem heap_putRow {w : World} {g off : Nat} {cur : Array Value} {t : TypeId} (hg : w.heap[g]? = some (.cells cur t (0, 0))) (m : Nat) (dk : Array Nat) :
  (putRow encN (Sort.ahead w m) g off dk).heap[g]? = some (.cells (putCells encN off dk cur) t (0, 0)) := by
 unfold putRow mapBlock
 show ((Sort.ahead w m).heap.modify g (onCells (putCells encN off dk)))[g]? = _
 rw [Array.getElem?_modify, if_pos rfl]
 show (w.heap[g]?).map _ = _
 rw [hg]
 rfl
theorem heap_putRow_far (w : World) {g off k : Nat} (hk : k ≠ g) (m : Nat) (dk : Array Nat) : (putRow encN (Sort.ahead w m) g off dk).heap[k]? = w.heap[k]? := by
 unfold putRow mapBlock
 show ((Sort.ahead w m).heap.modify g (onCells (putCells encN off dk)))[k]? = _
 rw [Array.getElem?_modify, if_neg (fun h => hk h.symm)]
 rfl
theorem putRow_lies {w : World} {base : Nat} {n g off c : Nat} {xs : List Value} (h : Lies w base 3 1 (.slice (some ⟨g, off, none⟩) n c) n xs) (h0 : 0 < n) (dk : Array Nat) (hd : dk.size = n) (m : Nat) :
  Lies (putRow encN (Sort.ahead w m) g off dk) base 3 1 (.slice (some ⟨g, off, none⟩) n c) n (dk.toList.map encN) ∧ Below base w (putRow encN (Sort.ahead w m) g off dk) ∧ KB [3] w (putRow encN (Sort.ahead w m) g off dk) := by
 rcases h.2 with ⟨_, h1⟩ | ⟨g', off', cap, cur, hv, hb, hg, hnc, hcm, hcs, ht⟩
 ·omega
 ·injection hv with e1 e2 e3
  injection e1 with e1
  injection e1 with e1 e4 e5
  subst e1 e3 e4
  refine ⟨⟨by simp [hd], .inr ⟨g, off, c, _, rfl, hb, heap_putRow hg m dk, hnc, hcm, by simpa [putCells] using hcs, ?_⟩⟩, ⟨rfl, rfl, rfl, by simp, fun k hk => heap_putRow_far w (by omega) m dk⟩, ⟨by simp, fun k cu u hu hk => ?_⟩⟩
  ·apply List.ext_getElem?
   intro i
   by_cases hi : i < n
   ·rw [List.getElem?_take_of_lt (by omega), List.getElem?_drop, Array.getElem?_toList]
    have hlt : off + i < cur.size := by omega
    have e6 : dk[i]! = dk.toList[i]'(by simpa [hd] using hi) := get_bang dk i (by omega)
    unfold putCells
    rw [Array.getElem?_mapIdx, Array.getElem?_eq_getElem hlt, Option.map_some, if_pos ⟨by omega, by omega⟩, show off + i - off = i by omega, e6, List.getElem?_map, List.getElem?_eq_getElem (by simpa [hd] using hi), Option.map_some]
   ·rw [List.getElem?_eq_none (by rw [List.length_take]; omega), List.getElem?_eq_none (by simp [hd]; omega)]
  ·have hne : k ≠ g := fun e => by
    subst e
    rw [hg] at hk
    simp at hk
    exact hu (by rw [← hk.2]; simp)
   exact (heap_putRow_far w hne m dk).trans hk
theorem lies_holds {w : World} {base : Nat} {v : Value} {L : List Nat} (h : Lies w base 3 1 v L.length (L.map encN)) (h0 : 0 < L.length) : ∃ g off c, v = .slice (some ⟨g, off, none⟩) L.length c ∧ base ≤ g ∧ Holds encN w g off L.toArray := by
 obtain ⟨g, off, c, e, hle, hb, hlt, hcur, hfz, hcl, hput⟩ := h.put h0
 refine ⟨g, off, c, e, hb, fun j hj => ⟨?_, hfz _⟩⟩
 have hj' : j < L.length := by simpa using hj
 refine hcl j _ ?_
 rw [List.getElem?_map, List.getElem?_eq_getElem hj', Option.map_some, get_bang L.toArray j hj]
set_option maxHeartbeats 1000000 in
set_option maxRecDepth 100000 in
theorem stable_nil (p : Option Addr) (cap : Nat) (f : Value) (w : World) (hf : ∃ a b c, f = .func a b c) : Calls Tryz.prog 76 #[.slice p 0 cap, f] w fun e w' => e = .returned (.tuple #[]) ∧ w' = w := by
 obtain ⟨fa, fb, fc, rfl⟩ := hf
 have cI : Calls Tryz.prog 130 #[.slice p 0 cap, .int .i64 0, .int .i64 0, .func fa fb fc] w fun e w' => e = .returned (.tuple #[]) ∧ w' = w := by
  go_enter Tryz.func130, Tryz.ntmps130
  go_wp2
  go_loopw [8] (fun v wr => v = .int .i64 1 ∧ wr = w) (fun _ _ => 0)
  case atStart => exact ⟨rfl, rfl⟩
  case round =>
   obtain ⟨rfl, rfl⟩ := hrel
   go_wp2
   go_end0
   exact ⟨rfl, rfl⟩
 have c109 : Calls Tryz.prog 109 #[.slice p 0 cap, .int .i64 0, .func fa fb fc] w fun e w' => e = .returned (.tuple #[]) ∧ w' = w := by
  go_enter Tryz.func109, Tryz.ntmps109
  go_wp2
  go_loopw [7, 8] (fun a v wr => a = .int .i64 0 ∧ v = .int .i64 20 ∧ wr = w) (fun _ _ _ => 0)
  case atStart => exact ⟨rfl, rfl, rfl⟩
  case round =>
   obtain ⟨rfl, rfl, rfl⟩ := hrel
   go_wp2_with (go_at_call 130; refine cI.mono ?_; rintro e W ⟨rfl, hW⟩; rw [hW]; clear hW W)
   go_loopw [6] (fun v wx => v = .int .i64 20 ∧ wx = wr) (fun _ _ => 0)
   case atStart => exact ⟨rfl, rfl⟩
   case round =>
    obtain ⟨rfl, rfl⟩ := hrel
    go_wp2
    go_end0
    exact ⟨rfl, rfl⟩
 go_enter Tryz.func76, Tryz.ntmps76
 go_wp2_with (go_at_call 109; refine c109.mono ?_; rintro e W ⟨rfl, hW⟩; rw [hW]; clear hW W)
 go_end0
 exact ⟨rfl, rfl⟩
/-- The order of the cues, as a row. -/
theorem order_calls (C : List Cu) (bL base : Nat) (v : Value) (hC : C.length ≤ 8) (hr : ∀ i, i < C.length → 0 ≤ layerOf C i ∧ layerOf C i ≤ 7) (w : World) (hL : Lies w base 3 1 v C.length ((List.range C.length).map encN)) (h : Layers w bL C) (hb : bL < base)
  (hcb : 0 < C.length → ∀ A c, w.cell? ⟨bL, 0, none⟩ = some (.slice A C.length c) → ∀ ad, A = some ad → ad.block < base) :
  Calls Tryz.prog 76 #[v, .func (.func 77) #[] #[.pointer (some ⟨bL, 0, none⟩)]] w fun e w' => e = .returned (.tuple #[]) ∧ Lies w' base 3 1 v C.length ((ordF (layerOf C) C.length).map encN) ∧ Below base w w' := by
 by_cases h0 : 0 < C.length
 ·have hrl : (List.range C.length).length = C.length := List.length_range
  have hL' : Lies w base 3 1 v (List.range C.length).length ((List.range C.length).map encN) := by rw [hrl]; exact hL
  obtain ⟨g, off, c, rfl, hg, hH⟩ := lies_holds hL' (by rw [hrl]; exact h0)
  rw [hrl] at hL ⊢
  refine (stable_calls C bL g off c hC hr w _ (by simp) hH h (by omega) (fun A c h1 ad ha => by have := hcb h0 A c h1 ad ha; omega)).mono ?_
  rintro e w' ⟨rfl, n, dk, hd, rfl⟩
  have hdl : dk.size = C.length := by
   rw [← Array.length_toList, hd]
   have : ((List.range C.length)).Perm (ordF (layerOf C) C.length) := by
    refine (List.perm_ext_iff_of_nodup List.nodup_range (ordF_nodup _ _)).2 fun a => ?_
    rw [List.mem_range, ordF_mem hr]
   rw [← this.length_eq, hrl]
  obtain ⟨h1, h2, _⟩ := putRow_lies hL h0 dk hdl n
  rw [hd] at h1
  exact ⟨rfl, h1, h2⟩
 ·have hz : C.length = 0 := by omega
  have hv : ∃ A c, v = .slice A 0 c := by obtain ⟨A, c, e, _⟩ := hL.form; exact ⟨A, c, by rw [e, hz]⟩
  obtain ⟨A, c, rfl⟩ := hv
  refine (stable_nil A c _ w ⟨_, _, _, rfl⟩).mono ?_
  rintro e w' ⟨rfl, rfl⟩
  refine ⟨rfl, ?_, Below.refl _ _⟩
  have e : ordF (layerOf C) C.length = List.range C.length := by rw [hz, ordF_zero]; rfl
  rw [e]
  exact hL
set_option maxHeartbeats 1000000 in
set_option maxRecDepth 100000 in
theorem sort_nil (p : Option Addr) (cap : Nat) (w : World) : Calls Tryz.prog 83 #[.slice p 0 cap] w fun e w' => e = .returned (.tuple #[]) ∧ w' = w := by
 have cI : Calls Tryz.prog 132 #[.slice p 0 cap, .int .i64 0, .int .i64 0] w fun e w' => e = .returned (.tuple #[]) ∧ w' = w := by
  go_enter Tryz.func132, Tryz.ntmps132
  go_wp2
  go_loopw [6] (fun v wr => v = .int .i64 1 ∧ wr = w) (fun _ _ => 0)
  case atStart => exact ⟨rfl, rfl⟩
  case round =>
   obtain ⟨rfl, rfl⟩ := hrel
   go_wp2
   go_end0
   exact ⟨rfl, rfl⟩
 have cB : Calls Tryz.prog 113 #[.int .u64 0] w fun e w' => (∃ r : Int, e = .returned (.int .i64 r)) ∧ w' = w := by
  have cL := len64_calls 0 (by omega) w
  go_enter Tryz.func113, Tryz.ntmps113
  go_wp2_with (go_at_call 142; refine cL.mono ?_; rintro e w' ⟨⟨r, rfl⟩, hw⟩; rw [hw]; clear hw w')
  go_ret
  exact ⟨⟨_, rfl⟩, rfl⟩
 have cP : ∀ r : Int, Calls Tryz.prog 112 #[.slice p 0 cap, .int .i64 0, .int .i64 0, .int .i64 r] w fun e w' => e = .returned (.tuple #[]) ∧ w' = w := by
  intro r
  go_enter Tryz.func112, Tryz.ntmps112
  go_wp2
  go_loopw [1, 2] (fun u v wr => u = .int .i64 0 ∧ v = .int .i64 0 ∧ wr = w) (fun _ _ _ => 0)
  case atStart => exact ⟨rfl, rfl, rfl⟩
  case round =>
   obtain ⟨rfl, rfl, rfl⟩ := hrel
   go_wp2_with (go_at_call 132; refine cI.mono ?_; rintro e W ⟨rfl, hW⟩; rw [hW]; clear hW W)
   refine bodyPost_ret (results_none rfl _ _ _) rfl ?_
   exact ⟨rfl, rfl⟩
 go_enter Tryz.func83, Tryz.ntmps83
 go_wp2_with (first | (go_at_call 113; refine cB.mono ?_; rintro e w' ⟨⟨r, rfl⟩, hw⟩; rw [hw]; clear hw w') | (go_at_call 112; refine (cP _).mono ?_; rintro e W ⟨rfl, hW⟩; rw [hW]; clear hW W))
 go_end0
 exact ⟨rfl, rfl⟩
/-- The lost cues, sorted, as a row. -/
theorem lost_calls (nn base : Nat) (X : List Nat) (v : Value) (hnd : X.Nodup) (hlt : ∀ k ∈ X, k < nn) (hXl : X.length ≤ 8) (w : World) (hL : Lies w base 3 1 v X.length (X.map encN)) :
  Calls Tryz.prog 83 #[v] w fun e w' => e = .returned (.tuple #[]) ∧ Lies w' base 3 1 v X.length ((riseF nn X).map encN) ∧ Below base w w' ∧ KB [3] w w' := by
 by_cases h0 : 0 < X.length
 ·obtain ⟨g, off, c, rfl, hg, hH⟩ := lies_holds hL h0
  refine (sort_calls nn X hnd hlt hXl g off c w _ (by simp) hH).mono ?_
  rintro e w' ⟨rfl, n, dk, hd, rfl⟩
  have hdl : dk.size = X.length := by rw [← Array.length_toList, hd]; exact (rise_perm hnd hlt).length_eq
  obtain ⟨h1, h2, h3⟩ := putRow_lies hL h0 dk hdl n
  rw [hd] at h1
  exact ⟨rfl, h1, h2, h3⟩
 ·have hz : X = [] := List.eq_nil_of_length_eq_zero (by omega)
  subst hz
  obtain ⟨A, c, e, _⟩ := hL.form
  subst e
  refine (sort_nil A c w).mono ?_
  rintro e w' ⟨rfl, rfl⟩
  refine ⟨rfl, ?_, Below.refl _ _, KB.refl _ _⟩
  have e : riseF nn [] = [] := by simp [riseF]
  rw [e]
  exact hL
end Go.Proofs.YtogidacejbjljaaGreatDoor.PTextChecks
end
section
/- text.Layout: the lines of cues, placed. -/
set_option linter.unusedVariables false
set_option linter.unusedSimpArgs false
namespace Go.Proofs.YtogidacejbjljaaGreatDoor.PTextChecks
open Go.RowKit Go.Mix Go.Own Go.Sort Go.Proofs.YtogidacejbjljaaGreatDoorW.PrintWords Go.Proofs.YtogidacejbjljaaGreatDoorW.PrintLast Go.Proofs.YtogidacejbjljaaGreatDoorW.PrintMore
/-- A row of cues that an argument holds. -/
def CuesIn (w : World) (A : Option Addr) (C : List Cu) : Prop := ∀ (k : Nat) (q : Cu), C[k]? = some q → ∃ ad Ap cp, A = some ad ∧ w.cell? (ad.add (k * 4)) = some (.int .i64 q.a) ∧ w.cell? ⟨(ad.add (k * 4)).block, (ad.add (k * 4)).off + 1, none⟩ = some (.int .i64 q.b) ∧
 w.cell? ⟨(ad.add (k * 4)).block, (ad.add (k * 4)).off + 2, none⟩ = some (.int .i64 q.c) ∧ w.cell? ⟨(ad.add (k * 4)).block, (ad.add (k * 4)).off + 3, none⟩ = some (.slice Ap q.l.length cp) ∧ q.l.length ≤ cp ∧ Kd.C k42 w Ap q.l.length q.l
theorem CuesIn.below {w w' : World} {A : Option Addr} {C : List Cu} (h : CuesIn w A C) (hb : Below w.heap.size w w') : CuesIn w' A C := by
 intro k q hq
 obtain ⟨ad, Ap, cp, rfl, c0, c1, c2, c3, hcp, hK⟩ := h k q hq
 exact ⟨ad, Ap, cp, rfl, cell_later hb c0, cell_later hb c1, cell_later hb c2, cell_later hb c3, hcp, Kd.C_below hK hb⟩
theorem CuesIn.lt {w : World} {A : Option Addr} {C : List Cu} (h : CuesIn w A C) (h0 : 0 < C.length) : ∀ ad, A = some ad → ad.block < w.heap.size := by
 intro ad ha
 obtain ⟨ad', Ap, cp, e, c0, _⟩ := h 0 _ (List.getElem?_eq_getElem h0)
 rw [ha] at e
 injection e with e
 subst e
 have := World.block_lt_of_cell? w _ c0
 rwa [add_block] at this
def layP (C : List Cu) (canvas tall : Int) : List Pl := if layE C canvas tall = 0 then (layS C canvas tall).1 else []
def layX (C : List Cu) (canvas tall : Int) : List Nat := if layE C canvas tall = 0 then lostS C canvas tall else []
def LayPost (C : List Cu) (canvas tall : Int) (w : World) (e : Ending) (w' : World) : Prop :=
 ∃ v vl, e = .returned (.tuple #[v, vl, .int .i64 (layE C canvas tall)]) ∧ Pls w' w.heap.size v (layP C canvas tall) ∧ Lies w' w.heap.size 3 1 vl (layX C canvas tall).length ((layX C canvas tall).map encN) ∧ Below w.heap.size w w'
theorem lay_err {C : List Cu} {canvas tall e : Int} (h : layE C canvas tall = e) (he : e ≠ 0) : layP C canvas tall = [] ∧ layX C canvas tall = [] := by
 subst h
 exact ⟨if_neg he, if_neg he⟩
theorem lay_post_err {C : List Cu} {canvas tall e : Int} {w w' : World} (h : layE C canvas tall = e) (he : e ≠ 0) (hb : Below w.heap.size w w') : LayPost C canvas tall w (.returned (.tuple #[.slice none 0 0, .slice none 0 0, .int .i64 e])) w' := by
 obtain ⟨h1, h2⟩ := lay_err h he
 exact ⟨_, _, by rw [h], by rw [h1]; exact Pls.nil _ _, by rw [h2]; exact Lies.nil _ _ _ _, hb⟩
theorem xS_range {al mar canvas wide : Int} (h1 : 0 ≤ mar ∧ mar ≤ 100) (h2 : 1 ≤ canvas ∧ canvas ≤ 1000) (h3 : 0 ≤ wide ∧ wide ≤ 50000) : -60000 ≤ xS al mar canvas wide ∧ xS al mar canvas wide ≤ 60000 := by
 unfold xS
 split
 ·omega
 ·split <;> omega
theorem blk_small {k : Int} {q : Cu} {canvas y : Int} (lo : LinesOk q canvas) (hy : -14000 ≤ y ∧ y ≤ 14000) : ∀ p ∈ blkF k q canvas 0 y (linesQ q canvas), SmP p := by
 intro p hp
 obtain ⟨n, r, hn, hr, _, rfl⟩ := blkF_mem hp
 have h1 := lo.wide r (List.mem_of_getElem? hr)
 have h2 := lo.high r (List.mem_of_getElem? hr)
 have h3 := uptoH_range lo.high n
 have h4 := xS_range (al := q.b) (headB_margin lo.head) lo.cv h1
 have h5 := lo.len
 exact ⟨⟨by show -1000000 ≤ xS _ _ _ _; omega, by show xS _ _ _ _ ≤ 1000000; omega⟩, ⟨by show -1000000 ≤ y + uptoH _ n; omega, by show y + uptoH _ n ≤ 1000000; omega⟩, ⟨by show -1000000 ≤ sumW r.1 0; omega, by show sumW r.1 0 ≤ 1000000; omega⟩, by show -1000000 ≤ r.2; omega, by show r.2 ≤ 1000000; omega⟩
set_option maxHeartbeats 16000000 in
set_option maxRecDepth 100000 in
theorem layout_calls (C : List Cu) (A : Option Addr) (cap : Nat) (canvas tall : Int) (w : World) (hA : CuesIn w A C) (hc : C.length ≤ cap) (hf : ∀ q ∈ C, Fit q.l) :
  Calls Tryz.prog 39 #[.slice A C.length cap, .int .i64 canvas, .int .i64 tall] w (LayPost C canvas tall w) := by
 obtain ⟨i0, hi, hii⟩ := Option.map_eq_some_iff.1 infoInt
 simp only [Prod.mk.injEq] at hii
 obtain ⟨hz0, hz1, hz2⟩ := hii
 obtain ⟨i1, hj, hjj⟩ := Option.map_eq_some_iff.1 infoPlaced
 simp only [Prod.mk.injEq] at hjj
 obtain ⟨hpz0, hpz1, hpz2⟩ := hjj
 have hbw1 : Below w.heap.size w (w.alloc (.cells #[.slice A C.length cap] 53)) := (Below.refl _ w).alloc (Nat.le_refl _) _
 cases hg : (inB canvas 1 1000 && inB tall 1 1000)
 case false =>
  have hE : layE C canvas tall = 1 := by unfold layE; rw [hg]; rfl
  have HE := Lib.hid (fun X (h : Below w.heap.size w X) => lay_post_err hE (by decide) h)
  clear hE
  cases hi1 : inB canvas 1 1000
  all_goals (rw [hi1] at hg)
  all_goals (cases hi2 : inB tall 1 1000)
  all_goals (rw [hi2] at hg)
  all_goals (try (exact absurd hg (by decide)))
  all_goals clear hg
  all_goals
   go_enter Tryz.func39, Tryz.ntmps39
   go_wp2
   go_step3
   go_wp2_with (go_at_call 57; refine (within_calls' _ _ _ _).mono ?_; rintro e W2 ⟨rfl, hW⟩; rw [hW]; clear hW W2)
   (try rw [Exit.noGoto_ret])
   refine bodyPost_ret (results_tmp3 rfl _ _ _) rfl ?_
   exact HE.out _ hbw1
 case true =>
  have hg' := hg
  rw [Bool.and_eq_true] at hg
  have hi1 := hg.1
  have hi2 := hg.2
  have hcv := inB_true hg.1
  have htl := inB_true hg.2
  cases h8 : decide ((8 : Int) < (C.length : Int))
  case true =>
   have hE : layE C canvas tall = 2 := by unfold layE; rw [hg', if_pos rfl, if_pos (by have := of_decide_eq_true h8; omega)]
   have HE := Lib.hid (fun X (h : Below w.heap.size w X) => lay_post_err hE (by decide) h)
   clear hE hg hg'
   go_enter Tryz.func39, Tryz.ntmps39
   go_wp2
   go_step3
   go_wp2_with (go_at_call 57; refine (within_calls' _ _ _ _).mono ?_; rintro e W2 ⟨rfl, hW⟩; rw [hW]; clear hW W2)
   (try rw [Exit.noGoto_ret])
   refine bodyPost_ret (results_tmp3 rfl _ _ _) rfl ?_
   exact HE.out _ hbw1
  case false =>
   have hC8 : C.length ≤ 8 := by have := of_decide_eq_false h8; omega
   have hE : layE C canvas tall = firstE canvas C := by unfold layE; rw [hg', if_pos rfl, if_neg (by omega)]
   have HE := Lib.hid hE
   clear hE hg hg'
   have hB0 := heap_alloc_new w (.cells #[.slice A C.length cap] 53)
   have hA1 := hA.below hbw1
   have hAl : ∀ ad, A = some ad → 0 < C.length → ad.block < w.heap.size := fun ad ha h0 => hA.lt h0 ad ha
   go_enter Tryz.func39, Tryz.ntmps39
   go_wp2
   go_step3
   go_wp2_with (go_at_call 57; refine (within_calls' _ _ _ _).mono ?_; rintro e W2 ⟨rfl, hW⟩; rw [hW]; clear hW W2)
   generalize w.alloc (.cells #[.slice A C.length cap] 53) = W1 at hbw1 hB0 hA1 ⊢
   have hs1 := hbw1.size
   have hlt1 := (Array.getElem?_eq_some_iff.1 hB0).1
   obtain ⟨m0, m0'⟩ := blk1 hB0
   clear hA hi1 hi2
   go_loopw [9, 36] (fun vo i wr => ∃ n : Nat, n ≤ C.length ∧ i = .int .i64 n ∧ Lies wr W1.heap.size 3 1 vo n ((List.range n).map encN) ∧ (∀ (i : Nat) (q : Cu), i < n → C[i]? = some q → brkE q.a q.b q.c q.l canvas = 0) ∧ Below W1.heap.size W1 wr) (fun _ i _ => C.length - (intOf i).toNat)
   case atStart => exact ⟨0, by omega, rfl, Lies.nil _ _ _ _, fun i q h => by omega, Below.refl _ _⟩
   case round =>
    obtain ⟨n, hn, rfl, hL, hbk, hbr⟩ := hrel
    by_cases hlt : n < C.length
    ·obtain ⟨q, hq⟩ : ∃ q, C[n]? = some q := ⟨_, List.getElem?_eq_getElem hlt⟩
     obtain ⟨ad, Ap, cp, rfl, c0, c1, c2, c3, hcp, hK⟩ := (hA1.below hbr) n q hq
     have hqm := List.mem_of_getElem? hq
     have cB := tBreak_calls q.a q.b q.c Ap cp q.l canvas _ (Kd.C_alloc hK (.cells #[.int .i64 q.a, .int .i64 q.b, .int .i64 q.c, .slice Ap q.l.length cp] 25)) hcp (hf q hqm)
     unfold BrkPost at cB
     obtain ⟨E, hEq⟩ : ∃ E, brkE q.a q.b q.c q.l canvas = E := ⟨_, rfl⟩
     rw [hEq] at cB
     have hbx : Below W1.heap.size W1 (wr.alloc (.cells #[.int .i64 q.a, .int .i64 q.b, .int .i64 q.c, .slice Ap q.l.length cp] 25)) := hbr.alloc hbr.size _
     have hLx := hL.kb (KB.below (ts := []) ((Below.refl wr.heap.size wr).alloc (Nat.le_refl _) (.cells #[.int .i64 q.a, .int .i64 q.b, .int .i64 q.c, .slice Ap q.l.length cp] 25))) (by simp)
     have HEq := Lib.hid hEq
     have wr1 : IntKind.i64.wrap ((n : Int) + 1) = (n : Int) + 1 := IntWalk.i64_in _ (by omega)
     clear hEq hK hL hAl
     cases hE0 : (E != 0)
     case true =>
      have hpost : layE C canvas tall = E := by rw [HE.out, firstE_nth hbk hq (by rw [HEq.out]; simpa using hE0), HEq.out]
      have HP := Lib.hid (fun X (h : Below w.heap.size w X) => lay_post_err hpost (by simpa using hE0) h)
      clear hpost hbk
      go_wp2_with (go_at_call 35; refine cB.mono ?_; rintro e W5 ⟨v5, rfl, _, hb5⟩)
      (try rw [Exit.noGoto_ret])
      refine bodyPost_ret (results_tmp3 rfl _ _ _) rfl ?_
      exact HP.out _ (hbw1.trans ((hbx.trans (hb5.mono hbx.size)).mono hs1))
     case false =>
      have hbk2 : ∀ (i : Nat) (p : Cu), i < n + 1 → C[i]? = some p → brkE p.a p.b p.c p.l canvas = 0 := by
       intro i p hi hp
       by_cases h : i < n
       ·exact hbk i p h hp
       ·obtain rfl : i = n := by omega
        rw [hq] at hp
        injection hp with hp
        subst hp
        rw [HEq.out]
        simpa using hE0
      have HB := Lib.hid hbk2
      clear hbk hbk2
      go_wp2_with (first | (go_at_call 35; refine cB.mono ?_; rintro e W5 ⟨v5, rfl, _, hb5⟩; have hb6 : Below W5.heap.size W5 (W5.alloc (.cells #[.int .i64 n] 3)) := (Below.refl _ W5).alloc (Nat.le_refl _) _; have hL5 := (hLx.kb (KB.below (ts := []) hb5) (by simp)).kb (KB.below (ts := []) hb6) (by simp)) | (at_builtin; refine Go.Own.wpList_append_lies rfl _ _ 56 rfl W1.heap.size 3 i0 _ 1 8 Tryz.underlying56 hi hz0 hz1 hz2 rfl (by decide) _ n ((List.range n).map encN) rfl hL5 ⟨W5.heap.size, 0, none⟩ 1 1 [.int .i64 n] rfl rfl ?qa2 ?qa3 ?qa4 ?qa5 ?qa6 (by decide) ?_))
      case qa2 => intro j u hj; rw [add0]; exact newcell W5 #[.int .i64 n] 3 j u (by simpa using hj)
      case qa3 => intro u hu; simp only [List.mem_cons, List.mem_nil_iff, or_false] at hu; rcases hu with rfl; rfl
      case qa4 => unfold maxLen; omega
      case qa5 => omega
      case qa6 => exact Nat.le_trans hbx.size (Nat.le_trans hb5.size hb6.size)
      intro v6 W6 hL6 hg6
      have hb7 : Below W1.heap.size W1 W6 := ((hbx.trans (hb5.mono hbx.size)).trans (hb6.mono (Nat.le_trans hbx.size hb5.size))).grown hg6 (Nat.le_trans hbx.size (Nat.le_trans hb5.size hb6.size)) (fun j hj => (hL5.lt j hj).1)
      clear hg6 hL5 hb6 hb5 hLx hbx cB
      go_wp2
      go_roundw
      case rel => exact ⟨n + 1, by omega, by go_num, by rw [List.range_succ, List.map_append]; exact hL6, HB.out, hb7⟩
      case measure => (simp [intOf]; try omega)
    ·obtain rfl : n = C.length := by omega
     rename World => V
     have hok : ∀ q ∈ C, brkE q.a q.b q.c q.l canvas = 0 := fun q hq => by
      obtain ⟨i, hi⟩ := List.mem_iff_getElem?.1 hq
      exact hbk i q (List.getElem?_eq_some_iff.1 hi).1 hi
     have hr := layer_range hok
     have hE0 : layE C canvas tall = 0 := HE.out.trans (firstE_zero fun i q h => hbk i q (List.getElem?_eq_some_iff.1 h).1 h)
     have HE0 := Lib.hid hE0
     clear hE0 hbk
     obtain ⟨Ao, co, rfl, hco⟩ := hL.form
     have hLay : Layers V w.heap.size C := ⟨A, cap, cell_later hbr m0, hc, fun k q hq => by
      obtain ⟨ad, Ap, cp, e, c0, _⟩ := (hA1.below hbr) k q hq
      exact ⟨ad, e, c0⟩⟩
     have cO := order_calls C w.heap.size W1.heap.size (.slice Ao C.length co) hC8 hr V hL hLay hlt1 (fun h0 A' c' h1 ad ha => by
      rw [cell_later hbr m0] at h1
      injection h1 with h1
      injection h1 with h1
      subst h1
      have := hAl ad ha h0
      omega)
     clear hLay hAl hL
     go_wp2_with (go_at_call 76; refine cO.mono ?_; rintro e W6 ⟨rfl, hL6, hb6⟩)
     clear cO
     have hb16 : Below W1.heap.size W1 W6 := hbr.trans hb6
     have hA6 := hA1.below hb16
     have hm6 := cell_later hb16 m0
     have hs6 : W1.heap.size ≤ W6.heap.size := hb16.size
     clear hb6 hbr
     go_step3
     go_wp2_with fail
     have hbo7 := heap_alloc_new W6 (.cells #[.slice none 0 0] 55)
     have hb7 : Below W6.heap.size W6 (W6.alloc (.cells #[.slice none 0 0] 55)) := (Below.refl _ W6).alloc (Nat.le_refl _) _
     obtain ⟨ORD, hORD⟩ : ∃ ORD, ordF (layerOf C) C.length = ORD := ⟨_, rfl⟩
     have hol : ORD.length = C.length := by
      rw [← hORD]
      have : ((List.range C.length)).Perm (ordF (layerOf C) C.length) := (List.perm_ext_iff_of_nodup List.nodup_range (ordF_nodup _ _)).2 fun a => by rw [List.mem_range, ordF_mem hr]
      rw [← this.length_eq, List.length_range]
     have hom : ∀ k ∈ ORD, k < C.length := fun k hk => (ordF_mem hr k).1 (by rw [hORD]; exact hk)
     rw [hORD] at hL6
     have HORD := Lib.hid hORD
     have HOL := Lib.hid hol
     clear hORD hol
     go_loopg [15, 60] C.length (fun g vl i wr => ∃ (n : Nat) (P : List Pl) (X : List Nat) (vo : Value), n + g = C.length ∧ i = .int .i64 n ∧ runS C canvas tall (ORD.take n) = (P, X) ∧ wr.heap[W6.heap.size]? = some (.cells #[vo] 55 (0, 0)) ∧ Pls wr W6.heap.size vo P ∧ Lies wr W6.heap.size 3 1 vl X.length (X.map encN) ∧ Below W6.heap.size W6 wr ∧ P.length ≤ 400 * n ∧ (∀ p ∈ P, SmP p) ∧ X.length ≤ n)
     case atStart => exact ⟨0, [], [], _, by omega, rfl, by simp [runS], hbo7, Pls.nil _ _, Lies.nil _ _ _ _, hb7, by simp, fun p hp => by simp at hp, by simp⟩
     case round =>
      obtain ⟨n, P, X, vo, hng, rfl, hrun, hbo, hP, hX, hbr, hPl, hPs, hXl⟩ := hrel
      cases gk with
      | zero =>
       obtain rfl : n = C.length := by omega
       rw [List.take_of_length_le (by rw [HOL.out]; omega)] at hrun
       have hlay : layS C canvas tall = (P, X) := by unfold layS; rw [HORD.out]; exact hrun
       obtain ⟨hnd, hmem⟩ := lay_nodup C canvas tall
       rw [hlay] at hnd hmem
       have hlt0 : ∀ k ∈ X, k < C.length := fun k hk => (ordF_mem hr k).1 (hmem k hk)
       have cS := lost_calls C.length W6.heap.size X _ hnd hlt0 (by omega) wr hX
       have hLL : (riseF C.length X).length = X.length := (rise_perm hnd hlt0).length_eq
       have hlost : lostS C canvas tall = riseF C.length X := by unfold lostS; rw [hlay]
       have hp1 : layP C canvas tall = P := by unfold layP; rw [if_pos HE0.out, hlay]
       have hp2 : layX C canvas tall = riseF C.length X := by unfold layX; rw [if_pos HE0.out, hlost]
       have HF := Lib.hid (And.intro hp1 (And.intro hp2 hLL))
       obtain ⟨AO, cO, rfl, hcO⟩ := hP.form
       obtain ⟨AX, cX, rfl, hcX⟩ := hX.form
       have hbw6 : Below w.heap.size w W6 := hbw1.trans (hb16.mono hs1)
       have hs66 := hbw6.size
       clear hp1 hp2 hlost hLL hrun hlay hnd hmem hlt0 hL6
       go_wp2_with (go_at_call 83; refine cS.mono ?_; rintro e W9 ⟨rfl, hL9, hb9, hk9⟩; have hbo9 := hk9.2 _ _ _ (by decide) hbo; obtain ⟨b0, b0'⟩ := blk1 hbo9; have hP9 := hP.kb hk9 (by decide) (by decide))
       (try rw [Exit.noGoto_ret])
       refine bodyPost_ret (results_tmp3 rfl _ _ _) rfl ?_
       obtain ⟨f1, f2, f3⟩ := HF.out
       refine ⟨_, _, ?_, by rw [f1]; exact hP9.mono hs66, by rw [f2, f3]; exact hL9.mono hs66, hbw6.trans ((hbr.trans (hb9.mono (Nat.le_refl _))).mono hs66)⟩
       rw [HE0.out]
       rfl
      | succ g0 =>
       rename World => V2
       have hlt : n < C.length := by omega
       have hol := HOL.out
       obtain ⟨k, hk⟩ : ∃ k, ORD[n]? = some k := ⟨_, List.getElem?_eq_getElem (by omega)⟩
       have hkl : k < C.length := hom k (List.mem_of_getElem? hk)
       obtain ⟨q, hq⟩ : ∃ q, C[k]? = some q := ⟨_, List.getElem?_eq_getElem hkl⟩
       have hqm := List.mem_of_getElem? hq
       obtain ⟨ado, rfl, hoc⟩ := hL6.at (by omega)
       have o1 : V2.cell? (ado.add n) = some (.int .i64 k) := cell_later hbr ((hoc n 0 (.int .i64 k) (by rw [Nat.add_zero, List.getElem?_map, hk]; rfl)).1 rfl)
       obtain ⟨ad, Ap, cp, rfl, c0, c1, c2, c3, hcp, hK⟩ := (hA6.below hbr) k q hq
       have hmr := cell_later hbr hm6
       have lo := linesOk_of (hok q hqm)
       have cB := block_calls k q Ap cp canvas tall V2 (by omega) hK hcp lo htl
       have hstep : ∀ s', stepS C canvas tall (P, X) k = s' → runS C canvas tall (ORD.take (n + 1)) = s' := by
        intro s' hs
        have htk : ORD.take (n + 1) = ORD.take n ++ [k] := by
         obtain ⟨h1, h2⟩ := List.getElem?_eq_some_iff.1 hk
         rw [List.take_succ_eq_append_getElem h1, h2]
        rw [htk, runS_snoc, hrun, hs]
       have hall : 0 ≤ allH (linesQ q canvas) ∧ allH (linesQ q canvas) ≤ 12800 := by rw [← uptoH_all]; have := uptoH_range lo.high (linesQ q canvas).length; have := lo.len; omega
       have hfr := fromS_range (al := q.b) (headB_margin lo.head) htl hall
       have hnone := fun h => stepS_none (s := (P, X)) (canvas := canvas) (tall := tall) hq h
       have hsome := fun y h => stepS_some (s := (P, X)) (canvas := canvas) (tall := tall) (y := y) hq h
       have hstart := slideS_start (k := (k : Int)) (q := q) (canvas := canvas) (tall := tall) (L := linesQ q canvas) (out := P)
       have hslide := fun y => slideF_step (k := (k : Int)) (q := q) (canvas := canvas) (tall := tall) (L := linesQ q canvas) (out := P) (R := slideS (k : Int) q canvas tall (linesQ q canvas) P) (y := y) hall.1
       have hsmall := fun y (hy : -14000 ≤ y ∧ y ≤ 14000) => blk_small (k := (k : Int)) lo hy
       have hmove := fun d y => blkF_move (k : Int) q canvas d (linesQ q canvas) 0 y
       have hbl := fun y => blkF_len (k : Int) q canvas (linesQ q canvas) 0 y
       have hLlen := lo.len
       have hLpos := lo.pos
       have hby : (q.b ≤ 3 ∧ byS q.b = -1) ∨ (¬ q.b ≤ 3 ∧ byS q.b = 1) := by
        unfold byS
        by_cases h : q.b ≤ 3
        ·exact .inl ⟨h, if_pos h⟩
        ·exact .inr ⟨h, if_neg h⟩
       clear lo hrun hom
       generalize hLq : linesQ q canvas = L at *
       generalize hFr : fromS q.b q.c tall (allH L) = fr at *
       generalize hR : slideS (k : Int) q canvas tall L P = R at *
       have H1 := Lib.hid hstep
       have H2 := Lib.hid hnone
       have H3 := Lib.hid hsome
       have H4 := Lib.hid hslide
       have H5 := Lib.hid hsmall
       have H6 := Lib.hid hmove
       have H7 := Lib.hid hbl
       have H8 := Lib.hid hstart
       have HPs := Lib.hid hPs
       clear hstep hnone hsome hslide hsmall hmove hbl hstart hLq hFr hR hPs hK hoc hk
       obtain ⟨AO, cO, rfl, hcO⟩ := hP.form
       obtain ⟨AX, cX, rfl, hcX⟩ := hX.form
       rcases hby with ⟨hb3, hby⟩ | ⟨hb3, hby⟩
       ·go_wp2_with (go_at_call 78; refine cB.mono ?_; rintro e W8 ⟨v8, rfl, hP8, hb8⟩; have c0 := cell_later hb8 c0; have c1 := cell_later hb8 c1; have c2 := cell_later hb8 c2; have c3 := cell_later hb8 c3; have hmr := cell_later hb8 hmr; obtain ⟨A8, c8, e8, hc8⟩ := hP8.form; rw [H7.out] at e8 hc8; subst e8)
        clear cB c0 c1 c2 c3 hmr o1
        go_loopg [15, 19, 20] (moves q.b tall fr) (fun g vl f t wx => ∃ y : Int, g = moves q.b tall y ∧ vl = .slice AX X.length cX ∧ f = .int .i64 y ∧ t = .int .i64 (y + allH L) ∧ (∃ m, moves q.b tall y < m ∧ slideF (k : Int) q canvas tall L P m y = R) ∧ Pls wx V2.heap.size (.slice A8 L.length c8) (blkF (k : Int) q canvas 0 y L) ∧ Below V2.heap.size V2 wx ∧ -13000 ≤ y ∧ y ≤ 1001)
        case atStart => exact ⟨fr, rfl, rfl, rfl, rfl, H8.out, hP8, hb8, by omega, by omega⟩
        case round =>
         obtain ⟨y, hgk, rfl, rfl, rfl, hsl, hPw, hbx, hy1, hy2⟩ := hrel
         obtain ⟨s1, s2, s3⟩ := H4.out y hsl
         have HGK := Lib.hid hgk
         have hbo2 := (hbx.block _ (Array.getElem?_eq_some_iff.1 hbo).1).trans hbo
         have hb6x : Below W6.heap.size W6 wr := hbr.trans (hbx.mono hbr.size)
         clear hsl hP8 hb8 hgk
         by_cases hout : y < 0 ∨ tall < y + allH L
         ·have HN := Lib.hid (H1.out _ (H2.out (s1 hout)))
          have hXx := hX.kb (KB.below (ts := []) hbx) (by simp)
          have hb9 : Below wr.heap.size wr (wr.alloc (.cells #[.int .i64 k] 3)) := (Below.refl _ wr).alloc (Nat.le_refl _) _
          have hL9 := hXx.kb (KB.below (ts := []) hb9) (by simp)
          clear s1 s2 s3 hXx
          rcases Int.lt_or_le y 0 with h0 | h0
          ·have d1 : decide (y < 0) = true := decide_eq_true h0
           go_wp2_with (at_builtin; refine Go.Own.wpList_append_lies rfl _ _ 56 rfl W6.heap.size 3 i0 _ 1 8 Tryz.underlying56 hi hz0 hz1 hz2 rfl (by decide) _ X.length (X.map encN) rfl hL9 ⟨wr.heap.size, 0, none⟩ 1 1 [.int .i64 k] rfl rfl ?x0a2 ?x0a3 ?x0a4 ?x0a5 ?x0a6 (by decide) ?_)
           case x0a2 => intro j u hj; rw [add0]; exact newcell wr #[.int .i64 k] 3 j u (by simpa using hj)
           case x0a3 => intro u hu; simp only [List.mem_cons, List.mem_nil_iff, or_false] at hu; rcases hu with rfl; rfl
           case x0a4 => unfold maxLen; omega
           case x0a5 => omega
           case x0a6 => exact Nat.le_trans hb6x.size hb9.size
           intro v9 W9 hL10 hg9
           have hkb : KB [3] V2 W9 := ((KB.below hbx).trans (KB.below hb9)).trans (KB.grown hg9 fun j hj => by obtain ⟨_, _, cu, hc⟩ := hL9.lt j hj; exact ⟨cu, 3, by simp, hc⟩)
           have hb10 : Below W6.heap.size W6 W9 := (hb6x.trans (hb9.mono hb6x.size)).grown hg9 (Nat.le_trans hb6x.size hb9.size) (fun j hj => (hL9.lt j hj).1)
           clear hg9 hL9 hb9
           go_wp2
           go_roundg g0
           case measure => omega
           case rel => exact ⟨n + 1, P, X ++ [k], _, by omega, by go_num, HN.out, hkb.2 _ _ _ (by decide) hbo, hP.kb hkb (by decide) (by decide), by rw [List.length_append, List.map_append]; exact hL10, hb10, by omega, HPs.out, by simp; omega⟩
          ·have d1 : decide (y < 0) = false := decide_eq_false (by omega)
           have d2 : decide (tall < y + allH L) = true := decide_eq_true (by omega)
           go_wp2_with (at_builtin; refine Go.Own.wpList_append_lies rfl _ _ 56 rfl W6.heap.size 3 i0 _ 1 8 Tryz.underlying56 hi hz0 hz1 hz2 rfl (by decide) _ X.length (X.map encN) rfl hL9 ⟨wr.heap.size, 0, none⟩ 1 1 [.int .i64 k] rfl rfl ?x0b2 ?x0b3 ?x0b4 ?x0b5 ?x0b6 (by decide) ?_)
           case x0b2 => intro j u hj; rw [add0]; exact newcell wr #[.int .i64 k] 3 j u (by simpa using hj)
           case x0b3 => intro u hu; simp only [List.mem_cons, List.mem_nil_iff, or_false] at hu; rcases hu with rfl; rfl
           case x0b4 => unfold maxLen; omega
           case x0b5 => omega
           case x0b6 => exact Nat.le_trans hb6x.size hb9.size
           intro v9 W9 hL10 hg9
           have hkb : KB [3] V2 W9 := ((KB.below hbx).trans (KB.below hb9)).trans (KB.grown hg9 fun j hj => by obtain ⟨_, _, cu, hc⟩ := hL9.lt j hj; exact ⟨cu, 3, by simp, hc⟩)
           have hb10 : Below W6.heap.size W6 W9 := (hb6x.trans (hb9.mono hb6x.size)).grown hg9 (Nat.le_trans hb6x.size hb9.size) (fun j hj => (hL9.lt j hj).1)
           clear hg9 hL9 hb9
           go_wp2
           go_roundg g0
           case measure => omega
           case rel => exact ⟨n + 1, P, X ++ [k], _, by omega, by go_num, HN.out, hkb.2 _ _ _ (by decide) hbo, hP.kb hkb (by decide) (by decide), by rw [List.length_append, List.map_append]; exact hL10, hb10, by omega, HPs.out, by simp; omega⟩
         ·have d1 : decide (y < 0) = false := decide_eq_false (by omega)
          have d2 : decide (tall < y + allH L) = false := decide_eq_false (by omega)
          have hsm := H5.out y (by omega)
          have hPO := hP.kb (KB.below (ts := []) hbx) (by simp) (by simp)
          have cM := con80_calls (blkF (k : Int) q canvas 0 y L) A8 c8 V2.heap.size P AO cO W6.heap.size W6.heap.size wr (by rw [H7.out]; exact hPw) (by rw [H7.out]; omega) hsm hPO (by omega) HPs.out hbo2
          rw [H7.out] at cM
          obtain ⟨b0, b0'⟩ := blk1 hbo2
          cases hm : meetsS (blkF (k : Int) q canvas 0 y L) P
          case true =>
           have hmm : ((blkF (k : Int) q canvas 0 y L).any fun x => P.any fun y => ovl x y) = true := hm
           rw [hmm] at cM
           obtain ⟨g1, g2⟩ := s3 hout hm
           have G1 := Lib.hid g1
           have G2 := Lib.hid g2
           have hsm := Lib.hid hsm
           have wy1 : IntKind.i64.wrap (y + -1) = y + -1 := IntWalk.i64_in _ (by omega)
           have wy2 : IntKind.i64.wrap (y + allH L + -1) = y + allH L + -1 := IntWalk.i64_in _ (by omega)
           clear s1 s2 s3 g1 g2 hmm hm
           go_wp2_with (go_at_call 79; refine cM.mono ?_; rintro e W9 ⟨rfl, hb9⟩)
           have hP9 := hPw.below hb9
           have hbx9 : Below V2.heap.size V2 W9 := hbx.trans (hb9.mono hbx.size)
           clear hPw hb9 hPO cM b0 b0'
           go_loopw [105] (fun i wy => ∃ m : Nat, m ≤ L.length ∧ i = .int .i64 m ∧ Pls wy V2.heap.size (.slice A8 L.length c8) (mvTo (-1) m (blkF (k : Int) q canvas 0 y L)) ∧ Below V2.heap.size V2 wy) (fun i _ => L.length - (intOf i).toNat)
           case atStart => exact ⟨0, by omega, rfl, by rw [mvTo_zero]; exact hP9, hbx9⟩
           case round =>
            obtain ⟨m, hm, rfl, hPm, hbm⟩ := hrel
            by_cases hml : m < L.length
            ·obtain ⟨us, hu1, hu2, hu3⟩ := hPm
             rw [mvTo_length, H7.out] at hu1 hu2
             obtain ⟨p, hp⟩ : ∃ p, (blkF (k : Int) q canvas 0 y L)[m]? = some p := ⟨_, List.getElem?_eq_getElem (by rw [H7.out]; exact hml)⟩
             have hpm := mvTo_get (d := -1) hp
             have hset := mvTo_set (d := -1) hp
             have hsp := hsm.out p (List.mem_of_getElem? hp)
             obtain ⟨u, hu⟩ : ∃ u, us[m]? = some u := ⟨_, List.getElem?_eq_getElem (by omega)⟩
             obtain ⟨g, off, c9, e9, hc9, hg1, hg2, hg3, hfz, hcl, hput⟩ := hu2.put (by omega)
             injection e9 with e10 e11 e12
             subst e10 e12
             have hcl3 := hcl (m * 7 + 3) (.int .i64 p.y) ((cells63_get hu hpm (by omega)).trans rfl)
             have hfz3 := hfz (off + m * 7 + 3)
             have hp3 := hput (m * 7 + 3) (.int .i64 (p.y + -1)) (by omega)
             rw [cells63_y _ (by rw [mvTo_length, H7.out]; exact hu1) hpm, hset] at hp3
             have eo : off + (m * 7 + 3) = off + m * 7 + 3 := by omega
             rw [eo] at hcl3 hp3
             have hps := set_ps (y := p.y + -1) hpm
             rw [hset] at hps
             have hkp : KB [63] wr (wr.setCell ⟨g, off + m * 7 + 3, none⟩ (.int .i64 (p.y + -1))) := by obtain ⟨cur, hcur⟩ := hg3; exact KB.set hcur (by simp) _
             have hin : ∀ (i : Nat) (u : Value) (p' : Pl), us[i]? = some u → (mvTo (-1) (m + 1) (blkF (k : Int) q canvas 0 y L))[i]? = some p' → In42 (wr.setCell ⟨g, off + m * 7 + 3, none⟩ (.int .i64 (p.y + -1))) u p'.ps := by
              intro i u p' h1 h2
              obtain ⟨r, hr1, hr2⟩ := hps i p' h2
              rw [← hr2]
              exact (hu3 i u r h1 hr1).kb hkp (by decide)
             have hbm2 : Below V2.heap.size V2 (wr.setCell ⟨g, off + m * 7 + 3, none⟩ (.int .i64 (p.y + -1))) := hbm.setCell (p := ⟨g, _, none⟩) hg1 _
             have HIN := Lib.hid hin
             have wp1 : IntKind.i64.wrap (p.y + -1) = p.y + -1 := IntWalk.i64_in _ (by have := hsp.2.1; omega)
             have wm1 : IntKind.i64.wrap ((m : Int) + 1) = (m : Int) + 1 := IntWalk.i64_in _ (by omega)
             clear hset hps hin hput hcl hfz hpm hp hu hu3 hsp hkp
             go_wp2_with fail
             go_roundw
             case rel => exact ⟨m + 1, by omega, by go_num, ⟨us, by rw [mvTo_length, H7.out]; exact hu1, by rw [mvTo_length, H7.out]; exact hp3, HIN.out⟩, hbm2⟩
             case measure => (simp [intOf]; try omega)
            ·obtain rfl : m = L.length := by omega
             have hPn : Pls wr V2.heap.size (.slice A8 L.length c8) (blkF (k : Int) q canvas 0 (y + -1) L) := by
              rw [H6.out]
              have := mvTo_all (-1) (blkF (k : Int) q canvas 0 y L)
              rw [H7.out] at this
              rw [← this]
              exact hPm
             clear hPm
             go_wp2_with fail
             go_roundg (moves q.b tall (y + byS q.b))
             case measure => rw [HGK.out]; exact G1.out
             case rel => exact ⟨y + byS q.b, rfl, rfl, by rw [hby], by rw [hby]; congr 1; omega, G2.out, by rw [hby]; exact hPn, hbm, by rw [hby]; omega, by rw [hby]; omega⟩
          case false =>
           have hmm : ((blkF (k : Int) q canvas 0 y L).any fun x => P.any fun y => ovl x y) = false := hm
           rw [hmm] at cM
           have HN := Lib.hid (H1.out _ (H3.out y (s2 hout hm)))
           clear s1 s2 s3 hmm hm
           go_wp2_with (first | (go_at_call 79; refine cM.mono ?_; rintro e W9 ⟨rfl, hb9⟩; have hP9 := hPw.below hb9; have hPO9 := hPO.below hb9; have hbo9 := (hb9.block _ (Array.getElem?_eq_some_iff.1 hbo2).1).trans hbo2; obtain ⟨q0, q0'⟩ := blk1 hbo9; obtain ⟨us, hu1, hu2, hu3⟩ := hP9; rw [H7.out] at hu2; obtain ⟨ps, hp1, hp2, hp3⟩ := hPO9; obtain ⟨a8, c8', e8, hc8', hcells⟩ := hu2.cell hLpos; injection e8 with e8 e9 e10; subst e8 e10) | (at_builtin; refine Go.Own.wpList_append_lies rfl _ _ 55 rfl W6.heap.size 63 i1 _ 7 72 Tryz.underlying55 hj hpz0 hpz1 hpz2 rfl (by decide) _ P.length (cells63 ps P) rfl hp2 a8 L.length c8 (cells63 us (blkF (k : Int) q canvas 0 y L)) rfl (by rw [cells63_length _ _ hu1, H7.out]) hcells (cells63_one (w := W9) hu3) ?z04 ?z05 ?z06 hLpos ?_))
           case z04 => unfold maxLen; omega
           case z05 => omega
           case z06 => exact Nat.le_trans hb6x.size hb9.size
           intro v10 W10 hL10 hg10
           obtain ⟨A10, c10, rfl, hc10⟩ := hL10.form
           have hk10 : KB [63] W9 W10 := KB.grown hg10 fun j hj => by obtain ⟨_, _, cu, hc⟩ := hp2.lt j hj; exact ⟨cu, 63, by simp, hc⟩
           have hb10 : Below W6.heap.size W6 W10 := (hb6x.trans (hb9.mono hb6x.size)).grown hg10 (Nat.le_trans hb6x.size hb9.size) (fun j hj => (hp2.lt j hj).1)
           have hboA := hk10.2 _ _ _ (by decide) hbo9
           obtain ⟨r0, r0'⟩ := blk1 hboA
           clear hg10 q0 q0' b0 b0' cM hPw hPO
           go_wp2_with fail
           go_roundg g0
           case measure => omega
           case rel =>
            have hkS : KB [55] W10 (W10.setCell ⟨W6.heap.size, 0, none⟩ (.slice A10 (P.length + L.length) c10)) := KB.set hboA (by simp) _
            have hkA : KB [63, 55] V2 (W10.setCell ⟨W6.heap.size, 0, none⟩ (.slice A10 (P.length + L.length) c10)) := (((KB.below hbx).trans (KB.below hb9)).trans (hk10.mono (by simp))).trans (hkS.mono (by simp))
            exact ⟨n + 1, P ++ blkF (k : Int) q canvas 0 y L, X, _, by omega, by go_num, HN.out, by rw [set1 hboA]; rfl, (Pls.append (w := W9) hp1 hp3 hu1 hu3 (by rw [H7.out]; exact hL10) hk10).kb hkS (by decide) (by decide), hX.kb hkA (by decide), hb10.setCell (p := ⟨W6.heap.size, 0, none⟩) (Nat.le_refl _) _, by rw [List.length_append, H7.out]; omega, fun p hp => by rcases List.mem_append.1 hp with h | h; exact HPs.out p h; exact hsm p h, by omega⟩
       ·go_wp2_with (go_at_call 78; refine cB.mono ?_; rintro e W8 ⟨v8, rfl, hP8, hb8⟩; have c0 := cell_later hb8 c0; have c1 := cell_later hb8 c1; have c2 := cell_later hb8 c2; have c3 := cell_later hb8 c3; have hmr := cell_later hb8 hmr; obtain ⟨A8, c8, e8, hc8⟩ := hP8.form; rw [H7.out] at e8 hc8; subst e8)
        clear cB c0 c1 c2 c3 hmr o1
        go_loopg [15, 19, 20] (moves q.b tall fr) (fun g vl f t wx => ∃ y : Int, g = moves q.b tall y ∧ vl = .slice AX X.length cX ∧ f = .int .i64 y ∧ t = .int .i64 (y + allH L) ∧ (∃ m, moves q.b tall y < m ∧ slideF (k : Int) q canvas tall L P m y = R) ∧ Pls wx V2.heap.size (.slice A8 L.length c8) (blkF (k : Int) q canvas 0 y L) ∧ Below V2.heap.size V2 wx ∧ -13000 ≤ y ∧ y ≤ 1001)
        case atStart => exact ⟨fr, rfl, rfl, rfl, rfl, H8.out, hP8, hb8, by omega, by omega⟩
        case round =>
         obtain ⟨y, hgk, rfl, rfl, rfl, hsl, hPw, hbx, hy1, hy2⟩ := hrel
         obtain ⟨s1, s2, s3⟩ := H4.out y hsl
         have HGK := Lib.hid hgk
         have hbo2 := (hbx.block _ (Array.getElem?_eq_some_iff.1 hbo).1).trans hbo
         have hb6x : Below W6.heap.size W6 wr := hbr.trans (hbx.mono hbr.size)
         clear hsl hP8 hb8 hgk
         by_cases hout : y < 0 ∨ tall < y + allH L
         ·have HN := Lib.hid (H1.out _ (H2.out (s1 hout)))
          have hXx := hX.kb (KB.below (ts := []) hbx) (by simp)
          have hb9 : Below wr.heap.size wr (wr.alloc (.cells #[.int .i64 k] 3)) := (Below.refl _ wr).alloc (Nat.le_refl _) _
          have hL9 := hXx.kb (KB.below (ts := []) hb9) (by simp)
          clear s1 s2 s3 hXx
          rcases Int.lt_or_le y 0 with h0 | h0
          ·have d1 : decide (y < 0) = true := decide_eq_true h0
           go_wp2_with (at_builtin; refine Go.Own.wpList_append_lies rfl _ _ 56 rfl W6.heap.size 3 i0 _ 1 8 Tryz.underlying56 hi hz0 hz1 hz2 rfl (by decide) _ X.length (X.map encN) rfl hL9 ⟨wr.heap.size, 0, none⟩ 1 1 [.int .i64 k] rfl rfl ?x1a2 ?x1a3 ?x1a4 ?x1a5 ?x1a6 (by decide) ?_)
           case x1a2 => intro j u hj; rw [add0]; exact newcell wr #[.int .i64 k] 3 j u (by simpa using hj)
           case x1a3 => intro u hu; simp only [List.mem_cons, List.mem_nil_iff, or_false] at hu; rcases hu with rfl; rfl
           case x1a4 => unfold maxLen; omega
           case x1a5 => omega
           case x1a6 => exact Nat.le_trans hb6x.size hb9.size
           intro v9 W9 hL10 hg9
           have hkb : KB [3] V2 W9 := ((KB.below hbx).trans (KB.below hb9)).trans (KB.grown hg9 fun j hj => by obtain ⟨_, _, cu, hc⟩ := hL9.lt j hj; exact ⟨cu, 3, by simp, hc⟩)
           have hb10 : Below W6.heap.size W6 W9 := (hb6x.trans (hb9.mono hb6x.size)).grown hg9 (Nat.le_trans hb6x.size hb9.size) (fun j hj => (hL9.lt j hj).1)
           clear hg9 hL9 hb9
           go_wp2
           go_roundg g0
           case measure => omega
           case rel => exact ⟨n + 1, P, X ++ [k], _, by omega, by go_num, HN.out, hkb.2 _ _ _ (by decide) hbo, hP.kb hkb (by decide) (by decide), by rw [List.length_append, List.map_append]; exact hL10, hb10, by omega, HPs.out, by simp; omega⟩
          ·have d1 : decide (y < 0) = false := decide_eq_false (by omega)
           have d2 : decide (tall < y + allH L) = true := decide_eq_true (by omega)
           go_wp2_with (at_builtin; refine Go.Own.wpList_append_lies rfl _ _ 56 rfl W6.heap.size 3 i0 _ 1 8 Tryz.underlying56 hi hz0 hz1 hz2 rfl (by decide) _ X.length (X.map encN) rfl hL9 ⟨wr.heap.size, 0, none⟩ 1 1 [.int .i64 k] rfl rfl ?x1b2 ?x1b3 ?x1b4 ?x1b5 ?x1b6 (by decide) ?_)
           case x1b2 => intro j u hj; rw [add0]; exact newcell wr #[.int .i64 k] 3 j u (by simpa using hj)
           case x1b3 => intro u hu; simp only [List.mem_cons, List.mem_nil_iff, or_false] at hu; rcases hu with rfl; rfl
           case x1b4 => unfold maxLen; omega
           case x1b5 => omega
           case x1b6 => exact Nat.le_trans hb6x.size hb9.size
           intro v9 W9 hL10 hg9
           have hkb : KB [3] V2 W9 := ((KB.below hbx).trans (KB.below hb9)).trans (KB.grown hg9 fun j hj => by obtain ⟨_, _, cu, hc⟩ := hL9.lt j hj; exact ⟨cu, 3, by simp, hc⟩)
           have hb10 : Below W6.heap.size W6 W9 := (hb6x.trans (hb9.mono hb6x.size)).grown hg9 (Nat.le_trans hb6x.size hb9.size) (fun j hj => (hL9.lt j hj).1)
           clear hg9 hL9 hb9
           go_wp2
           go_roundg g0
           case measure => omega
           case rel => exact ⟨n + 1, P, X ++ [k], _, by omega, by go_num, HN.out, hkb.2 _ _ _ (by decide) hbo, hP.kb hkb (by decide) (by decide), by rw [List.length_append, List.map_append]; exact hL10, hb10, by omega, HPs.out, by simp; omega⟩
         ·have d1 : decide (y < 0) = false := decide_eq_false (by omega)
          have d2 : decide (tall < y + allH L) = false := decide_eq_false (by omega)
          have hsm := H5.out y (by omega)
          have hPO := hP.kb (KB.below (ts := []) hbx) (by simp) (by simp)
          have cM := con80_calls (blkF (k : Int) q canvas 0 y L) A8 c8 V2.heap.size P AO cO W6.heap.size W6.heap.size wr (by rw [H7.out]; exact hPw) (by rw [H7.out]; omega) hsm hPO (by omega) HPs.out hbo2
          rw [H7.out] at cM
          obtain ⟨b0, b0'⟩ := blk1 hbo2
          cases hm : meetsS (blkF (k : Int) q canvas 0 y L) P
          case true =>
           have hmm : ((blkF (k : Int) q canvas 0 y L).any fun x => P.any fun y => ovl x y) = true := hm
           rw [hmm] at cM
           obtain ⟨g1, g2⟩ := s3 hout hm
           have G1 := Lib.hid g1
           have G2 := Lib.hid g2
           have hsm := Lib.hid hsm
           have wy1 : IntKind.i64.wrap (y + 1) = y + 1 := IntWalk.i64_in _ (by omega)
           have wy2 : IntKind.i64.wrap (y + allH L + 1) = y + allH L + 1 := IntWalk.i64_in _ (by omega)
           clear s1 s2 s3 g1 g2 hmm hm
           go_wp2_with (go_at_call 79; refine cM.mono ?_; rintro e W9 ⟨rfl, hb9⟩)
           have hP9 := hPw.below hb9
           have hbx9 : Below V2.heap.size V2 W9 := hbx.trans (hb9.mono hbx.size)
           clear hPw hb9 hPO cM b0 b0'
           go_loopw [105] (fun i wy => ∃ m : Nat, m ≤ L.length ∧ i = .int .i64 m ∧ Pls wy V2.heap.size (.slice A8 L.length c8) (mvTo (1) m (blkF (k : Int) q canvas 0 y L)) ∧ Below V2.heap.size V2 wy) (fun i _ => L.length - (intOf i).toNat)
           case atStart => exact ⟨0, by omega, rfl, by rw [mvTo_zero]; exact hP9, hbx9⟩
           case round =>
            obtain ⟨m, hm, rfl, hPm, hbm⟩ := hrel
            by_cases hml : m < L.length
            ·obtain ⟨us, hu1, hu2, hu3⟩ := hPm
             rw [mvTo_length, H7.out] at hu1 hu2
             obtain ⟨p, hp⟩ : ∃ p, (blkF (k : Int) q canvas 0 y L)[m]? = some p := ⟨_, List.getElem?_eq_getElem (by rw [H7.out]; exact hml)⟩
             have hpm := mvTo_get (d := 1) hp
             have hset := mvTo_set (d := 1) hp
             have hsp := hsm.out p (List.mem_of_getElem? hp)
             obtain ⟨u, hu⟩ : ∃ u, us[m]? = some u := ⟨_, List.getElem?_eq_getElem (by omega)⟩
             obtain ⟨g, off, c9, e9, hc9, hg1, hg2, hg3, hfz, hcl, hput⟩ := hu2.put (by omega)
             injection e9 with e10 e11 e12
             subst e10 e12
             have hcl3 := hcl (m * 7 + 3) (.int .i64 p.y) ((cells63_get hu hpm (by omega)).trans rfl)
             have hfz3 := hfz (off + m * 7 + 3)
             have hp3 := hput (m * 7 + 3) (.int .i64 (p.y + 1)) (by omega)
             rw [cells63_y _ (by rw [mvTo_length, H7.out]; exact hu1) hpm, hset] at hp3
             have eo : off + (m * 7 + 3) = off + m * 7 + 3 := by omega
             rw [eo] at hcl3 hp3
             have hps := set_ps (y := p.y + 1) hpm
             rw [hset] at hps
             have hkp : KB [63] wr (wr.setCell ⟨g, off + m * 7 + 3, none⟩ (.int .i64 (p.y + 1))) := by obtain ⟨cur, hcur⟩ := hg3; exact KB.set hcur (by simp) _
             have hin : ∀ (i : Nat) (u : Value) (p' : Pl), us[i]? = some u → (mvTo (1) (m + 1) (blkF (k : Int) q canvas 0 y L))[i]? = some p' → In42 (wr.setCell ⟨g, off + m * 7 + 3, none⟩ (.int .i64 (p.y + 1))) u p'.ps := by
              intro i u p' h1 h2
              obtain ⟨r, hr1, hr2⟩ := hps i p' h2
              rw [← hr2]
              exact (hu3 i u r h1 hr1).kb hkp (by decide)
             have hbm2 : Below V2.heap.size V2 (wr.setCell ⟨g, off + m * 7 + 3, none⟩ (.int .i64 (p.y + 1))) := hbm.setCell (p := ⟨g, _, none⟩) hg1 _
             have HIN := Lib.hid hin
             have wp1 : IntKind.i64.wrap (p.y + 1) = p.y + 1 := IntWalk.i64_in _ (by have := hsp.2.1; omega)
             have wm1 : IntKind.i64.wrap ((m : Int) + 1) = (m : Int) + 1 := IntWalk.i64_in _ (by omega)
             clear hset hps hin hput hcl hfz hpm hp hu hu3 hsp hkp
             go_wp2_with fail
             go_roundw
             case rel => exact ⟨m + 1, by omega, by go_num, ⟨us, by rw [mvTo_length, H7.out]; exact hu1, by rw [mvTo_length, H7.out]; exact hp3, HIN.out⟩, hbm2⟩
             case measure => (simp [intOf]; try omega)
            ·obtain rfl : m = L.length := by omega
             have hPn : Pls wr V2.heap.size (.slice A8 L.length c8) (blkF (k : Int) q canvas 0 (y + 1) L) := by
              rw [H6.out]
              have := mvTo_all (1) (blkF (k : Int) q canvas 0 y L)
              rw [H7.out] at this
              rw [← this]
              exact hPm
             clear hPm
             go_wp2_with fail
             go_roundg (moves q.b tall (y + byS q.b))
             case measure => rw [HGK.out]; exact G1.out
             case rel => exact ⟨y + byS q.b, rfl, rfl, by rw [hby], by rw [hby]; congr 1; omega, G2.out, by rw [hby]; exact hPn, hbm, by rw [hby]; omega, by rw [hby]; omega⟩
          case false =>
           have hmm : ((blkF (k : Int) q canvas 0 y L).any fun x => P.any fun y => ovl x y) = false := hm
           rw [hmm] at cM
           have HN := Lib.hid (H1.out _ (H3.out y (s2 hout hm)))
           clear s1 s2 s3 hmm hm
           go_wp2_with (first | (go_at_call 79; refine cM.mono ?_; rintro e W9 ⟨rfl, hb9⟩; have hP9 := hPw.below hb9; have hPO9 := hPO.below hb9; have hbo9 := (hb9.block _ (Array.getElem?_eq_some_iff.1 hbo2).1).trans hbo2; obtain ⟨q0, q0'⟩ := blk1 hbo9; obtain ⟨us, hu1, hu2, hu3⟩ := hP9; rw [H7.out] at hu2; obtain ⟨ps, hp1, hp2, hp3⟩ := hPO9; obtain ⟨a8, c8', e8, hc8', hcells⟩ := hu2.cell hLpos; injection e8 with e8 e9 e10; subst e8 e10) | (at_builtin; refine Go.Own.wpList_append_lies rfl _ _ 55 rfl W6.heap.size 63 i1 _ 7 72 Tryz.underlying55 hj hpz0 hpz1 hpz2 rfl (by decide) _ P.length (cells63 ps P) rfl hp2 a8 L.length c8 (cells63 us (blkF (k : Int) q canvas 0 y L)) rfl (by rw [cells63_length _ _ hu1, H7.out]) hcells (cells63_one (w := W9) hu3) ?z14 ?z15 ?z16 hLpos ?_))
           case z14 => unfold maxLen; omega
           case z15 => omega
           case z16 => exact Nat.le_trans hb6x.size hb9.size
           intro v10 W10 hL10 hg10
           obtain ⟨A10, c10, rfl, hc10⟩ := hL10.form
           have hk10 : KB [63] W9 W10 := KB.grown hg10 fun j hj => by obtain ⟨_, _, cu, hc⟩ := hp2.lt j hj; exact ⟨cu, 63, by simp, hc⟩
           have hb10 : Below W6.heap.size W6 W10 := (hb6x.trans (hb9.mono hb6x.size)).grown hg10 (Nat.le_trans hb6x.size hb9.size) (fun j hj => (hp2.lt j hj).1)
           have hboA := hk10.2 _ _ _ (by decide) hbo9
           obtain ⟨r0, r0'⟩ := blk1 hboA
           clear hg10 q0 q0' b0 b0' cM hPw hPO
           go_wp2_with fail
           go_roundg g0
           case measure => omega
           case rel =>
            have hkS : KB [55] W10 (W10.setCell ⟨W6.heap.size, 0, none⟩ (.slice A10 (P.length + L.length) c10)) := KB.set hboA (by simp) _
            have hkA : KB [63, 55] V2 (W10.setCell ⟨W6.heap.size, 0, none⟩ (.slice A10 (P.length + L.length) c10)) := (((KB.below hbx).trans (KB.below hb9)).trans (hk10.mono (by simp))).trans (hkS.mono (by simp))
            exact ⟨n + 1, P ++ blkF (k : Int) q canvas 0 y L, X, _, by omega, by go_num, HN.out, by rw [set1 hboA]; rfl, (Pls.append (w := W9) hp1 hp3 hu1 hu3 (by rw [H7.out]; exact hL10) hk10).kb hkS (by decide) (by decide), hX.kb hkA (by decide), hb10.setCell (p := ⟨W6.heap.size, 0, none⟩) (Nat.le_refl _) _, by rw [List.length_append, H7.out]; omega, fun p hp => by rcases List.mem_append.1 hp with h | h; exact HPs.out p h; exact hsm p h, by omega⟩
end Go.Proofs.YtogidacejbjljaaGreatDoor.PTextChecks
end
section
/- TextChecks' own function (7), by hand. -/
set_option linter.unusedVariables false
set_option linter.unusedSimpArgs false
namespace Go.Proofs.YtogidacejbjljaaGreatDoor.PTextChecks
open Go.RowKit Go.Mix Go.Proofs.YtogidacejbjljaaGreatDoorW.PrintWords Go.Proofs.YtogidacejbjljaaGreatDoorW.PrintLast Go.Proofs.YtogidacejbjljaaGreatDoorW.PrintMore
theorem eqp_self {l : List S42} (hl : l.length ≤ 140737488351232) : ∀ (d i k : Nat), i + d = l.length → d < k → r18_EqPieces.l0 k l l (i : Int) = some true := by
 intro d
 induction d with
 | zero =>
  intro i k hi hk
  obtain ⟨k, rfl⟩ : ∃ m, k = m + 1 := ⟨k - 1, by omega⟩
  unfold r18_EqPieces.l0
  rw [if_neg (by omega)]
 | succ d ih =>
  intro i k hi hk
  obtain ⟨k, rfl⟩ : ∃ m, k = m + 1 := ⟨k - 1, by omega⟩
  have hlt : i < l.length := by omega
  unfold r18_EqPieces.l0
  rw [if_pos (by omega), if_pos (by omega), if_pos (by omega), if_neg (by simp), wsucc hlt (by omega)]
  exact ih (i + 1) k (by omega) (by omega)
theorem same_self (a b c : Int) {l : List S42} (hl : l.length ≤ 140737488351232) : r18_Same.f (l.length + 1) a b c l a b c l = some true := by
 unfold r18_Same.f r18_EqPieces.f
 rw [if_pos rfl, if_pos rfl, if_pos rfl, if_pos rfl]
 rw [show (0 : Int) = ((0 : Nat) : Int) from rfl, eqp_self hl l.length 0 _ (by omega) (by omega)]
 rfl
theorem wordsLen_le {l : List S42} {B : Nat} : (∀ p ∈ l, p.f0.size ≤ B) → wordsLen l ≤ l.length * B := by
 induction l with
 | nil => intro _; simp [wordsLen]
 | cons p l ih =>
  intro h
  have h1 := h p (List.mem_cons_self ..)
  have h2 := ih fun q hq => h q (List.mem_cons_of_mem _ hq)
  simp only [wordsLen, List.map_cons, List.sum_cons, List.length_cons] at h2 ⊢
  rw [Nat.succ_mul]
  omega
def longB (l : List S42) : Bool := decide (400 < l.length) || decide (10000 < wordsLen l)
theorem long_run {l : List S42} (h : ∀ p ∈ l, p.f0.size ≤ 140737488351232) (a b c : Int) : w18_long.f (l.length + 1) a b c l = some (longB l) := by
 unfold w18_long.f longB
 by_cases hl : (l.length : Int) > 400
 ·rw [if_pos hl, decide_eq_true (by omega)]; rfl
 ·have h1 := wordsLen_le h
  have h2 : l.length * 140737488351232 ≤ 400 * 140737488351232 := Nat.mul_le_mul (by omega) (Nat.le_refl _)
  rw [if_neg hl, rWords_big (by omega) (by omega) a b c _ (by omega), decide_eq_false (p := 400 < l.length) (by omega)]
  simp only [Option.bind_some, wordsOf_size, Bool.false_or]
  congr 1
  rw [Bool.eq_iff_iff, decide_eq_true_iff, decide_eq_true_iff]
  omega
def LRel (w1 : World) (wr : World) : Prop := Below w1.heap.size w1 wr
end Go.Proofs.YtogidacejbjljaaGreatDoor.PTextChecks
end
section
/- What the layout's laws call besides: longAll, EqInts, HasInt, EqPlaced. -/
set_option linter.unusedVariables false
set_option linter.unusedSimpArgs false
namespace Go.Proofs.YtogidacejbjljaaGreatDoor.PTextChecks
open Go.RowKit Go.Mix Go.Own Go.Sort Go.Proofs.YtogidacejbjljaaGreatDoorW.PrintWords Go.Proofs.YtogidacejbjljaaGreatDoorW.PrintLast Go.Proofs.YtogidacejbjljaaGreatDoorW.PrintMore
def totL (C : List Cu) : Nat := (C.map fun q => wordsLen q.l).sum
def longAllB (C : List Cu) : Bool := C.any (fun q => longB q.l) || (decide (50 < C.length) || decide (400 < totL C))
theorem totL_take_succ {C : List Cu} {n : Nat} {q : Cu} (h : C[n]? = some q) : totL (C.take (n + 1)) = totL (C.take n) + wordsLen q.l := by
 obtain ⟨hn, he⟩ := List.getElem?_eq_some_iff.1 h
 unfold totL
 rw [List.take_succ_eq_append_getElem hn, List.map_append, List.sum_append, he]
 simp
theorem wl_in_tot {C : List Cu} {q : Cu} (h : q ∈ C) : wordsLen q.l ≤ totL C := by
 induction C with
 | nil => simp at h
 | cons p C ih =>
  simp only [totL, List.map_cons, List.sum_cons] at ih ⊢
  rcases List.mem_cons.1 h with rfl | h
  ·omega
  ·have := ih h; omega
theorem longAll_fit {C : List Cu} (h : longAllB C = false) : C.length ≤ 50 ∧ totL C ≤ 400 ∧ ∀ q ∈ C, Fit q.l ∧ q.l.length ≤ 400 ∧ wordsLen q.l ≤ 400 := by
 unfold longAllB at h
 rw [Bool.or_eq_false_iff, Bool.or_eq_false_iff, decide_eq_false_iff_not, decide_eq_false_iff_not] at h
 obtain ⟨h1, h2, h3⟩ := h
 refine ⟨by omega, by omega, fun q hq => ?_⟩
 have h4 : longB q.l = false := by
  rw [List.any_eq_false] at h1
  simpa using h1 q hq
 unfold longB at h4
 rw [Bool.or_eq_false_iff, decide_eq_false_iff_not, decide_eq_false_iff_not] at h4
 have := wl_in_tot hq
 exact ⟨⟨by omega, by omega⟩, by omega, by omega⟩
set_option maxHeartbeats 2000000 in
set_option maxRecDepth 100000 in
theorem longAll_calls (C : List Cu) (A : Option Addr) (cap : Nat) (w : World) (hA : CuesIn w A C) (hC : C.length ≤ 140737488351232) (hs : ∀ q ∈ C, ∀ p ∈ q.l, p.f0.size ≤ 140737488351232) :
  Calls Tryz.prog 38 #[.slice A C.length cap] w fun e w' => e = .returned (.bool (longAllB C)) ∧ Below w.heap.size w w' := by
 go_enter Tryz.func38, Tryz.ntmps38
 go_wp2
 go_loopw [3, 4] (fun s i wr => ∃ n : Nat, n ≤ C.length ∧ s = .int .i64 (totL (C.take n)) ∧ i = .int .i64 n ∧ (C.take n).any (fun q => longB q.l) = false ∧ totL (C.take n) ≤ 10000 * n ∧ Below w.heap.size w wr) (fun _ i _ => C.length - (intOf i).toNat)
 case atStart => exact ⟨0, by omega, rfl, rfl, rfl, by simp [totL], Below.refl _ _⟩
 case round =>
  obtain ⟨n, hn, rfl, rfl, hno, htot, hbr⟩ := hrel
  by_cases hlt : n < C.length
  ·obtain ⟨q, hq⟩ : ∃ q, C[n]? = some q := ⟨_, List.getElem?_eq_getElem hlt⟩
   obtain ⟨ad, Ap, cp, rfl, c0, c1, c2, c3, hcp, hK⟩ := (hA.below hbr) n q hq
   have hqm := List.mem_of_getElem? hq
   have cL := fun X (h : Kd.C k42 X Ap q.l.length q.l) => w18_long.calls (q.l.length + 1) q.a q.b q.c Ap cp q.l (longB q.l) X h hcp (long_run (hs q hqm) q.a q.b q.c)
   have hts := any_take_succ (fun q : Cu => longB q.l) C n q hq
   rw [hno, Bool.false_or] at hts
   try simp only at hts
   have hat := any_at (fun q : Cu => longB q.l) C n q hq
   try simp only at hat
   have hsu := totL_take_succ hq
   generalize totL (C.take n) = tt at hsu htot ⊢
   have wr1 : IntKind.i64.wrap ((n : Int) + 1) = (n : Int) + 1 := IntWalk.i64_in _ (by omega)
   have HT := Lib.hid hts
   have HA := Lib.hid hat
   have HS := Lib.hid hsu
   clear hts hat hsu hno
   cases hlg : longB q.l
   case true =>
    rw [hlg] at cL
    have HF : longAllB C = true := by unfold longAllB; rw [HA.out hlg]; rfl
    have HF := Lib.hid HF
    go_wp2_with (go_at_call 17; refine (cL _ hK).mono ?_; rintro e W ⟨rfl, hbW⟩)
    go_ret
    exact ⟨by rw [HF.out]; rfl, hbr.trans (hbW.mono hbr.size)⟩
   case false =>
    rw [hlg] at cL
    have hlg' := hlg
    unfold longB at hlg'
    rw [Bool.or_eq_false_iff, decide_eq_false_iff_not, decide_eq_false_iff_not] at hlg'
    have cW := fun X h => rWords_calls q.a q.b q.c Ap cp q.l X h hcp ⟨by omega, by omega⟩
    have hwz := wordsOf_size q.l
    generalize wordsOf q.l = ws at cW hwz
    have wr2 : IntKind.i64.wrap ((tt : Int) + (ws.size : Int)) = (tt : Int) + (ws.size : Int) := IntWalk.i64_in _ (by omega)
    have HZ := Lib.hid hwz
    have hwl : wordsLen q.l ≤ 10000 := by omega
    clear hwz
    go_wp2_with (first | (go_at_call 17; refine (cL _ hK).mono ?_; rintro e W ⟨rfl, hbW⟩; have hKW := Kd.C_below hK hbW; have c0 := cell_later hbW c0; have c1 := cell_later hbW c1; have c2 := cell_later hbW c2; have c3 := cell_later hbW c3) | (go_at_call 30; refine (cW _ hKW).mono ?_; rintro e W2 ⟨rfl, hb2⟩))
    go_roundw
    case rel => exact ⟨n + 1, by omega, by rw [HS.out, ← HZ.out]; simp, by go_num, by rw [HT.out]; exact hlg, by rw [HS.out]; omega, hbr.trans ((hbW.trans (hb2.mono hbW.size)).mono hbr.size)⟩
    case measure => (simp [intOf]; try omega)
  ·obtain rfl : n = C.length := by omega
   rw [List.take_length] at hno ⊢
   have hF : longAllB C = (decide (50 < C.length) || decide (400 < totL C)) := by unfold longAllB; rw [hno, Bool.false_or]
   have HF := Lib.hid hF
   clear hF hno
   generalize totL C = tt at htot HF ⊢
   cases h5 : decide ((50 : Int) < (C.length : Int))
   case true =>
    have h5' : decide (50 < C.length) = true := decide_eq_true (by have := of_decide_eq_true h5; omega)
    have HF2 := Lib.hid h5'
    clear h5'
    go_wp2
    go_ret
    exact ⟨by rw [HF.out, HF2.out]; rfl, hbr⟩
   case false =>
    have h5' : decide (50 < C.length) = false := decide_eq_false (by have := of_decide_eq_false h5; omega)
    have HF2 := Lib.hid h5'
    clear h5'
    go_wp2
    go_ret
    refine ⟨?_, hbr⟩
    rw [HF.out, HF2.out]
    simp
    try omega
theorem at_ints {w : World} {base : Nat} {A : Option Addr} {c : Nat} {L : List Nat} (h : Lies w base 3 1 (.slice A L.length c) L.length (L.map encN)) (k : Nat) (hk : k < L.length) : ∃ ad x, A = some ad ∧ L[k]? = some x ∧ w.cell? (ad.add k) = some (.int .i64 (x : Nat)) := by
 obtain ⟨ad, rfl, hc⟩ := h.at (by omega)
 refine ⟨ad, L[k], rfl, List.getElem?_eq_getElem hk, (hc k 0 _ ?_).1 rfl⟩
 rw [Nat.add_zero, List.getElem?_map, List.getElem?_eq_getElem hk]
 rfl
set_option maxHeartbeats 1000000 in
set_option maxRecDepth 100000 in
theorem eqInts_calls (L : List Nat) (A B : Option Addr) (ca cb b1 b2 : Nat) (w : World) (hL : L.length ≤ 1000000) (h1 : Lies w b1 3 1 (.slice A L.length ca) L.length (L.map encN)) (h2 : Lies w b2 3 1 (.slice B L.length cb) L.length (L.map encN)) :
  Calls Tryz.prog 42 #[.slice A L.length ca, .slice B L.length cb] w fun e w' => e = .returned (.bool true) ∧ Below w.heap.size w w' := by
 go_enter Tryz.func42, Tryz.ntmps42
 go_wp2
 go_loopw [5] (fun i wr => ∃ n : Nat, n ≤ L.length ∧ i = .int .i64 n ∧ Below w.heap.size w wr) (fun i _ => L.length - (intOf i).toNat)
 case atStart => exact ⟨0, by omega, rfl, Below.refl _ _⟩
 case round =>
  obtain ⟨n, hn, rfl, hbr⟩ := hrel
  by_cases hlt : n < L.length
  ·obtain ⟨ad, x, rfl, hx, d1⟩ := at_ints (h1.kb (KB.below (ts := []) hbr) (by simp)) n hlt
   obtain ⟨be, y, rfl, hy, d2⟩ := at_ints (h2.kb (KB.below (ts := []) hbr) (by simp)) n hlt
   rw [hx] at hy
   injection hy with hy
   subst hy
   have wr1 : IntKind.i64.wrap ((n : Int) + 1) = (n : Int) + 1 := IntWalk.i64_in _ (by omega)
   have x1 : (0 : Int) ≤ (n : Int) := by omega
   have x2 : (n : Int) < (L.length : Int) := by omega
   clear hx
   go_wp2_with fail
   go_quiet (fail)
   go_wp2
   go_roundw
   case rel => exact ⟨n + 1, by omega, by go_num, bdrewN hbr _⟩
   case measure => (simp [intOf]; try omega)
  ·obtain rfl : n = L.length := by omega
   go_wp2
   go_ret
   exact ⟨rfl, hbr⟩
end Go.Proofs.YtogidacejbjljaaGreatDoor.PTextChecks
end
section
/- TextApart's own function (11). -/
set_option linter.unusedVariables false
set_option linter.unusedSimpArgs false
namespace Go.Proofs.YtogidacejbjljaaGreatDoor.PTextChecks
open Go.RowKit Go.Mix Go.Own Go.Sort Go.Proofs.YtogidacejbjljaaGreatDoorW.PrintWords Go.Proofs.YtogidacejbjljaaGreatDoorW.PrintLast Go.Proofs.YtogidacejbjljaaGreatDoorW.PrintMore
theorem lay_ok {C : List Cu} {canvas tall : Int} (h : layE C canvas tall = 0) : (1 ≤ canvas ∧ canvas ≤ 1000) ∧ (1 ≤ tall ∧ tall ≤ 1000) ∧ C.length ≤ 8 ∧ ∀ q ∈ C, brkE q.a q.b q.c q.l canvas = 0 := by
 unfold layE at h
 split at h
 ·rename_i hg
  rw [Bool.and_eq_true] at hg
  split at h
  ·omega
  ·exact ⟨inB_true hg.1, inB_true hg.2, by omega, firstE_ok h⟩
 ·omega
end Go.Proofs.YtogidacejbjljaaGreatDoor.PTextChecks
end
section
/- The reference's EqPlaced, over two rows that hold the same lines. -/
set_option linter.unusedVariables false
set_option linter.unusedSimpArgs false
namespace Go.Proofs.YtogidacejbjljaaGreatDoor.PTextChecks
open Go.RowKit Go.Mix Go.Own Go.Sort Go.Proofs.YtogidacejbjljaaGreatDoorW.PrintWords Go.Proofs.YtogidacejbjljaaGreatDoorW.PrintLast Go.Proofs.YtogidacejbjljaaGreatDoorW.PrintMore
set_option maxHeartbeats 4000000 in
set_option maxRecDepth 100000 in
theorem eqPlaced_calls (P : List Pl) (A B : Option Addr) (ca cb b1 b2 : Nat) (w : World) (hL : P.length ≤ 1000000) (hps : ∀ p ∈ P, p.ps.length ≤ 1000000) (h1 : Pls w b1 (.slice A P.length ca) P) (h2 : Pls w b2 (.slice B P.length cb) P) :
  Calls Tryz.prog 41 #[.slice A P.length ca, .slice B P.length cb] w fun e w' => e = .returned (.bool true) ∧ Below w.heap.size w w' := by
 go_enter Tryz.func41, Tryz.ntmps41
 go_wp2
 go_loopw [5] (fun i wr => ∃ n : Nat, n ≤ P.length ∧ i = .int .i64 n ∧ Below w.heap.size w wr) (fun i _ => P.length - (intOf i).toNat)
 case atStart => exact ⟨0, by omega, rfl, Below.refl _ _⟩
 case round =>
  obtain ⟨n, hn, rfl, hbr⟩ := hrel
  by_cases hlt : n < P.length
  ·obtain ⟨ad, u, p, rfl, hp, hI, d0, d1, d2, d3, d4, d5, d6⟩ := at_pls (h1.below hbr) n hlt
   obtain ⟨be, v, q, rfl, hq, hJ, e0, e1, e2, e3, e4, e5, e6⟩ := at_pls (h2.below hbr) n hlt
   rw [hp] at hq
   injection hq with hq
   subst hq
   have hpl := hps p (List.mem_of_getElem? hp)
   obtain ⟨Au, cu, rfl, hle3, hC1⟩ := hI.reads (by omega)
   obtain ⟨Av, cv, rfl, hle4, hC2⟩ := hJ.reads (by omega)
   have wr1 : IntKind.i64.wrap ((n : Int) + 1) = (n : Int) + 1 := IntWalk.i64_in _ (by omega)
   have cE := fun X (g1 : Kd.C k42 X Au p.ps.length p.ps) (g2 : Kd.C k42 X Av p.ps.length p.ps) => r18_EqPieces.calls (p.ps.length + 1) Au cu p.ps Av cv p.ps true X g1 hle3 g2 hle4 (by unfold r18_EqPieces.f; rw [if_pos rfl, show (0 : Int) = ((0 : Nat) : Int) from rfl]; exact eqp_self (by omega) p.ps.length 0 _ (by omega) (by omega))
   obtain ⟨pc, pl, px, py, pw, ph, pps⟩ := p
   simp only at *
   generalize pps.length = pn at *
   have x1 : (0 : Int) ≤ (n : Int) := by omega
   have x2 : (n : Int) < (P.length : Int) := by omega
   clear hp hI hJ
   have k0 : Below wr.heap.size wr (wr.drew) := (Below.refl _ wr).drew
   have a00 := cell_later k0 d0
   have b00 := cell_later k0 e0
   have a01 := cell_later k0 d1
   have b01 := cell_later k0 e1
   have a02 := cell_later k0 d2
   have b02 := cell_later k0 e2
   have a03 := cell_later k0 d3
   have b03 := cell_later k0 e3
   have a04 := cell_later k0 d4
   have b04 := cell_later k0 e4
   have a05 := cell_later k0 d5
   have b05 := cell_later k0 e5
   have a06 := cell_later k0 d6
   have b06 := cell_later k0 e6
   have k1 : Below wr.heap.size wr ((wr.alloc (.cells #[.int .i64 0, .int .i64 0, .int .i64 0, .int .i64 0, .int .i64 0, .int .i64 0, .slice none 0 0] 63)).drew) := ((Below.refl _ wr).alloc (Nat.le_refl _) _).drew
   have a10 := cell_later k1 d0
   have b10 := cell_later k1 e0
   have a11 := cell_later k1 d1
   have b11 := cell_later k1 e1
   have a12 := cell_later k1 d2
   have b12 := cell_later k1 e2
   have a13 := cell_later k1 d3
   have b13 := cell_later k1 e3
   have a14 := cell_later k1 d4
   have b14 := cell_later k1 e4
   have a15 := cell_later k1 d5
   have b15 := cell_later k1 e5
   have a16 := cell_later k1 d6
   have b16 := cell_later k1 e6
   have k2 : Below wr.heap.size wr (((wr.alloc (.cells #[.int .i64 0, .int .i64 0, .int .i64 0, .int .i64 0, .int .i64 0, .int .i64 0, .slice none 0 0] 63)).alloc (.cells #[.int .i64 0, .int .i64 0, .int .i64 0, .int .i64 0, .int .i64 0, .int .i64 0, .slice none 0 0] 63)).drew) := (((Below.refl _ wr).alloc (Nat.le_refl _) _).alloc (by simp) _).drew
   have a20 := cell_later k2 d0
   have b20 := cell_later k2 e0
   have a21 := cell_later k2 d1
   have b21 := cell_later k2 e1
   have a22 := cell_later k2 d2
   have b22 := cell_later k2 e2
   have a23 := cell_later k2 d3
   have b23 := cell_later k2 e3
   have a24 := cell_later k2 d4
   have b24 := cell_later k2 e4
   have a25 := cell_later k2 d5
   have b25 := cell_later k2 e5
   have a26 := cell_later k2 d6
   have b26 := cell_later k2 e6
   have k3 : Below wr.heap.size wr ((wr.alloc (.cells #[.int .i64 pc, .int .i64 pl, .int .i64 px, .int .i64 py, .int .i64 pw, .int .i64 ph, .slice Au pn cu] 63)).drew) := ((Below.refl _ wr).alloc (Nat.le_refl _) _).drew
   have b30 := cell_later k3 e0
   have b31 := cell_later k3 e1
   have b32 := cell_later k3 e2
   have b33 := cell_later k3 e3
   have b34 := cell_later k3 e4
   have b35 := cell_later k3 e5
   have b36 := cell_later k3 e6
   have k4 : Below wr.heap.size wr (((wr.alloc (.cells #[.int .i64 pc, .int .i64 pl, .int .i64 px, .int .i64 py, .int .i64 pw, .int .i64 ph, .slice Au pn cu] 63)).alloc (.cells #[.int .i64 0, .int .i64 0, .int .i64 0, .int .i64 0, .int .i64 0, .int .i64 0, .slice none 0 0] 63)).drew) := (((Below.refl _ wr).alloc (Nat.le_refl _) _).alloc (by simp) _).drew
   have b40 := cell_later k4 e0
   have b41 := cell_later k4 e1
   have b42 := cell_later k4 e2
   have b43 := cell_later k4 e3
   have b44 := cell_later k4 e4
   have b45 := cell_later k4 e5
   have b46 := cell_later k4 e6
   have k5 : Below wr.heap.size wr (((wr.alloc (.cells #[.int .i64 0, .int .i64 0, .int .i64 0, .int .i64 0, .int .i64 0, .int .i64 0, .slice none 0 0] 63)).alloc (.cells #[.int .i64 pc, .int .i64 pl, .int .i64 px, .int .i64 py, .int .i64 pw, .int .i64 ph, .slice Au pn cu] 63)).drew) := (((Below.refl _ wr).alloc (Nat.le_refl _) _).alloc (by simp) _).drew
   have b50 := cell_later k5 e0
   have b51 := cell_later k5 e1
   have b52 := cell_later k5 e2
   have b53 := cell_later k5 e3
   have b54 := cell_later k5 e4
   have b55 := cell_later k5 e5
   have b56 := cell_later k5 e6
   have kX1 : Below wr.heap.size wr (((wr.alloc (.cells #[.int .i64 pc, .int .i64 pl, .int .i64 px, .int .i64 py, .int .i64 pw, .int .i64 ph, .slice Au pn cu] 63)).alloc (.cells #[.int .i64 pc, .int .i64 pl, .int .i64 px, .int .i64 py, .int .i64 pw, .int .i64 ph, .slice Av pn cv] 63)).drew) := (((Below.refl _ wr).alloc (Nat.le_refl _) _).alloc (by simp) _).drew
   have kX2 : Below wr.heap.size wr (((wr.alloc (.cells #[.int .i64 pc, .int .i64 pl, .int .i64 px, .int .i64 py, .int .i64 pw, .int .i64 ph, .slice Av pn cv] 63)).alloc (.cells #[.int .i64 pc, .int .i64 pl, .int .i64 px, .int .i64 py, .int .i64 pw, .int .i64 ph, .slice Au pn cu] 63)).drew) := (((Below.refl _ wr).alloc (Nat.le_refl _) _).alloc (by simp) _).drew
   go_wp2_with fail
   go_region
   ·clear kX2
    go_wp2_with (go_at_call 37; refine (cE _ (Kd.C_below hC1 kX1) (Kd.C_below hC2 kX1)).mono ?_; rintro e W ⟨rfl, hbW⟩)
    go_roundw
    case rel => exact ⟨n + 1, by omega, by go_num, hbr.trans ((kX1.trans (hbW.below.mono kX1.size)).mono hbr.size)⟩
    case measure => (simp [intOf]; try omega)
   ·clear kX1
    go_wp2_with (go_at_call 37; refine (cE _ (Kd.C_below hC1 kX2) (Kd.C_below hC2 kX2)).mono ?_; rintro e W ⟨rfl, hbW⟩)
    go_roundw
    case rel => exact ⟨n + 1, by omega, by go_num, hbr.trans ((kX2.trans (hbW.below.mono kX2.size)).mono hbr.size)⟩
    case measure => (simp [intOf]; try omega)
  ·obtain rfl : n = P.length := by omega
   go_wp2
   go_ret
   exact ⟨rfl, hbr⟩
end Go.Proofs.YtogidacejbjljaaGreatDoor.PTextChecks
end
section
/- The block of a cue's lines: the reference's. -/
set_option linter.unusedVariables false
set_option linter.unusedSimpArgs false
namespace Go.Own
/-- append at a step of a region that draws its order. -/
theorem step_append_rows {P : Program} {ops : Array Oper} {o : Oper} {a : Act} {w : World} {K : Act → World → Prop} {Q : Exit → Act → World → Prop} {E : Prop} (hgd : o.guard = none) (s x : Operand) (t : TypeId)
  (ho : o.op = .call { callee := .builtin .append, args := #[s, x], argTypes := #[t, t] })
  (base : Nat) (e : TypeId) (i : TypeInfo) (z : Value) (size bytes : Nat) (ht : P.underlying t = some (.slice e)) (hi : P.info? e = some i) (hz : i.zero = some z)
  (hsize : i.size = size) (hby : i.bytes = bytes) (hzs : z.cells.size = size) (hsz : 0 < size)
  (v : Value) (n : Nat) (xs : List Value) (hs : a.eval s = v) (hown : Lies w base e size v n xs)
  (ad : Addr) (m c : Nat) (news : List Value) (hx : a.eval x = .slice (some ad) m c) (hl : news.length = m * size) (hnews : ∀ j u, news[j]? = some u → w.cell? (ad.add j) = some u) (h1 : ∀ u ∈ news, u.oneCell' = true)
  (h63 : n + m ≤ maxLen) (hbytes : (n + m) * bytes ≤ 140737488355328) (hbase : base ≤ w.heap.size) (hm : 0 < m)
  (h : ∀ v' w', Lies w' base e size v' (n + m) (xs ++ news) → w.grownBy w' v.ownBlock → K (a.put o.dst v') w') : if Region.wanted o (yielded ops a.tmps) = true then Oper.wp P o a w K Q else E := by
 have hw : Region.wanted o (yielded ops a.tmps) = true := by simp [Region.wanted, hgd]
 rw [if_pos hw]
 obtain ⟨v', w', hr, h2, h3⟩ := run_append (P := P) w base t o.type e i z size bytes ht hi hz hsize hby hzs hsz v n xs hown ad m c news hl hnews h1 h63 hbytes hbase hm
 unfold Oper.wp execOp
 simp only [ho, resolve, invoke, builtin, Sem.run_bind, Sem.run_pure, Result.andThen_ok, List.map_toArray, List.map_cons, List.map_nil, hs, hx, hr]
 exact h v' w' h2 h3
end Go.Own
namespace Go.Proofs.YtogidacejbjljaaGreatDoor.PTextChecks
open Go.RowKit Go.Mix Go.Own Go.Proofs.YtogidacejbjljaaGreatDoorW.PrintWords Go.Proofs.YtogidacejbjljaaGreatDoorW.PrintLast Go.Proofs.YtogidacejbjljaaGreatDoorW.PrintMore
theorem rlength_calls (A : Option Addr) (cap : Nat) (l : List S81) (w : World) (hr : Kd.C k81 w A l.length l) (hc : l.length ≤ cap) (hl : l.length ≤ 1000000) (hb : Byt l) :
  Calls Tryz.prog 61 #[.slice A l.length cap] w fun e w' => e = .returned (.int .i64 (sumW l 0)) ∧ Below w.heap.size w w' := by
 refine r18_length.calls (l.length + 15) A cap l (sumW l 0) w hr hc ?_
 unfold r18_length.f
 have := length_loop hl hb l.length 0 (l.length + 15) 0 (by omega) (by omega)
 rw [show ((0 : Nat) : Int) = 0 from rfl] at this
 rw [this]
 rfl
theorem rhalf_calls (n : Int) (h : -1000000 ≤ n ∧ n ≤ 1000000) (w : World) : Calls Tryz.prog 114 #[.int .i64 n] w fun e w' => e = .returned (.int .i64 (n / 2)) ∧ w' = w := by
 by_cases h0 : n < 0
 ·have d0 : decide (n < 0) = true := decide_eq_true h0
  have w1 : IntKind.i64.wrap (1 - n) = 1 - n := IntWalk.i64_in _ (by omega)
  have e1 : (1 - n).tdiv 2 = (1 - n) / 2 := Int.tdiv_eq_ediv_of_nonneg (by omega)
  obtain ⟨z, hz⟩ : ∃ z, (1 - n) / 2 = z := ⟨_, rfl⟩
  rw [hz] at e1
  have w2 : IntKind.i64.wrap (-z) = -z := IntWalk.i64_in _ (by omega)
  have HZ := Lib.hid hz
  clear hz
  go_enter Tryz.func114, Tryz.ntmps114
  go_wp2
  go_ret
  refine ⟨?_, rfl⟩
  have := HZ.out
  show Ending.returned (.int .i64 (wrap64 (-wrap64 z))) = _
  rw [show wrap64 z = z by unfold wrap64; omega, show n / 2 = -z by omega, show wrap64 (-z) = -z by unfold wrap64; omega]
 ·have d0 : decide (n < 0) = false := decide_eq_false h0
  have e1 : n.tdiv 2 = n / 2 := Int.tdiv_eq_ediv_of_nonneg (by omega)
  go_enter Tryz.func114, Tryz.ntmps114
  go_wp2
  go_ret
  exact ⟨by simp [e1], rfl⟩
set_option maxHeartbeats 40000000 in
set_option maxRecDepth 100000 in
theorem rblock_calls (k : Nat) (q : Cu) (A : Option Addr) (cap : Nat) (canvas tall : Int) (w : World) (hk : k ≤ 8) (hr : Kd.C k42 w A q.l.length q.l) (hc : q.l.length ≤ cap) (lo : LinesOk q canvas) (ht : 1 ≤ tall ∧ tall ≤ 1000) :
  Calls Tryz.prog 84 #[.agg #[.int .i64 q.a, .int .i64 q.b, .int .i64 q.c, .slice A q.l.length cap], .int .i64 k, .int .i64 canvas, .int .i64 tall] w fun e w' =>
   ∃ v, e = .returned v ∧ Pls w' w.heap.size v (blkF k q canvas 0 (fromS q.b q.c tall (allH (linesQ q canvas))) (linesQ q canvas)) ∧ Below w.heap.size w w' := by
 obtain ⟨i0, hi, hii⟩ := Option.map_eq_some_iff.1 infoPlaced
 simp only [Prod.mk.injEq] at hii
 obtain ⟨hz0, hz1, hz2⟩ := hii
 have hmar := headB_margin lo.head
 have hal := headB_align lo.head
 have cB := fun X h => rrows_calls q.a q.b q.c A cap q.l canvas X h hc lo.fit.1 lo.fit.2 lo.ok hmar lo.cv
 have hup := uptoH_range lo.high
 have hall : 0 ≤ allH (linesQ q canvas) ∧ allH (linesQ q canvas) ≤ 12800 := by rw [← uptoH_all]; have := hup (linesQ q canvas).length; have := lo.len; omega
 have hfr := fromS_range (al := q.b) hmar ht hall
 have hlen := lo.len
 have hwd := lo.wide
 have hhi := lo.high
 have hsh := lo.short
 have hcv := lo.cv
 clear lo
 have cB : ∀ X, Kd.C k42 X A q.l.length q.l → Calls Tryz.prog 75 #[.agg #[.int .i64 q.a, .int .i64 q.b, .int .i64 q.c, .slice A q.l.length cap], .int .i64 canvas] X fun e w' => ∃ v vs, e = .returned v ∧ Rows w' w' X.heap.size v vs (linesQ q canvas) ∧ Below X.heap.size X w' := cB
 generalize linesQ q canvas = L at *
 go_enter Tryz.func84, Tryz.ntmps84
 go_wp2_with (go_at_call 75; refine (cB _ (Kd.C_alloc hr _)).mono ?_; rintro e W1 ⟨v1, vs, rfl, ⟨hvs, hLv, hIn⟩, hb1⟩; obtain ⟨h0, h1, h2, h3⟩ := box4 hb1; obtain ⟨A1, c1, rfl, hc1⟩ := hLv.form)
 have hbw : Below w.heap.size w W1 := ((Below.refl _ w).alloc (Nat.le_refl _) _).trans (hb1.mono (by simp))
 have hs1 := hbw.size
 clear cB hb1 hr
 go_loopw [10, 11] (fun s i wr => ∃ n : Nat, n ≤ L.length ∧ s = .int .i64 (uptoH L n) ∧ i = .int .i64 n ∧ Below W1.heap.size W1 wr) (fun _ i _ => L.length - (intOf i).toNat)
 case atStart => exact ⟨0, by omega, rfl, rfl, Below.refl _ _⟩
 case round =>
  obtain ⟨n, hn, rfl, rfl, hbr⟩ := hrel
  by_cases hlt : n < L.length
  ·obtain ⟨ad, u, p, rfl, hu, hp, d0, d1⟩ := at_rows (hLv.kb (KB.below (ts := []) hbr) (by simp)) hvs n hlt
   have hsu := uptoH_succ hp
   have hun := hup n
   have hph := hhi p (List.mem_of_getElem? hp)
   generalize uptoH L n = un at hsu hun ⊢
   have wr1 : IntKind.i64.wrap (un + p.2) = un + p.2 := IntWalk.i64_in _ (by omega)
   have wr2 : IntKind.i64.wrap ((n : Int) + 1) = (n : Int) + 1 := IntWalk.i64_in _ (by omega)
   have HS := Lib.hid hsu
   clear hsu hp hu
   go_wp2_with fail
   go_roundw
   case rel => exact ⟨n + 1, by omega, by rw [HS.out], by go_num, hbr⟩
   case measure => (simp [intOf]; try omega)
  ·obtain rfl : n = L.length := by omega
   rw [uptoH_all]
   rename World => V
   have h1' := cell_later hbr h1
   have h2' := cell_later hbr h2
   have hLr := hLv.kb (KB.below (ts := []) hbr) (by simp)
   have hInr := fun i u p hu hp => (hIn i u p hu hp).below hbr
   have hbwr : Below w.heap.size w V := hbw.trans (hbr.mono hs1)
   clear hbr hLv hIn h0 h1 h2 h3 hbw
   have hrow : (q.b ≤ 3 ∧ fromS q.b q.c tall (allH L) = tall - q.c - allH L) ∨ (3 < q.b ∧ q.b ≤ 6 ∧ fromS q.b q.c tall (allH L) = (tall - allH L) / 2) ∨ (6 < q.b ∧ fromS q.b q.c tall (allH L) = q.c) := by
    unfold fromS
    rcases Int.lt_or_le 3 q.b with h | h
    ·rcases Int.lt_or_le 6 q.b with h' | h'
     ·exact .inr (.inr ⟨h', by rw [if_neg (by omega), if_neg (by omega)]⟩)
     ·exact .inr (.inl ⟨h, h', by rw [if_neg (by omega), if_pos h']⟩)
    ·exact .inl ⟨h, by rw [if_pos h]⟩
   have hcol : (q.b.tmod 3 = 0 ∧ ∀ wd, xS q.b q.c canvas wd = canvas - q.c - wd) ∨ (q.b.tmod 3 = 1 ∧ ∀ wd, xS q.b q.c canvas wd = q.c) ∨ (q.b.tmod 3 = 2 ∧ ∀ wd, xS q.b q.c canvas wd = (canvas - wd) / 2) := by
    have e : q.b.tmod 3 = q.b % 3 := Int.tmod_eq_emod_of_nonneg (by omega)
    rw [e]
    unfold xS
    have : q.b % 3 = 0 ∨ q.b % 3 = 1 ∨ q.b % 3 = 2 := by omega
    rcases this with h | h | h
    ·exact .inl ⟨h, fun wd => if_pos h⟩
    ·exact .inr (.inl ⟨h, fun wd => by rw [if_neg (by omega), if_neg (by omega)]⟩)
    ·exact .inr (.inr ⟨h, fun wd => by rw [if_neg (by omega), if_pos h]⟩)
   have wr1 : IntKind.i64.wrap (tall - q.c) = tall - q.c := IntWalk.i64_in _ (by omega)
   have wr2 : IntKind.i64.wrap (tall - q.c - allH L) = tall - q.c - allH L := IntWalk.i64_in _ (by omega)
   have wr3 : IntKind.i64.wrap (tall - allH L) = tall - allH L := IntWalk.i64_in _ (by omega)
   obtain ⟨fr, hfr0⟩ : ∃ fr, fromS q.b q.c tall (allH L) = fr := ⟨_, rfl⟩
   rw [hfr0] at hrow hfr
   have HFR := Lib.hid hfr0
   clear hfr0
   have HCOL := Lib.hid hcol
   clear hcol
   have hbase := hbwr.size
   rcases hrow with ⟨r1, r3⟩ | ⟨r1, r1', r3⟩ | ⟨r1, r3⟩
   ·have s1 : decide (q.b ≤ 3) = true := decide_eq_true r1
    have HR := Lib.hid r3
    clear r3
    go_wp2_with (go_at_call 114; refine (rhalf_calls _ (by omega) _).mono ?_; rintro e W2 ⟨rfl, hW2⟩; rw [hW2]; clear hW2 W2)
    go_loopw [12, 13, 14] (fun y v i wx => ∃ n : Nat, n ≤ L.length ∧ y = .int .i64 (fr + uptoH L n) ∧ i = .int .i64 n ∧ Pls wx V.heap.size v (blkF k q canvas 0 fr (L.take n)) ∧ KB [63] V wx ∧ Below V.heap.size V wx) (fun _ _ i _ => L.length - (intOf i).toNat)
    case atStart => exact ⟨0, by omega, by rw [uptoH_zero, HR.out, Int.add_zero], rfl, Pls.nil _ _, KB.refl _ _, Below.refl _ _⟩
    case round =>
     obtain ⟨n, hn, rfl, rfl, hP, hkb, hbx⟩ := hrel
     by_cases hlt : n < L.length
     ·obtain ⟨ad, u, p, rfl, hu, hp, d0, d1⟩ := at_rows (hLr.kb hkb (by decide)) hvs n hlt
      obtain ⟨Au, cu, rfl, hcu, hC⟩ := (hInr n u p hu hp).below hbx
      obtain ⟨hsl, hso⟩ := hsh p (List.mem_of_getElem? hp)
      have cW := fun X h => rlength_calls Au cu p.1 X h hcu (by omega) hso.byt
      have cP := fun X h => pieces_owns Au cu p.1 X h (by omega) hso.byt
      have hsu := uptoH_succ hp
      have hun := hup n
      have hph := hhi p (List.mem_of_getElem? hp)
      have hpw := hwd p (List.mem_of_getElem? hp)
      have hsn := blkF_snoc (k : Int) q canvas fr hp
      have hxp : plOf (k : Int) q canvas n (fr + uptoH L n) p = ⟨k, n, xS q.b q.c canvas (sumW p.1 0), fr + uptoH L n, sumW p.1 0, p.2, piecesS p.1⟩ := rfl
      rw [hxp] at hsn
      have hbl : (blkF (k : Int) q canvas 0 fr (L.take n)).length = n := by rw [blkF_len, List.length_take]; omega
      have hg1 : ∀ X, KB [63] V X → X.cell? ⟨(ad.add (n * 2)).block, (ad.add (n * 2)).off + 1, none⟩ = some (.int .i64 p.2) := by
       intro X hX
       obtain ⟨ad', u', p', e1, _, hp', _, g1⟩ := at_rows (hLr.kb hX (by decide)) hvs n hlt
       injection e1 with e1
       subst e1
       rw [hp] at hp'
       injection hp' with hp'
       subst hp'
       exact g1
      obtain ⟨us, hw1, hw2, hw3⟩ := hP
      rw [hbl] at hw2
      generalize uptoH L n = un at hsu hun hsn ⊢
      generalize sumW p.1 0 = su at cW hpw hsn
      generalize p.2 = hg at d1 hph hsu hsn hg1
      generalize p.1.length = lp at *
      have wy : IntKind.i64.wrap (fr + un + hg) = fr + un + hg := IntWalk.i64_in _ (by omega)
      have wn : IntKind.i64.wrap ((n : Int) + 1) = (n : Int) + 1 := IntWalk.i64_in _ (by omega)
      have wx1 : IntKind.i64.wrap (canvas - q.c) = canvas - q.c := IntWalk.i64_in _ (by omega)
      have wx2 : IntKind.i64.wrap (canvas - q.c - su) = canvas - q.c - su := IntWalk.i64_in _ (by omega)
      have wx3 : IntKind.i64.wrap (canvas - su) = canvas - su := IntWalk.i64_in _ (by omega)
      have HS := Lib.hid hsu
      have HN := Lib.hid hsn
      have HG := Lib.hid hg1
      clear hsu hsn hp hu hxp hg1
      have e1 := cell_later hbx h1'
      have e2 := cell_later hbx h2'
      rcases HCOL.out with ⟨c1, c2⟩ | ⟨c1, c2⟩ | ⟨c1, c2⟩
      ·have HC := Lib.hid (c2 su)
       clear c2
       go_wp2_with (first | (go_at_call 61; refine (cW _ hC).mono ?_; rintro e W2 ⟨rfl, hb2⟩; have hC2 := Kd.C_below hC hb2; have hC2' := Kd.C_below hC hb2.drew; have e1 := cell_later hb2 e1; have e2 := cell_later hb2 e2; have d0 := cell_later hb2 d0; have d1 := cell_later hb2 d1) | (go_at_call 114; refine (rhalf_calls _ (by omega) _).mono ?_; rintro e W3 ⟨rfl, hW3⟩; rw [hW3]; clear hW3 W3))
       go_region_law (first | (go_simp; go_at_call 52; refine (cP _ ?_).mono ?_; (first | exact hC2 | exact hC2');  rintro e W4 ⟨v4, rfl, hown4, hb4⟩; have hIn : In42 W4 v4 (piecesS p.1) := (Lies.of_owns hown4).mono (Nat.zero_le _); obtain ⟨A4, c4, rfl, hle4⟩ := hIn.form; generalize hpn : (piecesS p.1).length = pl at hle4 ⊢; have d1 := cell_later hb4 d1; have hb24 := hb2.drew.trans (hb4.mono hb2.drew.size); have hb5 : Below wr.heap.size wr (W4.alloc (.cells #[.int .i64 k, .int .i64 n, .int .i64 (canvas - q.c - su), .int .i64 (fr + un), .int .i64 su, .int .i64 hg, .slice A4 pl c4] 63)) := hb24.alloc hb24.size _; have hL3 := hw2.kb (KB.below (ts := []) hb5) (by simp)) | (refine Go.Own.step_append_rows rfl _ _ 55 rfl V.heap.size 63 i0 _ 7 72 Tryz.underlying55 hi hz0 hz1 hz2 rfl (by decide) _ n (cells63 us (blkF (k : Int) q canvas 0 fr (L.take n))) rfl hL3 ⟨W4.heap.size, 0, none⟩ 1 1 [.int .i64 k, .int .i64 n, .int .i64 (canvas - q.c - su), .int .i64 (fr + un), .int .i64 su, .int .i64 hg, .slice A4 pl c4] rfl rfl (fun j u hj => by rw [add0]; exact newcell W4 #[.int .i64 k, .int .i64 n, .int .i64 (canvas - q.c - su), .int .i64 (fr + un), .int .i64 su, .int .i64 hg, .slice A4 pl c4] 63 j u (by simpa using hj)) (fun u hu => by simp only [List.mem_cons, List.mem_nil_iff, or_false] at hu; rcases hu with rfl | rfl | rfl | rfl | rfl | rfl | rfl <;> rfl) (by unfold maxLen; omega) (by omega) (Nat.le_trans hbx.size hb5.size) (by decide) ?_; intro v5 W5 hL5 hg5; have hk45 : KB [63] W4 W5 := (KB.below ((Below.refl _ W4).alloc (Nat.le_refl _) _)).trans (KB.grown hg5 fun j hj => by obtain ⟨_, _, cu, hc⟩ := hL3.lt j hj; exact ⟨cu, 63, by simp, hc⟩); have hk5 : KB [63] wr W5 := (KB.below hb24).trans hk45; have hb6 : Below V.heap.size V W5 := (hbx.trans (hb5.mono hbx.size)).grown hg5 (Nat.le_trans hbx.size hb5.size) (fun j hj => (hL3.lt j hj).1); have g1 := HG.out W5 (hkb.trans hk5); have hw3' : ∀ (i : Nat) (u : Value) (p : Pl), us[i]? = some u → (blkF (k : Int) q canvas 0 fr (L.take n))[i]? = some p → In42 W4 u p.ps := fun i u p h1 h2 => (hw3 i u p h1 h2).kb (KB.below (ts := []) hb24) (by simp)))
       all_goals
        clear hg5 hL3 hb5 hb24 hb4 hown4 e1 e2 d0 d1
        (try go_wp2_with fail)
        go_roundw
        case rel => exact ⟨n + 1, by omega, by rw [HS.out, Int.add_assoc], by go_num, by rw [HN.out, HC.out]; exact Pls.snoc (w := W4) hw1 hw3' (by rw [hbl]; exact hL5) (by subst hpn; exact hIn) hk45, hkb.trans hk5, hb6⟩
        case measure => (simp [intOf]; try omega)
      ·have HC := Lib.hid (c2 su)
       clear c2
       go_wp2_with (first | (go_at_call 61; refine (cW _ hC).mono ?_; rintro e W2 ⟨rfl, hb2⟩; have hC2 := Kd.C_below hC hb2; have hC2' := Kd.C_below hC hb2.drew; have e1 := cell_later hb2 e1; have e2 := cell_later hb2 e2; have d0 := cell_later hb2 d0; have d1 := cell_later hb2 d1) | (go_at_call 114; refine (rhalf_calls _ (by omega) _).mono ?_; rintro e W3 ⟨rfl, hW3⟩; rw [hW3]; clear hW3 W3))
       go_region_law (first | (go_simp; go_at_call 52; refine (cP _ ?_).mono ?_; (first | exact hC2 | exact hC2');  rintro e W4 ⟨v4, rfl, hown4, hb4⟩; have hIn : In42 W4 v4 (piecesS p.1) := (Lies.of_owns hown4).mono (Nat.zero_le _); obtain ⟨A4, c4, rfl, hle4⟩ := hIn.form; generalize hpn : (piecesS p.1).length = pl at hle4 ⊢; have d1 := cell_later hb4 d1; have hb24 := hb2.drew.trans (hb4.mono hb2.drew.size); have hb5 : Below wr.heap.size wr (W4.alloc (.cells #[.int .i64 k, .int .i64 n, .int .i64 q.c, .int .i64 (fr + un), .int .i64 su, .int .i64 hg, .slice A4 pl c4] 63)) := hb24.alloc hb24.size _; have hL3 := hw2.kb (KB.below (ts := []) hb5) (by simp)) | (refine Go.Own.step_append_rows rfl _ _ 55 rfl V.heap.size 63 i0 _ 7 72 Tryz.underlying55 hi hz0 hz1 hz2 rfl (by decide) _ n (cells63 us (blkF (k : Int) q canvas 0 fr (L.take n))) rfl hL3 ⟨W4.heap.size, 0, none⟩ 1 1 [.int .i64 k, .int .i64 n, .int .i64 q.c, .int .i64 (fr + un), .int .i64 su, .int .i64 hg, .slice A4 pl c4] rfl rfl (fun j u hj => by rw [add0]; exact newcell W4 #[.int .i64 k, .int .i64 n, .int .i64 q.c, .int .i64 (fr + un), .int .i64 su, .int .i64 hg, .slice A4 pl c4] 63 j u (by simpa using hj)) (fun u hu => by simp only [List.mem_cons, List.mem_nil_iff, or_false] at hu; rcases hu with rfl | rfl | rfl | rfl | rfl | rfl | rfl <;> rfl) (by unfold maxLen; omega) (by omega) (Nat.le_trans hbx.size hb5.size) (by decide) ?_; intro v5 W5 hL5 hg5; have hk45 : KB [63] W4 W5 := (KB.below ((Below.refl _ W4).alloc (Nat.le_refl _) _)).trans (KB.grown hg5 fun j hj => by obtain ⟨_, _, cu, hc⟩ := hL3.lt j hj; exact ⟨cu, 63, by simp, hc⟩); have hk5 : KB [63] wr W5 := (KB.below hb24).trans hk45; have hb6 : Below V.heap.size V W5 := (hbx.trans (hb5.mono hbx.size)).grown hg5 (Nat.le_trans hbx.size hb5.size) (fun j hj => (hL3.lt j hj).1); have g1 := HG.out W5 (hkb.trans hk5); have hw3' : ∀ (i : Nat) (u : Value) (p : Pl), us[i]? = some u → (blkF (k : Int) q canvas 0 fr (L.take n))[i]? = some p → In42 W4 u p.ps := fun i u p h1 h2 => (hw3 i u p h1 h2).kb (KB.below (ts := []) hb24) (by simp)))
       all_goals
        clear hg5 hL3 hb5 hb24 hb4 hown4 e1 e2 d0 d1
        (try go_wp2_with fail)
        go_roundw
        case rel => exact ⟨n + 1, by omega, by rw [HS.out, Int.add_assoc], by go_num, by rw [HN.out, HC.out]; exact Pls.snoc (w := W4) hw1 hw3' (by rw [hbl]; exact hL5) (by subst hpn; exact hIn) hk45, hkb.trans hk5, hb6⟩
        case measure => (simp [intOf]; try omega)
      ·have HC := Lib.hid (c2 su)
       clear c2
       go_wp2_with (first | (go_at_call 61; refine (cW _ hC).mono ?_; rintro e W2 ⟨rfl, hb2⟩; have hC2 := Kd.C_below hC hb2; have hC2' := Kd.C_below hC hb2.drew; have e1 := cell_later hb2 e1; have e2 := cell_later hb2 e2; have d0 := cell_later hb2 d0; have d1 := cell_later hb2 d1) | (go_at_call 114; refine (rhalf_calls _ (by omega) _).mono ?_; rintro e W3 ⟨rfl, hW3⟩; rw [hW3]; clear hW3 W3))
       go_region_law (first | (go_simp; go_at_call 52; refine (cP _ ?_).mono ?_; (first | exact hC2 | exact hC2');  rintro e W4 ⟨v4, rfl, hown4, hb4⟩; have hIn : In42 W4 v4 (piecesS p.1) := (Lies.of_owns hown4).mono (Nat.zero_le _); obtain ⟨A4, c4, rfl, hle4⟩ := hIn.form; generalize hpn : (piecesS p.1).length = pl at hle4 ⊢; have d1 := cell_later hb4 d1; have hb24 := hb2.drew.trans (hb4.mono hb2.drew.size); have hb5 : Below wr.heap.size wr (W4.alloc (.cells #[.int .i64 k, .int .i64 n, .int .i64 ((canvas - su) / 2), .int .i64 (fr + un), .int .i64 su, .int .i64 hg, .slice A4 pl c4] 63)) := hb24.alloc hb24.size _; have hL3 := hw2.kb (KB.below (ts := []) hb5) (by simp)) | (refine Go.Own.step_append_rows rfl _ _ 55 rfl V.heap.size 63 i0 _ 7 72 Tryz.underlying55 hi hz0 hz1 hz2 rfl (by decide) _ n (cells63 us (blkF (k : Int) q canvas 0 fr (L.take n))) rfl hL3 ⟨W4.heap.size, 0, none⟩ 1 1 [.int .i64 k, .int .i64 n, .int .i64 ((canvas - su) / 2), .int .i64 (fr + un), .int .i64 su, .int .i64 hg, .slice A4 pl c4] rfl rfl (fun j u hj => by rw [add0]; exact newcell W4 #[.int .i64 k, .int .i64 n, .int .i64 ((canvas - su) / 2), .int .i64 (fr + un), .int .i64 su, .int .i64 hg, .slice A4 pl c4] 63 j u (by simpa using hj)) (fun u hu => by simp only [List.mem_cons, List.mem_nil_iff, or_false] at hu; rcases hu with rfl | rfl | rfl | rfl | rfl | rfl | rfl <;> rfl) (by unfold maxLen; omega) (by omega) (Nat.le_trans hbx.size hb5.size) (by decide) ?_; intro v5 W5 hL5 hg5; have hk45 : KB [63] W4 W5 := (KB.below ((Below.refl _ W4).alloc (Nat.le_refl _) _)).trans (KB.grown hg5 fun j hj => by obtain ⟨_, _, cu, hc⟩ := hL3.lt j hj; exact ⟨cu, 63, by simp, hc⟩); have hk5 : KB [63] wr W5 := (KB.below hb24).trans hk45; have hb6 : Below V.heap.size V W5 := (hbx.trans (hb5.mono hbx.size)).grown hg5 (Nat.le_trans hbx.size hb5.size) (fun j hj => (hL3.lt j hj).1); have g1 := HG.out W5 (hkb.trans hk5); have hw3' : ∀ (i : Nat) (u : Value) (p : Pl), us[i]? = some u → (blkF (k : Int) q canvas 0 fr (L.take n))[i]? = some p → In42 W4 u p.ps := fun i u p h1 h2 => (hw3 i u p h1 h2).kb (KB.below (ts := []) hb24) (by simp)))
       all_goals
        clear hg5 hL3 hb5 hb24 hb4 hown4 e1 e2 d0 d1
        (try go_wp2_with fail)
        go_roundw
        case rel => exact ⟨n + 1, by omega, by rw [HS.out, Int.add_assoc], by go_num, by rw [HN.out, HC.out]; exact Pls.snoc (w := W4) hw1 hw3' (by rw [hbl]; exact hL5) (by subst hpn; exact hIn) hk45, hkb.trans hk5, hb6⟩
        case measure => (simp [intOf]; try omega)
     ·obtain rfl : n = L.length := by omega
      rw [List.take_length] at hP
      go_wp2_with fail
      go_ret
      exact ⟨_, rfl, by rw [HFR.out]; exact hP.mono hbase, hbwr.trans (hbx.mono hbase)⟩
   ·have s1 : decide (q.b ≤ 3) = false := decide_eq_false (by omega)
    have s2 : decide (q.b ≤ 6) = true := decide_eq_true r1'
    have HR := Lib.hid r3
    clear r3
    go_wp2_with (go_at_call 114; refine (rhalf_calls _ (by omega) _).mono ?_; rintro e W2 ⟨rfl, hW2⟩; rw [hW2]; clear hW2 W2)
    go_loopw [12, 13, 14] (fun y v i wx => ∃ n : Nat, n ≤ L.length ∧ y = .int .i64 (fr + uptoH L n) ∧ i = .int .i64 n ∧ Pls wx V.heap.size v (blkF k q canvas 0 fr (L.take n)) ∧ KB [63] V wx ∧ Below V.heap.size V wx) (fun _ _ i _ => L.length - (intOf i).toNat)
    case atStart => exact ⟨0, by omega, by rw [uptoH_zero, HR.out, Int.add_zero], rfl, Pls.nil _ _, KB.refl _ _, Below.refl _ _⟩
    case round =>
     obtain ⟨n, hn, rfl, rfl, hP, hkb, hbx⟩ := hrel
     by_cases hlt : n < L.length
     ·obtain ⟨ad, u, p, rfl, hu, hp, d0, d1⟩ := at_rows (hLr.kb hkb (by decide)) hvs n hlt
      obtain ⟨Au, cu, rfl, hcu, hC⟩ := (hInr n u p hu hp).below hbx
      obtain ⟨hsl, hso⟩ := hsh p (List.mem_of_getElem? hp)
      have cW := fun X h => rlength_calls Au cu p.1 X h hcu (by omega) hso.byt
      have cP := fun X h => pieces_owns Au cu p.1 X h (by omega) hso.byt
      have hsu := uptoH_succ hp
      have hun := hup n
      have hph := hhi p (List.mem_of_getElem? hp)
      have hpw := hwd p (List.mem_of_getElem? hp)
      have hsn := blkF_snoc (k : Int) q canvas fr hp
      have hxp : plOf (k : Int) q canvas n (fr + uptoH L n) p = ⟨k, n, xS q.b q.c canvas (sumW p.1 0), fr + uptoH L n, sumW p.1 0, p.2, piecesS p.1⟩ := rfl
      rw [hxp] at hsn
      have hbl : (blkF (k : Int) q canvas 0 fr (L.take n)).length = n := by rw [blkF_len, List.length_take]; omega
      have hg1 : ∀ X, KB [63] V X → X.cell? ⟨(ad.add (n * 2)).block, (ad.add (n * 2)).off + 1, none⟩ = some (.int .i64 p.2) := by
       intro X hX
       obtain ⟨ad', u', p', e1, _, hp', _, g1⟩ := at_rows (hLr.kb hX (by decide)) hvs n hlt
       injection e1 with e1
       subst e1
       rw [hp] at hp'
       injection hp' with hp'
       subst hp'
       exact g1
      obtain ⟨us, hw1, hw2, hw3⟩ := hP
      rw [hbl] at hw2
      generalize uptoH L n = un at hsu hun hsn ⊢
      generalize sumW p.1 0 = su at cW hpw hsn
      generalize p.2 = hg at d1 hph hsu hsn hg1
      generalize p.1.length = lp at *
      have wy : IntKind.i64.wrap (fr + un + hg) = fr + un + hg := IntWalk.i64_in _ (by omega)
      have wn : IntKind.i64.wrap ((n : Int) + 1) = (n : Int) + 1 := IntWalk.i64_in _ (by omega)
      have wx1 : IntKind.i64.wrap (canvas - q.c) = canvas - q.c := IntWalk.i64_in _ (by omega)
      have wx2 : IntKind.i64.wrap (canvas - q.c - su) = canvas - q.c - su := IntWalk.i64_in _ (by omega)
      have wx3 : IntKind.i64.wrap (canvas - su) = canvas - su := IntWalk.i64_in _ (by omega)
      have HS := Lib.hid hsu
      have HN := Lib.hid hsn
      have HG := Lib.hid hg1
      clear hsu hsn hp hu hxp hg1
      have e1 := cell_later hbx h1'
      have e2 := cell_later hbx h2'
      rcases HCOL.out with ⟨c1, c2⟩ | ⟨c1, c2⟩ | ⟨c1, c2⟩
      ·have HC := Lib.hid (c2 su)
       clear c2
       go_wp2_with (first | (go_at_call 61; refine (cW _ hC).mono ?_; rintro e W2 ⟨rfl, hb2⟩; have hC2 := Kd.C_below hC hb2; have hC2' := Kd.C_below hC hb2.drew; have e1 := cell_later hb2 e1; have e2 := cell_later hb2 e2; have d0 := cell_later hb2 d0; have d1 := cell_later hb2 d1) | (go_at_call 114; refine (rhalf_calls _ (by omega) _).mono ?_; rintro e W3 ⟨rfl, hW3⟩; rw [hW3]; clear hW3 W3))
       go_region_law (first | (go_simp; go_at_call 52; refine (cP _ ?_).mono ?_; (first | exact hC2 | exact hC2');  rintro e W4 ⟨v4, rfl, hown4, hb4⟩; have hIn : In42 W4 v4 (piecesS p.1) := (Lies.of_owns hown4).mono (Nat.zero_le _); obtain ⟨A4, c4, rfl, hle4⟩ := hIn.form; generalize hpn : (piecesS p.1).length = pl at hle4 ⊢; have d1 := cell_later hb4 d1; have hb24 := hb2.drew.trans (hb4.mono hb2.drew.size); have hb5 : Below wr.heap.size wr (W4.alloc (.cells #[.int .i64 k, .int .i64 n, .int .i64 (canvas - q.c - su), .int .i64 (fr + un), .int .i64 su, .int .i64 hg, .slice A4 pl c4] 63)) := hb24.alloc hb24.size _; have hL3 := hw2.kb (KB.below (ts := []) hb5) (by simp)) | (refine Go.Own.step_append_rows rfl _ _ 55 rfl V.heap.size 63 i0 _ 7 72 Tryz.underlying55 hi hz0 hz1 hz2 rfl (by decide) _ n (cells63 us (blkF (k : Int) q canvas 0 fr (L.take n))) rfl hL3 ⟨W4.heap.size, 0, none⟩ 1 1 [.int .i64 k, .int .i64 n, .int .i64 (canvas - q.c - su), .int .i64 (fr + un), .int .i64 su, .int .i64 hg, .slice A4 pl c4] rfl rfl (fun j u hj => by rw [add0]; exact newcell W4 #[.int .i64 k, .int .i64 n, .int .i64 (canvas - q.c - su), .int .i64 (fr + un), .int .i64 su, .int .i64 hg, .slice A4 pl c4] 63 j u (by simpa using hj)) (fun u hu => by simp only [List.mem_cons, List.mem_nil_iff, or_false] at hu; rcases hu with rfl | rfl | rfl | rfl | rfl | rfl | rfl <;> rfl) (by unfold maxLen; omega) (by omega) (Nat.le_trans hbx.size hb5.size) (by decide) ?_; intro v5 W5 hL5 hg5; have hk45 : KB [63] W4 W5 := (KB.below ((Below.refl _ W4).alloc (Nat.le_refl _) _)).trans (KB.grown hg5 fun j hj => by obtain ⟨_, _, cu, hc⟩ := hL3.lt j hj; exact ⟨cu, 63, by simp, hc⟩); have hk5 : KB [63] wr W5 := (KB.below hb24).trans hk45; have hb6 : Below V.heap.size V W5 := (hbx.trans (hb5.mono hbx.size)).grown hg5 (Nat.le_trans hbx.size hb5.size) (fun j hj => (hL3.lt j hj).1); have g1 := HG.out W5 (hkb.trans hk5); have hw3' : ∀ (i : Nat) (u : Value) (p : Pl), us[i]? = some u → (blkF (k : Int) q canvas 0 fr (L.take n))[i]? = some p → In42 W4 u p.ps := fun i u p h1 h2 => (hw3 i u p h1 h2).kb (KB.below (ts := []) hb24) (by simp)))
       all_goals
        clear hg5 hL3 hb5 hb24 hb4 hown4 e1 e2 d0 d1
        (try go_wp2_with fail)
        go_roundw
        case rel => exact ⟨n + 1, by omega, by rw [HS.out, Int.add_assoc], by go_num, by rw [HN.out, HC.out]; exact Pls.snoc (w := W4) hw1 hw3' (by rw [hbl]; exact hL5) (by subst hpn; exact hIn) hk45, hkb.trans hk5, hb6⟩
        case measure => (simp [intOf]; try omega)
      ·have HC := Lib.hid (c2 su)
       clear c2
       go_wp2_with (first | (go_at_call 61; refine (cW _ hC).mono ?_; rintro e W2 ⟨rfl, hb2⟩; have hC2 := Kd.C_below hC hb2; have hC2' := Kd.C_below hC hb2.drew; have e1 := cell_later hb2 e1; have e2 := cell_later hb2 e2; have d0 := cell_later hb2 d0; have d1 := cell_later hb2 d1) | (go_at_call 114; refine (rhalf_calls _ (by omega) _).mono ?_; rintro e W3 ⟨rfl, hW3⟩; rw [hW3]; clear hW3 W3))
       go_region_law (first | (go_simp; go_at_call 52; refine (cP _ ?_).mono ?_; (first | exact hC2 | exact hC2');  rintro e W4 ⟨v4, rfl, hown4, hb4⟩; have hIn : In42 W4 v4 (piecesS p.1) := (Lies.of_owns hown4).mono (Nat.zero_le _); obtain ⟨A4, c4, rfl, hle4⟩ := hIn.form; generalize hpn : (piecesS p.1).length = pl at hle4 ⊢; have d1 := cell_later hb4 d1; have hb24 := hb2.drew.trans (hb4.mono hb2.drew.size); have hb5 : Below wr.heap.size wr (W4.alloc (.cells #[.int .i64 k, .int .i64 n, .int .i64 q.c, .int .i64 (fr + un), .int .i64 su, .int .i64 hg, .slice A4 pl c4] 63)) := hb24.alloc hb24.size _; have hL3 := hw2.kb (KB.below (ts := []) hb5) (by simp)) | (refine Go.Own.step_append_rows rfl _ _ 55 rfl V.heap.size 63 i0 _ 7 72 Tryz.underlying55 hi hz0 hz1 hz2 rfl (by decide) _ n (cells63 us (blkF (k : Int) q canvas 0 fr (L.take n))) rfl hL3 ⟨W4.heap.size, 0, none⟩ 1 1 [.int .i64 k, .int .i64 n, .int .i64 q.c, .int .i64 (fr + un), .int .i64 su, .int .i64 hg, .slice A4 pl c4] rfl rfl (fun j u hj => by rw [add0]; exact newcell W4 #[.int .i64 k, .int .i64 n, .int .i64 q.c, .int .i64 (fr + un), .int .i64 su, .int .i64 hg, .slice A4 pl c4] 63 j u (by simpa using hj)) (fun u hu => by simp only [List.mem_cons, List.mem_nil_iff, or_false] at hu; rcases hu with rfl | rfl | rfl | rfl | rfl | rfl | rfl <;> rfl) (by unfold maxLen; omega) (by omega) (Nat.le_trans hbx.size hb5.size) (by decide) ?_; intro v5 W5 hL5 hg5; have hk45 : KB [63] W4 W5 := (KB.below ((Below.refl _ W4).alloc (Nat.le_refl _) _)).trans (KB.grown hg5 fun j hj => by obtain ⟨_, _, cu, hc⟩ := hL3.lt j hj; exact ⟨cu, 63, by simp, hc⟩); have hk5 : KB [63] wr W5 := (KB.below hb24).trans hk45; have hb6 : Below V.heap.size V W5 := (hbx.trans (hb5.mono hbx.size)).grown hg5 (Nat.le_trans hbx.size hb5.size) (fun j hj => (hL3.lt j hj).1); have g1 := HG.out W5 (hkb.trans hk5); have hw3' : ∀ (i : Nat) (u : Value) (p : Pl), us[i]? = some u → (blkF (k : Int) q canvas 0 fr (L.take n))[i]? = some p → In42 W4 u p.ps := fun i u p h1 h2 => (hw3 i u p h1 h2).kb (KB.below (ts := []) hb24) (by simp)))
       all_goals
        clear hg5 hL3 hb5 hb24 hb4 hown4 e1 e2 d0 d1
        (try go_wp2_with fail)
        go_roundw
        case rel => exact ⟨n + 1, by omega, by rw [HS.out, Int.add_assoc], by go_num, by rw [HN.out, HC.out]; exact Pls.snoc (w := W4) hw1 hw3' (by rw [hbl]; exact hL5) (by subst hpn; exact hIn) hk45, hkb.trans hk5, hb6⟩
        case measure => (simp [intOf]; try omega)
      ·have HC := Lib.hid (c2 su)
       clear c2
       go_wp2_with (first | (go_at_call 61; refine (cW _ hC).mono ?_; rintro e W2 ⟨rfl, hb2⟩; have hC2 := Kd.C_below hC hb2; have hC2' := Kd.C_below hC hb2.drew; have e1 := cell_later hb2 e1; have e2 := cell_later hb2 e2; have d0 := cell_later hb2 d0; have d1 := cell_later hb2 d1) | (go_at_call 114; refine (rhalf_calls _ (by omega) _).mono ?_; rintro e W3 ⟨rfl, hW3⟩; rw [hW3]; clear hW3 W3))
       go_region_law (first | (go_simp; go_at_call 52; refine (cP _ ?_).mono ?_; (first | exact hC2 | exact hC2');  rintro e W4 ⟨v4, rfl, hown4, hb4⟩; have hIn : In42 W4 v4 (piecesS p.1) := (Lies.of_owns hown4).mono (Nat.zero_le _); obtain ⟨A4, c4, rfl, hle4⟩ := hIn.form; generalize hpn : (piecesS p.1).length = pl at hle4 ⊢; have d1 := cell_later hb4 d1; have hb24 := hb2.drew.trans (hb4.mono hb2.drew.size); have hb5 : Below wr.heap.size wr (W4.alloc (.cells #[.int .i64 k, .int .i64 n, .int .i64 ((canvas - su) / 2), .int .i64 (fr + un), .int .i64 su, .int .i64 hg, .slice A4 pl c4] 63)) := hb24.alloc hb24.size _; have hL3 := hw2.kb (KB.below (ts := []) hb5) (by simp)) | (refine Go.Own.step_append_rows rfl _ _ 55 rfl V.heap.size 63 i0 _ 7 72 Tryz.underlying55 hi hz0 hz1 hz2 rfl (by decide) _ n (cells63 us (blkF (k : Int) q canvas 0 fr (L.take n))) rfl hL3 ⟨W4.heap.size, 0, none⟩ 1 1 [.int .i64 k, .int .i64 n, .int .i64 ((canvas - su) / 2), .int .i64 (fr + un), .int .i64 su, .int .i64 hg, .slice A4 pl c4] rfl rfl (fun j u hj => by rw [add0]; exact newcell W4 #[.int .i64 k, .int .i64 n, .int .i64 ((canvas - su) / 2), .int .i64 (fr + un), .int .i64 su, .int .i64 hg, .slice A4 pl c4] 63 j u (by simpa using hj)) (fun u hu => by simp only [List.mem_cons, List.mem_nil_iff, or_false] at hu; rcases hu with rfl | rfl | rfl | rfl | rfl | rfl | rfl <;> rfl) (by unfold maxLen; omega) (by omega) (Nat.le_trans hbx.size hb5.size) (by decide) ?_; intro v5 W5 hL5 hg5; have hk45 : KB [63] W4 W5 := (KB.below ((Below.refl _ W4).alloc (Nat.le_refl _) _)).trans (KB.grown hg5 fun j hj => by obtain ⟨_, _, cu, hc⟩ := hL3.lt j hj; exact ⟨cu, 63, by simp, hc⟩); have hk5 : KB [63] wr W5 := (KB.below hb24).trans hk45; have hb6 : Below V.heap.size V W5 := (hbx.trans (hb5.mono hbx.size)).grown hg5 (Nat.le_trans hbx.size hb5.size) (fun j hj => (hL3.lt j hj).1); have g1 := HG.out W5 (hkb.trans hk5); have hw3' : ∀ (i : Nat) (u : Value) (p : Pl), us[i]? = some u → (blkF (k : Int) q canvas 0 fr (L.take n))[i]? = some p → In42 W4 u p.ps := fun i u p h1 h2 => (hw3 i u p h1 h2).kb (KB.below (ts := []) hb24) (by simp)))
       all_goals
        clear hg5 hL3 hb5 hb24 hb4 hown4 e1 e2 d0 d1
        (try go_wp2_with fail)
        go_roundw
        case rel => exact ⟨n + 1, by omega, by rw [HS.out, Int.add_assoc], by go_num, by rw [HN.out, HC.out]; exact Pls.snoc (w := W4) hw1 hw3' (by rw [hbl]; exact hL5) (by subst hpn; exact hIn) hk45, hkb.trans hk5, hb6⟩
        case measure => (simp [intOf]; try omega)
     ·obtain rfl : n = L.length := by omega
      rw [List.take_length] at hP
      go_wp2_with fail
      go_ret
      exact ⟨_, rfl, by rw [HFR.out]; exact hP.mono hbase, hbwr.trans (hbx.mono hbase)⟩
   ·have s1 : decide (q.b ≤ 3) = false := decide_eq_false (by omega)
    have s2 : decide (q.b ≤ 6) = false := decide_eq_false (by omega)
    have HR := Lib.hid r3
    clear r3
    go_wp2_with (go_at_call 114; refine (rhalf_calls _ (by omega) _).mono ?_; rintro e W2 ⟨rfl, hW2⟩; rw [hW2]; clear hW2 W2)
    go_loopw [12, 13, 14] (fun y v i wx => ∃ n : Nat, n ≤ L.length ∧ y = .int .i64 (fr + uptoH L n) ∧ i = .int .i64 n ∧ Pls wx V.heap.size v (blkF k q canvas 0 fr (L.take n)) ∧ KB [63] V wx ∧ Below V.heap.size V wx) (fun _ _ i _ => L.length - (intOf i).toNat)
    case atStart => exact ⟨0, by omega, by rw [uptoH_zero, HR.out, Int.add_zero], rfl, Pls.nil _ _, KB.refl _ _, Below.refl _ _⟩
    case round =>
     obtain ⟨n, hn, rfl, rfl, hP, hkb, hbx⟩ := hrel
     by_cases hlt : n < L.length
     ·obtain ⟨ad, u, p, rfl, hu, hp, d0, d1⟩ := at_rows (hLr.kb hkb (by decide)) hvs n hlt
      obtain ⟨Au, cu, rfl, hcu, hC⟩ := (hInr n u p hu hp).below hbx
      obtain ⟨hsl, hso⟩ := hsh p (List.mem_of_getElem? hp)
      have cW := fun X h => rlength_calls Au cu p.1 X h hcu (by omega) hso.byt
      have cP := fun X h => pieces_owns Au cu p.1 X h (by omega) hso.byt
      have hsu := uptoH_succ hp
      have hun := hup n
      have hph := hhi p (List.mem_of_getElem? hp)
      have hpw := hwd p (List.mem_of_getElem? hp)
      have hsn := blkF_snoc (k : Int) q canvas fr hp
      have hxp : plOf (k : Int) q canvas n (fr + uptoH L n) p = ⟨k, n, xS q.b q.c canvas (sumW p.1 0), fr + uptoH L n, sumW p.1 0, p.2, piecesS p.1⟩ := rfl
      rw [hxp] at hsn
      have hbl : (blkF (k : Int) q canvas 0 fr (L.take n)).length = n := by rw [blkF_len, List.length_take]; omega
      have hg1 : ∀ X, KB [63] V X → X.cell? ⟨(ad.add (n * 2)).block, (ad.add (n * 2)).off + 1, none⟩ = some (.int .i64 p.2) := by
       intro X hX
       obtain ⟨ad', u', p', e1, _, hp', _, g1⟩ := at_rows (hLr.kb hX (by decide)) hvs n hlt
       injection e1 with e1
       subst e1
       rw [hp] at hp'
       injection hp' with hp'
       subst hp'
       exact g1
      obtain ⟨us, hw1, hw2, hw3⟩ := hP
      rw [hbl] at hw2
      generalize uptoH L n = un at hsu hun hsn ⊢
      generalize sumW p.1 0 = su at cW hpw hsn
      generalize p.2 = hg at d1 hph hsu hsn hg1
      generalize p.1.length = lp at *
      have wy : IntKind.i64.wrap (fr + un + hg) = fr + un + hg := IntWalk.i64_in _ (by omega)
      have wn : IntKind.i64.wrap ((n : Int) + 1) = (n : Int) + 1 := IntWalk.i64_in _ (by omega)
      have wx1 : IntKind.i64.wrap (canvas - q.c) = canvas - q.c := IntWalk.i64_in _ (by omega)
      have wx2 : IntKind.i64.wrap (canvas - q.c - su) = canvas - q.c - su := IntWalk.i64_in _ (by omega)
      have wx3 : IntKind.i64.wrap (canvas - su) = canvas - su := IntWalk.i64_in _ (by omega)
      have HS := Lib.hid hsu
      have HN := Lib.hid hsn
      have HG := Lib.hid hg1
      clear hsu hsn hp hu hxp hg1
      have e1 := cell_later hbx h1'
      have e2 := cell_later hbx h2'
      rcases HCOL.out with ⟨c1, c2⟩ | ⟨c1, c2⟩ | ⟨c1, c2⟩
      ·have HC := Lib.hid (c2 su)
       clear c2
       go_wp2_with (first | (go_at_call 61; refine (cW _ hC).mono ?_; rintro e W2 ⟨rfl, hb2⟩; have hC2 := Kd.C_below hC hb2; have hC2' := Kd.C_below hC hb2.drew; have e1 := cell_later hb2 e1; have e2 := cell_later hb2 e2; have d0 := cell_later hb2 d0; have d1 := cell_later hb2 d1) | (go_at_call 114; refine (rhalf_calls _ (by omega) _).mono ?_; rintro e W3 ⟨rfl, hW3⟩; rw [hW3]; clear hW3 W3))
       go_region_law (first | (go_simp; go_at_call 52; refine (cP _ ?_).mono ?_; (first | exact hC2 | exact hC2');  rintro e W4 ⟨v4, rfl, hown4, hb4⟩; have hIn : In42 W4 v4 (piecesS p.1) := (Lies.of_owns hown4).mono (Nat.zero_le _); obtain ⟨A4, c4, rfl, hle4⟩ := hIn.form; generalize hpn : (piecesS p.1).length = pl at hle4 ⊢; have d1 := cell_later hb4 d1; have hb24 := hb2.drew.trans (hb4.mono hb2.drew.size); have hb5 : Below wr.heap.size wr (W4.alloc (.cells #[.int .i64 k, .int .i64 n, .int .i64 (canvas - q.c - su), .int .i64 (fr + un), .int .i64 su, .int .i64 hg, .slice A4 pl c4] 63)) := hb24.alloc hb24.size _; have hL3 := hw2.kb (KB.below (ts := []) hb5) (by simp)) | (refine Go.Own.step_append_rows rfl _ _ 55 rfl V.heap.size 63 i0 _ 7 72 Tryz.underlying55 hi hz0 hz1 hz2 rfl (by decide) _ n (cells63 us (blkF (k : Int) q canvas 0 fr (L.take n))) rfl hL3 ⟨W4.heap.size, 0, none⟩ 1 1 [.int .i64 k, .int .i64 n, .int .i64 (canvas - q.c - su), .int .i64 (fr + un), .int .i64 su, .int .i64 hg, .slice A4 pl c4] rfl rfl (fun j u hj => by rw [add0]; exact newcell W4 #[.int .i64 k, .int .i64 n, .int .i64 (canvas - q.c - su), .int .i64 (fr + un), .int .i64 su, .int .i64 hg, .slice A4 pl c4] 63 j u (by simpa using hj)) (fun u hu => by simp only [List.mem_cons, List.mem_nil_iff, or_false] at hu; rcases hu with rfl | rfl | rfl | rfl | rfl | rfl | rfl <;> rfl) (by unfold maxLen; omega) (by omega) (Nat.le_trans hbx.size hb5.size) (by decide) ?_; intro v5 W5 hL5 hg5; have hk45 : KB [63] W4 W5 := (KB.below ((Below.refl _ W4).alloc (Nat.le_refl _) _)).trans (KB.grown hg5 fun j hj => by obtain ⟨_, _, cu, hc⟩ := hL3.lt j hj; exact ⟨cu, 63, by simp, hc⟩); have hk5 : KB [63] wr W5 := (KB.below hb24).trans hk45; have hb6 : Below V.heap.size V W5 := (hbx.trans (hb5.mono hbx.size)).grown hg5 (Nat.le_trans hbx.size hb5.size) (fun j hj => (hL3.lt j hj).1); have g1 := HG.out W5 (hkb.trans hk5); have hw3' : ∀ (i : Nat) (u : Value) (p : Pl), us[i]? = some u → (blkF (k : Int) q canvas 0 fr (L.take n))[i]? = some p → In42 W4 u p.ps := fun i u p h1 h2 => (hw3 i u p h1 h2).kb (KB.below (ts := []) hb24) (by simp)))
       all_goals
        clear hg5 hL3 hb5 hb24 hb4 hown4 e1 e2 d0 d1
        (try go_wp2_with fail)
        go_roundw
        case rel => exact ⟨n + 1, by omega, by rw [HS.out, Int.add_assoc], by go_num, by rw [HN.out, HC.out]; exact Pls.snoc (w := W4) hw1 hw3' (by rw [hbl]; exact hL5) (by subst hpn; exact hIn) hk45, hkb.trans hk5, hb6⟩
        case measure => (simp [intOf]; try omega)
      ·have HC := Lib.hid (c2 su)
       clear c2
       go_wp2_with (first | (go_at_call 61; refine (cW _ hC).mono ?_; rintro e W2 ⟨rfl, hb2⟩; have hC2 := Kd.C_below hC hb2; have hC2' := Kd.C_below hC hb2.drew; have e1 := cell_later hb2 e1; have e2 := cell_later hb2 e2; have d0 := cell_later hb2 d0; have d1 := cell_later hb2 d1) | (go_at_call 114; refine (rhalf_calls _ (by omega) _).mono ?_; rintro e W3 ⟨rfl, hW3⟩; rw [hW3]; clear hW3 W3))
       go_region_law (first | (go_simp; go_at_call 52; refine (cP _ ?_).mono ?_; (first | exact hC2 | exact hC2');  rintro e W4 ⟨v4, rfl, hown4, hb4⟩; have hIn : In42 W4 v4 (piecesS p.1) := (Lies.of_owns hown4).mono (Nat.zero_le _); obtain ⟨A4, c4, rfl, hle4⟩ := hIn.form; generalize hpn : (piecesS p.1).length = pl at hle4 ⊢; have d1 := cell_later hb4 d1; have hb24 := hb2.drew.trans (hb4.mono hb2.drew.size); have hb5 : Below wr.heap.size wr (W4.alloc (.cells #[.int .i64 k, .int .i64 n, .int .i64 q.c, .int .i64 (fr + un), .int .i64 su, .int .i64 hg, .slice A4 pl c4] 63)) := hb24.alloc hb24.size _; have hL3 := hw2.kb (KB.below (ts := []) hb5) (by simp)) | (refine Go.Own.step_append_rows rfl _ _ 55 rfl V.heap.size 63 i0 _ 7 72 Tryz.underlying55 hi hz0 hz1 hz2 rfl (by decide) _ n (cells63 us (blkF (k : Int) q canvas 0 fr (L.take n))) rfl hL3 ⟨W4.heap.size, 0, none⟩ 1 1 [.int .i64 k, .int .i64 n, .int .i64 q.c, .int .i64 (fr + un), .int .i64 su, .int .i64 hg, .slice A4 pl c4] rfl rfl (fun j u hj => by rw [add0]; exact newcell W4 #[.int .i64 k, .int .i64 n, .int .i64 q.c, .int .i64 (fr + un), .int .i64 su, .int .i64 hg, .slice A4 pl c4] 63 j u (by simpa using hj)) (fun u hu => by simp only [List.mem_cons, List.mem_nil_iff, or_false] at hu; rcases hu with rfl | rfl | rfl | rfl | rfl | rfl | rfl <;> rfl) (by unfold maxLen; omega) (by omega) (Nat.le_trans hbx.size hb5.size) (by decide) ?_; intro v5 W5 hL5 hg5; have hk45 : KB [63] W4 W5 := (KB.below ((Below.refl _ W4).alloc (Nat.le_refl _) _)).trans (KB.grown hg5 fun j hj => by obtain ⟨_, _, cu, hc⟩ := hL3.lt j hj; exact ⟨cu, 63, by simp, hc⟩); have hk5 : KB [63] wr W5 := (KB.below hb24).trans hk45; have hb6 : Below V.heap.size V W5 := (hbx.trans (hb5.mono hbx.size)).grown hg5 (Nat.le_trans hbx.size hb5.size) (fun j hj => (hL3.lt j hj).1); have g1 := HG.out W5 (hkb.trans hk5); have hw3' : ∀ (i : Nat) (u : Value) (p : Pl), us[i]? = some u → (blkF (k : Int) q canvas 0 fr (L.take n))[i]? = some p → In42 W4 u p.ps := fun i u p h1 h2 => (hw3 i u p h1 h2).kb (KB.below (ts := []) hb24) (by simp)))
       all_goals
        clear hg5 hL3 hb5 hb24 hb4 hown4 e1 e2 d0 d1
        (try go_wp2_with fail)
        go_roundw
        case rel => exact ⟨n + 1, by omega, by rw [HS.out, Int.add_assoc], by go_num, by rw [HN.out, HC.out]; exact Pls.snoc (w := W4) hw1 hw3' (by rw [hbl]; exact hL5) (by subst hpn; exact hIn) hk45, hkb.trans hk5, hb6⟩
        case measure => (simp [intOf]; try omega)
      ·have HC := Lib.hid (c2 su)
       clear c2
       go_wp2_with (first | (go_at_call 61; refine (cW _ hC).mono ?_; rintro e W2 ⟨rfl, hb2⟩; have hC2 := Kd.C_below hC hb2; have hC2' := Kd.C_below hC hb2.drew; have e1 := cell_later hb2 e1; have e2 := cell_later hb2 e2; have d0 := cell_later hb2 d0; have d1 := cell_later hb2 d1) | (go_at_call 114; refine (rhalf_calls _ (by omega) _).mono ?_; rintro e W3 ⟨rfl, hW3⟩; rw [hW3]; clear hW3 W3))
       go_region_law (first | (go_simp; go_at_call 52; refine (cP _ ?_).mono ?_; (first | exact hC2 | exact hC2');  rintro e W4 ⟨v4, rfl, hown4, hb4⟩; have hIn : In42 W4 v4 (piecesS p.1) := (Lies.of_owns hown4).mono (Nat.zero_le _); obtain ⟨A4, c4, rfl, hle4⟩ := hIn.form; generalize hpn : (piecesS p.1).length = pl at hle4 ⊢; have d1 := cell_later hb4 d1; have hb24 := hb2.drew.trans (hb4.mono hb2.drew.size); have hb5 : Below wr.heap.size wr (W4.alloc (.cells #[.int .i64 k, .int .i64 n, .int .i64 ((canvas - su) / 2), .int .i64 (fr + un), .int .i64 su, .int .i64 hg, .slice A4 pl c4] 63)) := hb24.alloc hb24.size _; have hL3 := hw2.kb (KB.below (ts := []) hb5) (by simp)) | (refine Go.Own.step_append_rows rfl _ _ 55 rfl V.heap.size 63 i0 _ 7 72 Tryz.underlying55 hi hz0 hz1 hz2 rfl (by decide) _ n (cells63 us (blkF (k : Int) q canvas 0 fr (L.take n))) rfl hL3 ⟨W4.heap.size, 0, none⟩ 1 1 [.int .i64 k, .int .i64 n, .int .i64 ((canvas - su) / 2), .int .i64 (fr + un), .int .i64 su, .int .i64 hg, .slice A4 pl c4] rfl rfl (fun j u hj => by rw [add0]; exact newcell W4 #[.int .i64 k, .int .i64 n, .int .i64 ((canvas - su) / 2), .int .i64 (fr + un), .int .i64 su, .int .i64 hg, .slice A4 pl c4] 63 j u (by simpa using hj)) (fun u hu => by simp only [List.mem_cons, List.mem_nil_iff, or_false] at hu; rcases hu with rfl | rfl | rfl | rfl | rfl | rfl | rfl <;> rfl) (by unfold maxLen; omega) (by omega) (Nat.le_trans hbx.size hb5.size) (by decide) ?_; intro v5 W5 hL5 hg5; have hk45 : KB [63] W4 W5 := (KB.below ((Below.refl _ W4).alloc (Nat.le_refl _) _)).trans (KB.grown hg5 fun j hj => by obtain ⟨_, _, cu, hc⟩ := hL3.lt j hj; exact ⟨cu, 63, by simp, hc⟩); have hk5 : KB [63] wr W5 := (KB.below hb24).trans hk45; have hb6 : Below V.heap.size V W5 := (hbx.trans (hb5.mono hbx.size)).grown hg5 (Nat.le_trans hbx.size hb5.size) (fun j hj => (hL3.lt j hj).1); have g1 := HG.out W5 (hkb.trans hk5); have hw3' : ∀ (i : Nat) (u : Value) (p : Pl), us[i]? = some u → (blkF (k : Int) q canvas 0 fr (L.take n))[i]? = some p → In42 W4 u p.ps := fun i u p h1 h2 => (hw3 i u p h1 h2).kb (KB.below (ts := []) hb24) (by simp)))
       all_goals
        clear hg5 hL3 hb5 hb24 hb4 hown4 e1 e2 d0 d1
        (try go_wp2_with fail)
        go_roundw
        case rel => exact ⟨n + 1, by omega, by rw [HS.out, Int.add_assoc], by go_num, by rw [HN.out, HC.out]; exact Pls.snoc (w := W4) hw1 hw3' (by rw [hbl]; exact hL5) (by subst hpn; exact hIn) hk45, hkb.trans hk5, hb6⟩
        case measure => (simp [intOf]; try omega)
     ·obtain rfl : n = L.length := by omega
      rw [List.take_length] at hP
      go_wp2_with fail
      go_ret
      exact ⟨_, rfl, by rw [HFR.out]; exact hP.mono hbase, hbwr.trans (hbx.mono hbase)⟩
end Go.Proofs.YtogidacejbjljaaGreatDoor.PTextChecks
end
section
/- Whether two rows of lines meet: the reference's. -/
set_option linter.unusedVariables false
set_option linter.unusedSimpArgs false
namespace Go.Proofs.YtogidacejbjljaaGreatDoor.PTextChecks
open Go.RowKit Go.Mix Go.Own Go.Proofs.YtogidacejbjljaaGreatDoorW.PrintWords Go.Proofs.YtogidacejbjljaaGreatDoorW.PrintLast Go.Proofs.YtogidacejbjljaaGreatDoorW.PrintMore
set_option maxHeartbeats 8000000 in
set_option maxRecDepth 100000 in
theorem rmeets_calls (P : List Pl) (A : Option Addr) (cap base : Nat) (O : List Pl) (AO : Option Addr) (capO baseO : Nat) (w : World) (hP : Pls w base (.slice A P.length cap) P) (hl : P.length ≤ 1000000) (hS : ∀ q ∈ P, SmP q)
  (hPO : Pls w baseO (.slice AO O.length capO) O) (hlO : O.length ≤ 1000000) (hSO : ∀ q ∈ O, SmP q) :
  Calls Tryz.prog 85 #[.slice A P.length cap, .slice AO O.length capO] w fun e w' => e = .returned (.bool (meetsS P O)) ∧ Below w.heap.size w w' := by
 go_enter Tryz.func85, Tryz.ntmps85
 go_wp2
 go_loopw [5] (fun i wr => ∃ n : Nat, n ≤ P.length ∧ i = .int .i64 n ∧ ((P.take n).any fun x => O.any fun y => ovl x y) = false ∧ Below w.heap.size w wr) (fun i _ => P.length - (intOf i).toNat)
 case atStart => exact ⟨0, by omega, rfl, rfl, Below.refl _ _⟩
 case round =>
  obtain ⟨n, hn, rfl, hany, hbr⟩ := hrel
  have wn : IntKind.i64.wrap ((n : Int) + 1) = (n : Int) + 1 := IntWalk.i64_in _ (by omega)
  by_cases hlt : n < P.length
  ·obtain ⟨ad, u, p, rfl, hp, hI, d0, d1, d2, d3, d4, d5, d6⟩ := at_pls (hP.below hbr) n hlt
   obtain ⟨Au, cu, rfl, _⟩ := hI.form
   have hsp := hS p (List.mem_of_getElem? hp)
   have hst := any_take_succ (fun x => O.any fun y => ovl x y) P n p hp
   have htr := any_at (fun x => O.any fun y => ovl x y) P n p hp
   rw [hany, Bool.false_or] at hst
   have HST := Lib.hid hst
   have HTR := Lib.hid htr
   have n1 : (0 : Int) ≤ (n : Int) := by omega
   have n2 : (n : Int) < (P.length : Int) := by omega
   have n3 : ¬ ((n : Int) < 0) := by omega
   obtain ⟨wo, hwo⟩ : ∃ wo, wo = wr := ⟨_, rfl⟩
   subst hwo
   clear hst htr hany hp hI
   go_wp2_with fail
   go_loopw [6] (fun j wi => ∃ m : Nat, m ≤ O.length ∧ j = .int .i64 m ∧ ((O.take m).any fun y => ovl p y) = false ∧ Below wo.heap.size wo wi) (fun j _ => O.length - (intOf j).toNat)
   case atStart => exact ⟨0, by omega, rfl, rfl, Below.refl _ _⟩
   case round =>
    obtain ⟨m, hm, rfl, hanm, hbm⟩ := hrel
    have wm : IntKind.i64.wrap ((m : Int) + 1) = (m : Int) + 1 := IntWalk.i64_in _ (by omega)
    by_cases hmn : m < O.length
    ·obtain ⟨adq, uq, q, rfl, hq, hIq, f0, f1, f2, f3, f4, f5, f6⟩ := at_pls (hPO.below (hbr.trans (hbm.mono hbr.size))) m hmn
     obtain ⟨Aq, cq, rfl, _⟩ := hIq.form
     have hsq := hSO q (List.mem_of_getElem? hq)
     have cO := fun X => roverlap_calls p q (.slice Au p.ps.length cu) (.slice Aq q.ps.length cq) hsp hsq X
     have hst := any_take_succ (fun y => ovl p y) O m q hq
     have htr := any_at (fun y => ovl p y) O m q hq
     rw [hanm, Bool.false_or] at hst
     (try simp only at hst htr)
     generalize ovl p q = ov at cO hst htr
     have HSM := Lib.hid hst
     have HTM := Lib.hid htr
     unfold agg7 at cO
     have e0 := cell_later hbm d0
     have e1 := cell_later hbm d1
     have e2 := cell_later hbm d2
     have e3 := cell_later hbm d3
     have e4 := cell_later hbm d4
     have e5 := cell_later hbm d5
     have e6 := cell_later hbm d6
     have G0 := fun x : Ext wr => x.atv e0
     have G1 := fun x : Ext wr => x.atv e1
     have G2 := fun x : Ext wr => x.atv e2
     have G3 := fun x : Ext wr => x.atv e3
     have G4 := fun x : Ext wr => x.atv e4
     have G5 := fun x : Ext wr => x.atv e5
     have G6 := fun x : Ext wr => x.atv e6
     have F0 := fun x : Ext wr => x.atv f0
     have F1 := fun x : Ext wr => x.atv f1
     have F2 := fun x : Ext wr => x.atv f2
     have F3 := fun x : Ext wr => x.atv f3
     have F4 := fun x : Ext wr => x.atv f4
     have F5 := fun x : Ext wr => x.atv f5
     have F6 := fun x : Ext wr => x.atv f6
     have m1 : (0 : Int) ≤ (m : Int) := by omega
     have m2 : (m : Int) < (O.length : Int) := by omega
     have m3 : ¬ ((m : Int) < 0) := by omega
     clear hst htr hsq hq hIq e0 e1 e2 e3 e4 e5 e6 f0 f1 f2 f3 f4 f5 f6 hanm
     cases ov
     case false =>
      go_wp2_with fail
      refine wp_region_ext (by kernel_rfl) (by kernel_rfl) ?_
      repeat (go_big_quiet_step (first | (go_at_call 43; exact Calls.ext (cO _))))
      refine wpQuiet_nil ?_
      rintro _ ⟨x, rfl⟩
      have hbx2 : Below wo.heap.size wo x.w := hbm.trans (x.2.mono hbm.size)
      clear G0 G1 G2 G3 G4 G5 G6 F0 F1 F2 F3 F4 F5 F6 cO
      generalize x.w = V at hbx2
      go_wp2
      go_roundw
      case rel => exact ⟨m + 1, by omega, by go_num, HSM.out, hbx2⟩
      case measure => (simp [intOf]; try omega)
     case true =>
      go_wp2_with fail
      refine wp_region_ext (by kernel_rfl) (by kernel_rfl) ?_
      repeat (go_big_quiet_step (first | (go_at_call 43; exact Calls.ext (cO _))))
      refine wpQuiet_nil ?_
      rintro _ ⟨x, rfl⟩
      have hbx2 : Below wo.heap.size wo x.w := hbm.trans (x.2.mono hbm.size)
      clear G0 G1 G2 G3 G4 G5 G6 F0 F1 F2 F3 F4 F5 F6 cO
      generalize x.w = V at hbx2
      go_wp2
      go_ret
      have hmt : meetsS P O = true := HTR.out (by first | exact HTM.out trivial | exact HTM.out rfl | simpa using HTM.out)
      exact ⟨by rw [hmt]; rfl, hbr.trans (hbx2.mono hbr.size)⟩
    ·obtain rfl : m = O.length := by omega
     rw [List.take_length] at hanm
     have HAN := Lib.hid hanm
     clear hanm
     go_wp2_with fail
     go_roundw
     case rel => exact ⟨n + 1, by omega, by go_num, by rw [HST.out]; exact HAN.out, hbr.trans (hbm.mono hbr.size)⟩
     case measure => (simp [intOf]; try omega)
  ·obtain rfl : n = P.length := by omega
   rw [List.take_length] at hany
   have HAN := Lib.hid hany
   clear hany
   go_wp2_with fail
   go_ret
   have hmt : meetsS P O = false := HAN.out
   exact ⟨by rw [hmt]; rfl, hbr⟩
end Go.Proofs.YtogidacejbjljaaGreatDoor.PTextChecks
end
section
/- The reference's order of placing, and what a run gives: plain. -/
set_option linter.unusedVariables false
set_option linter.unusedSimpArgs false
namespace Go.Proofs.YtogidacejbjljaaGreatDoor.PTextChecks
open Go.RowKit Go.Mix Go.Own Go.Proofs.YtogidacejbjljaaGreatDoorW.PrintWords Go.Proofs.YtogidacejbjljaaGreatDoorW.PrintLast Go.Proofs.YtogidacejbjljaaGreatDoorW.PrintMore
/-- What is placed when j layers are done, and i cues of the next. -/
def ordD (f : Nat → Int) (n j i : Nat) : List Nat := ((List.range j).flatMap fun j : Nat => (List.range n).filter fun i => decide (f i = 7 - (j : Int))) ++ (List.range i).filter fun i => decide (f i = 7 - (j : Int))
theorem ordD_zero (f : Nat → Int) (n : Nat) : ordD f n 0 0 = [] := by simp [ordD, List.flatMap]
theorem ordD_skip {f : Nat → Int} {n j i : Nat} (h : f i ≠ 7 - (j : Int)) : ordD f n j (i + 1) = ordD f n j i := by
 unfold ordD
 rw [List.range_succ (n := i), List.filter_append, List.filter_cons, if_neg (by simpa using h), List.filter_nil, List.append_nil]
theorem ordD_take {f : Nat → Int} {n j i : Nat} (h : f i = 7 - (j : Int)) : ordD f n j (i + 1) = ordD f n j i ++ [i] := by
 unfold ordD
 rw [List.range_succ (n := i), List.filter_append, List.filter_cons, if_pos (by simpa using h), List.filter_nil, List.append_assoc]
theorem ordD_next (f : Nat → Int) (n j : Nat) : ordD f n j n = ordD f n (j + 1) 0 := by
 unfold ordD
 rw [List.range_succ (n := j), List.flatMap_append]
 simp
theorem ordD_end (f : Nat → Int) (n : Nat) : ordD f n 8 0 = ordF f n := by simp [ordD, ordF]
theorem ordD_le {f : Nat → Int} {n j i : Nat} (hj : j < 8) (hi : i ≤ n) : (ordD f n j i).length ≤ (ordF f n).length := by
 unfold ordF
 rw [flatMap_range_split _ 8 (j + 1) (by omega), List.range_succ (n := j), List.flatMap_append]
 unfold ordD
 have hs : (List.range i).Sublist (List.range n) := by
  obtain ⟨k, rfl⟩ : ∃ k, n = i + k := ⟨n - i, by omega⟩
  rw [List.range_add]
  exact List.sublist_append_left _ _
 have h2 := (hs.filter fun i => decide (f i = 7 - (j : Int))).length_le
 simp only [List.length_append, List.flatMap_cons, List.flatMap_nil, List.append_nil]
 omega
theorem run_facts {C : List Cu} {canvas tall : Int} (hok : ∀ q ∈ C, brkE q.a q.b q.c q.l canvas = 0) (htl : tall ≤ 1000) (l : List Nat) :
  (∀ p ∈ (runS C canvas tall l).1, SmP p) ∧ (runS C canvas tall l).1.length ≤ 400 * l.length ∧ (runS C canvas tall l).2.length ≤ l.length ∧ ∀ k ∈ (runS C canvas tall l).2, k ∈ l := by
 have key : ∀ (l : List Nat) (s : List Pl × List Nat), (∀ p ∈ s.1, SmP p) → (∀ p ∈ (l.foldl (stepS C canvas tall) s).1, SmP p) ∧ (l.foldl (stepS C canvas tall) s).1.length ≤ s.1.length + 400 * l.length ∧
   (l.foldl (stepS C canvas tall) s).2.length ≤ s.2.length + l.length ∧ ∀ k ∈ (l.foldl (stepS C canvas tall) s).2, k ∈ s.2 ∨ k ∈ l := by
  intro l
  induction l with
  | nil => exact fun s h => ⟨h, by simp, by simp, fun k hk => .inl hk⟩
  | cons k l ih =>
   intro s h
   rw [List.foldl_cons]
   have hst : (∀ p ∈ (stepS C canvas tall s k).1, SmP p) ∧ (stepS C canvas tall s k).1.length ≤ s.1.length + 400 ∧ (stepS C canvas tall s k).2.length ≤ s.2.length + 1 ∧ ∀ i ∈ (stepS C canvas tall s k).2, i ∈ s.2 ∨ i = k := by
    cases hq : C[k]? with
    | none =>
     have e : stepS C canvas tall s k = (s.1, s.2 ++ [k]) := by simp only [stepS, placeS, hq]
     rw [e]
     exact ⟨h, by simp, by simp, fun i hi => by simpa using hi⟩
    | some q =>
     have lo := linesOk_of (hok q (List.mem_of_getElem? hq))
     cases hs : slideS k q canvas tall (linesQ q canvas) s.1 with
     | none =>
      rw [stepS_none hq hs]
      exact ⟨h, by simp, by simp, fun i hi => by simpa using hi⟩
     | some y =>
      rw [stepS_some hq hs]
      obtain ⟨y0, y1, _⟩ := slideF_some _ _ _ hs
      have hall := uptoH_range lo.high (linesQ q canvas).length
      rw [uptoH_all] at hall
      refine ⟨fun p hp => ?_, ?_, by simp, fun i hi => .inl hi⟩
      ·rcases List.mem_append.1 hp with hp | hp
       ·exact h p hp
       ·exact blk_small lo ⟨by omega, by omega⟩ p hp
      ·rw [List.length_append, blkF_len]
       have := lo.len
       omega
   obtain ⟨a1, a2, a3, a4⟩ := hst
   obtain ⟨b1, b2, b3, b4⟩ := ih _ a1
   refine ⟨b1, by rw [List.length_cons]; omega, by rw [List.length_cons]; omega, fun i hi => ?_⟩
   rcases b4 i hi with h' | h'
   ·rcases a4 i h' with h'' | h''
    ·exact .inl h''
    ·exact .inr (by rw [h'']; exact List.mem_cons_self)
   ·exact .inr (List.mem_cons_of_mem _ h')
 obtain ⟨b1, b2, b3, b4⟩ := key l ([], []) (fun p hp => by simp at hp)
 exact ⟨b1, by simpa [runS] using b2, by simpa [runS] using b3, fun k hk => by rcases b4 k hk with h | h; simp at h; exact h⟩
/-- Which cues are lost, as the reference keeps it. -/
def goneL (X : List Nat) (n : Nat) : List Value := (List.range n).map fun k => .bool (decide (k ∈ X))
theorem goneL_nil (n : Nat) : goneL [] n = List.replicate n (.bool false) := by
 unfold goneL
 rw [List.eq_replicate_iff]
 exact ⟨by simp, fun b hb => by obtain ⟨k, _, rfl⟩ := List.mem_map.1 hb; simp⟩
theorem goneL_get {X : List Nat} {n k : Nat} (h : k < n) : (goneL X n)[k]? = some (.bool (decide (k ∈ X))) := by
 unfold goneL
 rw [List.getElem?_map, List.getElem?_range h]
 rfl
theorem goneL_set {X : List Nat} {n k : Nat} : (goneL X n).set k (.bool true) = goneL (X ++ [k]) n := by
 have hl : (goneL X n).length = n := by simp [goneL]
 apply List.ext_getElem?
 intro j
 by_cases hj : j < n
 ·rw [goneL_get hj, List.getElem?_set, hl]
  by_cases hjk : k = j
  ·subst hjk
   rw [if_pos rfl, if_pos hj]
   simp
  ·rw [if_neg hjk, goneL_get hj]
   have : ¬ j = k := fun h => hjk h.symm
   simp [this]
 ·rw [List.getElem?_eq_none (by rw [List.length_set, hl]; omega), List.getElem?_eq_none (by simp [goneL]; omega)]
end Go.Proofs.YtogidacejbjljaaGreatDoor.PTextChecks
end
section
/- The reference's Layout. -/
set_option linter.unusedVariables false
set_option linter.unusedSimpArgs false
namespace Go.Proofs.YtogidacejbjljaaGreatDoor.PTextChecks
open Go.RowKit Go.Mix Go.Own Go.Sort Go.Proofs.YtogidacejbjljaaGreatDoorW.PrintWords Go.Proofs.YtogidacejbjljaaGreatDoorW.PrintLast Go.Proofs.YtogidacejbjljaaGreatDoorW.PrintMore
theorem under119 : Tryz.prog.underlying 119 = some (.slice 4) := by kernel_rfl
theorem infoBool : (Tryz.prog.info? 4).map (fun i => (i.zero, i.size, i.bytes)) = some (some (.bool false), 1, 1) := by kernel_rfl
theorem ordD_not_mem {f : Nat → Int} {n j i : Nat} (h : f i = 7 - (j : Int)) : i ∉ ordD f n j i := by
 unfold ordD
 rw [List.mem_append, List.mem_flatMap, List.mem_filter]
 rintro (⟨a, ha, hi⟩ | ⟨hi, _⟩)
 ·have h1 := List.mem_range.1 ha
  have h2 := of_decide_eq_true (List.mem_filter.1 hi).2
  omega
 ·have := List.mem_range.1 hi
  omega
set_option maxHeartbeats 16000000 in
set_option maxRecDepth 100000 in
theorem rlayout_calls (C : List Cu) (A : Option Addr) (cap : Nat) (canvas tall : Int) (w : World) (hA : CuesIn w A C) (hc : C.length ≤ cap) (hf : ∀ q ∈ C, Fit q.l) :
  Calls Tryz.prog 40 #[.slice A C.length cap, .int .i64 canvas, .int .i64 tall] w (LayPost C canvas tall w) := by
 obtain ⟨i0, hi, hii⟩ := Option.map_eq_some_iff.1 infoInt
 simp only [Prod.mk.injEq] at hii
 obtain ⟨hz0, hz1, hz2⟩ := hii
 obtain ⟨i1, hj, hjj⟩ := Option.map_eq_some_iff.1 infoPlaced
 simp only [Prod.mk.injEq] at hjj
 obtain ⟨hpz0, hpz1, hpz2⟩ := hjj
 obtain ⟨i2, hk, hkk⟩ := Option.map_eq_some_iff.1 infoBool
 simp only [Prod.mk.injEq] at hkk
 obtain ⟨hbz0, hbz1, hbz2⟩ := hkk
 cases hg : (inB canvas 1 1000 && inB tall 1 1000)
 case false =>
  have hE : layE C canvas tall = 1 := by unfold layE; rw [hg]; rfl
  have HE := Lib.hid (fun X (h : Below w.heap.size w X) => lay_post_err hE (by decide) h)
  clear hE
  cases hi1 : inB canvas 1 1000
  all_goals (rw [hi1] at hg)
  all_goals (cases hi2 : inB tall 1 1000)
  all_goals (rw [hi2] at hg)
  all_goals (try (exact absurd hg (by decide)))
  all_goals clear hg
  all_goals
   go_enter Tryz.func40, Tryz.ntmps40
   go_wp2_with (go_at_call 51; refine (in_calls' _ _ _ _).mono ?_; rintro e W2 ⟨rfl, hW⟩; rw [hW]; clear hW W2)
   refine bodyPost_ret (results_tmp3 rfl _ _ _) rfl ?_
   exact HE.out _ (Below.refl _ _)
 case true =>
  have hg' := hg
  rw [Bool.and_eq_true] at hg
  have hi1 := hg.1
  have hi2 := hg.2
  have hcv := inB_true hg.1
  have htl := inB_true hg.2
  cases h8 : decide ((8 : Int) < (C.length : Int))
  case true =>
   have hE : layE C canvas tall = 2 := by unfold layE; rw [hg', if_pos rfl, if_pos (by have := of_decide_eq_true h8; omega)]
   have HE := Lib.hid (fun X (h : Below w.heap.size w X) => lay_post_err hE (by decide) h)
   clear hE hg hg'
   go_enter Tryz.func40, Tryz.ntmps40
   go_wp2_with (go_at_call 51; refine (in_calls' _ _ _ _).mono ?_; rintro e W2 ⟨rfl, hW⟩; rw [hW]; clear hW W2)
   refine bodyPost_ret (results_tmp3 rfl _ _ _) rfl ?_
   exact HE.out _ (Below.refl _ _)
  case false =>
   have hC8 : C.length ≤ 8 := by have := of_decide_eq_false h8; omega
   have hE : layE C canvas tall = firstE canvas C := by unfold layE; rw [hg', if_pos rfl, if_neg (by omega)]
   have HE := Lib.hid hE
   clear hE hg hg'
   go_enter Tryz.func40, Tryz.ntmps40
   go_wp2_with (go_at_call 51; refine (in_calls' _ _ _ _).mono ?_; rintro e W2 ⟨rfl, hW⟩; rw [hW]; clear hW W2)
   clear hi1 hi2
   go_loopw [9] (fun i wr => ∃ n : Nat, n ≤ C.length ∧ i = .int .i64 n ∧ (∀ (i : Nat) (q : Cu), i < n → C[i]? = some q → brkE q.a q.b q.c q.l canvas = 0) ∧ Below w.heap.size w wr) (fun i _ => C.length - (intOf i).toNat)
   case atStart => exact ⟨0, by omega, rfl, fun i q h => by omega, Below.refl _ _⟩
   case round =>
    obtain ⟨n, hn, rfl, hbk, hbr⟩ := hrel
    by_cases hlt : n < C.length
    ·obtain ⟨q, hq⟩ : ∃ q, C[n]? = some q := ⟨_, List.getElem?_eq_getElem hlt⟩
     obtain ⟨ad, Ap, cp, rfl, c0, c1, c2, c3, hcp, hK⟩ := (hA.below hbr) n q hq
     have hqm := List.mem_of_getElem? hq
     have cB := rBreak_calls q.a q.b q.c Ap cp q.l canvas _ hK hcp (hf q hqm)
     unfold BrkPost at cB
     obtain ⟨E, hEq⟩ : ∃ E, brkE q.a q.b q.c q.l canvas = E := ⟨_, rfl⟩
     rw [hEq] at cB
     have HEq := Lib.hid hEq
     have wr1 : IntKind.i64.wrap ((n : Int) + 1) = (n : Int) + 1 := IntWalk.i64_in _ (by omega)
     have n1 : (0 : Int) ≤ (n : Int) := by omega
     have n2 : (n : Int) < (C.length : Int) := by omega
     clear hEq hK
     cases hE0 : (E != 0)
     case true =>
      have hpost : layE C canvas tall = E := by rw [HE.out, firstE_nth hbk hq (by rw [HEq.out]; simpa using hE0), HEq.out]
      have HP := Lib.hid (fun X (h : Below w.heap.size w X) => lay_post_err hpost (by simpa using hE0) h)
      clear hpost hbk
      go_wp2_with (go_at_call 36; refine cB.mono ?_; rintro e W5 ⟨v5, rfl, _, hb5⟩)
      refine bodyPost_ret (results_tmp3 rfl _ _ _) rfl ?_
      exact HP.out _ (hbr.trans (hb5.mono hbr.size))
     case false =>
      have hbk2 : ∀ (i : Nat) (p : Cu), i < n + 1 → C[i]? = some p → brkE p.a p.b p.c p.l canvas = 0 := by
       intro i p hi hp
       by_cases h : i < n
       ·exact hbk i p h hp
       ·obtain rfl : i = n := by omega
        rw [hq] at hp
        injection hp with hp
        subst hp
        rw [HEq.out]
        simpa using hE0
      have HB := Lib.hid hbk2
      clear hbk hbk2
      go_wp2_with (go_at_call 36; refine cB.mono ?_; rintro e W5 ⟨v5, rfl, hk5, hb5⟩; obtain ⟨A5, c5, e5, _⟩ : ∃ A5 c5, v5 = .slice A5 (brkL q.a q.b q.c q.l canvas).length c5 ∧ (brkL q.a q.b q.c q.l canvas).length ≤ c5 := (by obtain ⟨vs, _, h2, _⟩ := hk5; exact h2.form); subst e5)
      go_roundw
      case rel => (first | exact ⟨n + 1, by omega, by go_num, HB.out, hbr.trans (hb5.mono hbr.size)⟩ | ((repeat apply Exists.intro); exact ⟨⟨n + 1, by omega, by go_num, HB.out, hbr.trans (hb5.mono hbr.size)⟩, rfl⟩))
      case measure => (simp [intOf]; try omega)
    ·obtain rfl : n = C.length := by omega
     have hok : ∀ q ∈ C, brkE q.a q.b q.c q.l canvas = 0 := fun q hq => by
      obtain ⟨i, hi⟩ := List.mem_iff_getElem?.1 hq
      exact hbk i q (List.getElem?_eq_some_iff.1 hi).1 hi
     have hr := layer_range hok
     have hE0 : layE C canvas tall = 0 := HE.out.trans (firstE_zero fun i q h => hbk i q (List.getElem?_eq_some_iff.1 h).1 h)
     have HE0 := Lib.hid hE0
     have HOK := Lib.hid hok
     have HR := Lib.hid hr
     clear hE0 hbk hok hr
     rename World => V
     have hA1 := hA.below hbr
     go_wp2_with (at_make; refine wpList_make_full _ rfl _ _ 119 rfl V.heap.size 4 i2 _ 1 under119 hk hbz0 hbz1 .i64 .i64 _ _ C.length rfl rfl rfl rfl (by rw [hbz2]; omega) (by unfold maxLen; omega) (Nat.le_refl _) ?_; intro W2 hown hgr)
     have hct : Lies W2 V.heap.size 4 1 (.slice (some ⟨V.heap.size, 0, none⟩) C.length C.length) C.length (goneL [] C.length) := by
      rw [goneL_nil]
      have := Lies.of_owns hown
      rw [show (Value.bool false).cells = #[.bool false] from rfl, toList_madeCells_one, Nat.mul_one] at this
      exact this
     have hb2 : Below V.heap.size V W2 := (Below.refl _ V).grown hgr (Nat.le_refl _) (by simp)
     clear hown hgr
     have hol : (ordF (layerOf C) C.length).length = C.length := by
      have : ((List.range C.length)).Perm (ordF (layerOf C) C.length) := (List.perm_ext_iff_of_nodup List.nodup_range (ordF_nodup _ _)).2 fun a => by rw [List.mem_range, ordF_mem HR.out]
      rw [← this.length_eq, List.length_range]
     have HOL := Lib.hid hol
     clear hol hA
     go_loopw [12, 14] (fun vo z wx => ∃ (j : Nat) (P : List Pl) (X : List Nat), j ≤ 8 ∧ z = .int .i64 (7 - (j : Int)) ∧ runS C canvas tall (ordD (layerOf C) C.length j 0) = (P, X) ∧ Pls wx V.heap.size vo P ∧ Lies wx V.heap.size 4 1 (.slice (some ⟨V.heap.size, 0, none⟩) C.length C.length) C.length (goneL X C.length) ∧ Below V.heap.size V wx) (fun _ z _ => (intOf z + 1).toNat)
     case atStart => exact ⟨0, [], [], by omega, rfl, by rw [ordD_zero]; rfl, Pls.nil _ _, hct, hb2⟩
     case round =>
      obtain ⟨j, P, X, hj8, rfl, hrun, hP, hG, hbx⟩ := hrel
      by_cases hjl : j < 8
      ·have d1 : decide ((0 : Int) ≤ 7 - (j : Int)) = true := decide_eq_true (by omega)
       have d1b : decide ((j : Int) ≤ 7) = true := decide_eq_true (by omega)
       have wz : IntKind.i64.wrap (7 - (j : Int) - 1) = 7 - (j : Int) - 1 := IntWalk.i64_in _ (by omega)
       have HRUN := Lib.hid hrun
       clear hrun
       obtain ⟨wo, hwo⟩ : ∃ wo, wo = wr := ⟨_, rfl⟩
       subst hwo
       go_wp2_with fail
       go_loopw [12, 15] (fun vo i wx => ∃ (n : Nat) (P : List Pl) (X : List Nat), n ≤ C.length ∧ i = .int .i64 n ∧ runS C canvas tall (ordD (layerOf C) C.length j n) = (P, X) ∧ Pls wx V.heap.size vo P ∧ Lies wx V.heap.size 4 1 (.slice (some ⟨V.heap.size, 0, none⟩) C.length C.length) C.length (goneL X C.length) ∧ Below V.heap.size V wx) (fun _ i _ => C.length - (intOf i).toNat)
       case atStart => exact ⟨0, P, X, by omega, rfl, HRUN.out, hP, hG, hbx⟩
       case round =>
        obtain ⟨n, P, X, hn, rfl, hrun, hP, hG, hbi⟩ := hrel
        have wn : IntKind.i64.wrap ((n : Int) + 1) = (n : Int) + 1 := IntWalk.i64_in _ (by omega)
        have HRUN := Lib.hid hrun
        clear hrun
        by_cases hlt : n < C.length
        ·obtain ⟨q, hq⟩ : ∃ q, C[n]? = some q := ⟨_, List.getElem?_eq_getElem hlt⟩
         obtain ⟨ad, Ap, cp, rfl, c0, c1, c2, c3, hcp, hK⟩ := (hA1.below hbi) n q hq
         have hlayer : layerOf C n = q.a := by unfold layerOf; rw [hq]
         have HLAY := Lib.hid hlayer
         have n1 : (0 : Int) ≤ (n : Int) := by omega
         have n2 : (n : Int) < (C.length : Int) := by omega
         have n3 : ¬ ((n : Int) < 0) := by omega
         clear hlayer
         by_cases hlay : q.a = 7 - (j : Int)
         ·rename World => V2
          have hqm := List.mem_of_getElem? hq
          have lo := linesOk_of (HOK.out q hqm)
          have hnd := ordD_not_mem (f := layerOf C) (n := C.length) (j := j) (i := n) (by rw [HLAY.out]; exact hlay)
          obtain ⟨f1, f2, f3, f4⟩ := run_facts HOK.out htl.2 (ordD (layerOf C) C.length j n)
          have f5 := ordD_le (f := layerOf C) hjl (by omega : n ≤ C.length)
          rw [HOL.out] at f5
          rw [HRUN.out] at f1 f2 f3 f4
          simp only at f1 f2 f3 f4
          have hnX : n ∉ X := fun h => hnd (f4 n h)
          have hPlen : P.length ≤ 3200 := by omega
          have cB := rblock_calls n q Ap cp canvas tall V2 (by omega) hK hcp lo htl
          rw [hlay] at cB c0
          have hstep : ∀ s', stepS C canvas tall (P, X) n = s' → runS C canvas tall (ordD (layerOf C) C.length j (n + 1)) = s' := by
           intro s' hs
           rw [ordD_take (by rw [HLAY.out]; exact hlay), runS_snoc, HRUN.out, hs]
          have hall : 0 ≤ allH (linesQ q canvas) ∧ allH (linesQ q canvas) ≤ 12800 := by rw [← uptoH_all]; have := uptoH_range lo.high (linesQ q canvas).length; have := lo.len; omega
          have hfr := fromS_range (al := q.b) (headB_margin lo.head) htl hall
          have hnone := fun h => stepS_none (s := (P, X)) (canvas := canvas) (tall := tall) hq h
          have hsome := fun y h => stepS_some (s := (P, X)) (canvas := canvas) (tall := tall) (y := y) hq h
          have hstart := slideS_start (k := (n : Int)) (q := q) (canvas := canvas) (tall := tall) (L := linesQ q canvas) (out := P)
          have hslide := fun y => slideF_step (k := (n : Int)) (q := q) (canvas := canvas) (tall := tall) (L := linesQ q canvas) (out := P) (R := slideS (n : Int) q canvas tall (linesQ q canvas) P) (y := y) hall.1
          have hsmall := fun y (hy : -14000 ≤ y ∧ y ≤ 14000) => blk_small (k := (n : Int)) lo hy
          have hmove := fun d y => blkF_move (n : Int) q canvas d (linesQ q canvas) 0 y
          have hbl := fun y => blkF_len (n : Int) q canvas (linesQ q canvas) 0 y
          have hLlen := lo.len
          have hLpos := lo.pos
          obtain ⟨r0, hr0⟩ : ∃ r0, (linesQ q canvas)[0]? = some r0 := ⟨_, List.getElem?_eq_getElem hLpos⟩
          obtain ⟨r9, hr9⟩ : ∃ r9, (linesQ q canvas)[(linesQ q canvas).length - 1]? = some r9 := ⟨_, List.getElem?_eq_getElem (by omega)⟩
          have hh9 := uptoH_succ hr9
          rw [Nat.sub_add_cancel hLpos, uptoH_all] at hh9
          have hg0 := fun y => blkF_get (n : Int) q canvas (linesQ q canvas) 0 y 0 r0 hr0
          have hg9 := fun y => blkF_get (n : Int) q canvas (linesQ q canvas) 0 y _ r9 hr9
          have hby : (q.b ≤ 3 ∧ byS q.b = -1) ∨ (¬ q.b ≤ 3 ∧ byS q.b = 1) := by
           unfold byS
           by_cases h : q.b ≤ 3
           ·exact .inl ⟨h, if_pos h⟩
           ·exact .inr ⟨h, if_neg h⟩
          have hup9 := uptoH_range lo.high ((linesQ q canvas).length - 1)
          clear lo f4 hnd
          generalize hLq : linesQ q canvas = L at *
          generalize hFr : fromS q.b q.c tall (allH L) = fr at *
          generalize hR : slideS (n : Int) q canvas tall L P = R at *
          have H1 := Lib.hid hstep
          have H2 := Lib.hid hnone
          have H3 := Lib.hid hsome
          have H4 := Lib.hid hslide
          have H5 := Lib.hid hsmall
          have H6 := Lib.hid hmove
          have H7 := Lib.hid hbl
          have H8 := Lib.hid hstart
          have H9 := Lib.hid hh9
          have G0 := Lib.hid hg0
          have G9 := Lib.hid hg9
          have HPs := Lib.hid f1
          have HX := Lib.hid hnX
          clear hstep hnone hsome hslide hsmall hmove hbl hstart hLq hFr hR f1 hK hh9 hg0 hg9 hr0 hr9 hnX
          obtain ⟨AO, cO, rfl, hcO⟩ := hP.form
          rcases hby with ⟨hb3, hby⟩ | ⟨hb3, hby⟩
          ·have s3 : decide (q.b ≤ 3) = true := decide_eq_true hb3
           go_wp2_with (go_at_call 84; refine cB.mono ?_; rintro e W8 ⟨v8, rfl, hP8, hb8⟩; have c0 := cell_later hb8 c0; have c1 := cell_later hb8 c1; obtain ⟨A8, c8, e8, hc8⟩ := hP8.form; rw [H7.out] at e8 hc8; subst e8)
           obtain ⟨l9, hl9⟩ : ∃ l9, L.length = l9 + 1 := ⟨L.length - 1, by omega⟩
           have hl9' : L.length - 1 = l9 := by omega
           rw [hl9'] at H9 G9 hup9
           have HL9 := Lib.hid hl9
           have wl9 : IntKind.i64.wrap ((L.length : Int) - 1) = (l9 : Int) := by rw [show (L.length : Int) - 1 = (l9 : Int) by omega]; exact IntWalk.i64_in _ (by omega)
           have m0 : (0 : Int) < (L.length : Int) := by omega
           have m1 : (0 : Int) ≤ (l9 : Int) := by omega
           have m2 : (l9 : Int) < (L.length : Int) := by omega
           have m3 : ¬ ((l9 : Int) < 0) := by omega
           have m4 : 0 < L.length := by omega
           clear hl9 hl9' cB c0 c1 c2 c3
           go_loopg [19] (moves q.b tall fr + 1) (fun g _ wx => (∃ y : Int, g = moves q.b tall y + 1 ∧ (∃ m, moves q.b tall y < m ∧ slideF (n : Int) q canvas tall L P m y = R) ∧ Pls wx V2.heap.size (.slice A8 L.length c8) (blkF (n : Int) q canvas 0 y L) ∧ Below V2.heap.size V2 wx ∧ -13000 ≤ y ∧ y ≤ 1001) ∨ (g = 0 ∧ R = none ∧ Lies wx V.heap.size 4 1 (.slice (some ⟨V.heap.size, 0, none⟩) C.length C.length) C.length (goneL (X ++ [n]) C.length) ∧ KB [4] V2 wx ∧ Below V.heap.size V wx))
           case atStart => exact .inl ⟨fr, rfl, H8.out, hP8, hb8, by omega, by omega⟩
           case round =>
            rcases hrel with ⟨y, hgk, hsl, hPw, hbx, hy1, hy2⟩ | ⟨hgk, hRn, hGw, hkb, hbw⟩
            ·obtain ⟨s1, s2, s3⟩ := H4.out y hsl
             have HGK := Lib.hid hgk
             have hbV : Below V.heap.size V wr := hbi.trans (hbx.mono hbi.size)
             obtain ⟨ad, u0, p0, rfl, hp0, hI0, a0, a1, a2, a3, a4, a5, a6⟩ := at_pls (P := blkF (n : Int) q canvas 0 y L) (by rw [H7.out]; exact hPw) 0 (by rw [H7.out]; omega)
             obtain ⟨ad', u9, p9, e9, hp9, hI9, f0, f1, f2, f3, f4, f5, f6⟩ := at_pls (P := blkF (n : Int) q canvas 0 y L) (by rw [H7.out]; exact hPw) l9 (by rw [H7.out]; omega)
             injection e9 with e9
             subst e9
             rw [G0.out] at hp0
             rw [G9.out] at hp9
             injection hp0 with hp0
             injection hp9 with hp9
             have hpy : p9.y + p9.high = y + allH L := by rw [← hp9]; simp only [plOf]; have := H9.out; omega
             rw [← hp0] at a3
             simp only [plOf] at a3
             rw [show y + uptoH L 0 = y from Int.add_zero y] at a3
             replace a3 : wr.cell? ⟨ad.block, ad.off + 3, none⟩ = some (.int .i64 y) := by simpa [Addr.add] using a3
             clear hp0 hp9 a0 a1 a2 a4 a5 a6 hI0
             obtain ⟨Au9, cu9, rfl, _⟩ := hI9.form
             obtain ⟨pc, pl, px, py, pw, ph, pps⟩ := p9
             simp only at f0 f1 f2 f3 f4 f5 f6 hpy hI9
             have wY9 : IntKind.i64.wrap (py + ph) = y + allH L := by rw [hpy]; exact IntWalk.i64_in _ (by omega)
             clear hI9 hpy
             generalize pps.length = pn at f6
             have hX : Below wr.heap.size wr (wr.alloc (.cells #[.int .i64 pc, .int .i64 pl, .int .i64 px, .int .i64 py, .int .i64 pw, .int .i64 ph, .slice Au9 pn cu9] 63)) := (Below.refl _ wr).alloc (Nat.le_refl _) _
             have hGx := hG.kb (KB.below (ts := []) hbx) (by simp)
             obtain ⟨g, off, c9, e9, hc9, hg1, hg2, hg3, hfz, hcl, hput⟩ := hGx.put (by omega)
             injection e9 with e10 e11 e12
             injection e10 with e10
             injection e10 with e13 e14 e15
             subst e13 e14 e12
             have k1 := hcl n _ (goneL_get hlt)
             rw [decide_eq_false HX.out] at k1
             have kf := hfz (0 + n)
             have hpn := hput n (.bool true) (by omega)
             rw [goneL_set] at hpn
             simp only [Nat.zero_add] at k1 kf hpn
             have hbA : Below (wr.setCell ⟨V.heap.size, n, none⟩ (.bool true)).heap.size (wr.setCell ⟨V.heap.size, n, none⟩ (.bool true)) ((wr.setCell ⟨V.heap.size, n, none⟩ (.bool true)).alloc (.cells #[.int .i64 pc, .int .i64 pl, .int .i64 px, .int .i64 py, .int .i64 pw, .int .i64 ph, .slice Au9 pn cu9] 63)) := (Below.refl _ _).alloc (Nat.le_refl _) _
             have hbS : Below V.heap.size V (wr.setCell ⟨V.heap.size, n, none⟩ (.bool true)) := hbV.setCell (p := ⟨V.heap.size, n, none⟩) (Nat.le_refl _) _
             have hkX : KB [4] V2 ((wr.setCell ⟨V.heap.size, n, none⟩ (.bool true)).alloc (.cells #[.int .i64 pc, .int .i64 pl, .int .i64 px, .int .i64 py, .int .i64 pw, .int .i64 ph, .slice Au9 pn cu9] 63)) := by obtain ⟨cur, hcur⟩ := hg3; exact ((KB.below hbx).trans (KB.set hcur (by simp) _)).trans (KB.below hbA)
             have HGX := Lib.hid (And.intro (hpn.kb (KB.below (ts := []) hbA) (by simp)) (And.intro hkX (hbS.trans (hbA.mono hbS.size))))
             have k1X := cell_later hX k1
             have kfX : (wr.alloc (.cells #[.int .i64 pc, .int .i64 pl, .int .i64 px, .int .i64 py, .int .i64 pw, .int .i64 ph, .slice Au9 pn cu9] 63)).frozen? ⟨V.heap.size, n, none⟩ = false := by obtain ⟨cur, hcur⟩ := hg3; simp [World.frozen?, (KB.below (ts := [63]) hX).2 _ _ _ (by decide) hcur]
             clear hbA hbS
             have a3X := cell_later hX a3
             clear hsl hP8 hb8 hgk hcl hput hfz hg3 hpn hkX
             by_cases hout : y < 0 ∨ tall < y + allH L
             ·have HR0 := Lib.hid (s1 hout)
              clear s1 s2 s3
              rcases Int.lt_or_le y 0 with h0 | h0
              ·have d1 : decide (y < 0) = true := decide_eq_true h0
               go_wp2_with fail
               go_roundg 0
               case measure => rw [HGK.out]; omega
               case rel => exact .inr ⟨rfl, HR0.out, HGX.out⟩
              ·have d1 : decide (y < 0) = false := decide_eq_false (by omega)
               have d2 : decide (tall < y + allH L) = true := decide_eq_true (by omega)
               go_wp2_with fail
               go_roundg 0
               case measure => rw [HGK.out]; omega
               case rel => exact .inr ⟨rfl, HR0.out, HGX.out⟩
             ·have d1 : decide (y < 0) = false := decide_eq_false (by omega)
              have d2 : decide (tall < y + allH L) = false := decide_eq_false (by omega)
              have hsm := H5.out y (by omega)
              have hPO := hP.kb (KB.below (ts := []) hbx) (by simp) (by simp)
              have cM := fun (Z : World) (hz : Below wr.heap.size wr Z) => rmeets_calls (blkF (n : Int) q canvas 0 y L) (some ad) c8 V2.heap.size P AO cO V.heap.size Z (by rw [H7.out]; exact hPw.below hz) (by rw [H7.out]; omega) hsm (hPO.below hz) (by omega) HPs.out
              simp only [H7.out] at cM
              cases hm : meetsS (blkF (n : Int) q canvas 0 y L) P
              case true =>
               rw [hm] at cM
               obtain ⟨g1, g2⟩ := s3 hout hm
               have G1 := Lib.hid g1
               have G2 := Lib.hid g2
               have hsm := Lib.hid hsm
               clear s1 s2 s3 g1 g2 hm
               go_wp2_with (go_at_call 85; refine (cM _ hX).mono ?_; rintro e W9 ⟨rfl, hb9⟩)
               have hbX9 := hX.trans (hb9.mono hX.size)
               have hP9 := hPw.below hbX9
               have hbx9 : Below V2.heap.size V2 W9 := hbx.trans (hbX9.mono hbx.size)
               clear hPw hb9 hbX9 hPO cM hX hGx a3 a3X k1 kf k1X kfX HGX f0 f1 f2 f3 f4 f5 f6 wY9
               go_loopw [19] (fun i wy => ∃ m : Nat, m ≤ L.length ∧ i = .int .i64 m ∧ Pls wy V2.heap.size (.slice (some ad) L.length c8) (mvTo (-1) m (blkF (n : Int) q canvas 0 y L)) ∧ Below V2.heap.size V2 wy) (fun i _ => L.length - (intOf i).toNat)
               case atStart => exact ⟨0, by omega, rfl, by rw [mvTo_zero]; exact hP9, hbx9⟩
               case round =>
                obtain ⟨m, hm, rfl, hPm, hbm⟩ := hrel
                by_cases hml : m < L.length
                ·obtain ⟨us, hu1, hu2, hu3⟩ := hPm
                 rw [mvTo_length, H7.out] at hu1 hu2
                 obtain ⟨p, hp⟩ : ∃ p, (blkF (n : Int) q canvas 0 y L)[m]? = some p := ⟨_, List.getElem?_eq_getElem (by rw [H7.out]; exact hml)⟩
                 have hpm := mvTo_get (d := -1) hp
                 have hset := mvTo_set (d := -1) hp
                 have hsp := hsm.out p (List.mem_of_getElem? hp)
                 obtain ⟨u, hu⟩ : ∃ u, us[m]? = some u := ⟨_, List.getElem?_eq_getElem (by omega)⟩
                 obtain ⟨g, off, c9, e9, hc9, hg1, hg2, hg3, hfz, hcl, hput⟩ := hu2.put (by omega)
                 injection e9 with e10 e11 e12
                 injection e10 with e10
                 subst e10 e12
                 have hcl3 := hcl (m * 7 + 3) (.int .i64 p.y) ((cells63_get hu hpm (by omega)).trans rfl)
                 have hfz3 := hfz (off + m * 7 + 3)
                 have hp3 := hput (m * 7 + 3) (.int .i64 (p.y + -1)) (by omega)
                 rw [cells63_y _ (by rw [mvTo_length, H7.out]; exact hu1) hpm, hset] at hp3
                 have eo : off + (m * 7 + 3) = off + m * 7 + 3 := by omega
                 rw [eo] at hcl3 hp3
                 have hps := set_ps (y := p.y + -1) hpm
                 rw [hset] at hps
                 have hkp : KB [63] wr (wr.setCell ⟨g, off + m * 7 + 3, none⟩ (.int .i64 (p.y + -1))) := by obtain ⟨cur, hcur⟩ := hg3; exact KB.set hcur (by simp) _
                 have hin : ∀ (i : Nat) (u : Value) (p' : Pl), us[i]? = some u → (mvTo (-1) (m + 1) (blkF (n : Int) q canvas 0 y L))[i]? = some p' → In42 (wr.setCell ⟨g, off + m * 7 + 3, none⟩ (.int .i64 (p.y + -1))) u p'.ps := by
                  intro i u p' h1 h2
                  obtain ⟨r, hr1, hr2⟩ := hps i p' h2
                  rw [← hr2]
                  exact (hu3 i u r h1 hr1).kb hkp (by decide)
                 have hbm2 : Below V2.heap.size V2 (wr.setCell ⟨g, off + m * 7 + 3, none⟩ (.int .i64 (p.y + -1))) := hbm.setCell (p := ⟨g, _, none⟩) hg1 _
                 have HIN := Lib.hid hin
                 have wp1 : IntKind.i64.wrap (p.y + -1) = p.y + -1 := IntWalk.i64_in _ (by have := hsp.2.1; omega)
                 have wm1 : IntKind.i64.wrap ((m : Int) + 1) = (m : Int) + 1 := IntWalk.i64_in _ (by omega)
                 clear hset hps hin hput hcl hfz hpm hp hu hu3 hsp hkp
                 go_wp2_with fail
                 go_roundw
                 case rel => (first | exact ⟨m + 1, by omega, by go_num, ⟨us, by rw [mvTo_length, H7.out]; exact hu1, by rw [mvTo_length, H7.out]; exact hp3, HIN.out⟩, hbm2⟩ | ((repeat apply Exists.intro); refine ⟨⟨m + 1, by omega, ?_, ⟨us, by rw [mvTo_length, H7.out]; exact hu1, by rw [mvTo_length, H7.out]; exact hp3, HIN.out⟩, hbm2⟩, rfl⟩; go_num))
                 case measure => (simp [intOf]; try omega)
                ·obtain rfl : m = L.length := by omega
                 have hPn : Pls wr V2.heap.size (.slice (some ad) L.length c8) (blkF (n : Int) q canvas 0 (y + -1) L) := by
                  rw [H6.out]
                  have := mvTo_all (-1) (blkF (n : Int) q canvas 0 y L)
                  rw [H7.out] at this
                  rw [← this]
                  exact hPm
                 clear hPm
                 go_wp2_with fail
                 go_roundg (moves q.b tall (y + byS q.b) + 1)
                 case measure => rw [HGK.out]; exact Nat.succ_lt_succ G1.out
                 case rel => exact .inl ⟨y + byS q.b, rfl, G2.out, by rw [hby]; exact hPn, hbm, by rw [hby]; omega, by rw [hby]; omega⟩
              case false =>
               rw [hm] at cM
               have HN := Lib.hid (H1.out _ (H3.out y (s2 hout hm)))
               clear s1 s2 s3 hm
               go_wp2_with (first | (go_at_call 85; refine (cM _ hX).mono ?_; rintro e W9 ⟨rfl, hb9⟩; have hbX9 := hX.trans (hb9.mono hX.size); have k9 := cell_later hbX9 k1; have hP9 := hPw.below hbX9; have hPO9 := hPO.below hbX9; obtain ⟨us, hu1, hu2, hu3⟩ := hP9; rw [H7.out] at hu2; obtain ⟨ps, hp1, hp2, hp3⟩ := hPO9; obtain ⟨a8, c8', e8, hc8', hcells⟩ := hu2.cell hLpos; injection e8 with e8 e9 e10; injection e8 with e8; subst e8 e10) | (at_builtin; refine Go.Own.wpList_append_lies rfl _ _ 55 rfl V.heap.size 63 i1 _ 7 72 Tryz.underlying55 hj hpz0 hpz1 hpz2 rfl (by decide) _ P.length (cells63 ps P) rfl hp2 ad L.length c8 (cells63 us (blkF (n : Int) q canvas 0 y L)) rfl (by rw [cells63_length _ _ hu1, H7.out]) hcells (cells63_one (w := W9) hu3) ?x04 ?x05 ?x06 hLpos ?_))
               case x04 => unfold maxLen; omega
               case x05 => omega
               case x06 => exact Nat.le_trans hbV.size hbX9.size
               intro v10 W10 hL10 hg10
               obtain ⟨A10, c10, rfl, hc10⟩ := hL10.form
               have hk10 : KB [63] W9 W10 := KB.grown hg10 fun j hj => by obtain ⟨_, _, cu, hc⟩ := hp2.lt j hj; exact ⟨cu, 63, by simp, hc⟩
               have hb10 : Below V.heap.size V W10 := (hbV.trans (hbX9.mono hbV.size)).grown hg10 (Nat.le_trans hbV.size hbX9.size) (fun j hj => (hp2.lt j hj).1)
               have hk2 : KB [63] V2 W10 := ((KB.below hbx).trans (KB.below hbX9)).trans hk10
               clear hg10 cM hPw hPO hX a3 a3X k1 kf k1X kfX HGX f0 f1 f2 f3 f4 f5 f6 wY9
               go_wp2_with fail
               go_roundw
               case rel =>
                have hA10 : Pls W10 V.heap.size (.slice A10 (P ++ blkF (n : Int) q canvas 0 y L).length c10) (P ++ blkF (n : Int) q canvas 0 y L) := by rw [List.length_append, H7.out]; exact Pls.append (w := W9) hp1 hp3 hu1 hu3 (by rw [H7.out]; exact hL10) hk10
                rw [List.length_append, H7.out] at hA10
                first | exact ⟨n + 1, P ++ blkF (n : Int) q canvas 0 y L, X, by omega, by go_num, HN.out, hA10, hG.kb hk2 (by decide), hb10⟩ | ((repeat apply Exists.intro); refine ⟨⟨n + 1, P ++ blkF (n : Int) q canvas 0 y L, X, by omega, ?_, HN.out, ?_, hG.kb hk2 (by decide), hb10⟩, rfl⟩; go_num; exact hA10)
               case measure => (simp [intOf]; try omega)
            ·have HGK := Lib.hid hgk
             have HR0 := Lib.hid hRn
             obtain ⟨g, off, c9, e9, hc9, hg1, hg2, hg3, hfz, hcl, hput⟩ := hGw.put (by omega)
             injection e9 with e10 e11 e12
             injection e10 with e10
             injection e10 with e13 e14 e15
             subst e13 e14 e12
             have k1 := hcl n _ (goneL_get hlt)
             rw [decide_eq_true (show n ∈ X ++ [n] by simp)] at k1
             simp only [Nat.zero_add] at k1
             clear hgk hRn hcl hput hfz
             go_wp2_with fail
             go_roundw
             case rel => (first | exact ⟨n + 1, P, X ++ [n], by omega, by go_num, H1.out _ (H2.out HR0.out), hP.kb hkb (by decide) (by decide), hGw, hbw⟩ | ((repeat apply Exists.intro); refine ⟨⟨n + 1, P, X ++ [n], by omega, ?_, H1.out _ (H2.out HR0.out), hP.kb hkb (by decide) (by decide), hGw, hbw⟩, rfl⟩; go_num))
             case measure => (simp [intOf]; try omega)
          ·have s3 : decide (q.b ≤ 3) = false := decide_eq_false hb3
           go_wp2_with (go_at_call 84; refine cB.mono ?_; rintro e W8 ⟨v8, rfl, hP8, hb8⟩; have c0 := cell_later hb8 c0; have c1 := cell_later hb8 c1; obtain ⟨A8, c8, e8, hc8⟩ := hP8.form; rw [H7.out] at e8 hc8; subst e8)
           obtain ⟨l9, hl9⟩ : ∃ l9, L.length = l9 + 1 := ⟨L.length - 1, by omega⟩
           have hl9' : L.length - 1 = l9 := by omega
           rw [hl9'] at H9 G9 hup9
           have HL9 := Lib.hid hl9
           have wl9 : IntKind.i64.wrap ((L.length : Int) - 1) = (l9 : Int) := by rw [show (L.length : Int) - 1 = (l9 : Int) by omega]; exact IntWalk.i64_in _ (by omega)
           have m0 : (0 : Int) < (L.length : Int) := by omega
           have m1 : (0 : Int) ≤ (l9 : Int) := by omega
           have m2 : (l9 : Int) < (L.length : Int) := by omega
           have m3 : ¬ ((l9 : Int) < 0) := by omega
           have m4 : 0 < L.length := by omega
           clear hl9 hl9' cB c0 c1 c2 c3
           go_loopg [19] (moves q.b tall fr + 1) (fun g _ wx => (∃ y : Int, g = moves q.b tall y + 1 ∧ (∃ m, moves q.b tall y < m ∧ slideF (n : Int) q canvas tall L P m y = R) ∧ Pls wx V2.heap.size (.slice A8 L.length c8) (blkF (n : Int) q canvas 0 y L) ∧ Below V2.heap.size V2 wx ∧ -13000 ≤ y ∧ y ≤ 1001) ∨ (g = 0 ∧ R = none ∧ Lies wx V.heap.size 4 1 (.slice (some ⟨V.heap.size, 0, none⟩) C.length C.length) C.length (goneL (X ++ [n]) C.length) ∧ KB [4] V2 wx ∧ Below V.heap.size V wx))
           case atStart => exact .inl ⟨fr, rfl, H8.out, hP8, hb8, by omega, by omega⟩
           case round =>
            rcases hrel with ⟨y, hgk, hsl, hPw, hbx, hy1, hy2⟩ | ⟨hgk, hRn, hGw, hkb, hbw⟩
            ·obtain ⟨s1, s2, s3⟩ := H4.out y hsl
             have HGK := Lib.hid hgk
             have hbV : Below V.heap.size V wr := hbi.trans (hbx.mono hbi.size)
             obtain ⟨ad, u0, p0, rfl, hp0, hI0, a0, a1, a2, a3, a4, a5, a6⟩ := at_pls (P := blkF (n : Int) q canvas 0 y L) (by rw [H7.out]; exact hPw) 0 (by rw [H7.out]; omega)
             obtain ⟨ad', u9, p9, e9, hp9, hI9, f0, f1, f2, f3, f4, f5, f6⟩ := at_pls (P := blkF (n : Int) q canvas 0 y L) (by rw [H7.out]; exact hPw) l9 (by rw [H7.out]; omega)
             injection e9 with e9
             subst e9
             rw [G0.out] at hp0
             rw [G9.out] at hp9
             injection hp0 with hp0
             injection hp9 with hp9
             have hpy : p9.y + p9.high = y + allH L := by rw [← hp9]; simp only [plOf]; have := H9.out; omega
             rw [← hp0] at a3
             simp only [plOf] at a3
             rw [show y + uptoH L 0 = y from Int.add_zero y] at a3
             replace a3 : wr.cell? ⟨ad.block, ad.off + 3, none⟩ = some (.int .i64 y) := by simpa [Addr.add] using a3
             clear hp0 hp9 a0 a1 a2 a4 a5 a6 hI0
             obtain ⟨Au9, cu9, rfl, _⟩ := hI9.form
             obtain ⟨pc, pl, px, py, pw, ph, pps⟩ := p9
             simp only at f0 f1 f2 f3 f4 f5 f6 hpy hI9
             have wY9 : IntKind.i64.wrap (py + ph) = y + allH L := by rw [hpy]; exact IntWalk.i64_in _ (by omega)
             clear hI9 hpy
             generalize pps.length = pn at f6
             have hX : Below wr.heap.size wr (wr.alloc (.cells #[.int .i64 pc, .int .i64 pl, .int .i64 px, .int .i64 py, .int .i64 pw, .int .i64 ph, .slice Au9 pn cu9] 63)) := (Below.refl _ wr).alloc (Nat.le_refl _) _
             have hGx := hG.kb (KB.below (ts := []) hbx) (by simp)
             obtain ⟨g, off, c9, e9, hc9, hg1, hg2, hg3, hfz, hcl, hput⟩ := hGx.put (by omega)
             injection e9 with e10 e11 e12
             injection e10 with e10
             injection e10 with e13 e14 e15
             subst e13 e14 e12
             have k1 := hcl n _ (goneL_get hlt)
             rw [decide_eq_false HX.out] at k1
             have kf := hfz (0 + n)
             have hpn := hput n (.bool true) (by omega)
             rw [goneL_set] at hpn
             simp only [Nat.zero_add] at k1 kf hpn
             have hbA : Below (wr.setCell ⟨V.heap.size, n, none⟩ (.bool true)).heap.size (wr.setCell ⟨V.heap.size, n, none⟩ (.bool true)) ((wr.setCell ⟨V.heap.size, n, none⟩ (.bool true)).alloc (.cells #[.int .i64 pc, .int .i64 pl, .int .i64 px, .int .i64 py, .int .i64 pw, .int .i64 ph, .slice Au9 pn cu9] 63)) := (Below.refl _ _).alloc (Nat.le_refl _) _
             have hbS : Below V.heap.size V (wr.setCell ⟨V.heap.size, n, none⟩ (.bool true)) := hbV.setCell (p := ⟨V.heap.size, n, none⟩) (Nat.le_refl _) _
             have hkX : KB [4] V2 ((wr.setCell ⟨V.heap.size, n, none⟩ (.bool true)).alloc (.cells #[.int .i64 pc, .int .i64 pl, .int .i64 px, .int .i64 py, .int .i64 pw, .int .i64 ph, .slice Au9 pn cu9] 63)) := by obtain ⟨cur, hcur⟩ := hg3; exact ((KB.below hbx).trans (KB.set hcur (by simp) _)).trans (KB.below hbA)
             have HGX := Lib.hid (And.intro (hpn.kb (KB.below (ts := []) hbA) (by simp)) (And.intro hkX (hbS.trans (hbA.mono hbS.size))))
             have k1X := cell_later hX k1
             have kfX : (wr.alloc (.cells #[.int .i64 pc, .int .i64 pl, .int .i64 px, .int .i64 py, .int .i64 pw, .int .i64 ph, .slice Au9 pn cu9] 63)).frozen? ⟨V.heap.size, n, none⟩ = false := by obtain ⟨cur, hcur⟩ := hg3; simp [World.frozen?, (KB.below (ts := [63]) hX).2 _ _ _ (by decide) hcur]
             clear hbA hbS
             have a3X := cell_later hX a3
             clear hsl hP8 hb8 hgk hcl hput hfz hg3 hpn hkX
             by_cases hout : y < 0 ∨ tall < y + allH L
             ·have HR0 := Lib.hid (s1 hout)
              clear s1 s2 s3
              rcases Int.lt_or_le y 0 with h0 | h0
              ·have d1 : decide (y < 0) = true := decide_eq_true h0
               go_wp2_with fail
               go_roundg 0
               case measure => rw [HGK.out]; omega
               case rel => exact .inr ⟨rfl, HR0.out, HGX.out⟩
              ·have d1 : decide (y < 0) = false := decide_eq_false (by omega)
               have d2 : decide (tall < y + allH L) = true := decide_eq_true (by omega)
               go_wp2_with fail
               go_roundg 0
               case measure => rw [HGK.out]; omega
               case rel => exact .inr ⟨rfl, HR0.out, HGX.out⟩
             ·have d1 : decide (y < 0) = false := decide_eq_false (by omega)
              have d2 : decide (tall < y + allH L) = false := decide_eq_false (by omega)
              have hsm := H5.out y (by omega)
              have hPO := hP.kb (KB.below (ts := []) hbx) (by simp) (by simp)
              have cM := fun (Z : World) (hz : Below wr.heap.size wr Z) => rmeets_calls (blkF (n : Int) q canvas 0 y L) (some ad) c8 V2.heap.size P AO cO V.heap.size Z (by rw [H7.out]; exact hPw.below hz) (by rw [H7.out]; omega) hsm (hPO.below hz) (by omega) HPs.out
              simp only [H7.out] at cM
              cases hm : meetsS (blkF (n : Int) q canvas 0 y L) P
              case true =>
               rw [hm] at cM
               obtain ⟨g1, g2⟩ := s3 hout hm
               have G1 := Lib.hid g1
               have G2 := Lib.hid g2
               have hsm := Lib.hid hsm
               clear s1 s2 s3 g1 g2 hm
               go_wp2_with (go_at_call 85; refine (cM _ hX).mono ?_; rintro e W9 ⟨rfl, hb9⟩)
               have hbX9 := hX.trans (hb9.mono hX.size)
               have hP9 := hPw.below hbX9
               have hbx9 : Below V2.heap.size V2 W9 := hbx.trans (hbX9.mono hbx.size)
               clear hPw hb9 hbX9 hPO cM hX hGx a3 a3X k1 kf k1X kfX HGX f0 f1 f2 f3 f4 f5 f6 wY9
               go_loopw [19] (fun i wy => ∃ m : Nat, m ≤ L.length ∧ i = .int .i64 m ∧ Pls wy V2.heap.size (.slice (some ad) L.length c8) (mvTo (1) m (blkF (n : Int) q canvas 0 y L)) ∧ Below V2.heap.size V2 wy) (fun i _ => L.length - (intOf i).toNat)
               case atStart => exact ⟨0, by omega, rfl, by rw [mvTo_zero]; exact hP9, hbx9⟩
               case round =>
                obtain ⟨m, hm, rfl, hPm, hbm⟩ := hrel
                by_cases hml : m < L.length
                ·obtain ⟨us, hu1, hu2, hu3⟩ := hPm
                 rw [mvTo_length, H7.out] at hu1 hu2
                 obtain ⟨p, hp⟩ : ∃ p, (blkF (n : Int) q canvas 0 y L)[m]? = some p := ⟨_, List.getElem?_eq_getElem (by rw [H7.out]; exact hml)⟩
                 have hpm := mvTo_get (d := 1) hp
                 have hset := mvTo_set (d := 1) hp
                 have hsp := hsm.out p (List.mem_of_getElem? hp)
                 obtain ⟨u, hu⟩ : ∃ u, us[m]? = some u := ⟨_, List.getElem?_eq_getElem (by omega)⟩
                 obtain ⟨g, off, c9, e9, hc9, hg1, hg2, hg3, hfz, hcl, hput⟩ := hu2.put (by omega)
                 injection e9 with e10 e11 e12
                 injection e10 with e10
                 subst e10 e12
                 have hcl3 := hcl (m * 7 + 3) (.int .i64 p.y) ((cells63_get hu hpm (by omega)).trans rfl)
                 have hfz3 := hfz (off + m * 7 + 3)
                 have hp3 := hput (m * 7 + 3) (.int .i64 (p.y + 1)) (by omega)
                 rw [cells63_y _ (by rw [mvTo_length, H7.out]; exact hu1) hpm, hset] at hp3
                 have eo : off + (m * 7 + 3) = off + m * 7 + 3 := by omega
                 rw [eo] at hcl3 hp3
                 have hps := set_ps (y := p.y + 1) hpm
                 rw [hset] at hps
                 have hkp : KB [63] wr (wr.setCell ⟨g, off + m * 7 + 3, none⟩ (.int .i64 (p.y + 1))) := by obtain ⟨cur, hcur⟩ := hg3; exact KB.set hcur (by simp) _
                 have hin : ∀ (i : Nat) (u : Value) (p' : Pl), us[i]? = some u → (mvTo (1) (m + 1) (blkF (n : Int) q canvas 0 y L))[i]? = some p' → In42 (wr.setCell ⟨g, off + m * 7 + 3, none⟩ (.int .i64 (p.y + 1))) u p'.ps := by
                  intro i u p' h1 h2
                  obtain ⟨r, hr1, hr2⟩ := hps i p' h2
                  rw [← hr2]
                  exact (hu3 i u r h1 hr1).kb hkp (by decide)
                 have hbm2 : Below V2.heap.size V2 (wr.setCell ⟨g, off + m * 7 + 3, none⟩ (.int .i64 (p.y + 1))) := hbm.setCell (p := ⟨g, _, none⟩) hg1 _
                 have HIN := Lib.hid hin
                 have wp1 : IntKind.i64.wrap (p.y + 1) = p.y + 1 := IntWalk.i64_in _ (by have := hsp.2.1; omega)
                 have wm1 : IntKind.i64.wrap ((m : Int) + 1) = (m : Int) + 1 := IntWalk.i64_in _ (by omega)
                 clear hset hps hin hput hcl hfz hpm hp hu hu3 hsp hkp
                 go_wp2_with fail
                 go_roundw
                 case rel => (first | exact ⟨m + 1, by omega, by go_num, ⟨us, by rw [mvTo_length, H7.out]; exact hu1, by rw [mvTo_length, H7.out]; exact hp3, HIN.out⟩, hbm2⟩ | ((repeat apply Exists.intro); refine ⟨⟨m + 1, by omega, ?_, ⟨us, by rw [mvTo_length, H7.out]; exact hu1, by rw [mvTo_length, H7.out]; exact hp3, HIN.out⟩, hbm2⟩, rfl⟩; go_num))
                 case measure => (simp [intOf]; try omega)
                ·obtain rfl : m = L.length := by omega
                 have hPn : Pls wr V2.heap.size (.slice (some ad) L.length c8) (blkF (n : Int) q canvas 0 (y + 1) L) := by
                  rw [H6.out]
                  have := mvTo_all (1) (blkF (n : Int) q canvas 0 y L)
                  rw [H7.out] at this
                  rw [← this]
                  exact hPm
                 clear hPm
                 go_wp2_with fail
                 go_roundg (moves q.b tall (y + byS q.b) + 1)
                 case measure => rw [HGK.out]; exact Nat.succ_lt_succ G1.out
                 case rel => exact .inl ⟨y + byS q.b, rfl, G2.out, by rw [hby]; exact hPn, hbm, by rw [hby]; omega, by rw [hby]; omega⟩
              case false =>
               rw [hm] at cM
               have HN := Lib.hid (H1.out _ (H3.out y (s2 hout hm)))
               clear s1 s2 s3 hm
               go_wp2_with (first | (go_at_call 85; refine (cM _ hX).mono ?_; rintro e W9 ⟨rfl, hb9⟩; have hbX9 := hX.trans (hb9.mono hX.size); have k9 := cell_later hbX9 k1; have hP9 := hPw.below hbX9; have hPO9 := hPO.below hbX9; obtain ⟨us, hu1, hu2, hu3⟩ := hP9; rw [H7.out] at hu2; obtain ⟨ps, hp1, hp2, hp3⟩ := hPO9; obtain ⟨a8, c8', e8, hc8', hcells⟩ := hu2.cell hLpos; injection e8 with e8 e9 e10; injection e8 with e8; subst e8 e10) | (at_builtin; refine Go.Own.wpList_append_lies rfl _ _ 55 rfl V.heap.size 63 i1 _ 7 72 Tryz.underlying55 hj hpz0 hpz1 hpz2 rfl (by decide) _ P.length (cells63 ps P) rfl hp2 ad L.length c8 (cells63 us (blkF (n : Int) q canvas 0 y L)) rfl (by rw [cells63_length _ _ hu1, H7.out]) hcells (cells63_one (w := W9) hu3) ?x14 ?x15 ?x16 hLpos ?_))
               case x14 => unfold maxLen; omega
               case x15 => omega
               case x16 => exact Nat.le_trans hbV.size hbX9.size
               intro v10 W10 hL10 hg10
               obtain ⟨A10, c10, rfl, hc10⟩ := hL10.form
               have hk10 : KB [63] W9 W10 := KB.grown hg10 fun j hj => by obtain ⟨_, _, cu, hc⟩ := hp2.lt j hj; exact ⟨cu, 63, by simp, hc⟩
               have hb10 : Below V.heap.size V W10 := (hbV.trans (hbX9.mono hbV.size)).grown hg10 (Nat.le_trans hbV.size hbX9.size) (fun j hj => (hp2.lt j hj).1)
               have hk2 : KB [63] V2 W10 := ((KB.below hbx).trans (KB.below hbX9)).trans hk10
               clear hg10 cM hPw hPO hX a3 a3X k1 kf k1X kfX HGX f0 f1 f2 f3 f4 f5 f6 wY9
               go_wp2_with fail
               go_roundw
               case rel =>
                have hA10 : Pls W10 V.heap.size (.slice A10 (P ++ blkF (n : Int) q canvas 0 y L).length c10) (P ++ blkF (n : Int) q canvas 0 y L) := by rw [List.length_append, H7.out]; exact Pls.append (w := W9) hp1 hp3 hu1 hu3 (by rw [H7.out]; exact hL10) hk10
                rw [List.length_append, H7.out] at hA10
                first | exact ⟨n + 1, P ++ blkF (n : Int) q canvas 0 y L, X, by omega, by go_num, HN.out, hA10, hG.kb hk2 (by decide), hb10⟩ | ((repeat apply Exists.intro); refine ⟨⟨n + 1, P ++ blkF (n : Int) q canvas 0 y L, X, by omega, ?_, HN.out, ?_, hG.kb hk2 (by decide), hb10⟩, rfl⟩; go_num; exact hA10)
               case measure => (simp [intOf]; try omega)
            ·have HGK := Lib.hid hgk
             have HR0 := Lib.hid hRn
             obtain ⟨g, off, c9, e9, hc9, hg1, hg2, hg3, hfz, hcl, hput⟩ := hGw.put (by omega)
             injection e9 with e10 e11 e12
             injection e10 with e10
             injection e10 with e13 e14 e15
             subst e13 e14 e12
             have k1 := hcl n _ (goneL_get hlt)
             rw [decide_eq_true (show n ∈ X ++ [n] by simp)] at k1
             simp only [Nat.zero_add] at k1
             clear hgk hRn hcl hput hfz
             go_wp2_with fail
             go_roundw
             case rel => (first | exact ⟨n + 1, P, X ++ [n], by omega, by go_num, H1.out _ (H2.out HR0.out), hP.kb hkb (by decide) (by decide), hGw, hbw⟩ | ((repeat apply Exists.intro); refine ⟨⟨n + 1, P, X ++ [n], by omega, ?_, H1.out _ (H2.out HR0.out), hP.kb hkb (by decide) (by decide), hGw, hbw⟩, rfl⟩; go_num))
             case measure => (simp [intOf]; try omega)
         ·have dl : decide (q.a = 7 - (j : Int)) = false := decide_eq_false hlay
          go_wp2_with fail
          go_roundw
          case rel => exact ⟨n + 1, P, X, by omega, by go_num, by rw [ordD_skip (by rw [HLAY.out]; exact hlay)]; exact HRUN.out, hP, hG, hbi⟩
          case measure => (simp [intOf]; try omega)
        ·obtain rfl : n = C.length := by omega
         go_wp2_with fail
         go_roundw
         case rel => exact ⟨j + 1, P, X, by omega, by congr 1; omega, by rw [← ordD_next]; exact HRUN.out, hP, hG, hbi⟩
         case measure => (simp [intOf]; try omega)
      ·obtain rfl : j = 8 := by omega
       rw [ordD_end] at hrun
       rw [show (7 - ((8 : Nat) : Int)) = -1 from rfl]
       have hlay : layS C canvas tall = (P, X) := hrun
       have hp1 : layP C canvas tall = P := by unfold layP; rw [if_pos HE0.out, hlay]
       have hp2 : layX C canvas tall = riseF C.length X := by unfold layX lostS; rw [if_pos HE0.out, hlay]
       have HF := Lib.hid (And.intro hp1 hp2)
       clear hp1 hp2 hlay hrun
       obtain ⟨AO, cO, rfl, hcO⟩ := hP.form
       have hbw8 := hbr.trans (hbx.mono hbr.size)
       have hsV := hbr.size
       have hs8 := hbw8.size
       rename World => V8
       go_wp2_with fail
       go_loopw [20, 21] (fun vl i wx => ∃ n : Nat, n ≤ C.length ∧ i = .int .i64 n ∧ Lies wx V8.heap.size 3 1 vl (((List.range n).filter fun k => decide (k ∈ X))).length ((((List.range n).filter fun k => decide (k ∈ X))).map encN) ∧ Below V8.heap.size V8 wx) (fun _ i _ => C.length - (intOf i).toNat)
       case atStart => exact ⟨0, by omega, rfl, Lies.nil _ _ _ _, Below.refl _ _⟩
       case round =>
        obtain ⟨n, hn, rfl, hL, hby⟩ := hrel
        have wn : IntKind.i64.wrap ((n : Int) + 1) = (n : Int) + 1 := IntWalk.i64_in _ (by omega)
        by_cases hlt : n < C.length
        ·have hGy := hG.kb (KB.below (ts := []) hby) (by simp)
         obtain ⟨g, off, c9, e9, hc9, hg1, hg2, hg3, hfz, hcl, hput⟩ := hGy.put (by omega)
         injection e9 with e10 e11 e12
         injection e10 with e10
         injection e10 with e13 e14 e15
         subst e13 e14 e12
         have k1 := hcl n _ (goneL_get hlt)
         simp only [Nat.zero_add] at k1
         have hfl : (List.range (n + 1)).filter (fun k => decide (k ∈ X)) = (List.range n).filter (fun k => decide (k ∈ X)) ++ if decide (n ∈ X) = true then [n] else [] := by
          rw [List.range_succ, List.filter_append, List.filter_cons, List.filter_nil]
         have hFn := List.length_filter_le (fun k => decide (k ∈ X)) (List.range n)
         rw [List.length_range] at hFn
         obtain ⟨F, hF⟩ : ∃ F, (List.range n).filter (fun k => decide (k ∈ X)) = F := ⟨_, rfl⟩
         rw [hF] at hL hfl hFn
         have n1 : (0 : Int) ≤ (n : Int) := by omega
         have n2 : (n : Int) < (C.length : Int) := by omega
         have n3 : ¬ ((n : Int) < 0) := by omega
         clear hF hGy hput hcl hfz hg3
         cases hx : decide (n ∈ X)
         case false =>
          rw [hx] at k1 hfl
          rw [if_neg (by decide), List.append_nil] at hfl
          have HFL := Lib.hid hfl
          clear hfl hx
          go_wp2_with fail
          go_roundw
          case rel => exact ⟨n + 1, by omega, by go_num, by rw [HFL.out]; exact hL, hby⟩
          case measure => (simp [intOf]; try omega)
         case true =>
          rw [hx] at k1 hfl
          rw [if_pos rfl] at hfl
          have HFL := Lib.hid hfl
          clear hfl hx
          have hb9 : Below wr.heap.size wr (wr.alloc (.cells #[.int .i64 n] 3)) := (Below.refl _ wr).alloc (Nat.le_refl _) _
          have hL9 := hL.kb (KB.below (ts := []) hb9) (by simp)
          go_wp2_with (at_builtin; refine Go.Own.wpList_append_lies rfl _ _ 56 rfl V8.heap.size 3 i0 _ 1 8 Tryz.underlying56 hi hz0 hz1 hz2 rfl (by decide) _ F.length (F.map encN) rfl hL9 ⟨wr.heap.size, 0, none⟩ 1 1 [.int .i64 n] rfl rfl (fun j u hj => by rw [add0]; exact newcell wr #[.int .i64 n] 3 j u (by simpa using hj)) (fun u hu => by simp only [List.mem_cons, List.mem_nil_iff, or_false] at hu; rcases hu with rfl; rfl) (by unfold maxLen; omega) (by omega) (Nat.le_trans hby.size hb9.size) (by decide) ?_)
          intro v9 W9 hL10 hg9
          have hb10 : Below V8.heap.size V8 W9 := (hby.trans (hb9.mono hby.size)).grown hg9 (Nat.le_trans hby.size hb9.size) (fun j hj => (hL9.lt j hj).1)
          clear hg9 hL9 hb9 hL
          go_wp2
          go_roundw
          case rel => exact ⟨n + 1, by omega, by go_num, by rw [HFL.out, List.length_append, List.map_append]; exact hL10, hb10⟩
          case measure => (simp [intOf]; try omega)
        ·obtain rfl : n = C.length := by omega
         obtain ⟨AL, cL, rfl, hcL⟩ := hL.form
         go_wp2_with fail
         refine bodyPost_ret (results_tmp3 rfl _ _ _) rfl ?_
         obtain ⟨f1, f2⟩ := HF.out
         refine ⟨_, _, ?_, by rw [f1]; exact (hP.below (hby.mono (Nat.le_refl _))).mono hsV, by rw [f2]; exact hL.mono hs8, hbw8.trans (hby.mono hs8)⟩
         rw [HE0.out]
         rfl
end Go.Proofs.YtogidacejbjljaaGreatDoor.PTextChecks
end
section
/- TextLays's own function (10). -/
set_option linter.unusedVariables false
set_option linter.unusedSimpArgs false
namespace Go.Proofs.YtogidacejbjljaaGreatDoor.PTextChecks
open Go.RowKit Go.Mix Go.Own Go.Sort Go.Proofs.YtogidacejbjljaaGreatDoorW.PrintWords Go.Proofs.YtogidacejbjljaaGreatDoorW.PrintLast Go.Proofs.YtogidacejbjljaaGreatDoorW.PrintMore
theorem lay_bound (C : List Cu) (canvas tall : Int) : (layP C canvas tall).length ≤ 1000000 ∧ (layX C canvas tall).length ≤ 1000000 ∧ ∀ p ∈ layP C canvas tall, p.ps.length ≤ 1000000 := by
 by_cases hE0 : layE C canvas tall = 0
 ·obtain ⟨hcv, htl, hC8, hok⟩ := lay_ok hE0
  have hr := layer_range hok
  have hhh : ∀ q ∈ C, ∀ p ∈ linesQ q canvas, 0 ≤ p.2 := fun q hq p hp => ((linesOk_of (hok q hq)).high p hp).1
  have hinv := lay_inv (canvas := canvas) (tall := tall) hhh hr
  have hp1 : layP C canvas tall = (layS C canvas tall).1 := by unfold layP; rw [if_pos hE0]
  have hp2 : layX C canvas tall = lostS C canvas tall := by unfold layX; rw [if_pos hE0]
  have hol : (ordF (layerOf C) C.length).length = C.length := by
   have : ((List.range C.length)).Perm (ordF (layerOf C) C.length) := (List.perm_ext_iff_of_nodup List.nodup_range (ordF_nodup _ _)).2 fun a => by rw [List.mem_range, ordF_mem hr]
   rw [← this.length_eq, List.length_range]
  obtain ⟨_, f2, _, _⟩ := run_facts hok htl.2 (ordF (layerOf C) C.length)
  rw [hol] at f2
  rw [hp1, hp2]
  refine ⟨?_, ?_, ?_⟩
  ·have : (layS C canvas tall).1.length ≤ 400 * C.length := f2
   omega
  ·unfold lostS riseF
   have := List.length_filter_le (fun i => decide (i ∈ (layS C canvas tall).2)) (List.range C.length)
   rw [List.length_range] at this
   omega
  ·intro p hp
   obtain ⟨i, hi⟩ := List.mem_iff_getElem?.1 hp
   obtain ⟨k, q, r, hk, hcue, hq, hy, hyh, hline, hrm, hwid, hps⟩ := hinv.at_ i p hi
   have lo := linesOk_of (hok q (List.mem_of_getElem? hq))
   obtain ⟨hrs, hro⟩ := lo.short r hrm
   have := piecesS_len r.1 r.1.length
   rw [List.take_length] at this
   rw [hps]
   omega
 ·obtain ⟨h1, h2⟩ := lay_err rfl hE0
  rw [h1, h2]
  exact ⟨by simp, by simp, fun p hp => by simp at hp⟩
set_option maxHeartbeats 8000000 in
set_option maxRecDepth 100000 in
theorem law10_calls (C : List Cu) (A : Option Addr) (cap : Nat) (canvas tall : Int) (w : World) (hA : CuesIn w A C) (hc : C.length ≤ cap) (hC : C.length ≤ 140737488351232) (hs : ∀ q ∈ C, ∀ p ∈ q.l, p.f0.size ≤ 140737488351232) :
  Calls Tryz.prog 10 #[.slice A C.length cap, .int .i64 canvas, .int .i64 tall] w fun e w' => e = .returned (.bool true) ∧ Below w.heap.size w w' := by
 have cL := longAll_calls C A cap w hA hC hs
 go_enter Tryz.func10, Tryz.ntmps10
 cases hlg : longAllB C
 case true =>
  rw [hlg] at cL
  go_wp2_with (first | (go_at_call 38; refine cL.mono ?_; rintro e W ⟨rfl, hbW⟩) | (go_at_call 13; refine (awake_calls _).mono ?_; rintro e W2 ⟨rfl, hbW2⟩))
  go_ret
  exact ⟨rfl, hbW.trans (hbW2.mono hbW.size)⟩
 case false =>
  rw [hlg] at cL
  obtain ⟨hC50, htot, hfit⟩ := longAll_fit hlg
  have cY := fun X hx => layout_calls C A cap canvas tall X hx hc (fun q hq => (hfit q hq).1)
  have cR := fun X hx => rlayout_calls C A cap canvas tall X hx hc (fun q hq => (hfit q hq).1)
  unfold LayPost at cY cR
  obtain ⟨hPl, hXl, hps⟩ := lay_bound C canvas tall
  have HFIT := Lib.hid hfit
  clear hfit hs hlg
  generalize layP C canvas tall = P at *
  generalize layX C canvas tall = X at *
  generalize layE C canvas tall = E at *
  have HPS := Lib.hid hps
  clear hps
  go_wp2_with (first | (go_at_call 38; refine cL.mono ?_; rintro e W ⟨rfl, hbW⟩; have hAW := hA.below hbW) | (go_at_call 39; refine (cY _ hAW).mono ?_; rintro e W1 ⟨v, vl, rfl, hPv, hXv, hb1⟩; obtain ⟨Av, cv, rfl, _⟩ := hPv.form; obtain ⟨Ax, cx, rfl, _⟩ := hXv.form; have hA1 := hAW.below hb1; have hb01 := hbW.trans (hb1.mono hbW.size)) | (go_at_call 40; refine (cR _ hA1).mono ?_; rintro e W2 ⟨u, ul, rfl, hPu, hXu, hb2⟩; obtain ⟨Au, cu, rfl, _⟩ := hPu.form; obtain ⟨Ay, cy, rfl, _⟩ := hXu.form; have hPv2 := hPv.below hb2; have hXv2 := hXv.kb (KB.below (ts := []) hb2) (by simp); have hb02 := hb01.trans (hb2.mono hb01.size)) |
   (go_at_call 41; refine (eqPlaced_calls P Av Au cv cu _ _ _ hPl HPS.out hPv2 hPu).mono ?_; rintro e W3 ⟨rfl, hb3⟩; have hXv3 := hXv2.kb (KB.below (ts := []) hb3) (by simp); have hXu3 := hXu.kb (KB.below (ts := []) hb3) (by simp); have hb03 := hb02.trans (hb3.mono hb02.size)) | (go_at_call 42; refine (eqInts_calls X Ax Ay cx cy _ _ _ hXl hXv3 hXu3).mono ?_; rintro e W4 ⟨rfl, hb4⟩; have hb04 := hb03.trans (hb4.mono hb03.size)) | (go_at_call 13; refine (awake_calls _).mono ?_; rintro e W5 ⟨rfl, hb5⟩))
  go_ret
  exact ⟨rfl, hb04.trans (hb5.mono hb04.size)⟩
end Go.Proofs.YtogidacejbjljaaGreatDoor.PTextChecks
end
