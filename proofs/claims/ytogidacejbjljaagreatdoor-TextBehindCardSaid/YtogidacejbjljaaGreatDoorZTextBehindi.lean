/- Lemmas on the way to the card of TextBehind, joined from: LSrt LSrt2 LMerge LLost LRow LLay TLaw LCom ALaw LRBlk TTree LBMem LEqP LMeet LRun LRLay LLaw LBLaw. Conditions: as each lemma says. -/
import Derived.Outline
import Derived.Sort.WalkA
import Derived.Test.YtogidacejbjljaaGreatDoorZTextBehindh
import Derived.WalkMore
import Derived.Deep.LoopGhost
import Derived.BigQuiet
import Derived.BigGuard
import Derived.Deep.QuietTactic
import Derived.OwnWalk
import Derived.Laws.OwnMore
import Derived.Deep.RegionLaw
import Derived.Deep.Draws
section
/- slices.SortStableFunc over the order of the cues: greater layers first. -/
set_option linter.unusedVariables false
set_option linter.unusedSimpArgs false
namespace Go.Proofs.YtogidacejbjljaaGreatDoor.PTextChecks
open Go.RowKit Go.Mix Go.Own Go.Sort Go.Proofs.YtogidacejbjljaaGreatDoorW.PrintWords Go.Proofs.YtogidacejbjljaaGreatDoorW.PrintLast Go.Proofs.YtogidacejbjljaaGreatDoorW.PrintMore
/-- The row of cues: their layers, as the closure reads them. -/
structure Layers (w : World) (bL : Nat) (C : List Cu) : Prop where
 box : ∃ A c, w.cell? ⟨bL, 0, none⟩ = some (.slice A C.length c) ∧ C.length ≤ c ∧ ∀ (k : Nat) (q : Cu), C[k]? = some q → ∃ ad, A = some ad ∧ w.cell? (ad.add (k * 4)) = some (.int .i64 q.a)
theorem add_block (ad : Addr) (m : Nat) : (ad.add m).block = ad.block := by unfold Addr.add; split <;> rfl
theorem layerOf_eq {C : List Cu} {k : Nat} {q : Cu} (h : C[k]? = some q) : layerOf C k = q.a := by unfold layerOf; rw [h]
set_option maxHeartbeats 2000000 in
set_option maxRecDepth 100000 in
theorem cmp_calls (C : List Cu) (bL : Nat) (hC : C.length ≤ 8) (hr : ∀ i, i < C.length → 0 ≤ layerOf C i ∧ layerOf C i ≤ 7) (x y : Nat) (hx : x < C.length) (hy : y < C.length) (w : World) (h : Layers w bL C) :
  Calls Tryz.prog 77 #[.int .i64 x, .int .i64 y, .pointer (some ⟨bL, 0, none⟩)] w fun e w' => e = .returned (.int .i64 (layerOf C y - layerOf C x)) ∧ ∃ m, w' = w.drewN m := by
 obtain ⟨A, c, h1, h2, h3⟩ := h.box
 obtain ⟨ad, rfl, dx⟩ := h3 x _ (List.getElem?_eq_getElem hx)
 obtain ⟨ad', e, dy⟩ := h3 y _ (List.getElem?_eq_getElem hy)
 injection e with e
 subst e
 have ex := layerOf_eq (List.getElem?_eq_getElem hx)
 have ey := layerOf_eq (List.getElem?_eq_getElem hy)
 have rx := hr x hx
 have ry := hr y hy
 rw [← ex] at dx
 rw [← ey] at dy
 clear ex ey h3 hr
 generalize layerOf C x = lx at dx rx ⊢
 generalize layerOf C y = ly at dy ry ⊢
 have wr : IntKind.i64.wrap (ly - lx) = ly - lx := IntWalk.i64_in _ (by omega)
 have x1 : (0 : Int) ≤ (x : Int) := by omega
 have x2 : (x : Int) < (C.length : Int) := by omega
 have y1 : (0 : Int) ≤ (y : Int) := by omega
 have y2 : (y : Int) < (C.length : Int) := by omega
 go_enter Tryz.func77, Tryz.ntmps77
 go_wp2
 go_quiet (fail)
 go_wp2
 go_ret
 exact ⟨rfl, _, rfl⟩
/-- The numbers of the cues in a row, as the sort turns them. -/
def encN (k : Nat) : Value := .int .i64 (k : Int)
def ltL (C : List Cu) (x y : Nat) : Bool := decide (layerOf C y - layerOf C x < 0)
theorem get_bang {α : Type} [Inhabited α] (d : Array α) (j : Nat) (h : j < d.size) : d[j]! = d.toList[j]'(by simpa using h) := by
 rw [getElem!_pos d j h]; simp
theorem swp_list {d : Array Nat} {A : List Nat} {x b : Nat} {rest : List Nat} (h : d.toList = A ++ b :: x :: rest) : (swp d (A.length + 1) (A.length + 1 - 1)).toList = A ++ x :: b :: rest := by
 have hs : d.size = A.length + (rest.length + 2) := by rw [← Array.length_toList, h]; simp
 have e1 : d[A.length]! = b := by rw [get_bang d _ (by omega)]; simp [h]
 have e2 : d[A.length + 1]! = x := by rw [get_bang d _ (by omega)]; simp [h]
 unfold swp
 simp only [Nat.add_sub_cancel, e1, e2, Array.toList_setIfInBounds, h]
 rw [List.set_append_right _ _ (by omega), List.set_append_right _ _ (by omega)]
 simp
set_option maxHeartbeats 4000000 in
set_option maxRecDepth 100000 in
theorem insSort_calls (C : List Cu) (bL blk off cap : Nat) (hC : C.length ≤ 8) (hr : ∀ i, i < C.length → 0 ≤ layerOf C i ∧ layerOf C i ≤ 7) (w : World) (d : Array Nat) (hd : d.toList = List.range C.length) (hH : Holds encN w blk off d) (h : Layers w bL C) (hb : bL < blk)
  (hcb : ∀ A c, w.cell? ⟨bL, 0, none⟩ = some (.slice A C.length c) → ∀ ad, A = some ad → ad.block < blk) :
  Calls Tryz.prog 130 #[.slice (some ⟨blk, off, none⟩) C.length cap, .int .i64 0, .int .i64 C.length, .func (.func 77) #[] #[.pointer (some ⟨bL, 0, none⟩)]] w fun e w' => e = .returned (.tuple #[]) ∧ ∃ n dk, dk.toList = ordF (layerOf C) C.length ∧ w' = putRow encN (Sort.ahead w n) blk off dk := by
 have hsz : d.size = C.length := by rw [← Array.length_toList, hd, List.length_range]
 have cW : ∀ (m : Nat) (dj : Array Nat) (q x y : Nat), x < C.length → y < C.length → Calls Tryz.prog 77 #[.int .i64 x, .int .i64 y, .pointer (some ⟨bL, 0, none⟩)] ((putRow encN (Sort.ahead w m) blk off dj).drewN q) fun e w' => e = .returned (.int .i64 (layerOf C y - layerOf C x)) ∧ ∃ k, w' = ((putRow encN (Sort.ahead w m) blk off dj).drewN q).drewN k := by
  intro m dj q x y hx hy
  refine cmp_calls C bL hC hr x y hx hy _ ?_
  rw [putRow_drewN]
  obtain ⟨A, c, h1, h2, h3⟩ := h.box
  refine ⟨A, c, ?_, h2, fun k p hp => ?_⟩
  ·rw [cell?_putRow_other _ _ _ _ _ _ (.inl (by show bL ≠ blk; omega))]
   exact h1
  ·obtain ⟨ad, ha, hc⟩ := h3 k p hp
   refine ⟨ad, ha, ?_⟩
   have := hcb A c h1 ad ha
   rw [cell?_putRow_other _ _ _ _ _ _ (.inl (by rw [add_block]; omega))]
   exact hc
 have HH := Lib.hid hH
 have HSZ := Lib.hid hsz
 go_enter Tryz.func130, Tryz.ntmps130
 go_wp2
 go_loopw [8] (fun vi wr => ∃ (i n : Nat) (dk : Array Nat), vi = .int .i64 i ∧ 1 ≤ i ∧ i ≤ C.length + 1 ∧ (i ≤ C.length → dk.toList = ordF (layerOf C) i ++ (List.range C.length).drop i) ∧ (C.length < i → dk.toList = ordF (layerOf C) C.length) ∧ dk.size = d.size ∧ wr = putRow encN (Sort.ahead w n) blk off dk) (fun vi _ => C.length + 1 - (intOf vi).toNat)
 case atStart =>
  refine ⟨1, 0, d, by go_num, by omega, by omega, fun h1 => ?_, fun h1 => ?_, rfl, (putRow_self _ _ _ _ _ hH).symm⟩
  ·have h0 := hr 0 (by omega)
   have : ordF (layerOf C) 1 = [0] := (ordF_step (layerOf C) 0 h0 (Q := [0]) ⟨[], [], by simp [ordF_zero], rfl, fun b hb => by simp at hb, fun a ha => by simp at ha⟩).symm
   rw [hd, this]
   conv => lhs; rw [← List.take_append_drop 1 (List.range C.length)]
   congr 1
   rw [List.take_range, Nat.min_eq_left h1]
   rfl
  ·have : C.length = 0 := by omega
   rw [hd, this, ordF_zero]
   rfl
 case round =>
  obtain ⟨i, n, dk, rfl, hi1, hi2, hO, hE, hsk, hwr⟩ := hrel
  by_cases hlt : i < C.length
  ·have hO := hO (by omega)
   have hro : (List.range C.length).drop i = i :: (List.range C.length).drop (i + 1) := by rw [List.drop_eq_getElem_cons (by simpa using hlt)]; simp
   rw [hro] at hO
   have hpl : (ordF (layerOf C) i).length = i := by
    have := congrArg List.length hO
    simp only [Array.length_toList, List.length_append, List.length_cons, List.length_drop, List.length_range] at this
    omega
   have hpm : ∀ k ∈ ordF (layerOf C) i, k < i := fun k hk => (ordF_mem (fun j hj => hr j (by omega)) k).1 hk
   have hin := hr i hlt
   have hstep := fun Q => ordF_step (layerOf C) i hin (Q := Q)
   obtain ⟨P, hP⟩ : ∃ P, ordF (layerOf C) i = P := ⟨_, rfl⟩
   rw [hP] at hO hpl hpm hstep
   obtain ⟨R, hR⟩ : ∃ R, (List.range C.length).drop (i + 1) = R := ⟨_, rfl⟩
   rw [hR] at hO
   have HS := Lib.hid hstep
   have HR := Lib.hid hR
   have HR0 := Lib.hid hr
   clear hstep hP hro hE hR hin hd hH h hcb hr
   go_wp2
   go_loopw [9] (fun vj wr2 => ∃ (j m : Nat) (dj : Array Nat) (A B : List Nat), vj = .int .i64 j ∧ A.length = j ∧ P = A ++ B ∧ dj.toList = A ++ i :: (B ++ R) ∧ (∀ b ∈ B, ltL C i b = true) ∧ dj.size = d.size ∧ wr2 = putRow encN (Sort.ahead w m) blk off dj) (fun vj _ => (intOf vj).toNat)
   case atStart => exact ⟨i, n, dk, P, [], rfl, hpl, by simp, by simpa using hO, fun b hb => by simp at hb, hsk, rfl⟩
   case round =>
    obtain ⟨j, m, dj, A, B, rfl, hA, hPA, hdj, hB, hsj, hw2⟩ := hrel
    have hji : j ≤ i := by rw [← hpl, hPA, List.length_append]; omega
    have hsd := HSZ.out
    obtain ⟨G, hG⟩ : ∃ G : Nat → Nat, ∀ t, G t = dj[t]! := ⟨fun t => dj[t]!, fun _ => rfl⟩
    have gj : G j = i := by rw [hG, get_bang dj j (by omega)]; simp [hdj, ← hA]
    have hcw : ∀ t, t < d.size → wr.cell? ⟨blk, off + t, none⟩ = some (.int .i64 (G t : Nat)) := fun t ht => by
     rw [hw2, hG]; exact cell?_putRow encN _ _ _ d dj (holds_ahead _ _ _ _ _ _ HH.out) hsj t (by omega)
    have hfw : ∀ t, t < d.size → wr.frozen? ⟨blk, off + t, none⟩ = false := fun t ht => by
     rw [hw2, frozen?_putRow]; exact ((holds_ahead _ _ m _ _ _ HH.out) t ht).2
    have HW := Lib.hid hw2
    have HG := Lib.hid hG
    have HB := Lib.hid hB
    have HPA := Lib.hid hPA
    have HD := Lib.hid hdj
    have HA := Lib.hid hA
    -- the end of the round: x has come to its place
    have out : (∀ a, A.getLast? = some a → ltL C i a = false) → ∀ q, ∃ (i' n' : Nat) (dk' : Array Nat), Value.int .i64 ((i : Int) + 1) = .int .i64 (i' : Nat) ∧ 1 ≤ i' ∧ i' ≤ C.length + 1 ∧ (i' ≤ C.length → dk'.toList = ordF (layerOf C) i' ++ (List.range C.length).drop i') ∧ (C.length < i' → dk'.toList = ordF (layerOf C) C.length) ∧ dk'.size = d.size ∧ wr.drewN q = putRow encN (Sort.ahead w n') blk off dk' := fun hl q =>
     ⟨i + 1, m + q, dj, by go_num, by omega, by omega, fun _ => by rw [HD.out, ← HS.out _ ⟨A, B, HPA.out, rfl, HB.out, hl⟩, HR.out]; simp, fun hh => by omega, hsj, by rw [HW.out]; exact putRow_drewN _ _ _ _ _ _ _⟩
    have OUT := Lib.hid out
    clear out hw2 hG hB hPA hdj
    by_cases hja : 0 < j
    ·obtain ⟨A', b, rfl⟩ : ∃ A' b, A = A' ++ [b] := ⟨A.dropLast, A.getLast (by intro e; rw [e] at hA; simp at hA; omega), (List.dropLast_concat_getLast _).symm⟩
     have hA' : A'.length = j - 1 := by rw [List.length_append, List.length_singleton] at hA; omega
     have gb : G (j - 1) = b := by rw [HG.out, get_bang dj (j - 1) (by omega)]; simp [HD.out, ← hA']
     have hbi : b < i := hpm b (by rw [HPA.out]; simp)
     have hlb : ltL C i b = decide (layerOf C b - layerOf C i < 0) := rfl
     have hlast : (A' ++ [b]).getLast? = some b := by simp
     have rb := HR0.out b (by omega)
     have ri := HR0.out i (by omega)
     have hcl : ∀ q, Calls Tryz.prog 77 #[.int .i64 ((G j : Nat) : Int), .int .i64 ((G (j - 1) : Nat) : Int), .pointer (some ⟨bL, 0, none⟩)] (wr.drewN q) fun e w' => e = .returned (.int .i64 (layerOf C b - layerOf C i)) ∧ ∃ k, w' = (wr.drewN q).drewN k := by
      intro q
      rw [gj, gb, HW.out]
      exact cW m dj q i b (by omega) (by omega)
     generalize layerOf C b - layerOf C i = D at hlb hcl
     clear gj gb
     have HL := Lib.hid hlast
     have HLB := Lib.hid hlb
     clear cW hlast hA hlb
     cases hdd : decide (D < 0)
     case true =>
      go_wp2
      go_quiet (first | (go_at_call 77; exact Calls.quiet_of (hcl _)))
      go_wp2
      go_region
      all_goals go_wp2
      go_roundw
      case rel =>
       refine ⟨j - 1, m + (nq + 1), swp dj j (j - 1), A', b :: B, by congr 1; omega, hA', by rw [HPA.out]; simp, ?_, ?_, by rw [size_swp]; exact hsj, ?_⟩
       ·have := swp_list (d := dj) (A := A') (x := i) (b := b) (rest := B ++ R) (by rw [HD.out]; simp)
        rw [hA', show j - 1 + 1 = j by omega] at this
        rw [this]; simp
       ·intro c hc
        rcases List.mem_cons.1 hc with rfl | hc
        ·rw [HLB.out]; exact hdd
        ·exact HB.out c hc
       ·rw [HW.out, HG.out, HG.out]
        exact swap_worldA encN w m (nq + 1) blk off dj j (j - 1) (by omega) (by omega)
      case measure => simp [intOf]; omega
     case false =>
      go_wp2
      go_quiet (first | (go_at_call 77; exact Calls.quiet_of (hcl _)))
      go_wp2
      go_roundw
      case rel => exact OUT.out (fun a ha => by rw [HL.out] at ha; injection ha with ha; rw [← ha, HLB.out]; exact hdd) nq
      case measure => simp [intOf]; omega
    ·have hA0 : A = [] := List.eq_nil_of_length_eq_zero (by omega)
     clear gj
     go_wp2
     go_quiet (first | (go_at_call 77; exact Calls.quiet_of (cW _ _ _ _ _ (by omega) (by omega))))
     go_wp2
     go_roundw
     case rel => exact OUT.out (fun a ha => by rw [hA0] at ha; simp at ha) nq
     case measure => simp [intOf]; omega
  ·have hfin : dk.toList = ordF (layerOf C) C.length := by
    rcases Nat.lt_or_ge C.length i with h1 | h1
    ·exact hE h1
    ·rw [hO h1, show i = C.length by omega, List.drop_of_length_le (by simp), List.append_nil]
   have HF := Lib.hid hfin
   clear hO hE hfin
   go_wp2
   go_end0
   exact ⟨rfl, n, dk, HF.out, rfl⟩
end Go.Proofs.YtogidacejbjljaaGreatDoor.PTextChecks
end
section
/- slices.SortStableFunc over the order of the cues, small rows. -/
set_option linter.unusedVariables false
set_option linter.unusedSimpArgs false
namespace Go.Proofs.YtogidacejbjljaaGreatDoor.PTextChecks
open Go.RowKit Go.Mix Go.Own Go.Sort Go.Proofs.YtogidacejbjljaaGreatDoorW.PrintWords Go.Proofs.YtogidacejbjljaaGreatDoorW.PrintLast Go.Proofs.YtogidacejbjljaaGreatDoorW.PrintMore
set_option maxHeartbeats 4000000 in
set_option maxRecDepth 100000 in
theorem stable_calls (C : List Cu) (bL blk off cap : Nat) (hC : C.length ≤ 8) (hr : ∀ i, i < C.length → 0 ≤ layerOf C i ∧ layerOf C i ≤ 7) (w : World) (d : Array Nat) (hd : d.toList = List.range C.length) (hH : Holds encN w blk off d) (h : Layers w bL C) (hb : bL < blk)
  (hcb : ∀ A c, w.cell? ⟨bL, 0, none⟩ = some (.slice A C.length c) → ∀ ad, A = some ad → ad.block < blk) :
  Calls Tryz.prog 76 #[.slice (some ⟨blk, off, none⟩) C.length cap, .func (.func 77) #[] #[.pointer (some ⟨bL, 0, none⟩)]] w fun e w' => e = .returned (.tuple #[]) ∧ ∃ n dk, dk.toList = ordF (layerOf C) C.length ∧ w' = putRow encN (Sort.ahead w n) blk off dk := by
 have cI := insSort_calls C bL blk off cap hC hr w d hd hH h hb hcb
 have c1 : decide ((20 : Int) ≤ (C.length : Int)) = false := decide_eq_false (by omega)
 have c2 : decide ((20 : Int) < (C.length : Int)) = false := decide_eq_false (by omega)
 have c109 : Calls Tryz.prog 109 #[.slice (some ⟨blk, off, none⟩) C.length cap, .int .i64 C.length, .func (.func 77) #[] #[.pointer (some ⟨bL, 0, none⟩)]] w fun e w' => e = .returned (.tuple #[]) ∧ ∃ n dk, dk.toList = ordF (layerOf C) C.length ∧ w' = putRow encN (Sort.ahead w n) blk off dk := by
  clear hd hH h hcb hr
  go_enter Tryz.func109, Tryz.ntmps109
  go_wp2
  go_loopw [7, 8] (fun a v wr => a = .int .i64 0 ∧ v = .int .i64 20 ∧ wr = w) (fun _ _ _ => 0)
  case atStart => exact ⟨rfl, rfl, rfl⟩
  case round =>
   obtain ⟨rfl, rfl, rfl⟩ := hrel
   go_wp2_with (go_at_call 130; refine cI.mono ?_; rintro e W ⟨rfl, n, dk, h1, h2⟩; have H2 := Lib.hid h2; clear h2)
   go_loopw [6] (fun v wr => v = .int .i64 20 ∧ wr = W) (fun _ _ => 0)
   case atStart => exact ⟨rfl, rfl⟩
   case round =>
    obtain ⟨rfl, rfl⟩ := hrel
    go_wp2
    go_end0
    exact ⟨rfl, n, dk, h1, H2.out⟩
 go_enter Tryz.func76, Tryz.ntmps76
 go_wp2_with (go_at_call 109; refine c109.mono ?_; rintro e W ⟨rfl, n, dk, h1, h2⟩; have H2 := Lib.hid h2; clear h2)
 go_end0
 exact ⟨rfl, n, dk, h1, H2.out⟩
end Go.Proofs.YtogidacejbjljaaGreatDoor.PTextChecks
end
section
/- The lost cues, sorted. -/
set_option linter.unusedVariables false
set_option linter.unusedSimpArgs false
namespace Go.Proofs.YtogidacejbjljaaGreatDoor.PTextChecks
open Go.RowKit Go.Proofs.YtogidacejbjljaaGreatDoorW.PrintWords Go.Proofs.YtogidacejbjljaaGreatDoorW.PrintLast Go.Proofs.YtogidacejbjljaaGreatDoorW.PrintMore
theorem rise_perm {n : Nat} {X : List Nat} (hn : X.Nodup) (hX : ∀ k ∈ X, k < n) : (riseF n X).Perm X := by
 refine (List.perm_ext_iff_of_nodup (List.nodup_range.filter _) hn).2 fun a => ?_
 rw [List.mem_filter, List.mem_range, decide_eq_true_eq]
 exact ⟨fun h => h.2, fun h => ⟨hX a h, h⟩⟩
theorem lost_sub {C : List Cu} {canvas tall : Int} : ∀ (l : List Nat) (s : List Pl × List Nat), (l.foldl (stepS C canvas tall) s).2.Sublist (s.2 ++ l)
 | [], s => by simp
 | k :: l, s => by
  have h := lost_sub (C := C) (canvas := canvas) (tall := tall) l (stepS C canvas tall s k)
  rw [List.foldl_cons]
  refine h.trans ?_
  have h2 : (stepS C canvas tall s k).2 = s.2 ++ [k] ∨ (stepS C canvas tall s k).2 = s.2 := by
   unfold stepS
   split
   ·exact .inl rfl
   ·exact .inr rfl
  rcases h2 with h2 | h2
  ·rw [h2, List.append_assoc]
   exact List.Sublist.refl _
  ·rw [h2]
   exact (List.Sublist.refl _).append (List.sublist_cons_self k l)
theorem lay_nodup (C : List Cu) (canvas tall : Int) : (layS C canvas tall).2.Nodup ∧ ∀ k ∈ (layS C canvas tall).2, k ∈ ordF (layerOf C) C.length := by
 have h := lost_sub (C := C) (canvas := canvas) (tall := tall) (ordF (layerOf C) C.length) ([], [])
 rw [List.nil_append] at h
 exact ⟨(ordF_nodup _ _).sublist h, fun k hk => h.mem hk⟩
end Go.Proofs.YtogidacejbjljaaGreatDoor.PTextChecks
end
section
/- slices.Sort over the lost cues. -/
set_option linter.unusedVariables false
set_option linter.unusedSimpArgs false
namespace Go.Proofs.YtogidacejbjljaaGreatDoor.PTextChecks
open Go.RowKit Go.Mix Go.Own Go.Sort Go.Proofs.YtogidacejbjljaaGreatDoorW.PrintWords Go.Proofs.YtogidacejbjljaaGreatDoorW.PrintLast Go.Proofs.YtogidacejbjljaaGreatDoorW.PrintMore
theorem isNaN_calls (x : Int) (w : World) : Calls Tryz.prog 167 #[.int .i64 x] w fun e w' => e = .returned (.bool false) ∧ w' = w := by
 go_enter Tryz.func167, Tryz.ntmps167
 go_wp2
 go_ret
 exact ⟨by simp, rfl⟩
set_option maxHeartbeats 1000000 in
theorem less_calls (x y : Nat) (w : World) : Calls Tryz.prog 138 #[.int .i64 x, .int .i64 y] w fun e w' => e = .returned (.bool (decide (x < y))) ∧ w' = w := by
 go_enter Tryz.func138, Tryz.ntmps138
 go_wp2_with (go_at_call 167; refine (isNaN_calls _ _).mono ?_; rintro e w' ⟨rfl, hw⟩; rw [hw]; clear hw w')
 go_ret
 exact ⟨rfl, rfl⟩
set_option maxHeartbeats 4000000 in
set_option maxRecDepth 100000 in
theorem insOrd_calls (nn : Nat) (X : List Nat) (hnd : X.Nodup) (hlt0 : ∀ k ∈ X, k < nn) (hXl : X.length ≤ 8) (blk off cap : Nat) (w : World) (d : Array Nat) (hd : d.toList = X) (hH : Holds encN w blk off d) :
  Calls Tryz.prog 132 #[.slice (some ⟨blk, off, none⟩) X.length cap, .int .i64 0, .int .i64 X.length] w fun e w' => e = .returned (.tuple #[]) ∧ ∃ n dk, dk.toList = riseF nn X ∧ w' = putRow encN (Sort.ahead w n) blk off dk := by
 have hsz : d.size = X.length := by rw [← Array.length_toList, hd]
 have HH := Lib.hid hH
 have HSZ := Lib.hid hsz
 go_enter Tryz.func132, Tryz.ntmps132
 go_wp2
 go_loopw [6] (fun vi wr => ∃ (i n : Nat) (dk : Array Nat), vi = .int .i64 i ∧ 1 ≤ i ∧ i ≤ X.length + 1 ∧ (i ≤ X.length → dk.toList = riseF nn (X.take i) ++ X.drop i) ∧ (X.length < i → dk.toList = riseF nn X) ∧ dk.size = d.size ∧ wr = putRow encN (Sort.ahead w n) blk off dk) (fun vi _ => X.length + 1 - (intOf vi).toNat)
 case atStart =>
  refine ⟨1, 0, d, by go_num, by omega, by omega, fun h1 => ?_, fun h1 => ?_, rfl, (putRow_self _ _ _ _ _ hH).symm⟩
  ·obtain ⟨x, r, hx⟩ : ∃ x r, X = x :: r := by
    cases X with
    | nil => simp at h1
    | cons x r => exact ⟨x, r, rfl⟩
   subst hx
   have this : riseF nn [x] = [x] := (riseF_step nn [] x (hlt0 x (by simp)) (by simp) (Q := [x]) ⟨[], [], by simp [riseF], rfl, fun b hb => by simp at hb, fun a ha => by simp at ha⟩).symm
   rw [hd]
   show x :: r = riseF nn [x] ++ r
   rw [this]
   rfl
  ·have h0 : X = [] := List.eq_nil_of_length_eq_zero (by omega)
   rw [hd, h0]
   simp [riseF]
 case round =>
  obtain ⟨i, n, dk, rfl, hi1, hi2, hO, hE, hsk, hwr⟩ := hrel
  by_cases hlt : i < X.length
  ·have hO := hO (by omega)
   obtain ⟨x, hxi⟩ : ∃ x, X[i]? = some x := ⟨_, List.getElem?_eq_getElem hlt⟩
   have hxe : X[i] = x := by rw [List.getElem?_eq_getElem hlt] at hxi; exact Option.some.inj hxi
   have hro : X.drop i = x :: X.drop (i + 1) := by rw [List.drop_eq_getElem_cons hlt, hxe]
   have htk : X.take (i + 1) = X.take i ++ [x] := by rw [List.take_succ_eq_append_getElem hlt, hxe]
   rw [hro] at hO
   have hxm : x ∈ X := List.mem_of_getElem? hxi
   have hxn : x ∉ X.take i := by
    intro hm
    have h2 : (X.take i ++ X.drop i).Nodup := by rw [List.take_append_drop]; exact hnd
    rw [hro, List.nodup_append] at h2
    exact h2.2.2 x hm x (by simp) rfl
   have hpl : (riseF nn (X.take i)).length = i := by
    have := congrArg List.length hO
    simp only [Array.length_toList, List.length_append, List.length_cons, List.length_drop] at this
    omega
   have hstep := fun Q => riseF_step nn (X.take i) x (hlt0 x hxm) hxn (Q := Q)
   rw [← htk] at hstep
   obtain ⟨P, hP⟩ : ∃ P, riseF nn (X.take i) = P := ⟨_, rfl⟩
   rw [hP] at hO hpl hstep
   obtain ⟨R, hR⟩ : ∃ R, X.drop (i + 1) = R := ⟨_, rfl⟩
   rw [hR] at hO
   have HS := Lib.hid hstep
   have HR := Lib.hid hR
   clear hstep hP hro hE hR hd hH hxi hxe htk hxm hxn hnd hlt0
   go_wp2
   go_loopw [7] (fun vj wr2 => ∃ (j m : Nat) (dj : Array Nat) (A B : List Nat), vj = .int .i64 j ∧ A.length = j ∧ P = A ++ B ∧ dj.toList = A ++ x :: (B ++ R) ∧ (∀ b ∈ B, decide (x < b) = true) ∧ dj.size = d.size ∧ wr2 = putRow encN (Sort.ahead w m) blk off dj) (fun vj _ => (intOf vj).toNat)
   case atStart => exact ⟨i, n, dk, P, [], rfl, hpl, by simp, by simpa using hO, fun b hb => by simp at hb, hsk, rfl⟩
   case round =>
    obtain ⟨j, m, dj, A, B, rfl, hA, hPA, hdj, hB, hsj, hw2⟩ := hrel
    have hji : j ≤ i := by rw [← hpl, hPA, List.length_append]; omega
    have hsd := HSZ.out
    obtain ⟨G, hG⟩ : ∃ G : Nat → Nat, ∀ t, G t = dj[t]! := ⟨fun t => dj[t]!, fun _ => rfl⟩
    have gj : G j = x := by rw [hG, get_bang dj j (by omega)]; simp [hdj, ← hA]
    have hcw : ∀ t, t < d.size → wr.cell? ⟨blk, off + t, none⟩ = some (.int .i64 (G t : Nat)) := fun t ht => by
     rw [hw2, hG]; exact cell?_putRow encN _ _ _ d dj (holds_ahead _ _ _ _ _ _ HH.out) hsj t (by omega)
    have hfw : ∀ t, t < d.size → wr.frozen? ⟨blk, off + t, none⟩ = false := fun t ht => by
     rw [hw2, frozen?_putRow]; exact ((holds_ahead _ _ m _ _ _ HH.out) t ht).2
    have HW := Lib.hid hw2
    have HG := Lib.hid hG
    have HB := Lib.hid hB
    have HPA := Lib.hid hPA
    have HD := Lib.hid hdj
    have HA := Lib.hid hA
    -- the end of the round: x has come to its place
    have out : (∀ a, A.getLast? = some a → decide (x < a) = false) → ∀ q, ∃ (i' n' : Nat) (dk' : Array Nat), Value.int .i64 ((i : Int) + 1) = .int .i64 (i' : Nat) ∧ 1 ≤ i' ∧ i' ≤ X.length + 1 ∧ (i' ≤ X.length → dk'.toList = riseF nn (X.take i') ++ X.drop i') ∧ (X.length < i' → dk'.toList = riseF nn X) ∧ dk'.size = d.size ∧ wr.drewN q = putRow encN (Sort.ahead w n') blk off dk' := fun hl q =>
     ⟨i + 1, m + q, dj, by go_num, by omega, by omega, fun _ => by rw [HD.out, ← HS.out _ ⟨A, B, HPA.out, rfl, HB.out, hl⟩, HR.out]; simp, fun hh => by omega, hsj, by rw [HW.out]; exact putRow_drewN _ _ _ _ _ _ _⟩
    have OUT := Lib.hid out
    clear out hw2 hG hB hPA hdj
    by_cases hja : 0 < j
    ·obtain ⟨A', b, rfl⟩ : ∃ A' b, A = A' ++ [b] := ⟨A.dropLast, A.getLast (by intro e; rw [e] at hA; simp at hA; omega), (List.dropLast_concat_getLast _).symm⟩
     have hA' : A'.length = j - 1 := by rw [List.length_append, List.length_singleton] at hA; omega
     have gb : G (j - 1) = b := by rw [HG.out, get_bang dj (j - 1) (by omega)]; simp [HD.out, ← hA']
     have hlast : (A' ++ [b]).getLast? = some b := by simp
     have hcl : ∀ W, Calls Tryz.prog 138 #[.int .i64 ((G j : Nat) : Int), .int .i64 ((G (j - 1) : Nat) : Int)] W fun e w' => e = .returned (.bool (decide (x < b))) ∧ w' = W := by
      intro W
      rw [gj, gb]
      exact less_calls x b W
     have HL := Lib.hid hlast
     have HLB := Lib.hid (rfl : decide (x < b) = decide (x < b))
     obtain ⟨D, hD⟩ : ∃ D, decide (x < b) = D := ⟨_, rfl⟩
     rw [hD] at hcl
     have HDD := Lib.hid hD
     clear hlast hA gj gb hD
     cases D
     case true =>
      go_wp2
      go_quiet (first | (go_at_call 138; exact Calls.quiet_of_same (hcl _)))
      go_wp2
      go_region
      all_goals go_wp2
      go_roundw
      case rel =>
       refine ⟨j - 1, m + (nq + 1), swp dj j (j - 1), A', b :: B, by congr 1; omega, hA', by rw [HPA.out]; simp, ?_, ?_, by rw [size_swp]; exact hsj, ?_⟩
       ·have := swp_list (d := dj) (A := A') (x := x) (b := b) (rest := B ++ R) (by rw [HD.out]; simp)
        rw [hA', show j - 1 + 1 = j by omega] at this
        rw [this]; simp
       ·intro c hc
        rcases List.mem_cons.1 hc with rfl | hc
        ·exact HDD.out
        ·exact HB.out c hc
       ·rw [HW.out, HG.out, HG.out]
        exact swap_worldA encN w m (nq + 1) blk off dj j (j - 1) (by omega) (by omega)
      case measure => simp [intOf]; omega
     case false =>
      go_wp2
      go_quiet (first | (go_at_call 138; exact Calls.quiet_of_same (hcl _)))
      go_wp2
      go_roundw
      case rel => exact OUT.out (fun a ha => by rw [HL.out] at ha; injection ha with ha; rw [← ha]; exact HDD.out) nq
      case measure => simp [intOf]; omega
    ·have hA0 : A = [] := List.eq_nil_of_length_eq_zero (by omega)
     clear gj
     go_wp2
     go_quiet (fail)
     go_wp2
     go_roundw
     case rel => exact OUT.out (fun a ha => by rw [hA0] at ha; simp at ha) nq
     case measure => simp [intOf]; omega
  ·have hfin : dk.toList = riseF nn X := by
    rcases Nat.lt_or_ge X.length i with h1 | h1
    ·exact hE h1
    ·rw [hO h1, show i = X.length by omega, List.drop_of_length_le (Nat.le_refl _), List.append_nil, List.take_length]
   have HF := Lib.hid hfin
   clear hO hE hfin
   go_wp2
   go_end0
   exact ⟨rfl, n, dk, HF.out, rfl⟩
set_option maxHeartbeats 1000000 in
set_option maxRecDepth 100000 in
theorem len64_calls (n : Nat) (hn : n ≤ 8) (w : World) : Calls Tryz.prog 142 #[.int .u64 n] w fun e w' => (∃ r : Int, e = .returned (.int .i64 r)) ∧ w' = w := by
 have hc : n = 0 ∨ n = 1 ∨ n = 2 ∨ n = 3 ∨ n = 4 ∨ n = 5 ∨ n = 6 ∨ n = 7 ∨ n = 8 := by omega
 rcases hc with rfl | rfl | rfl | rfl | rfl | rfl | rfl | rfl | rfl
 all_goals
  go_enter Tryz.func142, Tryz.ntmps142
  go_wp2
  go_ret
  exact ⟨⟨_, rfl⟩, rfl⟩
set_option maxHeartbeats 1000000 in
set_option maxRecDepth 100000 in
theorem sort_calls (nn : Nat) (X : List Nat) (hnd : X.Nodup) (hlt0 : ∀ k ∈ X, k < nn) (hXl : X.length ≤ 8) (blk off cap : Nat) (w : World) (d : Array Nat) (hd : d.toList = X) (hH : Holds encN w blk off d) :
  Calls Tryz.prog 83 #[.slice (some ⟨blk, off, none⟩) X.length cap] w fun e w' => e = .returned (.tuple #[]) ∧ ∃ n dk, dk.toList = riseF nn X ∧ w' = putRow encN (Sort.ahead w n) blk off dk := by
 have cI := insOrd_calls nn X hnd hlt0 hXl blk off cap w d hd hH
 have cB : Calls Tryz.prog 113 #[.int .u64 X.length] w fun e w' => (∃ r : Int, e = .returned (.int .i64 r)) ∧ w' = w := by
  have cL := len64_calls X.length hXl w
  clear cI hd hH hnd hlt0
  go_enter Tryz.func113, Tryz.ntmps113
  go_wp2_with (go_at_call 142; refine cL.mono ?_; rintro e w' ⟨⟨r, rfl⟩, hw⟩; rw [hw]; clear hw w')
  go_ret
  exact ⟨⟨_, rfl⟩, rfl⟩
 have c1 : decide ((X.length : Int) ≤ 12) = true := decide_eq_true (by omega)
 have cP : ∀ r : Int, Calls Tryz.prog 112 #[.slice (some ⟨blk, off, none⟩) X.length cap, .int .i64 0, .int .i64 X.length, .int .i64 r] w fun e w' => e = .returned (.tuple #[]) ∧ ∃ n dk, dk.toList = riseF nn X ∧ w' = putRow encN (Sort.ahead w n) blk off dk := by
  intro r
  have w1 : IntKind.i64.wrap (X.length : Int) = (X.length : Int) := IntWalk.i64_in _ (by omega)
  clear cB hd hH hnd hlt0
  go_enter Tryz.func112, Tryz.ntmps112
  go_wp2
  go_loopw [1, 2] (fun u v wr => u = .int .i64 0 ∧ v = .int .i64 X.length ∧ wr = w) (fun _ _ _ => 0)
  case atStart => exact ⟨rfl, rfl, rfl⟩
  case round =>
   obtain ⟨rfl, rfl, rfl⟩ := hrel
   go_wp2_with (go_at_call 132; refine cI.mono ?_; rintro e W ⟨rfl, n, dk, h1, h2⟩; have H2 := Lib.hid h2; clear h2)
   refine bodyPost_ret (results_none rfl _ _ _) rfl ?_
   exact ⟨rfl, n, dk, h1, H2.out⟩
 have w1 : IntKind.u64.wrap (X.length : Int) = (X.length : Int) := by show (X.length : Int) % 18446744073709551616 = _; omega
 clear cI hd hH hnd hlt0
 go_enter Tryz.func83, Tryz.ntmps83
 go_wp2_with (first | (go_at_call 113; refine cB.mono ?_; rintro e w' ⟨⟨r, rfl⟩, hw⟩; rw [hw]; clear hw w') | (go_at_call 112; refine (cP _).mono ?_; rintro e W ⟨rfl, n, dk, h1, h2⟩; have H2 := Lib.hid h2; clear h2))
 go_end0
 exact ⟨rfl, n, dk, h1, H2.out⟩
end Go.Proofs.YtogidacejbjljaaGreatDoor.PTextChecks
end
section
/- The two sorts of the layout, over rows that a call owns. -/
set_option linter.unusedVariables false
set_option linter.unusedSimpArgs false
namespace Go.Proofs.YtogidacejbjljaaGreatDoor.PTextChecks
open Go.RowKit Go.Mix Go.Own Go.Sort Go.Proofs.YtogidacejbjljaaGreatDoorW.PrintWords Go.Proofs.YtogidacejbjljaaGreatDoorW.PrintLast Go.Proofs.YtogidacejbjljaaGreatDoorW.PrintMore
theorem heap_putRow {w : World} {g off : Nat} {cur : Array Value} {t : TypeId} (hg : w.heap[g]? = some (.cells cur t (0, 0))) (m : Nat) (dk : Array Nat) :
  (putRow encN (Sort.ahead w m) g off dk).heap[g]? = some (.cells (putCells encN off dk cur) t (0, 0)) := by
 unfold putRow mapBlock
 show ((Sort.ahead w m).heap.modify g (onCells (putCells encN off dk)))[g]? = _
 rw [Array.getElem?_modify, if_pos rfl]
 show (w.heap[g]?).map _ = _
 rw [hg]
 rfl
theorem heap_putRow_far (w : World) {g off k : Nat} (hk : k ≠ g) (m : Nat) (dk : Array Nat) : (putRow encN (Sort.ahead w m) g off dk).heap[k]? = w.heap[k]? := by
 unfold putRow mapBlock
 show ((Sort.ahead w m).heap.modify g (onCells (putCells encN off dk)))[k]? = _
 rw [Array.getElem?_modify, if_neg (fun h => hk h.symm)]
 rfl
theorem putRow_lies {w : World} {base : Nat} {n g off c : Nat} {xs : List Value} (h : Lies w base 3 1 (.slice (some ⟨g, off, none⟩) n c) n xs) (h0 : 0 < n) (dk : Array Nat) (hd : dk.size = n) (m : Nat) :
  Lies (putRow encN (Sort.ahead w m) g off dk) base 3 1 (.slice (some ⟨g, off, none⟩) n c) n (dk.toList.map encN) ∧ Below base w (putRow encN (Sort.ahead w m) g off dk) ∧ KB [3] w (putRow encN (Sort.ahead w m) g off dk) := by
 rcases h.2 with ⟨_, h1⟩ | ⟨g', off', cap, cur, hv, hb, hg, hnc, hcm, hcs, ht⟩
 ·omega
 ·injection hv with e1 e2 e3
  injection e1 with e1
  injection e1 with e1 e4 e5
  subst e1 e3 e4
  refine ⟨⟨by simp [hd], .inr ⟨g, off, c, _, rfl, hb, heap_putRow hg m dk, hnc, hcm, by simpa [putCells] using hcs, ?_⟩⟩, ⟨rfl, rfl, rfl, by simp, fun k hk => heap_putRow_far w (by omega) m dk⟩, ⟨by simp, fun k cu u hu hk => ?_⟩⟩
  ·apply List.ext_getElem?
   intro i
   by_cases hi : i < n
   ·rw [List.getElem?_take_of_lt (by omega), List.getElem?_drop, Array.getElem?_toList]
    have hlt : off + i < cur.size := by omega
    have e6 : dk[i]! = dk.toList[i]'(by simpa [hd] using hi) := get_bang dk i (by omega)
    unfold putCells
    rw [Array.getElem?_mapIdx, Array.getElem?_eq_getElem hlt, Option.map_some, if_pos ⟨by omega, by omega⟩, show off + i - off = i by omega, e6, List.getElem?_map, List.getElem?_eq_getElem (by simpa [hd] using hi), Option.map_some]
   ·rw [List.getElem?_eq_none (by rw [List.length_take]; omega), List.getElem?_eq_none (by simp [hd]; omega)]
  ·have hne : k ≠ g := fun e => by
    subst e
    rw [hg] at hk
    simp at hk
    exact hu (by rw [← hk.2]; simp)
   exact (heap_putRow_far w hne m dk).trans hk
theorem lies_holds {w : World} {base : Nat} {v : Value} {L : List Nat} (h : Lies w base 3 1 v L.length (L.map encN)) (h0 : 0 < L.length) : ∃ g off c, v = .slice (some ⟨g, off, none⟩) L.length c ∧ base ≤ g ∧ Holds encN w g off L.toArray := by
 obtain ⟨g, off, c, e, hle, hb, hlt, hcur, hfz, hcl, hput⟩ := h.put h0
 refine ⟨g, off, c, e, hb, fun j hj => ⟨?_, hfz _⟩⟩
 have hj' : j < L.length := by simpa using hj
 refine hcl j _ ?_
 rw [List.getElem?_map, List.getElem?_eq_getElem hj', Option.map_some, get_bang L.toArray j hj]
set_option maxHeartbeats 1000000 in
set_option maxRecDepth 100000 in
theorem stable_nil (p : Option Addr) (cap : Nat) (f : Value) (w : World) (hf : ∃ a b c, f = .func a b c) : Calls Tryz.prog 76 #[.slice p 0 cap, f] w fun e w' => e = .returned (.tuple #[]) ∧ w' = w := by
 obtain ⟨fa, fb, fc, rfl⟩ := hf
 have cI : Calls Tryz.prog 130 #[.slice p 0 cap, .int .i64 0, .int .i64 0, .func fa fb fc] w fun e w' => e = .returned (.tuple #[]) ∧ w' = w := by
  go_enter Tryz.func130, Tryz.ntmps130
  go_wp2
  go_loopw [8] (fun v wr => v = .int .i64 1 ∧ wr = w) (fun _ _ => 0)
  case atStart => exact ⟨rfl, rfl⟩
  case round =>
   obtain ⟨rfl, rfl⟩ := hrel
   go_wp2
   go_end0
   exact ⟨rfl, rfl⟩
 have c109 : Calls Tryz.prog 109 #[.slice p 0 cap, .int .i64 0, .func fa fb fc] w fun e w' => e = .returned (.tuple #[]) ∧ w' = w := by
  go_enter Tryz.func109, Tryz.ntmps109
  go_wp2
  go_loopw [7, 8] (fun a v wr => a = .int .i64 0 ∧ v = .int .i64 20 ∧ wr = w) (fun _ _ _ => 0)
  case atStart => exact ⟨rfl, rfl, rfl⟩
  case round =>
   obtain ⟨rfl, rfl, rfl⟩ := hrel
   go_wp2_with (go_at_call 130; refine cI.mono ?_; rintro e W ⟨rfl, hW⟩; rw [hW]; clear hW W)
   go_loopw [6] (fun v wx => v = .int .i64 20 ∧ wx = wr) (fun _ _ => 0)
   case atStart => exact ⟨rfl, rfl⟩
   case round =>
    obtain ⟨rfl, rfl⟩ := hrel
    go_wp2
    go_end0
    exact ⟨rfl, rfl⟩
 go_enter Tryz.func76, Tryz.ntmps76
 go_wp2_with (go_at_call 109; refine c109.mono ?_; rintro e W ⟨rfl, hW⟩; rw [hW]; clear hW W)
 go_end0
 exact ⟨rfl, rfl⟩
/-- The order of the cues, as a row. -/
theorem order_calls (C : List Cu) (bL base : Nat) (v : Value) (hC : C.length ≤ 8) (hr : ∀ i, i < C.length → 0 ≤ layerOf C i ∧ layerOf C i ≤ 7) (w : World) (hL : Lies w base 3 1 v C.length ((List.range C.length).map encN)) (h : Layers w bL C) (hb : bL < base)
  (hcb : 0 < C.length → ∀ A c, w.cell? ⟨bL, 0, none⟩ = some (.slice A C.length c) → ∀ ad, A = some ad → ad.block < base) :
  Calls Tryz.prog 76 #[v, .func (.func 77) #[] #[.pointer (some ⟨bL, 0, none⟩)]] w fun e w' => e = .returned (.tuple #[]) ∧ Lies w' base 3 1 v C.length ((ordF (layerOf C) C.length).map encN) ∧ Below base w w' := by
 by_cases h0 : 0 < C.length
 ·have hrl : (List.range C.length).length = C.length := List.length_range
  have hL' : Lies w base 3 1 v (List.range C.length).length ((List.range C.length).map encN) := by rw [hrl]; exact hL
  obtain ⟨g, off, c, rfl, hg, hH⟩ := lies_holds hL' (by rw [hrl]; exact h0)
  rw [hrl] at hL ⊢
  refine (stable_calls C bL g off c hC hr w _ (by simp) hH h (by omega) (fun A c h1 ad ha => by have := hcb h0 A c h1 ad ha; omega)).mono ?_
  rintro e w' ⟨rfl, n, dk, hd, rfl⟩
  have hdl : dk.size = C.length := by
   rw [← Array.length_toList, hd]
   have : ((List.range C.length)).Perm (ordF (layerOf C) C.length) := by
    refine (List.perm_ext_iff_of_nodup List.nodup_range (ordF_nodup _ _)).2 fun a => ?_
    rw [List.mem_range, ordF_mem hr]
   rw [← this.length_eq, hrl]
  obtain ⟨h1, h2, _⟩ := putRow_lies hL h0 dk hdl n
  rw [hd] at h1
  exact ⟨rfl, h1, h2⟩
 ·have hz : C.length = 0 := by omega
  have hv : ∃ A c, v = .slice A 0 c := by obtain ⟨A, c, e, _⟩ := hL.form; exact ⟨A, c, by rw [e, hz]⟩
  obtain ⟨A, c, rfl⟩ := hv
  refine (stable_nil A c _ w ⟨_, _, _, rfl⟩).mono ?_
  rintro e w' ⟨rfl, rfl⟩
  refine ⟨rfl, ?_, Below.refl _ _⟩
  have e : ordF (layerOf C) C.length = List.range C.length := by rw [hz, ordF_zero]; rfl
  rw [e]
  exact hL
set_option maxHeartbeats 1000000 in
set_option maxRecDepth 100000 in
theorem sort_nil (p : Option Addr) (cap : Nat) (w : World) : Calls Tryz.prog 83 #[.slice p 0 cap] w fun e w' => e = .returned (.tuple #[]) ∧ w' = w := by
 have cI : Calls Tryz.prog 132 #[.slice p 0 cap, .int .i64 0, .int .i64 0] w fun e w' => e = .returned (.tuple #[]) ∧ w' = w := by
  go_enter Tryz.func132, Tryz.ntmps132
  go_wp2
  go_loopw [6] (fun v wr => v = .int .i64 1 ∧ wr = w) (fun _ _ => 0)
  case atStart => exact ⟨rfl, rfl⟩
  case round =>
   obtain ⟨rfl, rfl⟩ := hrel
   go_wp2
   go_end0
   exact ⟨rfl, rfl⟩
 have cB : Calls Tryz.prog 113 #[.int .u64 0] w fun e w' => (∃ r : Int, e = .returned (.int .i64 r)) ∧ w' = w := by
  have cL := len64_calls 0 (by omega) w
  go_enter Tryz.func113, Tryz.ntmps113
  go_wp2_with (go_at_call 142; refine cL.mono ?_; rintro e w' ⟨⟨r, rfl⟩, hw⟩; rw [hw]; clear hw w')
  go_ret
  exact ⟨⟨_, rfl⟩, rfl⟩
 have cP : ∀ r : Int, Calls Tryz.prog 112 #[.slice p 0 cap, .int .i64 0, .int .i64 0, .int .i64 r] w fun e w' => e = .returned (.tuple #[]) ∧ w' = w := by
  intro r
  go_enter Tryz.func112, Tryz.ntmps112
  go_wp2
  go_loopw [1, 2] (fun u v wr => u = .int .i64 0 ∧ v = .int .i64 0 ∧ wr = w) (fun _ _ _ => 0)
  case atStart => exact ⟨rfl, rfl, rfl⟩
  case round =>
   obtain ⟨rfl, rfl, rfl⟩ := hrel
   go_wp2_with (go_at_call 132; refine cI.mono ?_; rintro e W ⟨rfl, hW⟩; rw [hW]; clear hW W)
   refine bodyPost_ret (results_none rfl _ _ _) rfl ?_
   exact ⟨rfl, rfl⟩
 go_enter Tryz.func83, Tryz.ntmps83
 go_wp2_with (first | (go_at_call 113; refine cB.mono ?_; rintro e w' ⟨⟨r, rfl⟩, hw⟩; rw [hw]; clear hw w') | (go_at_call 112; refine (cP _).mono ?_; rintro e W ⟨rfl, hW⟩; rw [hW]; clear hW W))
 go_end0
 exact ⟨rfl, rfl⟩
/-- The lost cues, sorted, as a row. -/
theorem lost_calls (nn base : Nat) (X : List Nat) (v : Value) (hnd : X.Nodup) (hlt : ∀ k ∈ X, k < nn) (hXl : X.length ≤ 8) (w : World) (hL : Lies w base 3 1 v X.length (X.map encN)) :
  Calls Tryz.prog 83 #[v] w fun e w' => e = .returned (.tuple #[]) ∧ Lies w' base 3 1 v X.length ((riseF nn X).map encN) ∧ Below base w w' ∧ KB [3] w w' := by
 by_cases h0 : 0 < X.length
 ·obtain ⟨g, off, c, rfl, hg, hH⟩ := lies_holds hL h0
  refine (sort_calls nn X hnd hlt hXl g off c w _ (by simp) hH).mono ?_
  rintro e w' ⟨rfl, n, dk, hd, rfl⟩
  have hdl : dk.size = X.length := by rw [← Array.length_toList, hd]; exact (rise_perm hnd hlt).length_eq
  obtain ⟨h1, h2, h3⟩ := putRow_lies hL h0 dk hdl n
  rw [hd] at h1
  exact ⟨rfl, h1, h2, h3⟩
 ·have hz : X = [] := List.eq_nil_of_length_eq_zero (by omega)
  subst hz
  obtain ⟨A, c, e, _⟩ := hL.form
  subst e
  refine (sort_nil A c w).mono ?_
  rintro e w' ⟨rfl, rfl⟩
  refine ⟨rfl, ?_, Below.refl _ _, KB.refl _ _⟩
  have e : riseF nn [] = [] := by simp [riseF]
  rw [e]
  exact hL
end Go.Proofs.YtogidacejbjljaaGreatDoor.PTextChecks
end
section
/- text.Layout: the lines of cues, placed. -/
set_option linter.unusedVariables false
set_option linter.unusedSimpArgs false
namespace Go.Proofs.YtogidacejbjljaaGreatDoor.PTextChecks
open Go.RowKit Go.Mix Go.Own Go.Sort Go.Proofs.YtogidacejbjljaaGreatDoorW.PrintWords Go.Proofs.YtogidacejbjljaaGreatDoorW.PrintLast Go.Proofs.YtogidacejbjljaaGreatDoorW.PrintMore
/-- A row of cues that an argument holds. -/
def CuesIn (w : World) (A : Option Addr) (C : List Cu) : Prop := ∀ (k : Nat) (q : Cu), C[k]? = some q → ∃ ad Ap cp, A = some ad ∧ w.cell? (ad.add (k * 4)) = some (.int .i64 q.a) ∧ w.cell? ⟨(ad.add (k * 4)).block, (ad.add (k * 4)).off + 1, none⟩ = some (.int .i64 q.b) ∧
 w.cell? ⟨(ad.add (k * 4)).block, (ad.add (k * 4)).off + 2, none⟩ = some (.int .i64 q.c) ∧ w.cell? ⟨(ad.add (k * 4)).block, (ad.add (k * 4)).off + 3, none⟩ = some (.slice Ap q.l.length cp) ∧ q.l.length ≤ cp ∧ Kd.C k42 w Ap q.l.length q.l
theorem CuesIn.below {w w' : World} {A : Option Addr} {C : List Cu} (h : CuesIn w A C) (hb : Below w.heap.size w w') : CuesIn w' A C := by
 intro k q hq
 obtain ⟨ad, Ap, cp, rfl, c0, c1, c2, c3, hcp, hK⟩ := h k q hq
 exact ⟨ad, Ap, cp, rfl, cell_later hb c0, cell_later hb c1, cell_later hb c2, cell_later hb c3, hcp, Kd.C_below hK hb⟩
theorem CuesIn.lt {w : World} {A : Option Addr} {C : List Cu} (h : CuesIn w A C) (h0 : 0 < C.length) : ∀ ad, A = some ad → ad.block < w.heap.size := by
 intro ad ha
 obtain ⟨ad', Ap, cp, e, c0, _⟩ := h 0 _ (List.getElem?_eq_getElem h0)
 rw [ha] at e
 injection e with e
 subst e
 have := World.block_lt_of_cell? w _ c0
 rwa [add_block] at this
def layP (C : List Cu) (canvas tall : Int) : List Pl := if layE C canvas tall = 0 then (layS C canvas tall).1 else []
def layX (C : List Cu) (canvas tall : Int) : List Nat := if layE C canvas tall = 0 then lostS C canvas tall else []
def LayPost (C : List Cu) (canvas tall : Int) (w : World) (e : Ending) (w' : World) : Prop :=
 ∃ v vl, e = .returned (.tuple #[v, vl, .int .i64 (layE C canvas tall)]) ∧ Pls w' w.heap.size v (layP C canvas tall) ∧ Lies w' w.heap.size 3 1 vl (layX C canvas tall).length ((layX C canvas tall).map encN) ∧ Below w.heap.size w w'
theorem lay_err {C : List Cu} {canvas tall e : Int} (h : layE C canvas tall = e) (he : e ≠ 0) : layP C canvas tall = [] ∧ layX C canvas tall = [] := by
 subst h
 exact ⟨if_neg he, if_neg he⟩
theorem lay_post_err {C : List Cu} {canvas tall e : Int} {w w' : World} (h : layE C canvas tall = e) (he : e ≠ 0) (hb : Below w.heap.size w w') : LayPost C canvas tall w (.returned (.tuple #[.slice none 0 0, .slice none 0 0, .int .i64 e])) w' := by
 obtain ⟨h1, h2⟩ := lay_err h he
 exact ⟨_, _, by rw [h], by rw [h1]; exact Pls.nil _ _, by rw [h2]; exact Lies.nil _ _ _ _, hb⟩
theorem xS_range {al mar canvas wide : Int} (h1 : 0 ≤ mar ∧ mar ≤ 100) (h2 : 1 ≤ canvas ∧ canvas ≤ 1000) (h3 : 0 ≤ wide ∧ wide ≤ 50000) : -60000 ≤ xS al mar canvas wide ∧ xS al mar canvas wide ≤ 60000 := by
 unfold xS
 split
 ·omega
 ·split <;> omega
theorem blk_small {k : Int} {q : Cu} {canvas y : Int} (lo : LinesOk q canvas) (hy : -14000 ≤ y ∧ y ≤ 14000) : ∀ p ∈ blkF k q canvas 0 y (linesQ q canvas), SmP p := by
 intro p hp
 obtain ⟨n, r, hn, hr, _, rfl⟩ := blkF_mem hp
 have h1 := lo.wide r (List.mem_of_getElem? hr)
 have h2 := lo.high r (List.mem_of_getElem? hr)
 have h3 := uptoH_range lo.high n
 have h4 := xS_range (al := q.b) (headB_margin lo.head) lo.cv h1
 have h5 := lo.len
 exact ⟨⟨by show -1000000 ≤ xS _ _ _ _; omega, by show xS _ _ _ _ ≤ 1000000; omega⟩, ⟨by show -1000000 ≤ y + uptoH _ n; omega, by show y + uptoH _ n ≤ 1000000; omega⟩, ⟨by show -1000000 ≤ sumW r.1 0; omega, by show sumW r.1 0 ≤ 1000000; omega⟩, by show -1000000 ≤ r.2; omega, by show r.2 ≤ 1000000; omega⟩
set_option maxHeartbeats 16000000 in
set_option maxRecDepth 100000 in
theorem layout_calls (C : List Cu) (A : Option Addr) (cap : Nat) (canvas tall : Int) (w : World) (hA : CuesIn w A C) (hc : C.length ≤ cap) (hf : ∀ q ∈ C, Fit q.l) :
  Calls Tryz.prog 39 #[.slice A C.length cap, .int .i64 canvas, .int .i64 tall] w (LayPost C canvas tall w) := by
 obtain ⟨i0, hi, hii⟩ := Option.map_eq_some_iff.1 infoInt
 simp only [Prod.mk.injEq] at hii
 obtain ⟨hz0, hz1, hz2⟩ := hii
 obtain ⟨i1, hj, hjj⟩ := Option.map_eq_some_iff.1 infoPlaced
 simp only [Prod.mk.injEq] at hjj
 obtain ⟨hpz0, hpz1, hpz2⟩ := hjj
 have hbw1 : Below w.heap.size w (w.alloc (.cells #[.slice A C.length cap] 53)) := (Below.refl _ w).alloc (Nat.le_refl _) _
 cases hg : (inB canvas 1 1000 && inB tall 1 1000)
 case false =>
  have hE : layE C canvas tall = 1 := by unfold layE; rw [hg]; rfl
  have HE := Lib.hid (fun X (h : Below w.heap.size w X) => lay_post_err hE (by decide) h)
  clear hE
  cases hi1 : inB canvas 1 1000
  all_goals (rw [hi1] at hg)
  all_goals (cases hi2 : inB tall 1 1000)
  all_goals (rw [hi2] at hg)
  all_goals (try (exact absurd hg (by decide)))
  all_goals clear hg
  all_goals
   go_enter Tryz.func39, Tryz.ntmps39
   go_wp2
   go_step3
   go_wp2_with (go_at_call 57; refine (within_calls' _ _ _ _).mono ?_; rintro e W2 ⟨rfl, hW⟩; rw [hW]; clear hW W2)
   (try rw [Exit.noGoto_ret])
   refine bodyPost_ret (results_tmp3 rfl _ _ _) rfl ?_
   exact HE.out _ hbw1
 case true =>
  have hg' := hg
  rw [Bool.and_eq_true] at hg
  have hi1 := hg.1
  have hi2 := hg.2
  have hcv := inB_true hg.1
  have htl := inB_true hg.2
  cases h8 : decide ((8 : Int) < (C.length : Int))
  case true =>
   have hE : layE C canvas tall = 2 := by unfold layE; rw [hg', if_pos rfl, if_pos (by have := of_decide_eq_true h8; omega)]
   have HE := Lib.hid (fun X (h : Below w.heap.size w X) => lay_post_err hE (by decide) h)
   clear hE hg hg'
   go_enter Tryz.func39, Tryz.ntmps39
   go_wp2
   go_step3
   go_wp2_with (go_at_call 57; refine (within_calls' _ _ _ _).mono ?_; rintro e W2 ⟨rfl, hW⟩; rw [hW]; clear hW W2)
   (try rw [Exit.noGoto_ret])
   refine bodyPost_ret (results_tmp3 rfl _ _ _) rfl ?_
   exact HE.out _ hbw1
  case false =>
   have hC8 : C.length ≤ 8 := by have := of_decide_eq_false h8; omega
   have hE : layE C canvas tall = firstE canvas C := by unfold layE; rw [hg', if_pos rfl, if_neg (by omega)]
   have HE := Lib.hid hE
   clear hE hg hg'
   have hB0 := heap_alloc_new w (.cells #[.slice A C.length cap] 53)
   have hA1 := hA.below hbw1
   have hAl : ∀ ad, A = some ad → 0 < C.length → ad.block < w.heap.size := fun ad ha h0 => hA.lt h0 ad ha
   go_enter Tryz.func39, Tryz.ntmps39
   go_wp2
   go_step3
   go_wp2_with (go_at_call 57; refine (within_calls' _ _ _ _).mono ?_; rintro e W2 ⟨rfl, hW⟩; rw [hW]; clear hW W2)
   generalize w.alloc (.cells #[.slice A C.length cap] 53) = W1 at hbw1 hB0 hA1 ⊢
   have hs1 := hbw1.size
   have hlt1 := (Array.getElem?_eq_some_iff.1 hB0).1
   obtain ⟨m0, m0'⟩ := blk1 hB0
   clear hA hi1 hi2
   go_loopw [9, 36] (fun vo i wr => ∃ n : Nat, n ≤ C.length ∧ i = .int .i64 n ∧ Lies wr W1.heap.size 3 1 vo n ((List.range n).map encN) ∧ (∀ (i : Nat) (q : Cu), i < n → C[i]? = some q → brkE q.a q.b q.c q.l canvas = 0) ∧ Below W1.heap.size W1 wr) (fun _ i _ => C.length - (intOf i).toNat)
   case atStart => exact ⟨0, by omega, rfl, Lies.nil _ _ _ _, fun i q h => by omega, Below.refl _ _⟩
   case round =>
    obtain ⟨n, hn, rfl, hL, hbk, hbr⟩ := hrel
    by_cases hlt : n < C.length
    ·obtain ⟨q, hq⟩ : ∃ q, C[n]? = some q := ⟨_, List.getElem?_eq_getElem hlt⟩
     obtain ⟨ad, Ap, cp, rfl, c0, c1, c2, c3, hcp, hK⟩ := (hA1.below hbr) n q hq
     have hqm := List.mem_of_getElem? hq
     have cB := tBreak_calls q.a q.b q.c Ap cp q.l canvas _ (Kd.C_alloc hK (.cells #[.int .i64 q.a, .int .i64 q.b, .int .i64 q.c, .slice Ap q.l.length cp] 25)) hcp (hf q hqm)
     unfold BrkPost at cB
     obtain ⟨E, hEq⟩ : ∃ E, brkE q.a q.b q.c q.l canvas = E := ⟨_, rfl⟩
     rw [hEq] at cB
     have hbx : Below W1.heap.size W1 (wr.alloc (.cells #[.int .i64 q.a, .int .i64 q.b, .int .i64 q.c, .slice Ap q.l.length cp] 25)) := hbr.alloc hbr.size _
     have hLx := hL.kb (KB.below (ts := []) ((Below.refl wr.heap.size wr).alloc (Nat.le_refl _) (.cells #[.int .i64 q.a, .int .i64 q.b, .int .i64 q.c, .slice Ap q.l.length cp] 25))) (by simp)
     have HEq := Lib.hid hEq
     have wr1 : IntKind.i64.wrap ((n : Int) + 1) = (n : Int) + 1 := IntWalk.i64_in _ (by omega)
     clear hEq hK hL hAl
     cases hE0 : (E != 0)
     case true =>
      have hpost : layE C canvas tall = E := by rw [HE.out, firstE_nth hbk hq (by rw [HEq.out]; simpa using hE0), HEq.out]
      have HP := Lib.hid (fun X (h : Below w.heap.size w X) => lay_post_err hpost (by simpa using hE0) h)
      clear hpost hbk
      go_wp2_with (go_at_call 35; refine cB.mono ?_; rintro e W5 ⟨v5, rfl, _, hb5⟩)
      (try rw [Exit.noGoto_ret])
      refine bodyPost_ret (results_tmp3 rfl _ _ _) rfl ?_
      exact HP.out _ (hbw1.trans ((hbx.trans (hb5.mono hbx.size)).mono hs1))
     case false =>
      have hbk2 : ∀ (i : Nat) (p : Cu), i < n + 1 → C[i]? = some p → brkE p.a p.b p.c p.l canvas = 0 := by
       intro i p hi hp
       by_cases h : i < n
       ·exact hbk i p h hp
       ·obtain rfl : i = n := by omega
        rw [hq] at hp
        injection hp with hp
        subst hp
        rw [HEq.out]
        simpa using hE0
      have HB := Lib.hid hbk2
      clear hbk hbk2
      go_wp2_with (first | (go_at_call 35; refine cB.mono ?_; rintro e W5 ⟨v5, rfl, _, hb5⟩; have hb6 : Below W5.heap.size W5 (W5.alloc (.cells #[.int .i64 n] 3)) := (Below.refl _ W5).alloc (Nat.le_refl _) _; have hL5 := (hLx.kb (KB.below (ts := []) hb5) (by simp)).kb (KB.below (ts := []) hb6) (by simp)) | (at_builtin; refine Go.Own.wpList_append_lies rfl _ _ 56 rfl W1.heap.size 3 i0 _ 1 8 Tryz.underlying56 hi hz0 hz1 hz2 rfl (by decide) _ n ((List.range n).map encN) rfl hL5 ⟨W5.heap.size, 0, none⟩ 1 1 [.int .i64 n] rfl rfl ?qa2 ?qa3 ?qa4 ?qa5 ?qa6 (by decide) ?_))
      case qa2 => intro j u hj; rw [add0]; exact newcell W5 #[.int .i64 n] 3 j u (by simpa using hj)
      case qa3 => intro u hu; simp only [List.mem_cons, List.mem_nil_iff, or_false] at hu; rcases hu with rfl; rfl
      case qa4 => unfold maxLen; omega
      case qa5 => omega
      case qa6 => exact Nat.le_trans hbx.size (Nat.le_trans hb5.size hb6.size)
      intro v6 W6 hL6 hg6
      have hb7 : Below W1.heap.size W1 W6 := ((hbx.trans (hb5.mono hbx.size)).trans (hb6.mono (Nat.le_trans hbx.size hb5.size))).grown hg6 (Nat.le_trans hbx.size (Nat.le_trans hb5.size hb6.size)) (fun j hj => (hL5.lt j hj).1)
      clear hg6 hL5 hb6 hb5 hLx hbx cB
      go_wp2
      go_roundw
      case rel => exact ⟨n + 1, by omega, by go_num, by rw [List.range_succ, List.map_append]; exact hL6, HB.out, hb7⟩
      case measure => (simp [intOf]; try omega)
    ·obtain rfl : n = C.length := by omega
     rename World => V
     have hok : ∀ q ∈ C, brkE q.a q.b q.c q.l canvas = 0 := fun q hq => by
      obtain ⟨i, hi⟩ := List.mem_iff_getElem?.1 hq
      exact hbk i q (List.getElem?_eq_some_iff.1 hi).1 hi
     have hr := layer_range hok
     have hE0 : layE C canvas tall = 0 := HE.out.trans (firstE_zero fun i q h => hbk i q (List.getElem?_eq_some_iff.1 h).1 h)
     have HE0 := Lib.hid hE0
     clear hE0 hbk
     obtain ⟨Ao, co, rfl, hco⟩ := hL.form
     have hLay : Layers V w.heap.size C := ⟨A, cap, cell_later hbr m0, hc, fun k q hq => by
      obtain ⟨ad, Ap, cp, e, c0, _⟩ := (hA1.below hbr) k q hq
      exact ⟨ad, e, c0⟩⟩
     have cO := order_calls C w.heap.size W1.heap.size (.slice Ao C.length co) hC8 hr V hL hLay hlt1 (fun h0 A' c' h1 ad ha => by
      rw [cell_later hbr m0] at h1
      injection h1 with h1
      injection h1 with h1
      subst h1
      have := hAl ad ha h0
      omega)
     clear hLay hAl hL
     go_wp2_with (go_at_call 76; refine cO.mono ?_; rintro e W6 ⟨rfl, hL6, hb6⟩)
     clear cO
     have hb16 : Below W1.heap.size W1 W6 := hbr.trans hb6
     have hA6 := hA1.below hb16
     have hm6 := cell_later hb16 m0
     have hs6 : W1.heap.size ≤ W6.heap.size := hb16.size
     clear hb6 hbr
     go_step3
     go_wp2_with fail
     have hbo7 := heap_alloc_new W6 (.cells #[.slice none 0 0] 55)
     have hb7 : Below W6.heap.size W6 (W6.alloc (.cells #[.slice none 0 0] 55)) := (Below.refl _ W6).alloc (Nat.le_refl _) _
     obtain ⟨ORD, hORD⟩ : ∃ ORD, ordF (layerOf C) C.length = ORD := ⟨_, rfl⟩
     have hol : ORD.length = C.length := by
      rw [← hORD]
      have : ((List.range C.length)).Perm (ordF (layerOf C) C.length) := (List.perm_ext_iff_of_nodup List.nodup_range (ordF_nodup _ _)).2 fun a => by rw [List.mem_range, ordF_mem hr]
      rw [← this.length_eq, List.length_range]
     have hom : ∀ k ∈ ORD, k < C.length := fun k hk => (ordF_mem hr k).1 (by rw [hORD]; exact hk)
     rw [hORD] at hL6
     have HORD := Lib.hid hORD
     have HOL := Lib.hid hol
     clear hORD hol
     go_loopg [15, 60] C.length (fun g vl i wr => ∃ (n : Nat) (P : List Pl) (X : List Nat) (vo : Value), n + g = C.length ∧ i = .int .i64 n ∧ runS C canvas tall (ORD.take n) = (P, X) ∧ wr.heap[W6.heap.size]? = some (.cells #[vo] 55 (0, 0)) ∧ Pls wr W6.heap.size vo P ∧ Lies wr W6.heap.size 3 1 vl X.length (X.map encN) ∧ Below W6.heap.size W6 wr ∧ P.length ≤ 400 * n ∧ (∀ p ∈ P, SmP p) ∧ X.length ≤ n)
     case atStart => exact ⟨0, [], [], _, by omega, rfl, by simp [runS], hbo7, Pls.nil _ _, Lies.nil _ _ _ _, hb7, by simp, fun p hp => by simp at hp, by simp⟩
     case round =>
      obtain ⟨n, P, X, vo, hng, rfl, hrun, hbo, hP, hX, hbr, hPl, hPs, hXl⟩ := hrel
      cases gk with
      | zero =>
       obtain rfl : n = C.length := by omega
       rw [List.take_of_length_le (by rw [HOL.out]; omega)] at hrun
       have hlay : layS C canvas tall = (P, X) := by unfold layS; rw [HORD.out]; exact hrun
       obtain ⟨hnd, hmem⟩ := lay_nodup C canvas tall
       rw [hlay] at hnd hmem
       have hlt0 : ∀ k ∈ X, k < C.length := fun k hk => (ordF_mem hr k).1 (hmem k hk)
       have cS := lost_calls C.length W6.heap.size X _ hnd hlt0 (by omega) wr hX
       have hLL : (riseF C.length X).length = X.length := (rise_perm hnd hlt0).length_eq
       have hlost : lostS C canvas tall = riseF C.length X := by unfold lostS; rw [hlay]
       have hp1 : layP C canvas tall = P := by unfold layP; rw [if_pos HE0.out, hlay]
       have hp2 : layX C canvas tall = riseF C.length X := by unfold layX; rw [if_pos HE0.out, hlost]
       have HF := Lib.hid (And.intro hp1 (And.intro hp2 hLL))
       obtain ⟨AO, cO, rfl, hcO⟩ := hP.form
       obtain ⟨AX, cX, rfl, hcX⟩ := hX.form
       have hbw6 : Below w.heap.size w W6 := hbw1.trans (hb16.mono hs1)
       have hs66 := hbw6.size
       clear hp1 hp2 hlost hLL hrun hlay hnd hmem hlt0 hL6
       go_wp2_with (go_at_call 83; refine cS.mono ?_; rintro e W9 ⟨rfl, hL9, hb9, hk9⟩; have hbo9 := hk9.2 _ _ _ (by decide) hbo; obtain ⟨b0, b0'⟩ := blk1 hbo9; have hP9 := hP.kb hk9 (by decide) (by decide))
       (try rw [Exit.noGoto_ret])
       refine bodyPost_ret (results_tmp3 rfl _ _ _) rfl ?_
       obtain ⟨f1, f2, f3⟩ := HF.out
       refine ⟨_, _, ?_, by rw [f1]; exact hP9.mono hs66, by rw [f2, f3]; exact hL9.mono hs66, hbw6.trans ((hbr.trans (hb9.mono (Nat.le_refl _))).mono hs66)⟩
       rw [HE0.out]
       rfl
      | succ g0 =>
       rename World => V2
       have hlt : n < C.length := by omega
       have hol := HOL.out
       obtain ⟨k, hk⟩ : ∃ k, ORD[n]? = some k := ⟨_, List.getElem?_eq_getElem (by omega)⟩
       have hkl : k < C.length := hom k (List.mem_of_getElem? hk)
       obtain ⟨q, hq⟩ : ∃ q, C[k]? = some q := ⟨_, List.getElem?_eq_getElem hkl⟩
       have hqm := List.mem_of_getElem? hq
       obtain ⟨ado, rfl, hoc⟩ := hL6.at (by omega)
       have o1 : V2.cell? (ado.add n) = some (.int .i64 k) := cell_later hbr ((hoc n 0 (.int .i64 k) (by rw [Nat.add_zero, List.getElem?_map, hk]; rfl)).1 rfl)
       obtain ⟨ad, Ap, cp, rfl, c0, c1, c2, c3, hcp, hK⟩ := (hA6.below hbr) k q hq
       have hmr := cell_later hbr hm6
       have lo := linesOk_of (hok q hqm)
       have cB := block_calls k q Ap cp canvas tall V2 (by omega) hK hcp lo htl
       have hstep : ∀ s', stepS C canvas tall (P, X) k = s' → runS C canvas tall (ORD.take (n + 1)) = s' := by
        intro s' hs
        have htk : ORD.take (n + 1) = ORD.take n ++ [k] := by
         obtain ⟨h1, h2⟩ := List.getElem?_eq_some_iff.1 hk
         rw [List.take_succ_eq_append_getElem h1, h2]
        rw [htk, runS_snoc, hrun, hs]
       have hall : 0 ≤ allH (linesQ q canvas) ∧ allH (linesQ q canvas) ≤ 12800 := by rw [← uptoH_all]; have := uptoH_range lo.high (linesQ q canvas).length; have := lo.len; omega
       have hfr := fromS_range (al := q.b) (headB_margin lo.head) htl hall
       have hnone := fun h => stepS_none (s := (P, X)) (canvas := canvas) (tall := tall) hq h
       have hsome := fun y h => stepS_some (s := (P, X)) (canvas := canvas) (tall := tall) (y := y) hq h
       have hstart := slideS_start (k := (k : Int)) (q := q) (canvas := canvas) (tall := tall) (L := linesQ q canvas) (out := P)
       have hslide := fun y => slideF_step (k := (k : Int)) (q := q) (canvas := canvas) (tall := tall) (L := linesQ q canvas) (out := P) (R := slideS (k : Int) q canvas tall (linesQ q canvas) P) (y := y) hall.1
       have hsmall := fun y (hy : -14000 ≤ y ∧ y ≤ 14000) => blk_small (k := (k : Int)) lo hy
       have hmove := fun d y => blkF_move (k : Int) q canvas d (linesQ q canvas) 0 y
       have hbl := fun y => blkF_len (k : Int) q canvas (linesQ q canvas) 0 y
       have hLlen := lo.len
       have hLpos := lo.pos
       have hby : (q.b ≤ 3 ∧ byS q.b = -1) ∨ (¬ q.b ≤ 3 ∧ byS q.b = 1) := by
        unfold byS
        by_cases h : q.b ≤ 3
        ·exact .inl ⟨h, if_pos h⟩
        ·exact .inr ⟨h, if_neg h⟩
       clear lo hrun hom
       generalize hLq : linesQ q canvas = L at *
       generalize hFr : fromS q.b q.c tall (allH L) = fr at *
       generalize hR : slideS (k : Int) q canvas tall L P = R at *
       have H1 := Lib.hid hstep
       have H2 := Lib.hid hnone
       have H3 := Lib.hid hsome
       have H4 := Lib.hid hslide
       have H5 := Lib.hid hsmall
       have H6 := Lib.hid hmove
       have H7 := Lib.hid hbl
       have H8 := Lib.hid hstart
       have HPs := Lib.hid hPs
       clear hstep hnone hsome hslide hsmall hmove hbl hstart hLq hFr hR hPs hK hoc hk
       obtain ⟨AO, cO, rfl, hcO⟩ := hP.form
       obtain ⟨AX, cX, rfl, hcX⟩ := hX.form
       rcases hby with ⟨hb3, hby⟩ | ⟨hb3, hby⟩
       ·go_wp2_with (go_at_call 78; refine cB.mono ?_; rintro e W8 ⟨v8, rfl, hP8, hb8⟩; have c0 := cell_later hb8 c0; have c1 := cell_later hb8 c1; have c2 := cell_later hb8 c2; have c3 := cell_later hb8 c3; have hmr := cell_later hb8 hmr; obtain ⟨A8, c8, e8, hc8⟩ := hP8.form; rw [H7.out] at e8 hc8; subst e8)
        clear cB c0 c1 c2 c3 hmr o1
        go_loopg [15, 19, 20] (moves q.b tall fr) (fun g vl f t wx => ∃ y : Int, g = moves q.b tall y ∧ vl = .slice AX X.length cX ∧ f = .int .i64 y ∧ t = .int .i64 (y + allH L) ∧ (∃ m, moves q.b tall y < m ∧ slideF (k : Int) q canvas tall L P m y = R) ∧ Pls wx V2.heap.size (.slice A8 L.length c8) (blkF (k : Int) q canvas 0 y L) ∧ Below V2.heap.size V2 wx ∧ -13000 ≤ y ∧ y ≤ 1001)
        case atStart => exact ⟨fr, rfl, rfl, rfl, rfl, H8.out, hP8, hb8, by omega, by omega⟩
        case round =>
         obtain ⟨y, hgk, rfl, rfl, rfl, hsl, hPw, hbx, hy1, hy2⟩ := hrel
         obtain ⟨s1, s2, s3⟩ := H4.out y hsl
         have HGK := Lib.hid hgk
         have hbo2 := (hbx.block _ (Array.getElem?_eq_some_iff.1 hbo).1).trans hbo
         have hb6x : Below W6.heap.size W6 wr := hbr.trans (hbx.mono hbr.size)
         clear hsl hP8 hb8 hgk
         by_cases hout : y < 0 ∨ tall < y + allH L
         ·have HN := Lib.hid (H1.out _ (H2.out (s1 hout)))
          have hXx := hX.kb (KB.below (ts := []) hbx) (by simp)
          have hb9 : Below wr.heap.size wr (wr.alloc (.cells #[.int .i64 k] 3)) := (Below.refl _ wr).alloc (Nat.le_refl _) _
          have hL9 := hXx.kb (KB.below (ts := []) hb9) (by simp)
          clear s1 s2 s3 hXx
          rcases Int.lt_or_le y 0 with h0 | h0
          ·have d1 : decide (y < 0) = true := decide_eq_true h0
           go_wp2_with (at_builtin; refine Go.Own.wpList_append_lies rfl _ _ 56 rfl W6.heap.size 3 i0 _ 1 8 Tryz.underlying56 hi hz0 hz1 hz2 rfl (by decide) _ X.length (X.map encN) rfl hL9 ⟨wr.heap.size, 0, none⟩ 1 1 [.int .i64 k] rfl rfl ?x0a2 ?x0a3 ?x0a4 ?x0a5 ?x0a6 (by decide) ?_)
           case x0a2 => intro j u hj; rw [add0]; exact newcell wr #[.int .i64 k] 3 j u (by simpa using hj)
           case x0a3 => intro u hu; simp only [List.mem_cons, List.mem_nil_iff, or_false] at hu; rcases hu with rfl; rfl
           case x0a4 => unfold maxLen; omega
           case x0a5 => omega
           case x0a6 => exact Nat.le_trans hb6x.size hb9.size
           intro v9 W9 hL10 hg9
           have hkb : KB [3] V2 W9 := ((KB.below hbx).trans (KB.below hb9)).trans (KB.grown hg9 fun j hj => by obtain ⟨_, _, cu, hc⟩ := hL9.lt j hj; exact ⟨cu, 3, by simp, hc⟩)
           have hb10 : Below W6.heap.size W6 W9 := (hb6x.trans (hb9.mono hb6x.size)).grown hg9 (Nat.le_trans hb6x.size hb9.size) (fun j hj => (hL9.lt j hj).1)
           clear hg9 hL9 hb9
           go_wp2
           go_roundg g0
           case measure => omega
           case rel => exact ⟨n + 1, P, X ++ [k], _, by omega, by go_num, HN.out, hkb.2 _ _ _ (by decide) hbo, hP.kb hkb (by decide) (by decide), by rw [List.length_append, List.map_append]; exact hL10, hb10, by omega, HPs.out, by simp; omega⟩
          ·have d1 : decide (y < 0) = false := decide_eq_false (by omega)
           have d2 : decide (tall < y + allH L) = true := decide_eq_true (by omega)
           go_wp2_with (at_builtin; refine Go.Own.wpList_append_lies rfl _ _ 56 rfl W6.heap.size 3 i0 _ 1 8 Tryz.underlying56 hi hz0 hz1 hz2 rfl (by decide) _ X.length (X.map encN) rfl hL9 ⟨wr.heap.size, 0, none⟩ 1 1 [.int .i64 k] rfl rfl ?x0b2 ?x0b3 ?x0b4 ?x0b5 ?x0b6 (by decide) ?_)
           case x0b2 => intro j u hj; rw [add0]; exact newcell wr #[.int .i64 k] 3 j u (by simpa using hj)
           case x0b3 => intro u hu; simp only [List.mem_cons, List.mem_nil_iff, or_false] at hu; rcases hu with rfl; rfl
           case x0b4 => unfold maxLen; omega
           case x0b5 => omega
           case x0b6 => exact Nat.le_trans hb6x.size hb9.size
           intro v9 W9 hL10 hg9
           have hkb : KB [3] V2 W9 := ((KB.below hbx).trans (KB.below hb9)).trans (KB.grown hg9 fun j hj => by obtain ⟨_, _, cu, hc⟩ := hL9.lt j hj; exact ⟨cu, 3, by simp, hc⟩)
           have hb10 : Below W6.heap.size W6 W9 := (hb6x.trans (hb9.mono hb6x.size)).grown hg9 (Nat.le_trans hb6x.size hb9.size) (fun j hj => (hL9.lt j hj).1)
           clear hg9 hL9 hb9
           go_wp2
           go_roundg g0
           case measure => omega
           case rel => exact ⟨n + 1, P, X ++ [k], _, by omega, by go_num, HN.out, hkb.2 _ _ _ (by decide) hbo, hP.kb hkb (by decide) (by decide), by rw [List.length_append, List.map_append]; exact hL10, hb10, by omega, HPs.out, by simp; omega⟩
         ·have d1 : decide (y < 0) = false := decide_eq_false (by omega)
          have d2 : decide (tall < y + allH L) = false := decide_eq_false (by omega)
          have hsm := H5.out y (by omega)
          have hPO := hP.kb (KB.below (ts := []) hbx) (by simp) (by simp)
          have cM := con80_calls (blkF (k : Int) q canvas 0 y L) A8 c8 V2.heap.size P AO cO W6.heap.size W6.heap.size wr (by rw [H7.out]; exact hPw) (by rw [H7.out]; omega) hsm hPO (by omega) HPs.out hbo2
          rw [H7.out] at cM
          obtain ⟨b0, b0'⟩ := blk1 hbo2
          cases hm : meetsS (blkF (k : Int) q canvas 0 y L) P
          case true =>
           have hmm : ((blkF (k : Int) q canvas 0 y L).any fun x => P.any fun y => ovl x y) = true := hm
           rw [hmm] at cM
           obtain ⟨g1, g2⟩ := s3 hout hm
           have G1 := Lib.hid g1
           have G2 := Lib.hid g2
           have hsm := Lib.hid hsm
           have wy1 : IntKind.i64.wrap (y + -1) = y + -1 := IntWalk.i64_in _ (by omega)
           have wy2 : IntKind.i64.wrap (y + allH L + -1) = y + allH L + -1 := IntWalk.i64_in _ (by omega)
           clear s1 s2 s3 g1 g2 hmm hm
           go_wp2_with (go_at_call 79; refine cM.mono ?_; rintro e W9 ⟨rfl, hb9⟩)
           have hP9 := hPw.below hb9
           have hbx9 : Below V2.heap.size V2 W9 := hbx.trans (hb9.mono hbx.size)
           clear hPw hb9 hPO cM b0 b0'
           go_loopw [105] (fun i wy => ∃ m : Nat, m ≤ L.length ∧ i = .int .i64 m ∧ Pls wy V2.heap.size (.slice A8 L.length c8) (mvTo (-1) m (blkF (k : Int) q canvas 0 y L)) ∧ Below V2.heap.size V2 wy) (fun i _ => L.length - (intOf i).toNat)
           case atStart => exact ⟨0, by omega, rfl, by rw [mvTo_zero]; exact hP9, hbx9⟩
           case round =>
            obtain ⟨m, hm, rfl, hPm, hbm⟩ := hrel
            by_cases hml : m < L.length
            ·obtain ⟨us, hu1, hu2, hu3⟩ := hPm
             rw [mvTo_length, H7.out] at hu1 hu2
             obtain ⟨p, hp⟩ : ∃ p, (blkF (k : Int) q canvas 0 y L)[m]? = some p := ⟨_, List.getElem?_eq_getElem (by rw [H7.out]; exact hml)⟩
             have hpm := mvTo_get (d := -1) hp
             have hset := mvTo_set (d := -1) hp
             have hsp := hsm.out p (List.mem_of_getElem? hp)
             obtain ⟨u, hu⟩ : ∃ u, us[m]? = some u := ⟨_, List.getElem?_eq_getElem (by omega)⟩
             obtain ⟨g, off, c9, e9, hc9, hg1, hg2, hg3, hfz, hcl, hput⟩ := hu2.put (by omega)
             injection e9 with e10 e11 e12
             subst e10 e12
             have hcl3 := hcl (m * 7 + 3) (.int .i64 p.y) ((cells63_get hu hpm (by omega)).trans rfl)
             have hfz3 := hfz (off + m * 7 + 3)
             have hp3 := hput (m * 7 + 3) (.int .i64 (p.y + -1)) (by omega)
             rw [cells63_y _ (by rw [mvTo_length, H7.out]; exact hu1) hpm, hset] at hp3
             have eo : off + (m * 7 + 3) = off + m * 7 + 3 := by omega
             rw [eo] at hcl3 hp3
             have hps := set_ps (y := p.y + -1) hpm
             rw [hset] at hps
             have hkp : KB [63] wr (wr.setCell ⟨g, off + m * 7 + 3, none⟩ (.int .i64 (p.y + -1))) := by obtain ⟨cur, hcur⟩ := hg3; exact KB.set hcur (by simp) _
             have hin : ∀ (i : Nat) (u : Value) (p' : Pl), us[i]? = some u → (mvTo (-1) (m + 1) (blkF (k : Int) q canvas 0 y L))[i]? = some p' → In42 (wr.setCell ⟨g, off + m * 7 + 3, none⟩ (.int .i64 (p.y + -1))) u p'.ps := by
              intro i u p' h1 h2
              obtain ⟨r, hr1, hr2⟩ := hps i p' h2
              rw [← hr2]
              exact (hu3 i u r h1 hr1).kb hkp (by decide)
             have hbm2 : Below V2.heap.size V2 (wr.setCell ⟨g, off + m * 7 + 3, none⟩ (.int .i64 (p.y + -1))) := hbm.setCell (p := ⟨g, _, none⟩) hg1 _
             have HIN := Lib.hid hin
             have wp1 : IntKind.i64.wrap (p.y + -1) = p.y + -1 := IntWalk.i64_in _ (by have := hsp.2.1; omega)
             have wm1 : IntKind.i64.wrap ((m : Int) + 1) = (m : Int) + 1 := IntWalk.i64_in _ (by omega)
             clear hset hps hin hput hcl hfz hpm hp hu hu3 hsp hkp
             go_wp2_with fail
             go_roundw
             case rel => exact ⟨m + 1, by omega, by go_num, ⟨us, by rw [mvTo_length, H7.out]; exact hu1, by rw [mvTo_length, H7.out]; exact hp3, HIN.out⟩, hbm2⟩
             case measure => (simp [intOf]; try omega)
            ·obtain rfl : m = L.length := by omega
             have hPn : Pls wr V2.heap.size (.slice A8 L.length c8) (blkF (k : Int) q canvas 0 (y + -1) L) := by
              rw [H6.out]
              have := mvTo_all (-1) (blkF (k : Int) q canvas 0 y L)
              rw [H7.out] at this
              rw [← this]
              exact hPm
             clear hPm
             go_wp2_with fail
             go_roundg (moves q.b tall (y + byS q.b))
             case measure => rw [HGK.out]; exact G1.out
             case rel => exact ⟨y + byS q.b, rfl, rfl, by rw [hby], by rw [hby]; congr 1; omega, G2.out, by rw [hby]; exact hPn, hbm, by rw [hby]; omega, by rw [hby]; omega⟩
          case false =>
           have hmm : ((blkF (k : Int) q canvas 0 y L).any fun x => P.any fun y => ovl x y) = false := hm
           rw [hmm] at cM
           have HN := Lib.hid (H1.out _ (H3.out y (s2 hout hm)))
           clear s1 s2 s3 hmm hm
           go_wp2_with (first | (go_at_call 79; refine cM.mono ?_; rintro e W9 ⟨rfl, hb9⟩; have hP9 := hPw.below hb9; have hPO9 := hPO.below hb9; have hbo9 := (hb9.block _ (Array.getElem?_eq_some_iff.1 hbo2).1).trans hbo2; obtain ⟨q0, q0'⟩ := blk1 hbo9; obtain ⟨us, hu1, hu2, hu3⟩ := hP9; rw [H7.out] at hu2; obtain ⟨ps, hp1, hp2, hp3⟩ := hPO9; obtain ⟨a8, c8', e8, hc8', hcells⟩ := hu2.cell hLpos; injection e8 with e8 e9 e10; subst e8 e10) | (at_builtin; refine Go.Own.wpList_append_lies rfl _ _ 55 rfl W6.heap.size 63 i1 _ 7 72 Tryz.underlying55 hj hpz0 hpz1 hpz2 rfl (by decide) _ P.length (cells63 ps P) rfl hp2 a8 L.length c8 (cells63 us (blkF (k : Int) q canvas 0 y L)) rfl (by rw [cells63_length _ _ hu1, H7.out]) hcells (cells63_one (w := W9) hu3) ?z04 ?z05 ?z06 hLpos ?_))
           case z04 => unfold maxLen; omega
           case z05 => omega
           case z06 => exact Nat.le_trans hb6x.size hb9.size
           intro v10 W10 hL10 hg10
           obtain ⟨A10, c10, rfl, hc10⟩ := hL10.form
           have hk10 : KB [63] W9 W10 := KB.grown hg10 fun j hj => by obtain ⟨_, _, cu, hc⟩ := hp2.lt j hj; exact ⟨cu, 63, by simp, hc⟩
           have hb10 : Below W6.heap.size W6 W10 := (hb6x.trans (hb9.mono hb6x.size)).grown hg10 (Nat.le_trans hb6x.size hb9.size) (fun j hj => (hp2.lt j hj).1)
           have hboA := hk10.2 _ _ _ (by decide) hbo9
           obtain ⟨r0, r0'⟩ := blk1 hboA
           clear hg10 q0 q0' b0 b0' cM hPw hPO
           go_wp2_with fail
           go_roundg g0
           case measure => omega
           case rel =>
            have hkS : KB [55] W10 (W10.setCell ⟨W6.heap.size, 0, none⟩ (.slice A10 (P.length + L.length) c10)) := KB.set hboA (by simp) _
            have hkA : KB [63, 55] V2 (W10.setCell ⟨W6.heap.size, 0, none⟩ (.slice A10 (P.length + L.length) c10)) := (((KB.below hbx).trans (KB.below hb9)).trans (hk10.mono (by simp))).trans (hkS.mono (by simp))
            exact ⟨n + 1, P ++ blkF (k : Int) q canvas 0 y L, X, _, by omega, by go_num, HN.out, by rw [set1 hboA]; rfl, (Pls.append (w := W9) hp1 hp3 hu1 hu3 (by rw [H7.out]; exact hL10) hk10).kb hkS (by decide) (by decide), hX.kb hkA (by decide), hb10.setCell (p := ⟨W6.heap.size, 0, none⟩) (Nat.le_refl _) _, by rw [List.length_append, H7.out]; omega, fun p hp => by rcases List.mem_append.1 hp with h | h; exact HPs.out p h; exact hsm p h, by omega⟩
       ·go_wp2_with (go_at_call 78; refine cB.mono ?_; rintro e W8 ⟨v8, rfl, hP8, hb8⟩; have c0 := cell_later hb8 c0; have c1 := cell_later hb8 c1; have c2 := cell_later hb8 c2; have c3 := cell_later hb8 c3; have hmr := cell_later hb8 hmr; obtain ⟨A8, c8, e8, hc8⟩ := hP8.form; rw [H7.out] at e8 hc8; subst e8)
        clear cB c0 c1 c2 c3 hmr o1
        go_loopg [15, 19, 20] (moves q.b tall fr) (fun g vl f t wx => ∃ y : Int, g = moves q.b tall y ∧ vl = .slice AX X.length cX ∧ f = .int .i64 y ∧ t = .int .i64 (y + allH L) ∧ (∃ m, moves q.b tall y < m ∧ slideF (k : Int) q canvas tall L P m y = R) ∧ Pls wx V2.heap.size (.slice A8 L.length c8) (blkF (k : Int) q canvas 0 y L) ∧ Below V2.heap.size V2 wx ∧ -13000 ≤ y ∧ y ≤ 1001)
        case atStart => exact ⟨fr, rfl, rfl, rfl, rfl, H8.out, hP8, hb8, by omega, by omega⟩
        case round =>
         obtain ⟨y, hgk, rfl, rfl, rfl, hsl, hPw, hbx, hy1, hy2⟩ := hrel
         obtain ⟨s1, s2, s3⟩ := H4.out y hsl
         have HGK := Lib.hid hgk
         have hbo2 := (hbx.block _ (Array.getElem?_eq_some_iff.1 hbo).1).trans hbo
         have hb6x : Below W6.heap.size W6 wr := hbr.trans (hbx.mono hbr.size)
         clear hsl hP8 hb8 hgk
         by_cases hout : y < 0 ∨ tall < y + allH L
         ·have HN := Lib.hid (H1.out _ (H2.out (s1 hout)))
          have hXx := hX.kb (KB.below (ts := []) hbx) (by simp)
          have hb9 : Below wr.heap.size wr (wr.alloc (.cells #[.int .i64 k] 3)) := (Below.refl _ wr).alloc (Nat.le_refl _) _
          have hL9 := hXx.kb (KB.below (ts := []) hb9) (by simp)
          clear s1 s2 s3 hXx
          rcases Int.lt_or_le y 0 with h0 | h0
          ·have d1 : decide (y < 0) = true := decide_eq_true h0
           go_wp2_with (at_builtin; refine Go.Own.wpList_append_lies rfl _ _ 56 rfl W6.heap.size 3 i0 _ 1 8 Tryz.underlying56 hi hz0 hz1 hz2 rfl (by decide) _ X.length (X.map encN) rfl hL9 ⟨wr.heap.size, 0, none⟩ 1 1 [.int .i64 k] rfl rfl ?x1a2 ?x1a3 ?x1a4 ?x1a5 ?x1a6 (by decide) ?_)
           case x1a2 => intro j u hj; rw [add0]; exact newcell wr #[.int .i64 k] 3 j u (by simpa using hj)
           case x1a3 => intro u hu; simp only [List.mem_cons, List.mem_nil_iff, or_false] at hu; rcases hu with rfl; rfl
           case x1a4 => unfold maxLen; omega
           case x1a5 => omega
           case x1a6 => exact Nat.le_trans hb6x.size hb9.size
           intro v9 W9 hL10 hg9
           have hkb : KB [3] V2 W9 := ((KB.below hbx).trans (KB.below hb9)).trans (KB.grown hg9 fun j hj => by obtain ⟨_, _, cu, hc⟩ := hL9.lt j hj; exact ⟨cu, 3, by simp, hc⟩)
           have hb10 : Below W6.heap.size W6 W9 := (hb6x.trans (hb9.mono hb6x.size)).grown hg9 (Nat.le_trans hb6x.size hb9.size) (fun j hj => (hL9.lt j hj).1)
           clear hg9 hL9 hb9
           go_wp2
           go_roundg g0
           case measure => omega
           case rel => exact ⟨n + 1, P, X ++ [k], _, by omega, by go_num, HN.out, hkb.2 _ _ _ (by decide) hbo, hP.kb hkb (by decide) (by decide), by rw [List.length_append, List.map_append]; exact hL10, hb10, by omega, HPs.out, by simp; omega⟩
          ·have d1 : decide (y < 0) = false := decide_eq_false (by omega)
           have d2 : decide (tall < y + allH L) = true := decide_eq_true (by omega)
           go_wp2_with (at_builtin; refine Go.Own.wpList_append_lies rfl _ _ 56 rfl W6.heap.size 3 i0 _ 1 8 Tryz.underlying56 hi hz0 hz1 hz2 rfl (by decide) _ X.length (X.map encN) rfl hL9 ⟨wr.heap.size, 0, none⟩ 1 1 [.int .i64 k] rfl rfl ?x1b2 ?x1b3 ?x1b4 ?x1b5 ?x1b6 (by decide) ?_)
           case x1b2 => intro j u hj; rw [add0]; exact newcell wr #[.int .i64 k] 3 j u (by simpa using hj)
           case x1b3 => intro u hu; simp only [List.mem_cons, List.mem_nil_iff, or_false] at hu; rcases hu with rfl; rfl
           case x1b4 => unfold maxLen; omega
           case x1b5 => omega
           case x1b6 => exact Nat.le_trans hb6x.size hb9.size
           intro v9 W9 hL10 hg9
           have hkb : KB [3] V2 W9 := ((KB.below hbx).trans (KB.below hb9)).trans (KB.grown hg9 fun j hj => by obtain ⟨_, _, cu, hc⟩ := hL9.lt j hj; exact ⟨cu, 3, by simp, hc⟩)
           have hb10 : Below W6.heap.size W6 W9 := (hb6x.trans (hb9.mono hb6x.size)).grown hg9 (Nat.le_trans hb6x.size hb9.size) (fun j hj => (hL9.lt j hj).1)
           clear hg9 hL9 hb9
           go_wp2
           go_roundg g0
           case measure => omega
           case rel => exact ⟨n + 1, P, X ++ [k], _, by omega, by go_num, HN.out, hkb.2 _ _ _ (by decide) hbo, hP.kb hkb (by decide) (by decide), by rw [List.length_append, List.map_append]; exact hL10, hb10, by omega, HPs.out, by simp; omega⟩
         ·have d1 : decide (y < 0) = false := decide_eq_false (by omega)
          have d2 : decide (tall < y + allH L) = false := decide_eq_false (by omega)
          have hsm := H5.out y (by omega)
          have hPO := hP.kb (KB.below (ts := []) hbx) (by simp) (by simp)
          have cM := con80_calls (blkF (k : Int) q canvas 0 y L) A8 c8 V2.heap.size P AO cO W6.heap.size W6.heap.size wr (by rw [H7.out]; exact hPw) (by rw [H7.out]; omega) hsm hPO (by omega) HPs.out hbo2
          rw [H7.out] at cM
          obtain ⟨b0, b0'⟩ := blk1 hbo2
          cases hm : meetsS (blkF (k : Int) q canvas 0 y L) P
          case true =>
           have hmm : ((blkF (k : Int) q canvas 0 y L).any fun x => P.any fun y => ovl x y) = true := hm
           rw [hmm] at cM
           obtain ⟨g1, g2⟩ := s3 hout hm
           have G1 := Lib.hid g1
           have G2 := Lib.hid g2
           have hsm := Lib.hid hsm
           have wy1 : IntKind.i64.wrap (y + 1) = y + 1 := IntWalk.i64_in _ (by omega)
           have wy2 : IntKind.i64.wrap (y + allH L + 1) = y + allH L + 1 := IntWalk.i64_in _ (by omega)
           clear s1 s2 s3 g1 g2 hmm hm
           go_wp2_with (go_at_call 79; refine cM.mono ?_; rintro e W9 ⟨rfl, hb9⟩)
           have hP9 := hPw.below hb9
           have hbx9 : Below V2.heap.size V2 W9 := hbx.trans (hb9.mono hbx.size)
           clear hPw hb9 hPO cM b0 b0'
           go_loopw [105] (fun i wy => ∃ m : Nat, m ≤ L.length ∧ i = .int .i64 m ∧ Pls wy V2.heap.size (.slice A8 L.length c8) (mvTo (1) m (blkF (k : Int) q canvas 0 y L)) ∧ Below V2.heap.size V2 wy) (fun i _ => L.length - (intOf i).toNat)
           case atStart => exact ⟨0, by omega, rfl, by rw [mvTo_zero]; exact hP9, hbx9⟩
           case round =>
            obtain ⟨m, hm, rfl, hPm, hbm⟩ := hrel
            by_cases hml : m < L.length
            ·obtain ⟨us, hu1, hu2, hu3⟩ := hPm
             rw [mvTo_length, H7.out] at hu1 hu2
             obtain ⟨p, hp⟩ : ∃ p, (blkF (k : Int) q canvas 0 y L)[m]? = some p := ⟨_, List.getElem?_eq_getElem (by rw [H7.out]; exact hml)⟩
             have hpm := mvTo_get (d := 1) hp
             have hset := mvTo_set (d := 1) hp
             have hsp := hsm.out p (List.mem_of_getElem? hp)
             obtain ⟨u, hu⟩ : ∃ u, us[m]? = some u := ⟨_, List.getElem?_eq_getElem (by omega)⟩
             obtain ⟨g, off, c9, e9, hc9, hg1, hg2, hg3, hfz, hcl, hput⟩ := hu2.put (by omega)
             injection e9 with e10 e11 e12
             subst e10 e12
             have hcl3 := hcl (m * 7 + 3) (.int .i64 p.y) ((cells63_get hu hpm (by omega)).trans rfl)
             have hfz3 := hfz (off + m * 7 + 3)
             have hp3 := hput (m * 7 + 3) (.int .i64 (p.y + 1)) (by omega)
             rw [cells63_y _ (by rw [mvTo_length, H7.out]; exact hu1) hpm, hset] at hp3
             have eo : off + (m * 7 + 3) = off + m * 7 + 3 := by omega
             rw [eo] at hcl3 hp3
             have hps := set_ps (y := p.y + 1) hpm
             rw [hset] at hps
             have hkp : KB [63] wr (wr.setCell ⟨g, off + m * 7 + 3, none⟩ (.int .i64 (p.y + 1))) := by obtain ⟨cur, hcur⟩ := hg3; exact KB.set hcur (by simp) _
             have hin : ∀ (i : Nat) (u : Value) (p' : Pl), us[i]? = some u → (mvTo (1) (m + 1) (blkF (k : Int) q canvas 0 y L))[i]? = some p' → In42 (wr.setCell ⟨g, off + m * 7 + 3, none⟩ (.int .i64 (p.y + 1))) u p'.ps := by
              intro i u p' h1 h2
              obtain ⟨r, hr1, hr2⟩ := hps i p' h2
              rw [← hr2]
              exact (hu3 i u r h1 hr1).kb hkp (by decide)
             have hbm2 : Below V2.heap.size V2 (wr.setCell ⟨g, off + m * 7 + 3, none⟩ (.int .i64 (p.y + 1))) := hbm.setCell (p := ⟨g, _, none⟩) hg1 _
             have HIN := Lib.hid hin
             have wp1 : IntKind.i64.wrap (p.y + 1) = p.y + 1 := IntWalk.i64_in _ (by have := hsp.2.1; omega)
             have wm1 : IntKind.i64.wrap ((m : Int) + 1) = (m : Int) + 1 := IntWalk.i64_in _ (by omega)
             clear hset hps hin hput hcl hfz hpm hp hu hu3 hsp hkp
             go_wp2_with fail
             go_roundw
             case rel => exact ⟨m + 1, by omega, by go_num, ⟨us, by rw [mvTo_length, H7.out]; exact hu1, by rw [mvTo_length, H7.out]; exact hp3, HIN.out⟩, hbm2⟩
             case measure => (simp [intOf]; try omega)
            ·obtain rfl : m = L.length := by omega
             have hPn : Pls wr V2.heap.size (.slice A8 L.length c8) (blkF (k : Int) q canvas 0 (y + 1) L) := by
              rw [H6.out]
              have := mvTo_all (1) (blkF (k : Int) q canvas 0 y L)
              rw [H7.out] at this
              rw [← this]
              exact hPm
             clear hPm
             go_wp2_with fail
             go_roundg (moves q.b tall (y + byS q.b))
             case measure => rw [HGK.out]; exact G1.out
             case rel => exact ⟨y + byS q.b, rfl, rfl, by rw [hby], by rw [hby]; congr 1; omega, G2.out, by rw [hby]; exact hPn, hbm, by rw [hby]; omega, by rw [hby]; omega⟩
          case false =>
           have hmm : ((blkF (k : Int) q canvas 0 y L).any fun x => P.any fun y => ovl x y) = false := hm
           rw [hmm] at cM
           have HN := Lib.hid (H1.out _ (H3.out y (s2 hout hm)))
           clear s1 s2 s3 hmm hm
           go_wp2_with (first | (go_at_call 79; refine cM.mono ?_; rintro e W9 ⟨rfl, hb9⟩; have hP9 := hPw.below hb9; have hPO9 := hPO.below hb9; have hbo9 := (hb9.block _ (Array.getElem?_eq_some_iff.1 hbo2).1).trans hbo2; obtain ⟨q0, q0'⟩ := blk1 hbo9; obtain ⟨us, hu1, hu2, hu3⟩ := hP9; rw [H7.out] at hu2; obtain ⟨ps, hp1, hp2, hp3⟩ := hPO9; obtain ⟨a8, c8', e8, hc8', hcells⟩ := hu2.cell hLpos; injection e8 with e8 e9 e10; subst e8 e10) | (at_builtin; refine Go.Own.wpList_append_lies rfl _ _ 55 rfl W6.heap.size 63 i1 _ 7 72 Tryz.underlying55 hj hpz0 hpz1 hpz2 rfl (by decide) _ P.length (cells63 ps P) rfl hp2 a8 L.length c8 (cells63 us (blkF (k : Int) q canvas 0 y L)) rfl (by rw [cells63_length _ _ hu1, H7.out]) hcells (cells63_one (w := W9) hu3) ?z14 ?z15 ?z16 hLpos ?_))
           case z14 => unfold maxLen; omega
           case z15 => omega
           case z16 => exact Nat.le_trans hb6x.size hb9.size
           intro v10 W10 hL10 hg10
           obtain ⟨A10, c10, rfl, hc10⟩ := hL10.form
           have hk10 : KB [63] W9 W10 := KB.grown hg10 fun j hj => by obtain ⟨_, _, cu, hc⟩ := hp2.lt j hj; exact ⟨cu, 63, by simp, hc⟩
           have hb10 : Below W6.heap.size W6 W10 := (hb6x.trans (hb9.mono hb6x.size)).grown hg10 (Nat.le_trans hb6x.size hb9.size) (fun j hj => (hp2.lt j hj).1)
           have hboA := hk10.2 _ _ _ (by decide) hbo9
           obtain ⟨r0, r0'⟩ := blk1 hboA
           clear hg10 q0 q0' b0 b0' cM hPw hPO
           go_wp2_with fail
           go_roundg g0
           case measure => omega
           case rel =>
            have hkS : KB [55] W10 (W10.setCell ⟨W6.heap.size, 0, none⟩ (.slice A10 (P.length + L.length) c10)) := KB.set hboA (by simp) _
            have hkA : KB [63, 55] V2 (W10.setCell ⟨W6.heap.size, 0, none⟩ (.slice A10 (P.length + L.length) c10)) := (((KB.below hbx).trans (KB.below hb9)).trans (hk10.mono (by simp))).trans (hkS.mono (by simp))
            exact ⟨n + 1, P ++ blkF (k : Int) q canvas 0 y L, X, _, by omega, by go_num, HN.out, by rw [set1 hboA]; rfl, (Pls.append (w := W9) hp1 hp3 hu1 hu3 (by rw [H7.out]; exact hL10) hk10).kb hkS (by decide) (by decide), hX.kb hkA (by decide), hb10.setCell (p := ⟨W6.heap.size, 0, none⟩) (Nat.le_refl _) _, by rw [List.length_append, H7.out]; omega, fun p hp => by rcases List.mem_append.1 hp with h | h; exact HPs.out p h; exact hsm p h, by omega⟩
end Go.Proofs.YtogidacejbjljaaGreatDoor.PTextChecks
end
section
/- TextChecks' own function (7), by hand. -/
set_option linter.unusedVariables false
set_option linter.unusedSimpArgs false
namespace Go.Proofs.YtogidacejbjljaaGreatDoor.PTextChecks
open Go.RowKit Go.Mix Go.Proofs.YtogidacejbjljaaGreatDoorW.PrintWords Go.Proofs.YtogidacejbjljaaGreatDoorW.PrintLast Go.Proofs.YtogidacejbjljaaGreatDoorW.PrintMore
theorem eqp_self {l : List S42} (hl : l.length ≤ 140737488351232) : ∀ (d i k : Nat), i + d = l.length → d < k → r18_EqPieces.l0 k l l (i : Int) = some true := by
 intro d
 induction d with
 | zero =>
  intro i k hi hk
  obtain ⟨k, rfl⟩ : ∃ m, k = m + 1 := ⟨k - 1, by omega⟩
  unfold r18_EqPieces.l0
  rw [if_neg (by omega)]
 | succ d ih =>
  intro i k hi hk
  obtain ⟨k, rfl⟩ : ∃ m, k = m + 1 := ⟨k - 1, by omega⟩
  have hlt : i < l.length := by omega
  unfold r18_EqPieces.l0
  rw [if_pos (by omega), if_pos (by omega), if_pos (by omega), if_neg (by simp), wsucc hlt (by omega)]
  exact ih (i + 1) k (by omega) (by omega)
theorem same_self (a b c : Int) {l : List S42} (hl : l.length ≤ 140737488351232) : r18_Same.f (l.length + 1) a b c l a b c l = some true := by
 unfold r18_Same.f r18_EqPieces.f
 rw [if_pos rfl, if_pos rfl, if_pos rfl, if_pos rfl]
 rw [show (0 : Int) = ((0 : Nat) : Int) from rfl, eqp_self hl l.length 0 _ (by omega) (by omega)]
 rfl
theorem wordsLen_le {l : List S42} {B : Nat} : (∀ p ∈ l, p.f0.size ≤ B) → wordsLen l ≤ l.length * B := by
 induction l with
 | nil => intro _; simp [wordsLen]
 | cons p l ih =>
  intro h
  have h1 := h p (List.mem_cons_self ..)
  have h2 := ih fun q hq => h q (List.mem_cons_of_mem _ hq)
  simp only [wordsLen, List.map_cons, List.sum_cons, List.length_cons] at h2 ⊢
  rw [Nat.succ_mul]
  omega
def longB (l : List S42) : Bool := decide (400 < l.length) || decide (10000 < wordsLen l)
theorem long_run {l : List S42} (h : ∀ p ∈ l, p.f0.size ≤ 140737488351232) (a b c : Int) : w18_long.f (l.length + 1) a b c l = some (longB l) := by
 unfold w18_long.f longB
 by_cases hl : (l.length : Int) > 400
 ·rw [if_pos hl, decide_eq_true (by omega)]; rfl
 ·have h1 := wordsLen_le h
  have h2 : l.length * 140737488351232 ≤ 400 * 140737488351232 := Nat.mul_le_mul (by omega) (Nat.le_refl _)
  rw [if_neg hl, rWords_big (by omega) (by omega) a b c _ (by omega), decide_eq_false (p := 400 < l.length) (by omega)]
  simp only [Option.bind_some, wordsOf_size, Bool.false_or]
  congr 1
  rw [Bool.eq_iff_iff, decide_eq_true_iff, decide_eq_true_iff]
  omega
theorem Ext.at {W : World} (x : Ext W) {a : Addr} {v : Value} (h : W.cell? a = some v) : x.w.cell? a = some v := cell_later x.2 h
def LRel (w1 : World) (wr : World) : Prop := Below w1.heap.size w1 wr
end Go.Proofs.YtogidacejbjljaaGreatDoor.PTextChecks
end
section
/- What the layout's laws call besides: longAll, EqInts, HasInt, EqPlaced. -/
set_option linter.unusedVariables false
set_option linter.unusedSimpArgs false
namespace Go.Proofs.YtogidacejbjljaaGreatDoor.PTextChecks
open Go.RowKit Go.Mix Go.Own Go.Sort Go.Proofs.YtogidacejbjljaaGreatDoorW.PrintWords Go.Proofs.YtogidacejbjljaaGreatDoorW.PrintLast Go.Proofs.YtogidacejbjljaaGreatDoorW.PrintMore
def totL (C : List Cu) : Nat := (C.map fun q => wordsLen q.l).sum
def longAllB (C : List Cu) : Bool := C.any (fun q => longB q.l) || (decide (50 < C.length) || decide (400 < totL C))
theorem totL_take_succ {C : List Cu} {n : Nat} {q : Cu} (h : C[n]? = some q) : totL (C.take (n + 1)) = totL (C.take n) + wordsLen q.l := by
 obtain ⟨hn, he⟩ := List.getElem?_eq_some_iff.1 h
 unfold totL
 rw [List.take_succ_eq_append_getElem hn, List.map_append, List.sum_append, he]
 simp
theorem wl_in_tot {C : List Cu} {q : Cu} (h : q ∈ C) : wordsLen q.l ≤ totL C := by
 induction C with
 | nil => simp at h
 | cons p C ih =>
  simp only [totL, List.map_cons, List.sum_cons] at ih ⊢
  rcases List.mem_cons.1 h with rfl | h
  ·omega
  ·have := ih h; omega
theorem longAll_fit {C : List Cu} (h : longAllB C = false) : C.length ≤ 50 ∧ totL C ≤ 400 ∧ ∀ q ∈ C, Fit q.l ∧ q.l.length ≤ 400 ∧ wordsLen q.l ≤ 400 := by
 unfold longAllB at h
 rw [Bool.or_eq_false_iff, Bool.or_eq_false_iff, decide_eq_false_iff_not, decide_eq_false_iff_not] at h
 obtain ⟨h1, h2, h3⟩ := h
 refine ⟨by omega, by omega, fun q hq => ?_⟩
 have h4 : longB q.l = false := by
  rw [List.any_eq_false] at h1
  simpa using h1 q hq
 unfold longB at h4
 rw [Bool.or_eq_false_iff, decide_eq_false_iff_not, decide_eq_false_iff_not] at h4
 have := wl_in_tot hq
 exact ⟨⟨by omega, by omega⟩, by omega, by omega⟩
set_option maxHeartbeats 2000000 in
set_option maxRecDepth 100000 in
theorem longAll_calls (C : List Cu) (A : Option Addr) (cap : Nat) (w : World) (hA : CuesIn w A C) (hC : C.length ≤ 140737488351232) (hs : ∀ q ∈ C, ∀ p ∈ q.l, p.f0.size ≤ 140737488351232) :
  Calls Tryz.prog 38 #[.slice A C.length cap] w fun e w' => e = .returned (.bool (longAllB C)) ∧ Below w.heap.size w w' := by
 go_enter Tryz.func38, Tryz.ntmps38
 go_wp2
 go_loopw [3, 4] (fun s i wr => ∃ n : Nat, n ≤ C.length ∧ s = .int .i64 (totL (C.take n)) ∧ i = .int .i64 n ∧ (C.take n).any (fun q => longB q.l) = false ∧ totL (C.take n) ≤ 10000 * n ∧ Below w.heap.size w wr) (fun _ i _ => C.length - (intOf i).toNat)
 case atStart => exact ⟨0, by omega, rfl, rfl, rfl, by simp [totL], Below.refl _ _⟩
 case round =>
  obtain ⟨n, hn, rfl, rfl, hno, htot, hbr⟩ := hrel
  by_cases hlt : n < C.length
  ·obtain ⟨q, hq⟩ : ∃ q, C[n]? = some q := ⟨_, List.getElem?_eq_getElem hlt⟩
   obtain ⟨ad, Ap, cp, rfl, c0, c1, c2, c3, hcp, hK⟩ := (hA.below hbr) n q hq
   have hqm := List.mem_of_getElem? hq
   have cL := fun X (h : Kd.C k42 X Ap q.l.length q.l) => w18_long.calls (q.l.length + 1) q.a q.b q.c Ap cp q.l (longB q.l) X h hcp (long_run (hs q hqm) q.a q.b q.c)
   have hts := any_take_succ (fun q : Cu => longB q.l) C n q hq
   rw [hno, Bool.false_or] at hts
   try simp only at hts
   have hat := any_at (fun q : Cu => longB q.l) C n q hq
   try simp only at hat
   have hsu := totL_take_succ hq
   generalize totL (C.take n) = tt at hsu htot ⊢
   have wr1 : IntKind.i64.wrap ((n : Int) + 1) = (n : Int) + 1 := IntWalk.i64_in _ (by omega)
   have HT := Lib.hid hts
   have HA := Lib.hid hat
   have HS := Lib.hid hsu
   clear hts hat hsu hno
   cases hlg : longB q.l
   case true =>
    rw [hlg] at cL
    have HF : longAllB C = true := by unfold longAllB; rw [HA.out hlg]; rfl
    have HF := Lib.hid HF
    go_wp2_with (go_at_call 17; refine (cL _ hK).mono ?_; rintro e W ⟨rfl, hbW⟩)
    go_ret
    exact ⟨by rw [HF.out]; rfl, hbr.trans (hbW.mono hbr.size)⟩
   case false =>
    rw [hlg] at cL
    have hlg' := hlg
    unfold longB at hlg'
    rw [Bool.or_eq_false_iff, decide_eq_false_iff_not, decide_eq_false_iff_not] at hlg'
    have cW := fun X h => rWords_calls q.a q.b q.c Ap cp q.l X h hcp ⟨by omega, by omega⟩
    have hwz := wordsOf_size q.l
    generalize wordsOf q.l = ws at cW hwz
    have wr2 : IntKind.i64.wrap ((tt : Int) + (ws.size : Int)) = (tt : Int) + (ws.size : Int) := IntWalk.i64_in _ (by omega)
    have HZ := Lib.hid hwz
    have hwl : wordsLen q.l ≤ 10000 := by omega
    clear hwz
    go_wp2_with (first | (go_at_call 17; refine (cL _ hK).mono ?_; rintro e W ⟨rfl, hbW⟩; have hKW := Kd.C_below hK hbW; have c0 := cell_later hbW c0; have c1 := cell_later hbW c1; have c2 := cell_later hbW c2; have c3 := cell_later hbW c3) | (go_at_call 30; refine (cW _ hKW).mono ?_; rintro e W2 ⟨rfl, hb2⟩))
    go_roundw
    case rel => exact ⟨n + 1, by omega, by rw [HS.out, ← HZ.out]; simp, by go_num, by rw [HT.out]; exact hlg, by rw [HS.out]; omega, hbr.trans ((hbW.trans (hb2.mono hbW.size)).mono hbr.size)⟩
    case measure => (simp [intOf]; try omega)
  ·obtain rfl : n = C.length := by omega
   rw [List.take_length] at hno ⊢
   have hF : longAllB C = (decide (50 < C.length) || decide (400 < totL C)) := by unfold longAllB; rw [hno, Bool.false_or]
   have HF := Lib.hid hF
   clear hF hno
   generalize totL C = tt at htot HF ⊢
   cases h5 : decide ((50 : Int) < (C.length : Int))
   case true =>
    have h5' : decide (50 < C.length) = true := decide_eq_true (by have := of_decide_eq_true h5; omega)
    have HF2 := Lib.hid h5'
    clear h5'
    go_wp2
    go_ret
    exact ⟨by rw [HF.out, HF2.out]; rfl, hbr⟩
   case false =>
    have h5' : decide (50 < C.length) = false := decide_eq_false (by have := of_decide_eq_false h5; omega)
    have HF2 := Lib.hid h5'
    clear h5'
    go_wp2
    go_ret
    refine ⟨?_, hbr⟩
    rw [HF.out, HF2.out]
    simp
    try omega
theorem at_ints {w : World} {base : Nat} {A : Option Addr} {c : Nat} {L : List Nat} (h : Lies w base 3 1 (.slice A L.length c) L.length (L.map encN)) (k : Nat) (hk : k < L.length) : ∃ ad x, A = some ad ∧ L[k]? = some x ∧ w.cell? (ad.add k) = some (.int .i64 (x : Nat)) := by
 obtain ⟨ad, rfl, hc⟩ := h.at (by omega)
 refine ⟨ad, L[k], rfl, List.getElem?_eq_getElem hk, (hc k 0 _ ?_).1 rfl⟩
 rw [Nat.add_zero, List.getElem?_map, List.getElem?_eq_getElem hk]
 rfl
set_option maxHeartbeats 1000000 in
set_option maxRecDepth 100000 in
theorem eqInts_calls (L : List Nat) (A B : Option Addr) (ca cb b1 b2 : Nat) (w : World) (hL : L.length ≤ 1000000) (h1 : Lies w b1 3 1 (.slice A L.length ca) L.length (L.map encN)) (h2 : Lies w b2 3 1 (.slice B L.length cb) L.length (L.map encN)) :
  Calls Tryz.prog 42 #[.slice A L.length ca, .slice B L.length cb] w fun e w' => e = .returned (.bool true) ∧ Below w.heap.size w w' := by
 go_enter Tryz.func42, Tryz.ntmps42
 go_wp2
 go_loopw [5] (fun i wr => ∃ n : Nat, n ≤ L.length ∧ i = .int .i64 n ∧ Below w.heap.size w wr) (fun i _ => L.length - (intOf i).toNat)
 case atStart => exact ⟨0, by omega, rfl, Below.refl _ _⟩
 case round =>
  obtain ⟨n, hn, rfl, hbr⟩ := hrel
  by_cases hlt : n < L.length
  ·obtain ⟨ad, x, rfl, hx, d1⟩ := at_ints (h1.kb (KB.below (ts := []) hbr) (by simp)) n hlt
   obtain ⟨be, y, rfl, hy, d2⟩ := at_ints (h2.kb (KB.below (ts := []) hbr) (by simp)) n hlt
   rw [hx] at hy
   injection hy with hy
   subst hy
   have wr1 : IntKind.i64.wrap ((n : Int) + 1) = (n : Int) + 1 := IntWalk.i64_in _ (by omega)
   have x1 : (0 : Int) ≤ (n : Int) := by omega
   have x2 : (n : Int) < (L.length : Int) := by omega
   clear hx
   go_wp2_with fail
   go_quiet (fail)
   go_wp2
   go_roundw
   case rel => exact ⟨n + 1, by omega, by go_num, bdrewN hbr _⟩
   case measure => (simp [intOf]; try omega)
  ·obtain rfl : n = L.length := by omega
   go_wp2
   go_ret
   exact ⟨rfl, hbr⟩
end Go.Proofs.YtogidacejbjljaaGreatDoor.PTextChecks
end
section
/- TextApart's own function (11). -/
set_option linter.unusedVariables false
set_option linter.unusedSimpArgs false
namespace Go.Proofs.YtogidacejbjljaaGreatDoor.PTextChecks
open Go.RowKit Go.Mix Go.Own Go.Sort Go.Proofs.YtogidacejbjljaaGreatDoorW.PrintWords Go.Proofs.YtogidacejbjljaaGreatDoorW.PrintLast Go.Proofs.YtogidacejbjljaaGreatDoorW.PrintMore
theorem lay_ok {C : List Cu} {canvas tall : Int} (h : layE C canvas tall = 0) : (1 ≤ canvas ∧ canvas ≤ 1000) ∧ (1 ≤ tall ∧ tall ≤ 1000) ∧ C.length ≤ 8 ∧ ∀ q ∈ C, brkE q.a q.b q.c q.l canvas = 0 := by
 unfold layE at h
 split at h
 ·rename_i hg
  rw [Bool.and_eq_true] at hg
  split at h
  ·omega
  ·exact ⟨inB_true hg.1, inB_true hg.2, by omega, firstE_ok h⟩
 ·omega
end Go.Proofs.YtogidacejbjljaaGreatDoor.PTextChecks
end
section
/- The block of a cue's lines: the reference's. -/
set_option linter.unusedVariables false
set_option linter.unusedSimpArgs false
namespace Go.Own
end Go.Own
namespace Go.Proofs.YtogidacejbjljaaGreatDoor.PTextChecks
open Go.RowKit Go.Mix Go.Own Go.Proofs.YtogidacejbjljaaGreatDoorW.PrintWords Go.Proofs.YtogidacejbjljaaGreatDoorW.PrintLast Go.Proofs.YtogidacejbjljaaGreatDoorW.PrintMore
end Go.Proofs.YtogidacejbjljaaGreatDoor.PTextChecks
end
section
/- Regions that draw their order, where two operations that touch memory may come in either order. -/
set_option linter.unusedVariables false
set_option linter.unusedSimpArgs false
namespace Go.Mix
/-- The orders to be walked: 'both': either of two operations may come up, and no other. -/
inductive Tr where
 | done
 | step (i : Nat) (t : Tr)
 | both (i j : Nat) (s t : Tr)
def Tr.len : Tr → Nat
 | .done => 0
 | .step _ t => t.len + 1
 | .both _ _ s _ => s.len + 1
def trOk (md : Region.Mode) (ops : Array Oper) (el : List Nat) (F : Nat) : Tr → Array Bool → Bool
 | .done, listed => (Region.ready md ops listed).isEmpty
 | .step i t, listed => (Region.ready md ops listed).contains i && (Region.free md ops listed i && ((!el.contains i || el.all fun j => j == i || (listed.getD j true || waitB md ops i F j)) && trOk md ops el F t (listed.setIfInBounds i true)))
 | .both i j s t, listed => decide (Region.ready md ops listed = [i, j]) && (s.len == t.len && (trOk md ops el F s (listed.setIfInBounds i true) && trOk md ops el F t (listed.setIfInBounds j true)))
section
variable {P : Program} {ops : Array Oper} {md : Region.Mode} {C : World → Prop} {E : Nat → Bool} {Q : Act → World → Prop} {L : Nat}
def wpTr (P : Program) (ops : Array Oper) (C : World → Prop) (E : Nat → Bool) (Q : Act → World → Prop) : Tr → Act → World → Prop
 | .done, a, w => Q a w
 | .step i t, a, w => mOp P ops C E i (wpTr P ops C E Q t) a w
 | .both i j s t, a, w => mOp P ops C E i (wpTr P ops C E Q s) a w ∧ mOp P ops C E j (wpTr P ops C E Q t) a w
theorem mOp_step {i : Nat} {o : Oper} {K : Act → World → Prop} {a : Act} {w : World} (ho : ops[i]? = some o) : mOp P ops C E i K a w = mStep P ops C (E i) o K a w := by
 unfold mOp
 rw [ho]
theorem tr_any {el : List Nat} {F : Nat} (hs : Region.noSelect ops = true) (hEl : ∀ i, E i = true → i ∈ el) (hL : ops.size ≤ L) : ∀ (t : Tr) (listed : Array Bool) (a : Act) (w : World), C w → Closed md ops listed → trOk md ops el F t listed = true → wpTr P ops C E Q t a w → wpAnyM P md ops C E Q L t.len listed a w := by
 intro t
 induction t with
 | done =>
  intro listed a w hC hcl hB h
  simp only [trOk, List.isEmpty_iff] at hB
  show wpAnyM P md ops C E Q L 0 listed a w
  refine And.intro (fun j hj => ?_) h
  rw [hB] at hj
  cases hj
 | step i t ih =>
  intro listed a w hC hcl hB h
  simp only [trOk, Bool.and_eq_true] at hB
  obtain ⟨hr, hf, he, hB'⟩ := hB
  have hr' : i ∈ Region.ready md ops listed := by simpa using hr
  obtain ⟨_, o, h0, _⟩ := mem_ready.1 hr'
  have hiL : i ≠ L := by have := (Array.getElem?_eq_some_iff.1 h0).1; omega
  have ih' := fun a' w' hC' h' => ih (listed.setIfInBounds i true) a' w' hC' (hcl.set hr') hB' h'
  show wpAnyM P md ops C E Q L (t.len + 1) listed a w
  simp only [wpTr] at h
  rw [mOp_step h0] at h
  unfold mStep at h
  by_cases hw : Region.wanted o (yielded ops a.tmps) = true
  ·rw [if_pos hw] at h
   cases hE : E i with
   | true =>
    rw [hE] at h
    simp only [if_true] at h
    refine first_eff hiL h0 hE (Region.noSelect_spec hs) t.len listed a w hC hw hcl ?_ (Region.free_spec h0 hf) hr' (eff_mono (fun v w' hv => ⟨hv.1, ih' _ _ hv.1 hv.2⟩) h)
    intro j hji hun hj
    have hii : el.contains i = true := by simpa using hEl i hE
    rw [hii, Bool.not_true, Bool.false_or, List.all_eq_true] at he
    have := he j (hEl j hj)
    simp only [Bool.or_eq_true, beq_iff_eq] at this
    rcases this with h1 | h1 | h1
    ·exact absurd h1 hji
    ·rw [hun] at h1; cases h1
    ·exact fun listed' hc hu o' ho' => waits_step' hc hu F j o' ho' h1
   | false =>
    rw [hE] at h
    simp only [Bool.false_eq_true, if_false] at h
    obtain ⟨v, hv, hn⟩ := h
    exact first_pure hiL h0 (Region.noSelect_spec hs) t.len listed a w hC (fun _ => hE) (Region.free_spec h0 hf) hr' (.inl ⟨hw, hv⟩) (ih' _ _ hC hn)
  ·rw [if_neg hw] at h
   exact first_pure hiL h0 (Region.noSelect_spec hs) t.len listed a w hC (fun h' => absurd h' hw) (Region.free_spec h0 hf) hr' (.inr ⟨by simpa using hw, rfl⟩) (ih' _ _ hC h)
 | both i j s t ihs iht =>
  intro listed a w hC hcl hB h
  simp only [trOk, Bool.and_eq_true, beq_iff_eq, decide_eq_true_eq] at hB
  obtain ⟨hr, hlen, hB1, hB2⟩ := hB
  have hri : i ∈ Region.ready md ops listed := by rw [hr]; simp
  have hrj : j ∈ Region.ready md ops listed := by rw [hr]; simp
  obtain ⟨h1, h2⟩ := h
  show wpAnyM P md ops C E Q L (s.len + 1) listed a w
  refine And.intro (fun ho => ?_) (fun k hk hkL => ?_)
  ·obtain ⟨_, o, h0, _⟩ := mem_ready.1 hri
   have := (Array.getElem?_eq_some_iff.1 h0).1
   have := ho i hri
   omega
  ·rw [hr] at hk
   simp only [List.mem_cons, List.mem_nil_iff, or_false] at hk
   rcases hk with rfl | rfl
   ·obtain ⟨_, o, h0, _⟩ := mem_ready.1 hri
    rw [mOp_step h0] at h1 ⊢
    exact mStep_mono hC (fun a' w' hC' h' => ihs _ a' w' hC' (hcl.set hri) hB1 h') h1
   ·obtain ⟨_, o, h0, _⟩ := mem_ready.1 hrj
    rw [mOp_step h0] at h2 ⊢
    refine mStep_mono hC (fun a' w' hC' h' => ?_) h2
    have := iht _ a' w' hC' (hcl.set hrj) hB2 h'
    rw [hlen]
    exact this
theorem wp_region_tr {id : Nat} {Q' : Exit → Act → World → Prop} {a : Act} {w : World} {l : List Oper} (el : List Nat) (F : Nat) (t : Tr) (hm : P.follows .mixedOrders = true) (hs : Region.noSelect l.toArray = true)
  (ht : trOk .any l.toArray el F t (Array.replicate l.toArray.size false) = true) (hl : t.len = l.length) (hC : C w.drew) (h : wpTr P l.toArray C (fun i => el.contains i) (fun a w => C w → Q' .normal a w) t a w.drew) : (Code.region id l.toArray true).wp P Q' a w := by
 refine wp_region_any hm (wpAny_of_M (C := C) (E := fun i => el.contains i) (Q := fun a w => C w → Q' .normal a w) (L := l.length) (by simp) (fun _ w' hw' h => h hw') _ _ _ _ hC ?_)
 have := tr_any (P := P) (C := C) (E := fun i => el.contains i) (Q := fun a w => C w → Q' .normal a w) (L := l.length) (md := .any) (el := el) (F := F) hs (fun i hi => by simpa using hi) (by simp) t _ a w.drew hC (closed_none _) ht h
 rw [hl] at this
 simpa using this
theorem tr_pure {i : Nat} {o : Oper} {t : Tr} {a : Act} {w : World} (ho : ops[i]? = some o) (hb : E i = false)
  (h : ∀ K : Act → World → Prop, (∀ a w, wpTr P ops C E Q t a w → K a w) →
   if Region.wanted o (yielded ops a.tmps) then ∃ v, (∀ w', C w' → (execOp a.eval o).run P w' = .ok (.value v) w') ∧ K (a.put o.dst v) w else K (a.put o.dst undef) w) : wpTr P ops C E Q (.step i t) a w := by
 have := h (wpTr P ops C E Q t) (fun _ _ h => h)
 unfold wpTr
 rw [mOp_step ho]
 unfold mStep
 rw [hb]
 simpa using this
theorem tr_step {i : Nat} {t : Tr} {a : Act} {w : World} (h : mOp P ops C E i (wpTr P ops C E Q t) a w) : wpTr P ops C E Q (.step i t) a w := h
theorem tr_both {i j : Nat} {s t : Tr} {a : Act} {w : World} (h1 : mOp P ops C E i (wpTr P ops C E Q s) a w) (h2 : mOp P ops C E j (wpTr P ops C E Q t) a w) : wpTr P ops C E Q (.both i j s t) a w := ⟨h1, h2⟩
theorem mOp_eff {i : Nat} {o : Oper} {J : Act → World → Prop} {a : Act} {w : World} (ho : ops[i]? = some o) (hb : E i = true)
  (h : ∀ K : Act → World → Prop, (∀ a w, J a w → K a w) →
   if Region.wanted o (yielded ops a.tmps) then effUpon P (fun v w' => C w' ∧ K (a.put o.dst v) w') ((execOp a.eval o).run P w) else K (a.put o.dst undef) w) : mOp P ops C E i J a w := by
 have := h J (fun _ _ h => h)
 rw [mOp_step ho]
 unfold mStep
 rw [hb]
 simpa [eff] using this
end
end Go.Mix
namespace Go.Own
open Go.Mix
variable {P : Program} {ops : Array Oper} {C : World → Prop} {E : Nat → Bool} {Q : Act → World → Prop}
theorem mOp_append {k : Nat} {o : Oper} {J : Act → World → Prop} {a : Act} {w : World} (hk : ops[k]? = some o) (hb : E k = true) (hgd : o.guard = none) (s x : Operand) (t : TypeId)
  (ho : o.op = .call { callee := .builtin .append, args := #[s, x], argTypes := #[t, t] })
  (base : Nat) (e : TypeId) (i : TypeInfo) (z : Value) (size bytes : Nat) (ht : P.underlying t = some (.slice e)) (hi : P.info? e = some i) (hz : i.zero = some z)
  (hsize : i.size = size) (hby : i.bytes = bytes) (hzs : z.cells.size = size) (hsz : 0 < size)
  (v : Value) (n : Nat) (xs : List Value) (hs : a.eval s = v) (hown : Lies w base e size v n xs)
  (ad : Addr) (m c : Nat) (news : List Value) (hx : a.eval x = .slice (some ad) m c) (hl : news.length = m * size) (hnews : ∀ j u, news[j]? = some u → w.cell? (ad.add j) = some u) (h1 : ∀ u ∈ news, u.oneCell' = true)
  (h63 : n + m ≤ maxLen) (hbytes : (n + m) * bytes ≤ 140737488355328) (hbase : base ≤ w.heap.size) (hm : 0 < m)
  (h : ∀ v' w', Lies w' base e size v' (n + m) (xs ++ news) → w.grownBy w' v.ownBlock → C w' ∧ J (a.put o.dst v') w') : mOp P ops C E k J a w := by
 obtain ⟨v', w', hr, h2, h3⟩ := run_append (P := P) w base t o.type e i z size bytes ht hi hz hsize hby hzs hsz v n xs hown ad m c news hl hnews h1 h63 hbytes hbase hm
 refine mOp_eff hk hb (fun K hK => ?_)
 have hrun : (execOp a.eval o).run P w = .ok (.value v') w' := by
  unfold execOp
  simp only [ho, resolve, invoke, builtin, Sem.run_bind, Sem.run_pure, Result.andThen_ok, List.map_toArray, List.map_cons, List.map_nil, hs, hx, hr]
 simp only [Region.wanted, hgd, if_true]
 rw [hrun, effUpon_value]
 exact ⟨(h v' w' h2 h3).1, hK _ _ (h v' w' h2 h3).2⟩
end Go.Own
end
section
/- Rows of cues that a call makes; the first part of a row. -/
set_option linter.unusedVariables false
set_option linter.unusedSimpArgs false
namespace Go.Own
theorem run_append_zero {P : Program} (w : World) (t ty e : TypeId) (i : TypeInfo) (ht : P.underlying t = some (.slice e)) (hi : P.info? e = some i) (A : Option Addr) (c : Nat) :
  (Builtin.append_ #[t, t] ty #[.slice none 0 0, .slice A 0 c]).run P w = .ok (.slice none 0 0) w := by
 cases A with
 | none => simp [Builtin.append_, run_underlying ht, Go.sizeOf, typeInfo, hi, Builtin.lenOf, Builtin.firstCells]
 | some a =>
  have hf := run_firstCells_some (P := P) w i.size 0 a 0 c [] (by simp) (fun j u h => by simp at h)
  simp [Builtin.append_, run_underlying ht, Go.sizeOf, typeInfo, hi, Builtin.lenOf, hf]
theorem mOp_append_zero {P : Program} {ops : Array Oper} {C : World → Prop} {E : Nat → Bool} {k : Nat} {o : Oper} {J : Act → World → Prop} {a : Act} {w : World} (hk : ops[k]? = some o) (hb : E k = true) (hgd : o.guard = none) (s x : Operand) (t : TypeId)
  (ho : o.op = .call { callee := .builtin .append, args := #[s, x], argTypes := #[t, t] }) (e : TypeId) (i : TypeInfo) (ht : P.underlying t = some (.slice e)) (hi : P.info? e = some i)
  (A : Option Addr) (c : Nat) (hs : a.eval s = .slice none 0 0) (hx : a.eval x = .slice A 0 c) (h : C w ∧ J (a.put o.dst (.slice none 0 0)) w) : Go.Mix.mOp P ops C E k J a w := by
 have hr := run_append_zero (P := P) w t o.type e i ht hi A c
 refine Go.Mix.mOp_eff hk hb (fun K hK => ?_)
 have hrun : (execOp a.eval o).run P w = .ok (.value (.slice none 0 0)) w := by
  unfold execOp
  simp only [ho, resolve, invoke, builtin, Sem.run_bind, Sem.run_pure, Result.andThen_ok, List.map_toArray, List.map_cons, List.map_nil, hs, hx, hr]
 simp only [Region.wanted, hgd, if_true]
 rw [hrun, Go.Mix.effUpon_value]
 exact ⟨h.1, hK _ _ h.2⟩
/-- The first part of a row. -/
theorem Lies.take_ {w : World} {base : Nat} {e : TypeId} {size : Nat} {A : Option Addr} {n m c : Nat} {xs ys : List Value} (h : Lies w base e size (.slice A (n + m) c) (n + m) (xs ++ ys)) (hx : xs.length = n * size) : Lies w base e size (.slice A n c) n xs := by
 refine ⟨hx, ?_⟩
 rcases h.2 with ⟨hv, h0⟩ | ⟨g, off, cap, cur, hv, hb, hg, hnc, hcm, hcs, ht⟩
 ·injection hv with h1 h2 h3
  subst h1 h3
  obtain rfl : n = 0 := by omega
  exact .inl ⟨rfl, rfl⟩
 ·injection hv with h1 h2 h3
  subst h1 h3
  refine .inr ⟨g, off, c, cur, rfl, hb, hg, by omega, hcm, hcs, ?_⟩
  have h4 := congrArg (List.take (n * size)) ht
  rw [List.take_take, Nat.min_eq_left (Nat.mul_le_mul_right _ (by omega)), ← hx, List.take_left] at h4
  rw [← hx]
  exact h4
end Go.Own
namespace Go.Proofs.YtogidacejbjljaaGreatDoor.PTextChecks
open Go.RowKit Go.Mix Go.Own Go.Sort Go.Proofs.YtogidacejbjljaaGreatDoorW.PrintWords Go.Proofs.YtogidacejbjljaaGreatDoorW.PrintLast Go.Proofs.YtogidacejbjljaaGreatDoorW.PrintMore
theorem Pls.take {w : World} {base : Nat} {A : Option Addr} {c : Nat} {P Q : List Pl} (h : Pls w base (.slice A (P ++ Q).length c) (P ++ Q)) : Pls w base (.slice A P.length c) P := by
 obtain ⟨vs, h1, h2, h3⟩ := h
 have hl : vs.length = P.length + Q.length := by rw [h1, List.length_append]
 have e : vs = vs.take P.length ++ vs.drop P.length := (List.take_append_drop _ _).symm
 have hl1 : (vs.take P.length).length = P.length := by rw [List.length_take]; omega
 refine ⟨vs.take P.length, hl1, ?_, fun i u p hu hp => ?_⟩
 ·rw [e, cells63_append _ _ _ _ hl1, List.length_append] at h2
  exact Go.Own.Lies.take_ h2 (cells63_length _ _ hl1)
 ·have hi := (List.getElem?_eq_some_iff.1 hp).1
  rw [List.getElem?_take, if_pos hi] at hu
  exact h3 i u p hu (by rw [List.getElem?_append_left hi]; exact hp)
theorem ints_take {w : World} {base : Nat} {A : Option Addr} {c : Nat} {X Y : List Nat} (h : Lies w base 3 1 (.slice A (X ++ Y).length c) (X ++ Y).length ((X ++ Y).map encN)) : Lies w base 3 1 (.slice A X.length c) X.length (X.map encN) := by
 rw [List.length_append, List.map_append] at h
 exact Go.Own.Lies.take_ h (by simp)
def cu4 (u : Value) (q : Cu) : List Value := [.int .i64 q.a, .int .i64 q.b, .int .i64 q.c, u]
def cells25 (vs : List Value) (C : List Cu) : List Value := (List.zip vs C).flatMap fun p => cu4 p.1 p.2
theorem cells25_snoc (vs : List Value) (C : List Cu) (u : Value) (q : Cu) (h : vs.length = C.length) : cells25 (vs ++ [u]) (C ++ [q]) = cells25 vs C ++ cu4 u q := by
 unfold cells25
 rw [List.zip_append h, List.flatMap_append]
 rfl
theorem cells25_length (vs : List Value) (C : List Cu) (h : vs.length = C.length) : (cells25 vs C).length = C.length * 4 := by
 unfold cells25
 have : ∀ l : List (Value × Cu), (l.flatMap fun p => cu4 p.1 p.2).length = l.length * 4 := by
  intro l
  induction l with
  | nil => rfl
  | cons x l ih => rw [List.flatMap_cons, List.length_append, ih, List.length_cons]; simp [cu4]; omega
 rw [this, List.length_zip, h, Nat.min_self]
theorem cells25_get {vs : List Value} {C : List Cu} {k i : Nat} {u : Value} {q : Cu} (hu : vs[k]? = some u) (hp : C[k]? = some q) (hi : i < 4) : (cells25 vs C)[k * 4 + i]? = (cu4 u q)[i]? :=
 flatMap_get (fun p : Value × Cu => cu4 p.1 p.2) 4 (fun _ => rfl) (List.zip vs C) k i (u, q) (List.getElem?_zip_eq_some.2 ⟨hu, hp⟩) hi
def InP (w : World) (u : Value) (q : Cu) : Prop := ∃ Ap cp, u = .slice Ap q.l.length cp ∧ q.l.length ≤ cp ∧ Kd.C k42 w Ap q.l.length q.l
theorem InP.below {w w' : World} {u : Value} {q : Cu} (h : InP w u q) (hb : Below w.heap.size w w') : InP w' u q := by
 obtain ⟨Ap, cp, h1, h2, h3⟩ := h
 exact ⟨Ap, cp, h1, h2, Kd.C_below h3 hb⟩
theorem cells25_one {vs : List Value} {C : List Cu} {w : World} (h : ∀ (i : Nat) (u : Value) (q : Cu), vs[i]? = some u → C[i]? = some q → InP w u q) : ∀ u ∈ cells25 vs C, u.oneCell' = true := by
 intro u hu
 unfold cells25 at hu
 obtain ⟨p, hp, hu⟩ := List.mem_flatMap.1 hu
 obtain ⟨i, hi⟩ := List.mem_iff_getElem?.1 hp
 have hz := List.getElem?_zip_eq_some.1 hi
 obtain ⟨A, c, e, _⟩ := h i _ _ hz.1 hz.2
 simp only [cu4, List.mem_cons, List.mem_nil_iff, or_false] at hu
 rcases hu with rfl | rfl | rfl | rfl
 ·rfl
 ·rfl
 ·rfl
 ·rw [e]; rfl
theorem addr_field (a : Addr) (k i : Nat) (hi : 0 < i) : (⟨(a.add k).block, (a.add k).off + i, none⟩ : Addr) = a.add (k + i) := by
 rw [← Go.Deep.add_add]
 unfold Addr.add
 rw [if_neg (by omega : ¬ i = 0)]
/-- The cells of a row of cues that is given. -/
theorem CuesIn.open_ {w : World} {A : Option Addr} {C : List Cu} (h : CuesIn w A C) (h0 : 0 < C.length) : ∃ (ad : Addr) (us : List Value), A = some ad ∧ us.length = C.length ∧ (∀ j u, (cells25 us C)[j]? = some u → w.cell? (ad.add j) = some u) ∧
  ∀ (i : Nat) (u : Value) (q : Cu), us[i]? = some u → C[i]? = some q → InP w u q := by
 obtain ⟨ad, _, _, hA, _⟩ := h 0 _ (List.getElem?_eq_getElem h0)
 have key : ∀ k : Nat, k < C.length → ∃ u : Value, ∀ q, C[k]? = some q → InP w u q ∧ ∀ i v, (cu4 u q)[i]? = some v → w.cell? (ad.add (k * 4 + i)) = some v := by
  intro k hk
  obtain ⟨ad', Ap, cp, hA', c0, c1, c2, c3, hcp, hK⟩ := h k _ (List.getElem?_eq_getElem hk)
  rw [hA] at hA'
  injection hA' with hA'
  subst hA'
  refine ⟨.slice Ap C[k].l.length cp, fun q hq => ?_⟩
  rw [List.getElem?_eq_getElem hk] at hq
  injection hq with hq
  subst hq
  refine ⟨⟨Ap, cp, rfl, hcp, hK⟩, fun i v hv => ?_⟩
  have hi : i < 4 := (List.getElem?_eq_some_iff.1 hv).1
  match i, hi, hv with
  | 0, _, hv => rw [Nat.add_zero]; rw [c0]; exact hv
  | 1, _, hv => rw [← addr_field _ _ 1 (by omega), c1]; exact hv
  | 2, _, hv => rw [← addr_field _ _ 2 (by omega), c2]; exact hv
  | 3, _, hv => rw [← addr_field _ _ 3 (by omega), c3]; exact hv
 let f : Nat → Value := fun k => if hk : k < C.length then Classical.choose (key k hk) else default
 have hf : ∀ (k : Nat) (q : Cu), C[k]? = some q → InP w (f k) q ∧ ∀ i v, (cu4 (f k) q)[i]? = some v → w.cell? (ad.add (k * 4 + i)) = some v := by
  intro k q hq
  have hk := (List.getElem?_eq_some_iff.1 hq).1
  have := Classical.choose_spec (key k hk) q hq
  simp only [f, dif_pos hk]
  exact this
 have hlen : ((List.range C.length).map f).length = C.length := by simp
 have hget : ∀ k, k < C.length → ((List.range C.length).map f)[k]? = some (f k) := fun k hk => by rw [List.getElem?_map, List.getElem?_range hk]; rfl
 refine ⟨ad, (List.range C.length).map f, hA, hlen, fun j u hj => ?_, fun i u q hu hq => ?_⟩
 ·have hj4 : j < C.length * 4 := by have := (List.getElem?_eq_some_iff.1 hj).1; rwa [cells25_length _ _ hlen] at this
  have hk : j / 4 < C.length := by omega
  have hjj : j / 4 * 4 + j % 4 = j := by omega
  have hq : C[j / 4]? = some C[j / 4] := List.getElem?_eq_getElem hk
  rw [← hjj, cells25_get (hget _ hk) hq (by omega)] at hj
  have := (hf _ _ hq).2 _ _ hj
  rwa [hjj] at this
 ·have hk := (List.getElem?_eq_some_iff.1 hq).1
  rw [hget i hk] at hu
  injection hu with hu
  subst hu
  exact (hf i q hq).1
/-- A row of cues that a call has made. -/
theorem CuesIn.of_lies {w : World} {base : Nat} {A : Option Addr} {c : Nat} {C : List Cu} {us : List Value} (hl : us.length = C.length) (h : Lies w base 25 4 (.slice A C.length c) C.length (cells25 us C))
  (hp : ∀ (i : Nat) (u : Value) (q : Cu), us[i]? = some u → C[i]? = some q → InP w u q) : CuesIn w A C := by
 intro k q hq
 have hk := (List.getElem?_eq_some_iff.1 hq).1
 obtain ⟨ad, rfl, hc⟩ := Lies.at h (by omega)
 have hu : us[k]? = some (us[k]'(by omega)) := List.getElem?_eq_getElem _
 obtain ⟨Ap, cp, hu2, h1, h2⟩ := hp k _ q hu hq
 have g := fun i (hi : i < 4) => cells25_get hu hq hi
 rw [hu2] at g
 exact ⟨ad, Ap, cp, rfl, (hc (k * 4) 0 _ (g 0 (by omega))).1 rfl, (hc (k * 4) 1 _ (g 1 (by omega))).2, (hc (k * 4) 2 _ (g 2 (by omega))).2, (hc (k * 4) 3 _ (g 3 (by omega))).2, h1, h2⟩
theorem InP.snoc {w : World} {us : List Value} {C : List Cu} {u : Value} {q : Cu} (hl : us.length = C.length) (hp : ∀ (i : Nat) (u : Value) (q : Cu), us[i]? = some u → C[i]? = some q → InP w u q) (h : InP w u q) :
  ∀ (i : Nat) (v : Value) (r : Cu), (us ++ [u])[i]? = some v → (C ++ [q])[i]? = some r → InP w v r := by
 intro i v r hv hr
 rcases Nat.lt_trichotomy i C.length with hi | hi | hi
 ·rw [List.getElem?_append_left (by omega)] at hv
  rw [List.getElem?_append_left hi] at hr
  exact hp i v r hv hr
 ·subst hi
  rw [← hl, List.getElem?_concat_length] at hv
  rw [List.getElem?_concat_length] at hr
  injection hv with hv
  injection hr with hr
  subst hv hr
  exact h
 ·rw [List.getElem?_eq_none (by simp; omega)] at hr
  cases hr
theorem infoCue : (Tryz.prog.info? 25).map (fun i => (i.zero, i.size, i.bytes)) = some (some (.agg #[.int .i64 0, .int .i64 0, .int .i64 0, .slice none 0 0]), 4, 48) := by kernel_rfl
/-- A row of cues, appended to none. -/
theorem mOp_append_cues {ops : Array Oper} {CL : World → Prop} {E : Nat → Bool} {k : Nat} {o : Oper} {J : Act → World → Prop} {a : Act} {w : World} (hk : ops[k]? = some o) (hb : E k = true) (hgd : o.guard = none) (s x : Operand)
  (ho : o.op = .call { callee := .builtin .append, args := #[s, x], argTypes := #[53, 53] }) (C : List Cu) (A : Option Addr) (c : Nat) (W : World) (hW : Below W.heap.size W w) (hA : CuesIn W A C) (hC : C.length ≤ 1000)
  (hs : a.eval s = .slice none 0 0) (hx : a.eval x = .slice A C.length c)
  (h : ∀ (v' : Value) (w' : World) (us : List Value), us.length = C.length → Lies w' W.heap.size 25 4 v' C.length (cells25 us C) → (∀ (i : Nat) (u : Value) (q : Cu), us[i]? = some u → C[i]? = some q → InP W u q) → Below w.heap.size w w' → CL w' ∧ J (a.put o.dst v') w') : Go.Mix.mOp Tryz.prog ops CL E k J a w := by
 obtain ⟨i0, hi, hii⟩ := Option.map_eq_some_iff.1 infoCue
 simp only [Prod.mk.injEq] at hii
 obtain ⟨hz0, hz1, hz2⟩ := hii
 rcases Nat.eq_zero_or_pos C.length with h0 | h0
 ·have hC0 := List.length_eq_zero_iff.1 h0
  subst hC0
  exact mOp_append_zero hk hb hgd s x 53 ho 25 i0 Tryz.underlying53 hi A c hs hx (h _ _ [] rfl (Lies.nil _ _ _ _) (fun i u q hu => by simp at hu) (Below.refl _ _))
 ·obtain ⟨ad, us, rfl, hus, hcells, hin⟩ := hA.open_ h0
  refine mOp_append hk hb hgd s x 53 ho W.heap.size 25 i0 _ 4 48 Tryz.underlying53 hi hz0 hz1 hz2 rfl (by decide) (.slice none 0 0) 0 [] hs (Lies.nil _ _ _ _) ad C.length c (cells25 us C) hx (cells25_length us C hus) (fun j u hj => cell_later hW (hcells j u hj)) (cells25_one hin) (by unfold maxLen; omega) (by omega) hW.size h0 ?_
  intro v' w' hL hg
  have hbw : Below w.heap.size w w' := (Below.refl _ w).grown hg (Nat.le_refl _) (by simp [Value.ownBlock])
  rw [Nat.zero_add, List.nil_append] at hL
  exact h v' w' us hus hL hin hbw
end Go.Proofs.YtogidacejbjljaaGreatDoor.PTextChecks
end
section
/- The reference's EqPlaced, over two rows that hold the same lines. -/
set_option linter.unusedVariables false
set_option linter.unusedSimpArgs false
namespace Go.Proofs.YtogidacejbjljaaGreatDoor.PTextChecks
open Go.RowKit Go.Mix Go.Own Go.Sort Go.Proofs.YtogidacejbjljaaGreatDoorW.PrintWords Go.Proofs.YtogidacejbjljaaGreatDoorW.PrintLast Go.Proofs.YtogidacejbjljaaGreatDoorW.PrintMore
set_option maxHeartbeats 4000000 in
set_option maxRecDepth 100000 in
theorem eqPlaced_calls (P : List Pl) (A B : Option Addr) (ca cb b1 b2 : Nat) (w : World) (hL : P.length ≤ 1000000) (hps : ∀ p ∈ P, p.ps.length ≤ 1000000) (h1 : Pls w b1 (.slice A P.length ca) P) (h2 : Pls w b2 (.slice B P.length cb) P) :
  Calls Tryz.prog 41 #[.slice A P.length ca, .slice B P.length cb] w fun e w' => e = .returned (.bool true) ∧ Below w.heap.size w w' := by
 go_enter Tryz.func41, Tryz.ntmps41
 go_wp2
 go_loopw [5] (fun i wr => ∃ n : Nat, n ≤ P.length ∧ i = .int .i64 n ∧ Below w.heap.size w wr) (fun i _ => P.length - (intOf i).toNat)
 case atStart => exact ⟨0, by omega, rfl, Below.refl _ _⟩
 case round =>
  obtain ⟨n, hn, rfl, hbr⟩ := hrel
  by_cases hlt : n < P.length
  ·obtain ⟨ad, u, p, rfl, hp, hI, d0, d1, d2, d3, d4, d5, d6⟩ := at_pls (h1.below hbr) n hlt
   obtain ⟨be, v, q, rfl, hq, hJ, e0, e1, e2, e3, e4, e5, e6⟩ := at_pls (h2.below hbr) n hlt
   rw [hp] at hq
   injection hq with hq
   subst hq
   have hpl := hps p (List.mem_of_getElem? hp)
   obtain ⟨Au, cu, rfl, hle3, hC1⟩ := hI.reads (by omega)
   obtain ⟨Av, cv, rfl, hle4, hC2⟩ := hJ.reads (by omega)
   have wr1 : IntKind.i64.wrap ((n : Int) + 1) = (n : Int) + 1 := IntWalk.i64_in _ (by omega)
   have cE := fun X (g1 : Kd.C k42 X Au p.ps.length p.ps) (g2 : Kd.C k42 X Av p.ps.length p.ps) => r18_EqPieces.calls (p.ps.length + 1) Au cu p.ps Av cv p.ps true X g1 hle3 g2 hle4 (by unfold r18_EqPieces.f; rw [if_pos rfl, show (0 : Int) = ((0 : Nat) : Int) from rfl]; exact eqp_self (by omega) p.ps.length 0 _ (by omega) (by omega))
   obtain ⟨pc, pl, px, py, pw, ph, pps⟩ := p
   simp only at *
   generalize pps.length = pn at *
   have x1 : (0 : Int) ≤ (n : Int) := by omega
   have x2 : (n : Int) < (P.length : Int) := by omega
   clear hp hI hJ
   have k0 : Below wr.heap.size wr (wr.drew) := (Below.refl _ wr).drew
   have a00 := cell_later k0 d0
   have b00 := cell_later k0 e0
   have a01 := cell_later k0 d1
   have b01 := cell_later k0 e1
   have a02 := cell_later k0 d2
   have b02 := cell_later k0 e2
   have a03 := cell_later k0 d3
   have b03 := cell_later k0 e3
   have a04 := cell_later k0 d4
   have b04 := cell_later k0 e4
   have a05 := cell_later k0 d5
   have b05 := cell_later k0 e5
   have a06 := cell_later k0 d6
   have b06 := cell_later k0 e6
   have k1 : Below wr.heap.size wr ((wr.alloc (.cells #[.int .i64 0, .int .i64 0, .int .i64 0, .int .i64 0, .int .i64 0, .int .i64 0, .slice none 0 0] 63)).drew) := ((Below.refl _ wr).alloc (Nat.le_refl _) _).drew
   have a10 := cell_later k1 d0
   have b10 := cell_later k1 e0
   have a11 := cell_later k1 d1
   have b11 := cell_later k1 e1
   have a12 := cell_later k1 d2
   have b12 := cell_later k1 e2
   have a13 := cell_later k1 d3
   have b13 := cell_later k1 e3
   have a14 := cell_later k1 d4
   have b14 := cell_later k1 e4
   have a15 := cell_later k1 d5
   have b15 := cell_later k1 e5
   have a16 := cell_later k1 d6
   have b16 := cell_later k1 e6
   have k2 : Below wr.heap.size wr (((wr.alloc (.cells #[.int .i64 0, .int .i64 0, .int .i64 0, .int .i64 0, .int .i64 0, .int .i64 0, .slice none 0 0] 63)).alloc (.cells #[.int .i64 0, .int .i64 0, .int .i64 0, .int .i64 0, .int .i64 0, .int .i64 0, .slice none 0 0] 63)).drew) := (((Below.refl _ wr).alloc (Nat.le_refl _) _).alloc (by simp) _).drew
   have a20 := cell_later k2 d0
   have b20 := cell_later k2 e0
   have a21 := cell_later k2 d1
   have b21 := cell_later k2 e1
   have a22 := cell_later k2 d2
   have b22 := cell_later k2 e2
   have a23 := cell_later k2 d3
   have b23 := cell_later k2 e3
   have a24 := cell_later k2 d4
   have b24 := cell_later k2 e4
   have a25 := cell_later k2 d5
   have b25 := cell_later k2 e5
   have a26 := cell_later k2 d6
   have b26 := cell_later k2 e6
   have k3 : Below wr.heap.size wr ((wr.alloc (.cells #[.int .i64 pc, .int .i64 pl, .int .i64 px, .int .i64 py, .int .i64 pw, .int .i64 ph, .slice Au pn cu] 63)).drew) := ((Below.refl _ wr).alloc (Nat.le_refl _) _).drew
   have b30 := cell_later k3 e0
   have b31 := cell_later k3 e1
   have b32 := cell_later k3 e2
   have b33 := cell_later k3 e3
   have b34 := cell_later k3 e4
   have b35 := cell_later k3 e5
   have b36 := cell_later k3 e6
   have k4 : Below wr.heap.size wr (((wr.alloc (.cells #[.int .i64 pc, .int .i64 pl, .int .i64 px, .int .i64 py, .int .i64 pw, .int .i64 ph, .slice Au pn cu] 63)).alloc (.cells #[.int .i64 0, .int .i64 0, .int .i64 0, .int .i64 0, .int .i64 0, .int .i64 0, .slice none 0 0] 63)).drew) := (((Below.refl _ wr).alloc (Nat.le_refl _) _).alloc (by simp) _).drew
   have b40 := cell_later k4 e0
   have b41 := cell_later k4 e1
   have b42 := cell_later k4 e2
   have b43 := cell_later k4 e3
   have b44 := cell_later k4 e4
   have b45 := cell_later k4 e5
   have b46 := cell_later k4 e6
   have k5 : Below wr.heap.size wr (((wr.alloc (.cells #[.int .i64 0, .int .i64 0, .int .i64 0, .int .i64 0, .int .i64 0, .int .i64 0, .slice none 0 0] 63)).alloc (.cells #[.int .i64 pc, .int .i64 pl, .int .i64 px, .int .i64 py, .int .i64 pw, .int .i64 ph, .slice Au pn cu] 63)).drew) := (((Below.refl _ wr).alloc (Nat.le_refl _) _).alloc (by simp) _).drew
   have b50 := cell_later k5 e0
   have b51 := cell_later k5 e1
   have b52 := cell_later k5 e2
   have b53 := cell_later k5 e3
   have b54 := cell_later k5 e4
   have b55 := cell_later k5 e5
   have b56 := cell_later k5 e6
   have kX1 : Below wr.heap.size wr (((wr.alloc (.cells #[.int .i64 pc, .int .i64 pl, .int .i64 px, .int .i64 py, .int .i64 pw, .int .i64 ph, .slice Au pn cu] 63)).alloc (.cells #[.int .i64 pc, .int .i64 pl, .int .i64 px, .int .i64 py, .int .i64 pw, .int .i64 ph, .slice Av pn cv] 63)).drew) := (((Below.refl _ wr).alloc (Nat.le_refl _) _).alloc (by simp) _).drew
   have kX2 : Below wr.heap.size wr (((wr.alloc (.cells #[.int .i64 pc, .int .i64 pl, .int .i64 px, .int .i64 py, .int .i64 pw, .int .i64 ph, .slice Av pn cv] 63)).alloc (.cells #[.int .i64 pc, .int .i64 pl, .int .i64 px, .int .i64 py, .int .i64 pw, .int .i64 ph, .slice Au pn cu] 63)).drew) := (((Below.refl _ wr).alloc (Nat.le_refl _) _).alloc (by simp) _).drew
   go_wp2_with fail
   go_region
   ·clear kX2
    go_wp2_with (go_at_call 37; refine (cE _ (Kd.C_below hC1 kX1) (Kd.C_below hC2 kX1)).mono ?_; rintro e W ⟨rfl, hbW⟩)
    go_roundw
    case rel => exact ⟨n + 1, by omega, by go_num, hbr.trans ((kX1.trans (hbW.below.mono kX1.size)).mono hbr.size)⟩
    case measure => (simp [intOf]; try omega)
   ·clear kX1
    go_wp2_with (go_at_call 37; refine (cE _ (Kd.C_below hC1 kX2) (Kd.C_below hC2 kX2)).mono ?_; rintro e W ⟨rfl, hbW⟩)
    go_roundw
    case rel => exact ⟨n + 1, by omega, by go_num, hbr.trans ((kX2.trans (hbW.below.mono kX2.size)).mono hbr.size)⟩
    case measure => (simp [intOf]; try omega)
  ·obtain rfl : n = P.length := by omega
   go_wp2
   go_ret
   exact ⟨rfl, hbr⟩
end Go.Proofs.YtogidacejbjljaaGreatDoor.PTextChecks
end
section
/- Whether two rows of lines meet: the reference's. -/
set_option linter.unusedVariables false
set_option linter.unusedSimpArgs false
namespace Go.Proofs.YtogidacejbjljaaGreatDoor.PTextChecks
open Go.RowKit Go.Mix Go.Own Go.Proofs.YtogidacejbjljaaGreatDoorW.PrintWords Go.Proofs.YtogidacejbjljaaGreatDoorW.PrintLast Go.Proofs.YtogidacejbjljaaGreatDoorW.PrintMore
end Go.Proofs.YtogidacejbjljaaGreatDoor.PTextChecks
end
section
/- The reference's order of placing, and what a run gives: plain. -/
set_option linter.unusedVariables false
set_option linter.unusedSimpArgs false
namespace Go.Proofs.YtogidacejbjljaaGreatDoor.PTextChecks
open Go.RowKit Go.Mix Go.Own Go.Proofs.YtogidacejbjljaaGreatDoorW.PrintWords Go.Proofs.YtogidacejbjljaaGreatDoorW.PrintLast Go.Proofs.YtogidacejbjljaaGreatDoorW.PrintMore
theorem run_facts {C : List Cu} {canvas tall : Int} (hok : ∀ q ∈ C, brkE q.a q.b q.c q.l canvas = 0) (htl : tall ≤ 1000) (l : List Nat) :
  (∀ p ∈ (runS C canvas tall l).1, SmP p) ∧ (runS C canvas tall l).1.length ≤ 400 * l.length ∧ (runS C canvas tall l).2.length ≤ l.length ∧ ∀ k ∈ (runS C canvas tall l).2, k ∈ l := by
 have key : ∀ (l : List Nat) (s : List Pl × List Nat), (∀ p ∈ s.1, SmP p) → (∀ p ∈ (l.foldl (stepS C canvas tall) s).1, SmP p) ∧ (l.foldl (stepS C canvas tall) s).1.length ≤ s.1.length + 400 * l.length ∧
   (l.foldl (stepS C canvas tall) s).2.length ≤ s.2.length + l.length ∧ ∀ k ∈ (l.foldl (stepS C canvas tall) s).2, k ∈ s.2 ∨ k ∈ l := by
  intro l
  induction l with
  | nil => exact fun s h => ⟨h, by simp, by simp, fun k hk => .inl hk⟩
  | cons k l ih =>
   intro s h
   rw [List.foldl_cons]
   have hst : (∀ p ∈ (stepS C canvas tall s k).1, SmP p) ∧ (stepS C canvas tall s k).1.length ≤ s.1.length + 400 ∧ (stepS C canvas tall s k).2.length ≤ s.2.length + 1 ∧ ∀ i ∈ (stepS C canvas tall s k).2, i ∈ s.2 ∨ i = k := by
    cases hq : C[k]? with
    | none =>
     have e : stepS C canvas tall s k = (s.1, s.2 ++ [k]) := by simp only [stepS, placeS, hq]
     rw [e]
     exact ⟨h, by simp, by simp, fun i hi => by simpa using hi⟩
    | some q =>
     have lo := linesOk_of (hok q (List.mem_of_getElem? hq))
     cases hs : slideS k q canvas tall (linesQ q canvas) s.1 with
     | none =>
      rw [stepS_none hq hs]
      exact ⟨h, by simp, by simp, fun i hi => by simpa using hi⟩
     | some y =>
      rw [stepS_some hq hs]
      obtain ⟨y0, y1, _⟩ := slideF_some _ _ _ hs
      have hall := uptoH_range lo.high (linesQ q canvas).length
      rw [uptoH_all] at hall
      refine ⟨fun p hp => ?_, ?_, by simp, fun i hi => .inl hi⟩
      ·rcases List.mem_append.1 hp with hp | hp
       ·exact h p hp
       ·exact blk_small lo ⟨by omega, by omega⟩ p hp
      ·rw [List.length_append, blkF_len]
       have := lo.len
       omega
   obtain ⟨a1, a2, a3, a4⟩ := hst
   obtain ⟨b1, b2, b3, b4⟩ := ih _ a1
   refine ⟨b1, by rw [List.length_cons]; omega, by rw [List.length_cons]; omega, fun i hi => ?_⟩
   rcases b4 i hi with h' | h'
   ·rcases a4 i h' with h'' | h''
    ·exact .inl h''
    ·exact .inr (by rw [h'']; exact List.mem_cons_self)
   ·exact .inr (List.mem_cons_of_mem _ h')
 obtain ⟨b1, b2, b3, b4⟩ := key l ([], []) (fun p hp => by simp at hp)
 exact ⟨b1, by simpa [runS] using b2, by simpa [runS] using b3, fun k hk => by rcases b4 k hk with h | h; simp at h; exact h⟩
end Go.Proofs.YtogidacejbjljaaGreatDoor.PTextChecks
end
section
/- The reference's Layout. -/
set_option linter.unusedVariables false
set_option linter.unusedSimpArgs false
namespace Go.Proofs.YtogidacejbjljaaGreatDoor.PTextChecks
open Go.RowKit Go.Mix Go.Own Go.Sort Go.Proofs.YtogidacejbjljaaGreatDoorW.PrintWords Go.Proofs.YtogidacejbjljaaGreatDoorW.PrintLast Go.Proofs.YtogidacejbjljaaGreatDoorW.PrintMore
end Go.Proofs.YtogidacejbjljaaGreatDoor.PTextChecks
end
section
/- TextLays's own function (10). -/
set_option linter.unusedVariables false
set_option linter.unusedSimpArgs false
namespace Go.Proofs.YtogidacejbjljaaGreatDoor.PTextChecks
open Go.RowKit Go.Mix Go.Own Go.Sort Go.Proofs.YtogidacejbjljaaGreatDoorW.PrintWords Go.Proofs.YtogidacejbjljaaGreatDoorW.PrintLast Go.Proofs.YtogidacejbjljaaGreatDoorW.PrintMore
theorem lay_bound (C : List Cu) (canvas tall : Int) : (layP C canvas tall).length ≤ 1000000 ∧ (layX C canvas tall).length ≤ 1000000 ∧ ∀ p ∈ layP C canvas tall, p.ps.length ≤ 1000000 := by
 by_cases hE0 : layE C canvas tall = 0
 ·obtain ⟨hcv, htl, hC8, hok⟩ := lay_ok hE0
  have hr := layer_range hok
  have hhh : ∀ q ∈ C, ∀ p ∈ linesQ q canvas, 0 ≤ p.2 := fun q hq p hp => ((linesOk_of (hok q hq)).high p hp).1
  have hinv := lay_inv (canvas := canvas) (tall := tall) hhh hr
  have hp1 : layP C canvas tall = (layS C canvas tall).1 := by unfold layP; rw [if_pos hE0]
  have hp2 : layX C canvas tall = lostS C canvas tall := by unfold layX; rw [if_pos hE0]
  have hol : (ordF (layerOf C) C.length).length = C.length := by
   have : ((List.range C.length)).Perm (ordF (layerOf C) C.length) := (List.perm_ext_iff_of_nodup List.nodup_range (ordF_nodup _ _)).2 fun a => by rw [List.mem_range, ordF_mem hr]
   rw [← this.length_eq, List.length_range]
  obtain ⟨_, f2, _, _⟩ := run_facts hok htl.2 (ordF (layerOf C) C.length)
  rw [hol] at f2
  rw [hp1, hp2]
  refine ⟨?_, ?_, ?_⟩
  ·have : (layS C canvas tall).1.length ≤ 400 * C.length := f2
   omega
  ·unfold lostS riseF
   have := List.length_filter_le (fun i => decide (i ∈ (layS C canvas tall).2)) (List.range C.length)
   rw [List.length_range] at this
   omega
  ·intro p hp
   obtain ⟨i, hi⟩ := List.mem_iff_getElem?.1 hp
   obtain ⟨k, q, r, hk, hcue, hq, hy, hyh, hline, hrm, hwid, hps⟩ := hinv.at_ i p hi
   have lo := linesOk_of (hok q (List.mem_of_getElem? hq))
   obtain ⟨hrs, hro⟩ := lo.short r hrm
   have := piecesS_len r.1 r.1.length
   rw [List.take_length] at this
   rw [hps]
   omega
 ·obtain ⟨h1, h2⟩ := lay_err rfl hE0
  rw [h1, h2]
  exact ⟨by simp, by simp, fun p hp => by simp at hp⟩
end Go.Proofs.YtogidacejbjljaaGreatDoor.PTextChecks
end
section
/- TextBehind's own function (12). -/
set_option linter.unusedVariables false
set_option linter.unusedSimpArgs false
namespace Go.Proofs.YtogidacejbjljaaGreatDoor.PTextChecks
open Go.RowKit Go.Mix Go.Own Go.Sort Go.Proofs.YtogidacejbjljaaGreatDoorW.PrintWords Go.Proofs.YtogidacejbjljaaGreatDoorW.PrintLast Go.Proofs.YtogidacejbjljaaGreatDoorW.PrintMore
/-- What is placed stays, and what is lost stays, when a cue comes behind. -/
theorem lay_behind {C : List Cu} {q : Cu} {canvas tall : Int} (h0 : layE C canvas tall = 0) (h1 : layE (C ++ [q]) canvas tall = 0) (hq : ∀ x ∈ C, ¬ x.a < q.a) :
  (∃ P, layP (C ++ [q]) canvas tall = layP C canvas tall ++ P) ∧ ∃ X, layX (C ++ [q]) canvas tall = layX C canvas tall ++ X := by
 obtain ⟨_, _, _, hok⟩ := lay_ok h1
 have hhh : ∀ q ∈ C, ∀ p ∈ linesQ q canvas, 0 ≤ p.2 := fun x hx p hp => ((linesOk_of (hok x (List.mem_append_left _ hx))).high p hp).1
 obtain ⟨⟨P, hP⟩, X, hX⟩ := behind (tall := tall) hhh (layer_range hok) hq
 unfold layP layX
 rw [if_pos h0, if_pos h1, if_pos h0, if_pos h1]
 exact ⟨⟨P, hP⟩, X, hX⟩
theorem blk2 {W : World} {b : Nat} {v0 v1 : Value} {t : TypeId} (h : W.heap[b]? = some (.cells #[v0, v1] t (0, 0))) : W.cell? ⟨b, 0, none⟩ = some v0 ∧ W.cell? ⟨b, 1, none⟩ = some v1 := by
 refine ⟨?_, ?_⟩ <;> simp [World.cell?, h]
set_option maxHeartbeats 8000000 in
set_option maxRecDepth 100000 in
theorem law12_calls (C : List Cu) (A : Option Addr) (cap : Nat) (a b c : Int) (A2 : Option Addr) (cap2 : Nat) (l : List S42) (canvas tall : Int) (w : World) (hA : CuesIn w A C) (hc : C.length ≤ cap) (hC : C.length ≤ 140737488351232) (hs : ∀ q ∈ C, ∀ p ∈ q.l, p.f0.size ≤ 140737488351232)
  (hr : Kd.C k42 w A2 l.length l) (hc2 : l.length ≤ cap2) (hs2 : ∀ p ∈ l, p.f0.size ≤ 140737488351232) :
  Calls Tryz.prog 12 #[.slice A C.length cap, .agg #[.int .i64 a, .int .i64 b, .int .i64 c, .slice A2 l.length cap2], .agg #[.int .i64 canvas, .int .i64 tall]] w fun e w' => e = .returned (.bool true) ∧ Below w.heap.size w w' := by
 obtain ⟨i0, hi, hii⟩ := Option.map_eq_some_iff.1 infoCue
 simp only [Prod.mk.injEq] at hii
 obtain ⟨hz0, hz1, hz2⟩ := hii
 obtain ⟨w0, hw0⟩ : ∃ w0, (w.alloc (.cells #[.int .i64 a, .int .i64 b, .int .i64 c, .slice A2 l.length cap2] 25)).alloc (.cells #[.int .i64 canvas, .int .i64 tall] 66) = w0 := ⟨_, rfl⟩
 have hb0 : Below w.heap.size w w0 := by rw [← hw0]; exact ((Below.refl _ w).alloc (Nat.le_refl _) _).alloc (by simp) _
 have hq0 : w0.heap[w.heap.size]? = some (.cells #[.int .i64 a, .int .i64 b, .int .i64 c, .slice A2 l.length cap2] 25 (0, 0)) := by
  rw [← hw0]
  exact (((Below.refl _ (w.alloc (.cells #[.int .i64 a, .int .i64 b, .int .i64 c, .slice A2 l.length cap2] 25))).alloc (Nat.le_refl _) _).block w.heap.size (by simp)).trans (heap_alloc_new w _)
 have hp0 : w0.heap[w.heap.size + 1]? = some (.cells #[.int .i64 canvas, .int .i64 tall] 66 (0, 0)) := by
  rw [← hw0]
  have := heap_alloc_new (w.alloc (.cells #[.int .i64 a, .int .i64 b, .int .i64 c, .slice A2 l.length cap2] 25)) (.cells #[.int .i64 canvas, .int .i64 tall] 66)
  rw [show (w.alloc (.cells #[.int .i64 a, .int .i64 b, .int .i64 c, .slice A2 l.length cap2] 25)).heap.size = w.heap.size + 1 by simp] at this
  exact this
 have hbox : ∀ X, Below w0.heap.size w0 X → (X.cell? ⟨w.heap.size, 0, none⟩ = some (.int .i64 a) ∧ X.cell? ⟨w.heap.size, 1, none⟩ = some (.int .i64 b) ∧ X.cell? ⟨w.heap.size, 2, none⟩ = some (.int .i64 c) ∧ X.cell? ⟨w.heap.size, 3, none⟩ = some (.slice A2 l.length cap2)) ∧
   X.cell? ⟨w.heap.size + 1, 0, none⟩ = some (.int .i64 canvas) ∧ X.cell? ⟨w.heap.size + 1, 1, none⟩ = some (.int .i64 tall) := by
  intro X h
  have h4 := blk4 ((h.block _ (Array.getElem?_eq_some_iff.1 hq0).1).trans hq0)
  have h2 := blk2 ((h.block _ (Array.getElem?_eq_some_iff.1 hp0).1).trans hp0)
  exact ⟨h4.1, h2⟩
 have hA0 := hA.below hb0
 have hr0 := Kd.C_below hr hb0
 have cL := longAll_calls C A cap w0 hA0 hC hs
 have cK := fun W (h : Kd.C k42 W A2 l.length l) => w18_long.calls (l.length + 1) a b c A2 cap2 l (longB l) W h hc2 (long_run hs2 a b c)
 have HBX := Lib.hid hbox
 clear hbox hA hr hq0 hp0
 go_enter Tryz.func12, Tryz.ntmps12
 cases hlg : longAllB C
 case true =>
  rw [hlg] at cL
  go_wp2_with (first | (go_at_call 38; refine cL.mono ?_; rintro e W ⟨rfl, hbW⟩) | (go_at_call 13; refine (awake_calls _).mono ?_; rintro e W2 ⟨rfl, hbW2⟩))
  go_ret
  exact ⟨rfl, hb0.trans ((hbW.trans (hbW2.mono hbW.size)).mono hb0.size)⟩
 case false =>
  rw [hlg] at cL
  cases hl2 : longB l
  case true =>
   rw [hl2] at cK
   go_wp2_with (first | (go_at_call 38; refine cL.mono ?_; rintro e W ⟨rfl, hbW⟩; obtain ⟨⟨h0, h1, h2, h3⟩, h4, h5⟩ := HBX.out W hbW; have hrW := Kd.C_below hr0 hbW) | (go_at_call 17; refine (cK _ hrW).mono ?_; rintro e W1 ⟨rfl, hb1⟩) | (go_at_call 13; refine (awake_calls _).mono ?_; rintro e W2 ⟨rfl, hbW2⟩))
   go_ret
   exact ⟨rfl, hb0.trans (((hbW.trans (hb1.mono hbW.size)).trans (hbW2.mono (Nat.le_trans hbW.size hb1.size))).mono hb0.size)⟩
  case false =>
   rw [hl2] at cK
   unfold longB at hl2
   rw [Bool.or_eq_false_iff, decide_eq_false_iff_not, decide_eq_false_iff_not] at hl2
   obtain ⟨hl4, hw4⟩ := hl2
   have hf : Fit l := ⟨by omega, by omega⟩
   have cW := fun X h => rWords_calls a b c A2 cap2 l X h hc2 hf
   generalize wordsOf l = ws at cW
   obtain ⟨hC50, htot, hfit⟩ := longAll_fit hlg
   have HFIT := Lib.hid (fun q (hq : q ∈ C) => (hfit q hq).1)
   have HF := Lib.hid hf
   clear hlg hs hs2 hfit hf
   cases h200 : decide ((200 : Int) < (ws.size : Int))
   case true =>
    go_wp2_with (first | (go_at_call 38; refine cL.mono ?_; rintro e W ⟨rfl, hbW⟩; obtain ⟨⟨h0, h1, h2, h3⟩, h4, h5⟩ := HBX.out W hbW; have hrW := Kd.C_below hr0 hbW) | (go_at_call 17; refine (cK _ hrW).mono ?_; rintro e W1 ⟨rfl, hb1⟩; have hb01 := hbW.trans (hb1.mono hbW.size); obtain ⟨⟨h0, h1, h2, h3⟩, h4, h5⟩ := HBX.out W1 hb01; have hrW1 := Kd.C_below hr0 hb01) | (go_at_call 30; refine (cW _ hrW1).mono ?_; rintro e W2 ⟨rfl, hb2⟩; have hb02 := hb01.trans (hb2.mono hb01.size)) | (go_at_call 13; refine (awake_calls _).mono ?_; rintro e W3 ⟨rfl, hb3⟩))
    go_ret
    exact ⟨rfl, hb0.trans ((hb02.trans (hb3.mono hb02.size)).mono hb0.size)⟩
   case false =>
    go_wp2_with (first | (go_at_call 38; refine cL.mono ?_; rintro e W ⟨rfl, hbW⟩; obtain ⟨⟨h0, h1, h2, h3⟩, h4, h5⟩ := HBX.out W hbW; have hrW := Kd.C_below hr0 hbW) | (go_at_call 17; refine (cK _ hrW).mono ?_; rintro e W1 ⟨rfl, hb1⟩; have hb01 := hbW.trans (hb1.mono hbW.size); obtain ⟨⟨h0, h1, h2, h3⟩, h4, h5⟩ := HBX.out W1 hb01; have hrW1 := Kd.C_below hr0 hb01) | (go_at_call 30; refine (cW _ hrW1).mono ?_; rintro e V ⟨rfl, hb2⟩; have hbV := hb01.trans (hb2.mono hb01.size)))
    clear cL cK cW hbW hb1 hb01 hb2 hrW hrW1 h0 h1 h2 h3 h4 h5 hw0
    go_loopw [7] (fun i wr => ∃ n : Nat, n ≤ C.length ∧ i = .int .i64 n ∧ (∀ (k : Nat) (x : Cu), k < n → C[k]? = some x → a ≤ x.a) ∧ Below V.heap.size V wr) (fun i _ => C.length - (intOf i).toNat)
    case atStart => exact ⟨0, by omega, rfl, fun k x h => by omega, Below.refl _ _⟩
    case round =>
     obtain ⟨n, hn, rfl, hall, hbr⟩ := hrel
     have wn : IntKind.i64.wrap ((n : Int) + 1) = (n : Int) + 1 := IntWalk.i64_in _ (by omega)
     have hb0r := hbV.trans (hbr.mono hbV.size)
     by_cases hlt : n < C.length
     ·obtain ⟨q, hq⟩ : ∃ q, C[n]? = some q := ⟨_, List.getElem?_eq_getElem hlt⟩
      obtain ⟨ad, Ap, cp, rfl, c0, c1, c2, c3, hcp, hK⟩ := (hA0.below hb0r) n q hq
      obtain ⟨⟨h0, h1, h2, h3⟩, h4, h5⟩ := HBX.out wr hb0r
      have n1 : (0 : Int) ≤ (n : Int) := by omega
      have n2 : (n : Int) < (C.length : Int) := by omega
      have n3 : ¬ ((n : Int) < 0) := by omega
      clear c1 c2 c3 hK hcp
      cases hd : decide (q.a < a)
      case true =>
       clear hall
       go_wp2_with fail
       go_quiet (fail)
       go_wp2_with (go_at_call 13; refine (awake_calls _).mono ?_; rintro e W3 ⟨rfl, hb3⟩)
       go_ret
       have hbq : Below w0.heap.size w0 (wr.drewN nq) := bdrewN hb0r nq
       exact ⟨rfl, hb0.trans ((hbq.trans (hb3.mono hbq.size)).mono hb0.size)⟩
      case false =>
       have hall2 : ∀ (k : Nat) (x : Cu), k < n + 1 → C[k]? = some x → a ≤ x.a := by
        intro k x hk hx
        by_cases h : k < n
        ·exact hall k x h hx
        ·obtain rfl : k = n := by omega
         rw [hq] at hx
         injection hx with hx
         subst hx
         exact Int.not_lt.1 (of_decide_eq_false hd)
       have HALL := Lib.hid hall2
       clear hall hall2
       go_wp2_with fail
       go_quiet (fail)
       go_wp2_with fail
       go_roundw
       case rel => exact ⟨n + 1, by omega, by go_num, HALL.out, bdrewN hbr nq⟩
       case measure => (simp [intOf]; try omega)
     ·obtain rfl : n = C.length := by omega
      have hno : ∀ x ∈ C, ¬ x.a < a := fun x hx => by
       obtain ⟨i, hi⟩ := List.mem_iff_getElem?.1 hx
       exact Int.not_lt.2 (hall i x (List.getElem?_eq_some_iff.1 hi).1 hi)
      have HNO := Lib.hid hno
      clear hall hno
      rename World => V3
      have cY := fun X hx => layout_calls C A cap canvas tall X hx hc HFIT.out
      have cZ := fun X A6 c6 hx hc6 => layout_calls (C ++ [(⟨a, b, c, l⟩ : Cu)]) A6 c6 canvas tall X hx hc6 (fun q hq => by rcases List.mem_append.1 hq with h | h; exact HFIT.out q h; rw [List.mem_singleton.1 h]; exact HF.out)
      have hlen1 : (C ++ [(⟨a, b, c, l⟩ : Cu)]).length = C.length + 1 := by simp
      rw [hlen1] at cZ
      have hbeh := lay_behind (C := C) (q := ⟨a, b, c, l⟩) (canvas := canvas) (tall := tall)
      have hbeh2 := fun h0 h1 => hbeh h0 h1 HNO.out
      obtain ⟨hPl, hXl, hps⟩ := lay_bound C canvas tall
      obtain ⟨hPl2, hXl2, _⟩ := lay_bound (C ++ [(⟨a, b, c, l⟩ : Cu)]) canvas tall
      unfold LayPost at cY cZ
      clear hbeh
      obtain ⟨CC, hCC⟩ : ∃ CC, C ++ [(⟨a, b, c, l⟩ : Cu)] = CC := ⟨_, rfl⟩
      rw [hCC] at cZ hbeh2 hPl2 hXl2 hlen1
      generalize layP C canvas tall = P1 at *
      generalize layX C canvas tall = X1 at *
      generalize layE C canvas tall = E1 at *
      generalize layP CC canvas tall = P2 at *
      generalize layX CC canvas tall = X2 at *
      generalize layE CC canvas tall = E2 at *
      have HBEH := Lib.hid hbeh2
      have HPS := Lib.hid hps
      have HCC := Lib.hid hCC
      have HZ := Lib.hid cZ
      clear hbeh2 hps hCC cZ hlen1
      have hA3 := hA0.below hb0r
      obtain ⟨⟨h0, h1, h2, h3⟩, h4, h5⟩ := HBX.out V3 hb0r
      go_wp2_with (go_at_call 39; refine (cY _ hA3).mono ?_; rintro e W1 ⟨v, vl, rfl, hPv, hXv, hb1⟩; obtain ⟨Av, cv, rfl, _⟩ := hPv.form; obtain ⟨Ax, cx, rfl, _⟩ := hXv.form; have hb01 := hb0r.trans (hb1.mono hb0r.size))
      have hA1 := hA0.below hb01
      have hr1 := Kd.C_below hr0 hb01
      obtain ⟨⟨h0, h1, h2, h3⟩, h4, h5⟩ := HBX.out W1 hb01
      have hbD : Below W1.heap.size W1 W1.drew := (Below.refl _ W1).drew
      have hone : ∀ u ∈ ([.int .i64 a, .int .i64 b, .int .i64 c, .slice A2 l.length cap2] : List Value), u.oneCell' = true := fun u hu => by simp only [List.mem_cons, List.mem_nil_iff, or_false] at hu; rcases hu with rfl | rfl | rfl | rfl <;> rfl
      have x0 := fun x : Ext W1 => x.at h0
      have x1 := fun x : Ext W1 => x.at h1
      have x2 := fun x : Ext W1 => x.at h2
      have x3 := fun x : Ext W1 => x.at h3
      have x4 := fun x : Ext W1 => x.at h4
      have x5 := fun x : Ext W1 => x.at h5
      refine wp_region_tr (C := fun w' => ∃ x : Ext W1, w' = x.w) [1, 3, 4, 9] 4 (.step 0 (.step 2 (.step 5 (.step 6 (.step 7 (.step 8 (.both 1 3 (.step 3 (.step 4 (.step 9 (.step 10 (.step 11 (.step 12 (.step 13 (.step 14 (.step 15 (.step 16 .done)))))))))) (.step 1 (.step 4 (.step 9 (.step 10 (.step 11 (.step 12 (.step 13 (.step 14 (.step 15 (.step 16 .done))))))))))))))))) (by kernel_rfl) (by kernel_rfl) (by kernel_rfl) rfl ⟨⟨W1.drew, hbD⟩, rfl⟩ ?_
      refine tr_pure rfl rfl (fun K hK => ?_)
      go_simp
      refine hK _ _ ?_
      clear hK K
      refine tr_pure rfl rfl (fun K hK => ?_)
      go_simp
      refine hK _ _ ?_
      clear hK K
      refine tr_pure rfl rfl (fun K hK => ?_)
      go_simp
      refine hK _ _ ?_
      clear hK K
      refine tr_pure rfl rfl (fun K hK => ?_)
      go_simp
      refine hK _ _ ?_
      clear hK K
      refine tr_pure rfl rfl (fun K hK => ?_)
      go_simp
      refine hK _ _ ?_
      clear hK K
      refine tr_pure rfl rfl (fun K hK => ?_)
      go_simp
      refine hK _ _ ?_
      clear hK K
      refine tr_both ?_ ?_
      ·refine mOp_append_cues rfl rfl rfl _ _ rfl C A cap W1 hbD hA1 (by omega) rfl rfl ?_
       intro v5 W5 us hus hL5 hin hb5
       have hb15 : Below W1.heap.size W1 W5 := hbD.trans (hb5.mono hbD.size)
       obtain ⟨A5, c5, rfl, hc5⟩ := hL5.form
       refine ⟨⟨⟨W5, hb15⟩, rfl⟩, ?_⟩
       have hbM : Below W5.heap.size W5 (W5.alloc (.cells #[.int .i64 a, .int .i64 b, .int .i64 c, .slice A2 l.length cap2] 25)) := (Below.refl _ W5).alloc (Nat.le_refl _) _
       have hb1M := hb15.trans (hbM.mono hb15.size)
       refine tr_step (mOp_eff rfl rfl (fun K hK => ?_))
       go_simp
       simp only [effUpon_value]
       refine ⟨⟨⟨_, hb1M⟩, rfl⟩, hK _ _ ?_⟩
       clear hK K
       have hL5M := hL5.kb (KB.below (ts := []) hbM) (by simp)
       refine tr_step (mOp_append rfl rfl rfl _ _ 53 rfl W1.heap.size 25 i0 _ 4 48 Tryz.underlying53 hi hz0 hz1 hz2 rfl (by decide) _ C.length (cells25 us C) rfl hL5M ⟨W5.heap.size, 0, none⟩ 1 1 [.int .i64 a, .int .i64 b, .int .i64 c, .slice A2 l.length cap2] rfl rfl (fun j u hj => by rw [add0]; exact newcell W5 #[.int .i64 a, .int .i64 b, .int .i64 c, .slice A2 l.length cap2] 25 j u (by simpa using hj)) hone (by unfold maxLen; omega) (by omega) hb1M.size (by decide) ?_)
       intro v6 W6 hL6 hg6
       have hb16 : Below W1.heap.size W1 W6 := hb1M.grown hg6 hb1M.size (fun j hj => (hL5M.lt j hj).1)
       clear hg6
       obtain ⟨A6, c6, rfl, hc6⟩ := hL6.form
       have hin6 : ∀ (i : Nat) (u : Value) (q : Cu), us[i]? = some u → C[i]? = some q → InP W6 u q := fun i u x h1 h2 => (hin i u x h1 h2).below hb16
       have hA6 : CuesIn W6 A6 CC := by
        rw [← HCC.out]
        exact CuesIn.of_lies (base := W1.heap.size) (c := c6) (us := us ++ [.slice A2 l.length cap2]) (by simp [hus]) (by rw [cells25_snoc _ _ _ _ hus, List.length_append]; exact hL6) (InP.snoc hus hin6 ⟨A2, cap2, rfl, hc2, Kd.C_below hr1 hb16⟩)
       refine ⟨⟨⟨W6, hb16⟩, rfl⟩, ?_⟩
       refine tr_step (mOp_eff rfl rfl (fun K hK => ?_))
       go_simp
       simp only [effUpon_enter]
       refine (HZ.out _ _ _ hA6 hc6).mono ?_
       rintro e W7 ⟨v7, vl7, rfl, hP7, hX7, hb7⟩
       obtain ⟨A7, c7, rfl, hc77⟩ := hP7.form
       obtain ⟨Ax7, cx7, rfl, hcx7⟩ := hX7.form
       have hb17 : Below W1.heap.size W1 W7 := hb16.trans (hb7.mono hb16.size)
       have hb07 := hb01.trans (hb17.mono hb01.size)
       refine ⟨_, rfl, ⟨⟨W7, hb17⟩, rfl⟩, hK _ _ ?_⟩
       clear hK K hA6 hL6 hin6
       refine tr_pure rfl rfl (fun K hK => ?_)
       go_simp
       refine hK _ _ ?_
       clear hK K
       refine tr_pure rfl rfl (fun K hK => ?_)
       go_simp
       refine hK _ _ ?_
       clear hK K
       refine tr_pure rfl rfl (fun K hK => ?_)
       go_simp
       refine hK _ _ ?_
       clear hK K
       refine tr_pure rfl rfl (fun K hK => ?_)
       go_simp
       refine hK _ _ ?_
       clear hK K
       refine tr_pure rfl rfl (fun K hK => ?_)
       go_simp
       refine hK _ _ ?_
       clear hK K
       refine tr_pure rfl rfl (fun K hK => ?_)
       go_simp
       refine hK _ _ ?_
       clear hK K
       refine tr_pure rfl rfl (fun K hK => ?_)
       go_simp
       refine hK _ _ ?_
       clear hK K
       intro _
       have hPv7 := hPv.below hb17
       have hXv7 := hXv.kb (KB.below (ts := []) hb17) (by simp)
       clear hb16 hb15 hb7 hL5 hus hin
       cases hE : (E1 != 0)
       case true =>
        go_wp2_with (go_at_call 13; refine (awake_calls _).mono ?_; rintro e W8 ⟨rfl, hb8⟩)
        go_ret
        exact ⟨rfl, hb0.trans ((hb07.trans (hb8.mono hb07.size)).mono hb0.size)⟩
       case false =>
        cases hF : (E2 != 0)
        case true =>
         go_wp2_with (go_at_call 13; refine (awake_calls _).mono ?_; rintro e W8 ⟨rfl, hb8⟩)
         go_ret
         exact ⟨rfl, hb0.trans ((hb07.trans (hb8.mono hb07.size)).mono hb0.size)⟩
        case false =>
         obtain ⟨⟨P, hPP⟩, X, hXX⟩ := HBEH.out (by simpa using hE) (by simpa using hF)
         have hPt : Pls W7 W6.heap.size (.slice A7 P1.length c7) P1 := by rw [hPP] at hP7; exact hP7.take
         have hXt : Lies W7 W6.heap.size 3 1 (.slice Ax7 X1.length cx7) X1.length (X1.map encN) := by rw [hXX] at hX7; exact ints_take hX7
         have hn2 : P1.length ≤ P2.length := by rw [hPP, List.length_append]; omega
         have hm2 : X1.length ≤ X2.length := by rw [hXX, List.length_append]; omega
         generalize P2.length = n2 at *
         generalize X2.length = m2 at *
         have d1 : decide ((n2 : Int) < (P1.length : Int)) = false := decide_eq_false (by omega)
         have d2 : decide ((m2 : Int) < (X1.length : Int)) = false := decide_eq_false (by omega)
         have d3 : decide (n2 < P1.length) = false := decide_eq_false (by omega)
         have d4 : decide (m2 < X1.length) = false := decide_eq_false (by omega)
         have d5 : (P1.length : Int) ≤ (c7 : Int) := by omega
         have d6 : (X1.length : Int) ≤ (cx7 : Int) := by omega
         have d7 : P1.length ≤ c7 := by omega
         have d8 : X1.length ≤ cx7 := by omega
         clear hPP hXX hP7 hX7 hn2 hm2 hc77 hcx7
         go_wp2_with (first | (go_at_call 41; refine (eqPlaced_calls P1 Av A7 cv c7 _ _ _ hPl HPS.out hPv7 hPt).mono ?_; rintro e W8 ⟨rfl, hb8⟩; have hXv8 := hXv7.kb (KB.below (ts := []) hb8) (by simp); have hXt8 := hXt.kb (KB.below (ts := []) hb8) (by simp); have hb08 := hb07.trans (hb8.mono hb07.size)) | (go_at_call 42; refine (eqInts_calls X1 Ax Ax7 cx cx7 _ _ _ hXl hXv8 hXt8).mono ?_; rintro e W9 ⟨rfl, hb9⟩; have hb09 := hb08.trans (hb9.mono hb08.size)) | (go_at_call 13; refine (awake_calls _).mono ?_; rintro e W10 ⟨rfl, hb10⟩))
         go_ret
         exact ⟨rfl, hb0.trans ((hb09.trans (hb10.mono hb09.size)).mono hb0.size)⟩
      ·refine mOp_eff rfl rfl (fun K hK => ?_)
       go_simp
       simp only [effUpon_value]
       have hbN : Below W1.drew.heap.size W1.drew (W1.drew.alloc (.cells #[.int .i64 a, .int .i64 b, .int .i64 c, .slice A2 l.length cap2] 25)) := (Below.refl _ _).alloc (Nat.le_refl _) _
       have hb1N := hbD.trans (hbN.mono hbD.size)
       refine ⟨⟨⟨_, hb1N⟩, rfl⟩, hK _ _ ?_⟩
       clear hK K
       refine tr_step (mOp_append_cues rfl rfl rfl _ _ rfl C A cap W1 hb1N hA1 (by omega) rfl rfl ?_)
       intro v5 W5 us hus hL5 hin hb5
       have hb15 : Below W1.heap.size W1 W5 := hb1N.trans (hb5.mono hb1N.size)
       obtain ⟨A5, c5, rfl, hc5⟩ := hL5.form
       refine ⟨⟨⟨W5, hb15⟩, rfl⟩, ?_⟩
       have hN5 : W5.heap[W1.heap.size]? = some (.cells #[.int .i64 a, .int .i64 b, .int .i64 c, .slice A2 l.length cap2] 25 (0, 0)) := (hb5.block W1.heap.size (by simp [World.drew])).trans (heap_alloc_new W1.drew (.cells #[.int .i64 a, .int .i64 b, .int .i64 c, .slice A2 l.length cap2] 25))
       refine tr_step (mOp_append rfl rfl rfl _ _ 53 rfl W1.heap.size 25 i0 _ 4 48 Tryz.underlying53 hi hz0 hz1 hz2 rfl (by decide) _ C.length (cells25 us C) rfl hL5 ⟨W1.heap.size, 0, none⟩ 1 1 [.int .i64 a, .int .i64 b, .int .i64 c, .slice A2 l.length cap2] rfl rfl (fun j u hj => by rw [add0]; simp only [World.cell?, hN5]; simpa using hj) hone (by unfold maxLen; omega) (by omega) hb15.size (by decide) ?_)
       intro v6 W6 hL6 hg6
       have hb16 : Below W1.heap.size W1 W6 := hb15.grown hg6 hb15.size (fun j hj => (hL5.lt j hj).1)
       clear hg6
       obtain ⟨A6, c6, rfl, hc6⟩ := hL6.form
       have hin6 : ∀ (i : Nat) (u : Value) (q : Cu), us[i]? = some u → C[i]? = some q → InP W6 u q := fun i u x h1 h2 => (hin i u x h1 h2).below hb16
       have hA6 : CuesIn W6 A6 CC := by
        rw [← HCC.out]
        exact CuesIn.of_lies (base := W1.heap.size) (c := c6) (us := us ++ [.slice A2 l.length cap2]) (by simp [hus]) (by rw [cells25_snoc _ _ _ _ hus, List.length_append]; exact hL6) (InP.snoc hus hin6 ⟨A2, cap2, rfl, hc2, Kd.C_below hr1 hb16⟩)
       refine ⟨⟨⟨W6, hb16⟩, rfl⟩, ?_⟩
       refine tr_step (mOp_eff rfl rfl (fun K hK => ?_))
       go_simp
       simp only [effUpon_enter]
       refine (HZ.out _ _ _ hA6 hc6).mono ?_
       rintro e W7 ⟨v7, vl7, rfl, hP7, hX7, hb7⟩
       obtain ⟨A7, c7, rfl, hc77⟩ := hP7.form
       obtain ⟨Ax7, cx7, rfl, hcx7⟩ := hX7.form
       have hb17 : Below W1.heap.size W1 W7 := hb16.trans (hb7.mono hb16.size)
       have hb07 := hb01.trans (hb17.mono hb01.size)
       refine ⟨_, rfl, ⟨⟨W7, hb17⟩, rfl⟩, hK _ _ ?_⟩
       clear hK K hA6 hL6 hin6
       refine tr_pure rfl rfl (fun K hK => ?_)
       go_simp
       refine hK _ _ ?_
       clear hK K
       refine tr_pure rfl rfl (fun K hK => ?_)
       go_simp
       refine hK _ _ ?_
       clear hK K
       refine tr_pure rfl rfl (fun K hK => ?_)
       go_simp
       refine hK _ _ ?_
       clear hK K
       refine tr_pure rfl rfl (fun K hK => ?_)
       go_simp
       refine hK _ _ ?_
       clear hK K
       refine tr_pure rfl rfl (fun K hK => ?_)
       go_simp
       refine hK _ _ ?_
       clear hK K
       refine tr_pure rfl rfl (fun K hK => ?_)
       go_simp
       refine hK _ _ ?_
       clear hK K
       refine tr_pure rfl rfl (fun K hK => ?_)
       go_simp
       refine hK _ _ ?_
       clear hK K
       intro _
       have hPv7 := hPv.below hb17
       have hXv7 := hXv.kb (KB.below (ts := []) hb17) (by simp)
       clear hb16 hb15 hb7 hL5 hus hin
       cases hE : (E1 != 0)
       case true =>
        go_wp2_with (go_at_call 13; refine (awake_calls _).mono ?_; rintro e W8 ⟨rfl, hb8⟩)
        go_ret
        exact ⟨rfl, hb0.trans ((hb07.trans (hb8.mono hb07.size)).mono hb0.size)⟩
       case false =>
        cases hF : (E2 != 0)
        case true =>
         go_wp2_with (go_at_call 13; refine (awake_calls _).mono ?_; rintro e W8 ⟨rfl, hb8⟩)
         go_ret
         exact ⟨rfl, hb0.trans ((hb07.trans (hb8.mono hb07.size)).mono hb0.size)⟩
        case false =>
         obtain ⟨⟨P, hPP⟩, X, hXX⟩ := HBEH.out (by simpa using hE) (by simpa using hF)
         have hPt : Pls W7 W6.heap.size (.slice A7 P1.length c7) P1 := by rw [hPP] at hP7; exact hP7.take
         have hXt : Lies W7 W6.heap.size 3 1 (.slice Ax7 X1.length cx7) X1.length (X1.map encN) := by rw [hXX] at hX7; exact ints_take hX7
         have hn2 : P1.length ≤ P2.length := by rw [hPP, List.length_append]; omega
         have hm2 : X1.length ≤ X2.length := by rw [hXX, List.length_append]; omega
         generalize P2.length = n2 at *
         generalize X2.length = m2 at *
         have d1 : decide ((n2 : Int) < (P1.length : Int)) = false := decide_eq_false (by omega)
         have d2 : decide ((m2 : Int) < (X1.length : Int)) = false := decide_eq_false (by omega)
         have d3 : decide (n2 < P1.length) = false := decide_eq_false (by omega)
         have d4 : decide (m2 < X1.length) = false := decide_eq_false (by omega)
         have d5 : (P1.length : Int) ≤ (c7 : Int) := by omega
         have d6 : (X1.length : Int) ≤ (cx7 : Int) := by omega
         have d7 : P1.length ≤ c7 := by omega
         have d8 : X1.length ≤ cx7 := by omega
         clear hPP hXX hP7 hX7 hn2 hm2 hc77 hcx7
         go_wp2_with (first | (go_at_call 41; refine (eqPlaced_calls P1 Av A7 cv c7 _ _ _ hPl HPS.out hPv7 hPt).mono ?_; rintro e W8 ⟨rfl, hb8⟩; have hXv8 := hXv7.kb (KB.below (ts := []) hb8) (by simp); have hXt8 := hXt.kb (KB.below (ts := []) hb8) (by simp); have hb08 := hb07.trans (hb8.mono hb07.size)) | (go_at_call 42; refine (eqInts_calls X1 Ax Ax7 cx cx7 _ _ _ hXl hXv8 hXt8).mono ?_; rintro e W9 ⟨rfl, hb9⟩; have hb09 := hb08.trans (hb9.mono hb08.size)) | (go_at_call 13; refine (awake_calls _).mono ?_; rintro e W10 ⟨rfl, hb10⟩))
         go_ret
         exact ⟨rfl, hb0.trans ((hb09.trans (hb10.mono hb09.size)).mono hb0.size)⟩
end Go.Proofs.YtogidacejbjljaaGreatDoor.PTextChecks
end
