/- Lemmas on the way to the card of TextApart, joined from: LIdx LSrt LSrt2 LMerge LLost LRow LLay TLaw LCom ALaw. Conditions: as each lemma says. -/
import Derived.Outline
import Derived.Test.YtogidacejbjljaaGreatDoorZTextApartf
import Derived.Sort.WalkA
import Derived.WalkMore
import Derived.Deep.LoopGhost
import Derived.BigQuiet
import Derived.BigGuard
import Derived.Deep.QuietTactic
import Derived.OwnWalk
import Derived.Laws.OwnMore
section
/- slices.ContainsFunc over placed lines, at the two closures of the layout. -/
set_option linter.unusedVariables false
set_option linter.unusedSimpArgs false
namespace Go.Proofs.YtogidacejbjljaaGreatDoor.PTextChecks
open Go.RowKit Go.Mix Go.Own Go.Proofs.YtogidacejbjljaaGreatDoorW.PrintWords Go.Proofs.YtogidacejbjljaaGreatDoorW.PrintLast Go.Proofs.YtogidacejbjljaaGreatDoorW.PrintMore
theorem blk7 {W : World} {b : Nat} {v0 v1 v2 v3 v4 v5 v6 : Value} {t : TypeId} (h : W.heap[b]? = some (.cells #[v0, v1, v2, v3, v4, v5, v6] t (0, 0))) :
    W.cell? ⟨b, 0, none⟩ = some v0 ∧ W.cell? ⟨b, 1, none⟩ = some v1 ∧ W.cell? ⟨b, 2, none⟩ = some v2 ∧ W.cell? ⟨b, 3, none⟩ = some v3 ∧ W.cell? ⟨b, 4, none⟩ = some v4 ∧ W.cell? ⟨b, 5, none⟩ = some v5 ∧ W.cell? ⟨b, 6, none⟩ = some v6 := by
  simp [World.cell?, h]
theorem any_take_succ {α : Type} (f : α → Bool) (l : List α) (n : Nat) (x : α) (h : l[n]? = some x) : (l.take (n + 1)).any f = ((l.take n).any f || f x) := by
  obtain ⟨hn, he⟩ := List.getElem?_eq_some_iff.1 h
  rw [List.take_succ_eq_append_getElem hn, List.any_append, he]
  simp
theorem any_at {α : Type} (f : α → Bool) (l : List α) (n : Nat) (x : α) (h : l[n]? = some x) (hf : f x = true) : l.any f = true := List.any_eq_true.2 ⟨x, List.mem_of_getElem? h, hf⟩
set_option maxHeartbeats 2000000 in
set_option maxRecDepth 100000 in
theorem clos81_calls (p q : Pl) (u v : Value) (hp : SmP p) (hq : SmP q) (b : Nat) (w : World) (hb : w.heap[b]? = some (.cells (pl7 u p).toArray 63 (0, 0))) :
    Calls Tryz.prog 81 #[agg7 v q, .pointer (some ⟨b, 0, none⟩)] w fun e w' => e = .returned (.bool (ovl p q)) ∧ Below w.heap.size w w' := by
  have cO := fun X => overlap_calls p q u v hp hq X
  obtain ⟨m0, m1, m2, m3, m4, m5, m6⟩ := blk7 hb
  have hbP : Below w.heap.size w (w.alloc (.cells (pl7 v q).toArray 63)) := (Below.refl _ w).alloc (Nat.le_refl _) _
  have m0 := cell_later hbP m0
  have m1 := cell_later hbP m1
  have m2 := cell_later hbP m2
  have m3 := cell_later hbP m3
  have m4 := cell_later hbP m4
  have m5 := cell_later hbP m5
  have m6 := cell_later hbP m6
  unfold pl7 at m0 m1 m2 m3 m4 m5 m6 hbP
  unfold agg7 at cO ⊢
  generalize ovl p q = r at cO ⊢
  obtain ⟨pc, pl, px, py, pw, ph, pps⟩ := p
  obtain ⟨qc, ql, qx, qy, qw, qh, qps⟩ := q
  simp only at *
  clear hp hq hb
  go_enter Tryz.func81, Tryz.ntmps81
  go_wp2_with (go_at_call 82; refine (cO _).mono ?_; rintro e W ⟨rfl, hbW⟩)
  go_ret
  exact ⟨rfl, ((Below.refl _ w).alloc (Nat.le_refl _) _).trans (hbW.mono (by simp))⟩
set_option maxHeartbeats 2000000 in
set_option maxRecDepth 100000 in
theorem idx81_calls (p : Pl) (u0 : Value) (hp : SmP p) (P : List Pl) (A : Option Addr) (cap base b : Nat) (w : World) (hP : Pls w base (.slice A P.length cap) P) (hl : P.length ≤ 1000000) (hS : ∀ q ∈ P, SmP q) (hx : w.heap[b]? = some (.cells (pl7 u0 p).toArray 63 (0, 0))) :
    Calls Tryz.prog 111 #[.slice A P.length cap, .func (.func 81) #[] #[.pointer (some ⟨b, 0, none⟩)]] w fun e w' => (∃ r : Int, e = .returned (.int .i64 r) ∧ decide (0 ≤ r) = P.any (fun y => ovl p y)) ∧ Below w.heap.size w w' := by
  go_enter Tryz.func111, Tryz.ntmps111
  go_wp2
  go_loopw [8] (fun i wr => ∃ n : Nat, n ≤ P.length ∧ i = .int .i64 n ∧ (P.take n).any (fun y => ovl p y) = false ∧ Below w.heap.size w wr) (fun i wr => P.length - (intOf i).toNat)
  case atStart => exact ⟨0, by omega, rfl, rfl, Below.refl _ _⟩
  case round =>
    obtain ⟨n, hn, rfl, hno, hbr⟩ := hrel
    by_cases hlt : n < P.length
    · obtain ⟨ad, u, q, rfl, hq, hI, d0, d1, d2, d3, d4, d5, d6⟩ := at_pls (hP.below hbr) n hlt
      have hqm := List.mem_of_getElem? hq
      have cS := fun X (h : Below w.heap.size w X) => clos81_calls p q u0 u hp (hS q hqm) b X ((h.block b (Array.getElem?_eq_some_iff.1 hx).1).trans hx)
      have hts := any_take_succ (fun y => ovl p y) P n q hq
      have hat := any_at (fun y => ovl p y) P n q hq
      rw [hno, Bool.false_or] at hts
      try simp only at hts hat
      have HT := Lib.hid hts
      have HA := Lib.hid hat
      unfold agg7 at cS
      obtain ⟨r, hr⟩ : ∃ r, (ovl p q) = r := ⟨_, rfl⟩
      rw [hr] at cS
      have HR := Lib.hid hr
      clear hts hat hr hq hqm hI hno hP
      cases r
      all_goals
        go_wp2_with (go_at_call 81; refine (cS _ hbr).mono ?_; rintro e W ⟨rfl, hbW⟩)
      · go_roundw
        case rel => exact ⟨n + 1, by omega, by go_num, by rw [HT.out]; exact HR.out, hbr.trans (hbW.mono hbr.size)⟩
        case measure => simp [intOf]; omega
      · go_ret
        exact ⟨⟨n, rfl, by rw [HA.out HR.out]; exact decide_eq_true (by omega)⟩, hbr.trans (hbW.mono hbr.size)⟩
    · have HN : P.any (fun y => ovl p y) = false := by rw [← hno, List.take_of_length_le (by omega)]
      have HN := Lib.hid HN
      clear hno
      go_wp2
      go_ret
      exact ⟨⟨-1, rfl, by rw [HN.out]; rfl⟩, hbr⟩

set_option maxHeartbeats 2000000 in
theorem con81_calls (p : Pl) (u0 : Value) (hp : SmP p) (P : List Pl) (A : Option Addr) (cap base b : Nat) (w : World) (hP : Pls w base (.slice A P.length cap) P) (hl : P.length ≤ 1000000) (hS : ∀ q ∈ P, SmP q) (hx : w.heap[b]? = some (.cells (pl7 u0 p).toArray 63 (0, 0))) :
    Calls Tryz.prog 79 #[.slice A P.length cap, .func (.func 81) #[] #[.pointer (some ⟨b, 0, none⟩)]] w fun e w' => e = .returned (.bool (P.any (fun y => ovl p y))) ∧ Below w.heap.size w w' := by
  have cI := idx81_calls p u0 hp P A cap base b w hP hl hS hx
  generalize P.any (fun y => ovl p y) = r at cI ⊢
  go_enter Tryz.func79, Tryz.ntmps79
  go_wp2_with (go_at_call 111; refine cI.mono ?_; rintro e W ⟨⟨z, rfl, hz⟩, hbW⟩)
  go_ret
  exact ⟨by simp [hz], hbW⟩

set_option maxHeartbeats 2000000 in
set_option maxRecDepth 100000 in
theorem clos80_calls (p : Pl) (u : Value) (hp : SmP p) (P : List Pl) (A : Option Addr) (cap base bO : Nat) (w : World) (hP : Pls w base (.slice A P.length cap) P) (hl : P.length ≤ 1000000) (hS : ∀ q ∈ P, SmP q) (hO : w.heap[bO]? = some (.cells #[.slice A P.length cap] 55 (0, 0))) :
    Calls Tryz.prog 80 #[agg7 u p, .pointer (some ⟨bO, 0, none⟩)] w fun e w' => e = .returned (.bool (P.any fun y => ovl p y)) ∧ Below w.heap.size w w' := by
  have hb1 : Below w.heap.size w (w.alloc (.cells (pl7 u p).toArray 63)) := (Below.refl _ w).alloc (Nat.le_refl _) _
  have cC := con81_calls p u hp P A cap base w.heap.size (w.alloc (.cells (pl7 u p).toArray 63)) (hP.below hb1) hl hS (heap_alloc_new w _)
  have m0 : w.cell? ⟨bO, 0, none⟩ = some (.slice A P.length cap) := by simp [World.cell?, hO]
  have m0 := cell_later hb1 m0
  unfold agg7
  unfold pl7 at cC hb1 m0
  generalize (P.any fun y => ovl p y) = r at cC ⊢
  obtain ⟨pc, pl, px, py, pw, ph, pps⟩ := p
  simp only at *
  clear hp hP hS
  go_enter Tryz.func80, Tryz.ntmps80
  go_wp2_with (go_at_call 79; refine cC.mono ?_; rintro e W ⟨rfl, hbW⟩)
  go_ret
  exact ⟨rfl, hb1.trans (hbW.mono hb1.size)⟩
set_option maxHeartbeats 2000000 in
set_option maxRecDepth 100000 in
theorem idx80_calls (P : List Pl) (A : Option Addr) (cap base : Nat) (O : List Pl) (AO : Option Addr) (capO baseO bO : Nat) (w : World) (hP : Pls w base (.slice A P.length cap) P) (hl : P.length ≤ 1000000) (hS : ∀ q ∈ P, SmP q) (hPO : Pls w baseO (.slice AO O.length capO) O) (hlO : O.length ≤ 1000000) (hSO : ∀ q ∈ O, SmP q) (hO : w.heap[bO]? = some (.cells #[.slice AO O.length capO] 55 (0, 0))) :
    Calls Tryz.prog 111 #[.slice A P.length cap, .func (.func 80) #[] #[.pointer (some ⟨bO, 0, none⟩)]] w fun e w' => (∃ r : Int, e = .returned (.int .i64 r) ∧ decide (0 ≤ r) = P.any (fun x => O.any fun y => ovl x y)) ∧ Below w.heap.size w w' := by
  go_enter Tryz.func111, Tryz.ntmps111
  go_wp2
  go_loopw [8] (fun i wr => ∃ n : Nat, n ≤ P.length ∧ i = .int .i64 n ∧ (P.take n).any (fun x => O.any fun y => ovl x y) = false ∧ Below w.heap.size w wr) (fun i wr => P.length - (intOf i).toNat)
  case atStart => exact ⟨0, by omega, rfl, rfl, Below.refl _ _⟩
  case round =>
    obtain ⟨n, hn, rfl, hno, hbr⟩ := hrel
    by_cases hlt : n < P.length
    · obtain ⟨ad, u, q, rfl, hq, hI, d0, d1, d2, d3, d4, d5, d6⟩ := at_pls (hP.below hbr) n hlt
      have hqm := List.mem_of_getElem? hq
      have cS := fun X (h : Below w.heap.size w X) => clos80_calls q u (hS q hqm) O AO capO baseO bO X (hPO.below h) hlO hSO ((h.block bO (Array.getElem?_eq_some_iff.1 hO).1).trans hO)
      have hts := any_take_succ (fun x => O.any fun y => ovl x y) P n q hq
      have hat := any_at (fun x => O.any fun y => ovl x y) P n q hq
      rw [hno, Bool.false_or] at hts
      try simp only at hts hat
      have HT := Lib.hid hts
      have HA := Lib.hid hat
      unfold agg7 at cS
      obtain ⟨r, hr⟩ : ∃ r, (O.any fun y => ovl q y) = r := ⟨_, rfl⟩
      rw [hr] at cS
      have HR := Lib.hid hr
      clear hts hat hr hq hqm hI hno hP
      cases r
      all_goals
        go_wp2_with (go_at_call 80; refine (cS _ hbr).mono ?_; rintro e W ⟨rfl, hbW⟩)
      · go_roundw
        case rel => exact ⟨n + 1, by omega, by go_num, by rw [HT.out]; exact HR.out, hbr.trans (hbW.mono hbr.size)⟩
        case measure => simp [intOf]; omega
      · go_ret
        exact ⟨⟨n, rfl, by rw [HA.out HR.out]; exact decide_eq_true (by omega)⟩, hbr.trans (hbW.mono hbr.size)⟩
    · have HN : P.any (fun x => O.any fun y => ovl x y) = false := by rw [← hno, List.take_of_length_le (by omega)]
      have HN := Lib.hid HN
      clear hno
      go_wp2
      go_ret
      exact ⟨⟨-1, rfl, by rw [HN.out]; rfl⟩, hbr⟩

set_option maxHeartbeats 2000000 in
theorem con80_calls (P : List Pl) (A : Option Addr) (cap base : Nat) (O : List Pl) (AO : Option Addr) (capO baseO bO : Nat) (w : World) (hP : Pls w base (.slice A P.length cap) P) (hl : P.length ≤ 1000000) (hS : ∀ q ∈ P, SmP q) (hPO : Pls w baseO (.slice AO O.length capO) O) (hlO : O.length ≤ 1000000) (hSO : ∀ q ∈ O, SmP q) (hO : w.heap[bO]? = some (.cells #[.slice AO O.length capO] 55 (0, 0))) :
    Calls Tryz.prog 79 #[.slice A P.length cap, .func (.func 80) #[] #[.pointer (some ⟨bO, 0, none⟩)]] w fun e w' => e = .returned (.bool (P.any (fun x => O.any fun y => ovl x y))) ∧ Below w.heap.size w w' := by
  have cI := idx80_calls P A cap base O AO capO baseO bO w hP hl hS hPO hlO hSO hO
  generalize P.any (fun x => O.any fun y => ovl x y) = r at cI ⊢
  go_enter Tryz.func79, Tryz.ntmps79
  go_wp2_with (go_at_call 111; refine cI.mono ?_; rintro e W ⟨⟨z, rfl, hz⟩, hbW⟩)
  go_ret
  exact ⟨by simp [hz], hbW⟩

end Go.Proofs.YtogidacejbjljaaGreatDoor.PTextChecks
end
section
/- slices.SortStableFunc over the order of the cues: greater layers first. -/
set_option linter.unusedVariables false
set_option linter.unusedSimpArgs false
namespace Go.Proofs.YtogidacejbjljaaGreatDoor.PTextChecks
open Go.RowKit Go.Mix Go.Own Go.Sort Go.Proofs.YtogidacejbjljaaGreatDoorW.PrintWords Go.Proofs.YtogidacejbjljaaGreatDoorW.PrintLast Go.Proofs.YtogidacejbjljaaGreatDoorW.PrintMore
/-- The row of cues: their layers, as the closure reads them. -/
structure Layers (w : World) (bL : Nat) (C : List Cu) : Prop where
  box : ∃ A c, w.cell? ⟨bL, 0, none⟩ = some (.slice A C.length c) ∧ C.length ≤ c ∧ ∀ (k : Nat) (q : Cu), C[k]? = some q → ∃ ad, A = some ad ∧ w.cell? (ad.add (k * 4)) = some (.int .i64 q.a)
theorem add_block (ad : Addr) (m : Nat) : (ad.add m).block = ad.block := by unfold Addr.add; split <;> rfl
theorem layerOf_eq {C : List Cu} {k : Nat} {q : Cu} (h : C[k]? = some q) : layerOf C k = q.a := by unfold layerOf; rw [h]
set_option maxHeartbeats 2000000 in
set_option maxRecDepth 100000 in
theorem cmp_calls (C : List Cu) (bL : Nat) (hC : C.length ≤ 8) (hr : ∀ i, i < C.length → 0 ≤ layerOf C i ∧ layerOf C i ≤ 7) (x y : Nat) (hx : x < C.length) (hy : y < C.length) (w : World) (h : Layers w bL C) :
    Calls Tryz.prog 77 #[.int .i64 x, .int .i64 y, .pointer (some ⟨bL, 0, none⟩)] w fun e w' => e = .returned (.int .i64 (layerOf C y - layerOf C x)) ∧ ∃ m, w' = w.drewN m := by
  obtain ⟨A, c, h1, h2, h3⟩ := h.box
  obtain ⟨ad, rfl, dx⟩ := h3 x _ (List.getElem?_eq_getElem hx)
  obtain ⟨ad', e, dy⟩ := h3 y _ (List.getElem?_eq_getElem hy)
  injection e with e
  subst e
  have ex := layerOf_eq (List.getElem?_eq_getElem hx)
  have ey := layerOf_eq (List.getElem?_eq_getElem hy)
  have rx := hr x hx
  have ry := hr y hy
  rw [← ex] at dx
  rw [← ey] at dy
  clear ex ey h3 hr
  generalize layerOf C x = lx at dx rx ⊢
  generalize layerOf C y = ly at dy ry ⊢
  have wr : IntKind.i64.wrap (ly - lx) = ly - lx := IntWalk.i64_in _ (by omega)
  have x1 : (0 : Int) ≤ (x : Int) := by omega
  have x2 : (x : Int) < (C.length : Int) := by omega
  have y1 : (0 : Int) ≤ (y : Int) := by omega
  have y2 : (y : Int) < (C.length : Int) := by omega
  go_enter Tryz.func77, Tryz.ntmps77
  go_wp2
  go_quiet (fail)
  go_wp2
  go_ret
  exact ⟨rfl, _, rfl⟩
/-- The numbers of the cues in a row, as the sort turns them. -/
def encN (k : Nat) : Value := .int .i64 (k : Int)
def ltL (C : List Cu) (x y : Nat) : Bool := decide (layerOf C y - layerOf C x < 0)
theorem get_bang {α : Type} [Inhabited α] (d : Array α) (j : Nat) (h : j < d.size) : d[j]! = d.toList[j]'(by simpa using h) := by
  rw [getElem!_pos d j h]; simp
theorem swp_list {d : Array Nat} {A : List Nat} {x b : Nat} {rest : List Nat} (h : d.toList = A ++ b :: x :: rest) : (swp d (A.length + 1) (A.length + 1 - 1)).toList = A ++ x :: b :: rest := by
  have hs : d.size = A.length + (rest.length + 2) := by rw [← Array.length_toList, h]; simp
  have e1 : d[A.length]! = b := by rw [get_bang d _ (by omega)]; simp [h]
  have e2 : d[A.length + 1]! = x := by rw [get_bang d _ (by omega)]; simp [h]
  unfold swp
  simp only [Nat.add_sub_cancel, e1, e2, Array.toList_setIfInBounds, h]
  rw [List.set_append_right _ _ (by omega), List.set_append_right _ _ (by omega)]
  simp
set_option maxHeartbeats 4000000 in
set_option maxRecDepth 100000 in
theorem insSort_calls (C : List Cu) (bL blk off cap : Nat) (hC : C.length ≤ 8) (hr : ∀ i, i < C.length → 0 ≤ layerOf C i ∧ layerOf C i ≤ 7) (w : World) (d : Array Nat) (hd : d.toList = List.range C.length) (hH : Holds encN w blk off d) (h : Layers w bL C) (hb : bL < blk)
    (hcb : ∀ A c, w.cell? ⟨bL, 0, none⟩ = some (.slice A C.length c) → ∀ ad, A = some ad → ad.block < blk) :
    Calls Tryz.prog 130 #[.slice (some ⟨blk, off, none⟩) C.length cap, .int .i64 0, .int .i64 C.length, .func (.func 77) #[] #[.pointer (some ⟨bL, 0, none⟩)]] w fun e w' => e = .returned (.tuple #[]) ∧ ∃ n dk, dk.toList = ordF (layerOf C) C.length ∧ w' = putRow encN (Sort.ahead w n) blk off dk := by
  have hsz : d.size = C.length := by rw [← Array.length_toList, hd, List.length_range]
  have cW : ∀ (m : Nat) (dj : Array Nat) (q x y : Nat), x < C.length → y < C.length → Calls Tryz.prog 77 #[.int .i64 x, .int .i64 y, .pointer (some ⟨bL, 0, none⟩)] ((putRow encN (Sort.ahead w m) blk off dj).drewN q) fun e w' => e = .returned (.int .i64 (layerOf C y - layerOf C x)) ∧ ∃ k, w' = ((putRow encN (Sort.ahead w m) blk off dj).drewN q).drewN k := by
    intro m dj q x y hx hy
    refine cmp_calls C bL hC hr x y hx hy _ ?_
    rw [putRow_drewN]
    obtain ⟨A, c, h1, h2, h3⟩ := h.box
    refine ⟨A, c, ?_, h2, fun k p hp => ?_⟩
    · rw [cell?_putRow_other _ _ _ _ _ _ (.inl (by show bL ≠ blk; omega))]
      exact h1
    · obtain ⟨ad, ha, hc⟩ := h3 k p hp
      refine ⟨ad, ha, ?_⟩
      have := hcb A c h1 ad ha
      rw [cell?_putRow_other _ _ _ _ _ _ (.inl (by rw [add_block]; omega))]
      exact hc
  have HH := Lib.hid hH
  have HSZ := Lib.hid hsz
  go_enter Tryz.func130, Tryz.ntmps130
  go_wp2
  go_loopw [8] (fun vi wr => ∃ (i n : Nat) (dk : Array Nat), vi = .int .i64 i ∧ 1 ≤ i ∧ i ≤ C.length + 1 ∧ (i ≤ C.length → dk.toList = ordF (layerOf C) i ++ (List.range C.length).drop i) ∧ (C.length < i → dk.toList = ordF (layerOf C) C.length) ∧ dk.size = d.size ∧ wr = putRow encN (Sort.ahead w n) blk off dk) (fun vi _ => C.length + 1 - (intOf vi).toNat)
  case atStart =>
    refine ⟨1, 0, d, by go_num, by omega, by omega, fun h1 => ?_, fun h1 => ?_, rfl, (putRow_self _ _ _ _ _ hH).symm⟩
    · have h0 := hr 0 (by omega)
      have : ordF (layerOf C) 1 = [0] := (ordF_step (layerOf C) 0 h0 (Q := [0]) ⟨[], [], by simp [ordF_zero], rfl, fun b hb => by simp at hb, fun a ha => by simp at ha⟩).symm
      rw [hd, this]
      conv => lhs; rw [← List.take_append_drop 1 (List.range C.length)]
      congr 1
      rw [List.take_range, Nat.min_eq_left h1]
      rfl
    · have : C.length = 0 := by omega
      rw [hd, this, ordF_zero]
      rfl
  case round =>
    obtain ⟨i, n, dk, rfl, hi1, hi2, hO, hE, hsk, hwr⟩ := hrel
    by_cases hlt : i < C.length
    · have hO := hO (by omega)
      have hro : (List.range C.length).drop i = i :: (List.range C.length).drop (i + 1) := by rw [List.drop_eq_getElem_cons (by simpa using hlt)]; simp
      rw [hro] at hO
      have hpl : (ordF (layerOf C) i).length = i := by
        have := congrArg List.length hO
        simp only [Array.length_toList, List.length_append, List.length_cons, List.length_drop, List.length_range] at this
        omega
      have hpm : ∀ k ∈ ordF (layerOf C) i, k < i := fun k hk => (ordF_mem (fun j hj => hr j (by omega)) k).1 hk
      have hin := hr i hlt
      have hstep := fun Q => ordF_step (layerOf C) i hin (Q := Q)
      obtain ⟨P, hP⟩ : ∃ P, ordF (layerOf C) i = P := ⟨_, rfl⟩
      rw [hP] at hO hpl hpm hstep
      obtain ⟨R, hR⟩ : ∃ R, (List.range C.length).drop (i + 1) = R := ⟨_, rfl⟩
      rw [hR] at hO
      have HS := Lib.hid hstep
      have HR := Lib.hid hR
      have HR0 := Lib.hid hr
      clear hstep hP hro hE hR hin hd hH h hcb hr
      go_wp2
      go_loopw [9] (fun vj wr2 => ∃ (j m : Nat) (dj : Array Nat) (A B : List Nat), vj = .int .i64 j ∧ A.length = j ∧ P = A ++ B ∧ dj.toList = A ++ i :: (B ++ R) ∧ (∀ b ∈ B, ltL C i b = true) ∧ dj.size = d.size ∧ wr2 = putRow encN (Sort.ahead w m) blk off dj) (fun vj _ => (intOf vj).toNat)
      case atStart => exact ⟨i, n, dk, P, [], rfl, hpl, by simp, by simpa using hO, fun b hb => by simp at hb, hsk, rfl⟩
      case round =>
        obtain ⟨j, m, dj, A, B, rfl, hA, hPA, hdj, hB, hsj, hw2⟩ := hrel
        have hji : j ≤ i := by rw [← hpl, hPA, List.length_append]; omega
        have hsd := HSZ.out
        obtain ⟨G, hG⟩ : ∃ G : Nat → Nat, ∀ t, G t = dj[t]! := ⟨fun t => dj[t]!, fun _ => rfl⟩
        have gj : G j = i := by rw [hG, get_bang dj j (by omega)]; simp [hdj, ← hA]
        have hcw : ∀ t, t < d.size → wr.cell? ⟨blk, off + t, none⟩ = some (.int .i64 (G t : Nat)) := fun t ht => by
          rw [hw2, hG]; exact cell?_putRow encN _ _ _ d dj (holds_ahead _ _ _ _ _ _ HH.out) hsj t (by omega)
        have hfw : ∀ t, t < d.size → wr.frozen? ⟨blk, off + t, none⟩ = false := fun t ht => by
          rw [hw2, frozen?_putRow]; exact ((holds_ahead _ _ m _ _ _ HH.out) t ht).2
        have HW := Lib.hid hw2
        have HG := Lib.hid hG
        have HB := Lib.hid hB
        have HPA := Lib.hid hPA
        have HD := Lib.hid hdj
        have HA := Lib.hid hA
        -- the end of the round: x has come to its place
        have out : (∀ a, A.getLast? = some a → ltL C i a = false) → ∀ q, ∃ (i' n' : Nat) (dk' : Array Nat), Value.int .i64 ((i : Int) + 1) = .int .i64 (i' : Nat) ∧ 1 ≤ i' ∧ i' ≤ C.length + 1 ∧ (i' ≤ C.length → dk'.toList = ordF (layerOf C) i' ++ (List.range C.length).drop i') ∧ (C.length < i' → dk'.toList = ordF (layerOf C) C.length) ∧ dk'.size = d.size ∧ wr.drewN q = putRow encN (Sort.ahead w n') blk off dk' := fun hl q =>
          ⟨i + 1, m + q, dj, by go_num, by omega, by omega, fun _ => by rw [HD.out, ← HS.out _ ⟨A, B, HPA.out, rfl, HB.out, hl⟩, HR.out]; simp, fun hh => by omega, hsj, by rw [HW.out]; exact putRow_drewN _ _ _ _ _ _ _⟩
        have OUT := Lib.hid out
        clear out hw2 hG hB hPA hdj
        by_cases hja : 0 < j
        · obtain ⟨A', b, rfl⟩ : ∃ A' b, A = A' ++ [b] := ⟨A.dropLast, A.getLast (by intro e; rw [e] at hA; simp at hA; omega), (List.dropLast_concat_getLast _).symm⟩
          have hA' : A'.length = j - 1 := by rw [List.length_append, List.length_singleton] at hA; omega
          have gb : G (j - 1) = b := by rw [HG.out, get_bang dj (j - 1) (by omega)]; simp [HD.out, ← hA']
          have hbi : b < i := hpm b (by rw [HPA.out]; simp)
          have hlb : ltL C i b = decide (layerOf C b - layerOf C i < 0) := rfl
          have hlast : (A' ++ [b]).getLast? = some b := by simp
          have rb := HR0.out b (by omega)
          have ri := HR0.out i (by omega)
          have hcl : ∀ q, Calls Tryz.prog 77 #[.int .i64 ((G j : Nat) : Int), .int .i64 ((G (j - 1) : Nat) : Int), .pointer (some ⟨bL, 0, none⟩)] (wr.drewN q) fun e w' => e = .returned (.int .i64 (layerOf C b - layerOf C i)) ∧ ∃ k, w' = (wr.drewN q).drewN k := by
            intro q
            rw [gj, gb, HW.out]
            exact cW m dj q i b (by omega) (by omega)
          generalize layerOf C b - layerOf C i = D at hlb hcl
          clear gj gb
          have HL := Lib.hid hlast
          have HLB := Lib.hid hlb
          clear cW hlast hA hlb
          cases hdd : decide (D < 0)
          case true =>
            go_wp2
            go_quiet (first | (go_at_call 77; exact Calls.quiet_of (hcl _)))
            go_wp2
            go_region
            all_goals go_wp2
            go_roundw
            case rel =>
              refine ⟨j - 1, m + (nq + 1), swp dj j (j - 1), A', b :: B, by congr 1; omega, hA', by rw [HPA.out]; simp, ?_, ?_, by rw [size_swp]; exact hsj, ?_⟩
              · have := swp_list (d := dj) (A := A') (x := i) (b := b) (rest := B ++ R) (by rw [HD.out]; simp)
                rw [hA', show j - 1 + 1 = j by omega] at this
                rw [this]; simp
              · intro c hc
                rcases List.mem_cons.1 hc with rfl | hc
                · rw [HLB.out]; exact hdd
                · exact HB.out c hc
              · rw [HW.out, HG.out, HG.out]
                exact swap_worldA encN w m (nq + 1) blk off dj j (j - 1) (by omega) (by omega)
            case measure => simp [intOf]; omega
          case false =>
            go_wp2
            go_quiet (first | (go_at_call 77; exact Calls.quiet_of (hcl _)))
            go_wp2
            go_roundw
            case rel => exact OUT.out (fun a ha => by rw [HL.out] at ha; injection ha with ha; rw [← ha, HLB.out]; exact hdd) nq
            case measure => simp [intOf]; omega
        · have hA0 : A = [] := List.eq_nil_of_length_eq_zero (by omega)
          clear gj
          go_wp2
          go_quiet (first | (go_at_call 77; exact Calls.quiet_of (cW _ _ _ _ _ (by omega) (by omega))))
          go_wp2
          go_roundw
          case rel => exact OUT.out (fun a ha => by rw [hA0] at ha; simp at ha) nq
          case measure => simp [intOf]; omega
    · have hfin : dk.toList = ordF (layerOf C) C.length := by
        rcases Nat.lt_or_ge C.length i with h1 | h1
        · exact hE h1
        · rw [hO h1, show i = C.length by omega, List.drop_of_length_le (by simp), List.append_nil]
      have HF := Lib.hid hfin
      clear hO hE hfin
      go_wp2
      go_end0
      exact ⟨rfl, n, dk, HF.out, rfl⟩
end Go.Proofs.YtogidacejbjljaaGreatDoor.PTextChecks
end
section
/- slices.SortStableFunc over the order of the cues, small rows. -/
set_option linter.unusedVariables false
set_option linter.unusedSimpArgs false
namespace Go.Proofs.YtogidacejbjljaaGreatDoor.PTextChecks
open Go.RowKit Go.Mix Go.Own Go.Sort Go.Proofs.YtogidacejbjljaaGreatDoorW.PrintWords Go.Proofs.YtogidacejbjljaaGreatDoorW.PrintLast Go.Proofs.YtogidacejbjljaaGreatDoorW.PrintMore
set_option maxHeartbeats 4000000 in
set_option maxRecDepth 100000 in
theorem stable_calls (C : List Cu) (bL blk off cap : Nat) (hC : C.length ≤ 8) (hr : ∀ i, i < C.length → 0 ≤ layerOf C i ∧ layerOf C i ≤ 7) (w : World) (d : Array Nat) (hd : d.toList = List.range C.length) (hH : Holds encN w blk off d) (h : Layers w bL C) (hb : bL < blk)
    (hcb : ∀ A c, w.cell? ⟨bL, 0, none⟩ = some (.slice A C.length c) → ∀ ad, A = some ad → ad.block < blk) :
    Calls Tryz.prog 76 #[.slice (some ⟨blk, off, none⟩) C.length cap, .func (.func 77) #[] #[.pointer (some ⟨bL, 0, none⟩)]] w fun e w' => e = .returned (.tuple #[]) ∧ ∃ n dk, dk.toList = ordF (layerOf C) C.length ∧ w' = putRow encN (Sort.ahead w n) blk off dk := by
  have cI := insSort_calls C bL blk off cap hC hr w d hd hH h hb hcb
  have c1 : decide ((20 : Int) ≤ (C.length : Int)) = false := decide_eq_false (by omega)
  have c2 : decide ((20 : Int) < (C.length : Int)) = false := decide_eq_false (by omega)
  have c109 : Calls Tryz.prog 109 #[.slice (some ⟨blk, off, none⟩) C.length cap, .int .i64 C.length, .func (.func 77) #[] #[.pointer (some ⟨bL, 0, none⟩)]] w fun e w' => e = .returned (.tuple #[]) ∧ ∃ n dk, dk.toList = ordF (layerOf C) C.length ∧ w' = putRow encN (Sort.ahead w n) blk off dk := by
    clear hd hH h hcb hr
    go_enter Tryz.func109, Tryz.ntmps109
    go_wp2
    go_loopw [7, 8] (fun a v wr => a = .int .i64 0 ∧ v = .int .i64 20 ∧ wr = w) (fun _ _ _ => 0)
    case atStart => exact ⟨rfl, rfl, rfl⟩
    case round =>
      obtain ⟨rfl, rfl, rfl⟩ := hrel
      go_wp2_with (go_at_call 130; refine cI.mono ?_; rintro e W ⟨rfl, n, dk, h1, h2⟩; have H2 := Lib.hid h2; clear h2)
      go_loopw [6] (fun v wr => v = .int .i64 20 ∧ wr = W) (fun _ _ => 0)
      case atStart => exact ⟨rfl, rfl⟩
      case round =>
        obtain ⟨rfl, rfl⟩ := hrel
        go_wp2
        go_end0
        exact ⟨rfl, n, dk, h1, H2.out⟩
  go_enter Tryz.func76, Tryz.ntmps76
  go_wp2_with (go_at_call 109; refine c109.mono ?_; rintro e W ⟨rfl, n, dk, h1, h2⟩; have H2 := Lib.hid h2; clear h2)
  go_end0
  exact ⟨rfl, n, dk, h1, H2.out⟩
end Go.Proofs.YtogidacejbjljaaGreatDoor.PTextChecks
end
section
/- The lost cues, sorted. -/
set_option linter.unusedVariables false
set_option linter.unusedSimpArgs false
namespace Go.Proofs.YtogidacejbjljaaGreatDoor.PTextChecks
open Go.RowKit Go.Proofs.YtogidacejbjljaaGreatDoorW.PrintWords Go.Proofs.YtogidacejbjljaaGreatDoorW.PrintLast Go.Proofs.YtogidacejbjljaaGreatDoorW.PrintMore
theorem rise_perm {n : Nat} {X : List Nat} (hn : X.Nodup) (hX : ∀ k ∈ X, k < n) : (riseF n X).Perm X := by
  refine (List.perm_ext_iff_of_nodup (List.nodup_range.filter _) hn).2 fun a => ?_
  rw [List.mem_filter, List.mem_range, decide_eq_true_eq]
  exact ⟨fun h => h.2, fun h => ⟨hX a h, h⟩⟩
theorem lost_sub {C : List Cu} {canvas tall : Int} : ∀ (l : List Nat) (s : List Pl × List Nat), (l.foldl (stepS C canvas tall) s).2.Sublist (s.2 ++ l)
  | [], s => by simp
  | k :: l, s => by
    have h := lost_sub (C := C) (canvas := canvas) (tall := tall) l (stepS C canvas tall s k)
    rw [List.foldl_cons]
    refine h.trans ?_
    have h2 : (stepS C canvas tall s k).2 = s.2 ++ [k] ∨ (stepS C canvas tall s k).2 = s.2 := by
      unfold stepS
      split
      · exact .inl rfl
      · exact .inr rfl
    rcases h2 with h2 | h2
    · rw [h2, List.append_assoc]
      exact List.Sublist.refl _
    · rw [h2]
      exact (List.Sublist.refl _).append (List.sublist_cons_self k l)
theorem lay_nodup (C : List Cu) (canvas tall : Int) : (layS C canvas tall).2.Nodup ∧ ∀ k ∈ (layS C canvas tall).2, k ∈ ordF (layerOf C) C.length := by
  have h := lost_sub (C := C) (canvas := canvas) (tall := tall) (ordF (layerOf C) C.length) ([], [])
  rw [List.nil_append] at h
  exact ⟨(ordF_nodup _ _).sublist h, fun k hk => h.mem hk⟩
end Go.Proofs.YtogidacejbjljaaGreatDoor.PTextChecks
end
section
/- slices.Sort over the lost cues. -/
set_option linter.unusedVariables false
set_option linter.unusedSimpArgs false
namespace Go.Proofs.YtogidacejbjljaaGreatDoor.PTextChecks
open Go.RowKit Go.Mix Go.Own Go.Sort Go.Proofs.YtogidacejbjljaaGreatDoorW.PrintWords Go.Proofs.YtogidacejbjljaaGreatDoorW.PrintLast Go.Proofs.YtogidacejbjljaaGreatDoorW.PrintMore
theorem isNaN_calls (x : Int) (w : World) : Calls Tryz.prog 167 #[.int .i64 x] w fun e w' => e = .returned (.bool false) ∧ w' = w := by
  go_enter Tryz.func167, Tryz.ntmps167
  go_wp2
  go_ret
  exact ⟨by simp, rfl⟩
set_option maxHeartbeats 1000000 in
theorem less_calls (x y : Nat) (w : World) : Calls Tryz.prog 138 #[.int .i64 x, .int .i64 y] w fun e w' => e = .returned (.bool (decide (x < y))) ∧ w' = w := by
  go_enter Tryz.func138, Tryz.ntmps138
  go_wp2_with (go_at_call 167; refine (isNaN_calls _ _).mono ?_; rintro e w' ⟨rfl, hw⟩; rw [hw]; clear hw w')
  go_ret
  exact ⟨rfl, rfl⟩
set_option maxHeartbeats 4000000 in
set_option maxRecDepth 100000 in
theorem insOrd_calls (nn : Nat) (X : List Nat) (hnd : X.Nodup) (hlt0 : ∀ k ∈ X, k < nn) (hXl : X.length ≤ 8) (blk off cap : Nat) (w : World) (d : Array Nat) (hd : d.toList = X) (hH : Holds encN w blk off d) :
    Calls Tryz.prog 132 #[.slice (some ⟨blk, off, none⟩) X.length cap, .int .i64 0, .int .i64 X.length] w fun e w' => e = .returned (.tuple #[]) ∧ ∃ n dk, dk.toList = riseF nn X ∧ w' = putRow encN (Sort.ahead w n) blk off dk := by
  have hsz : d.size = X.length := by rw [← Array.length_toList, hd]
  have HH := Lib.hid hH
  have HSZ := Lib.hid hsz
  go_enter Tryz.func132, Tryz.ntmps132
  go_wp2
  go_loopw [6] (fun vi wr => ∃ (i n : Nat) (dk : Array Nat), vi = .int .i64 i ∧ 1 ≤ i ∧ i ≤ X.length + 1 ∧ (i ≤ X.length → dk.toList = riseF nn (X.take i) ++ X.drop i) ∧ (X.length < i → dk.toList = riseF nn X) ∧ dk.size = d.size ∧ wr = putRow encN (Sort.ahead w n) blk off dk) (fun vi _ => X.length + 1 - (intOf vi).toNat)
  case atStart =>
    refine ⟨1, 0, d, by go_num, by omega, by omega, fun h1 => ?_, fun h1 => ?_, rfl, (putRow_self _ _ _ _ _ hH).symm⟩
    · obtain ⟨x, r, hx⟩ : ∃ x r, X = x :: r := by
        cases X with
        | nil => simp at h1
        | cons x r => exact ⟨x, r, rfl⟩
      subst hx
      have this : riseF nn [x] = [x] := (riseF_step nn [] x (hlt0 x (by simp)) (by simp) (Q := [x]) ⟨[], [], by simp [riseF], rfl, fun b hb => by simp at hb, fun a ha => by simp at ha⟩).symm
      rw [hd]
      show x :: r = riseF nn [x] ++ r
      rw [this]
      rfl
    · have h0 : X = [] := List.eq_nil_of_length_eq_zero (by omega)
      rw [hd, h0]
      simp [riseF]
  case round =>
    obtain ⟨i, n, dk, rfl, hi1, hi2, hO, hE, hsk, hwr⟩ := hrel
    by_cases hlt : i < X.length
    · have hO := hO (by omega)
      obtain ⟨x, hxi⟩ : ∃ x, X[i]? = some x := ⟨_, List.getElem?_eq_getElem hlt⟩
      have hxe : X[i] = x := by rw [List.getElem?_eq_getElem hlt] at hxi; exact Option.some.inj hxi
      have hro : X.drop i = x :: X.drop (i + 1) := by rw [List.drop_eq_getElem_cons hlt, hxe]
      have htk : X.take (i + 1) = X.take i ++ [x] := by rw [List.take_succ_eq_append_getElem hlt, hxe]
      rw [hro] at hO
      have hxm : x ∈ X := List.mem_of_getElem? hxi
      have hxn : x ∉ X.take i := by
        intro hm
        have h2 : (X.take i ++ X.drop i).Nodup := by rw [List.take_append_drop]; exact hnd
        rw [hro, List.nodup_append] at h2
        exact h2.2.2 x hm x (by simp) rfl
      have hpl : (riseF nn (X.take i)).length = i := by
        have := congrArg List.length hO
        simp only [Array.length_toList, List.length_append, List.length_cons, List.length_drop] at this
        omega
      have hstep := fun Q => riseF_step nn (X.take i) x (hlt0 x hxm) hxn (Q := Q)
      rw [← htk] at hstep
      obtain ⟨P, hP⟩ : ∃ P, riseF nn (X.take i) = P := ⟨_, rfl⟩
      rw [hP] at hO hpl hstep
      obtain ⟨R, hR⟩ : ∃ R, X.drop (i + 1) = R := ⟨_, rfl⟩
      rw [hR] at hO
      have HS := Lib.hid hstep
      have HR := Lib.hid hR
      clear hstep hP hro hE hR hd hH hxi hxe htk hxm hxn hnd hlt0
      go_wp2
      go_loopw [7] (fun vj wr2 => ∃ (j m : Nat) (dj : Array Nat) (A B : List Nat), vj = .int .i64 j ∧ A.length = j ∧ P = A ++ B ∧ dj.toList = A ++ x :: (B ++ R) ∧ (∀ b ∈ B, decide (x < b) = true) ∧ dj.size = d.size ∧ wr2 = putRow encN (Sort.ahead w m) blk off dj) (fun vj _ => (intOf vj).toNat)
      case atStart => exact ⟨i, n, dk, P, [], rfl, hpl, by simp, by simpa using hO, fun b hb => by simp at hb, hsk, rfl⟩
      case round =>
        obtain ⟨j, m, dj, A, B, rfl, hA, hPA, hdj, hB, hsj, hw2⟩ := hrel
        have hji : j ≤ i := by rw [← hpl, hPA, List.length_append]; omega
        have hsd := HSZ.out
        obtain ⟨G, hG⟩ : ∃ G : Nat → Nat, ∀ t, G t = dj[t]! := ⟨fun t => dj[t]!, fun _ => rfl⟩
        have gj : G j = x := by rw [hG, get_bang dj j (by omega)]; simp [hdj, ← hA]
        have hcw : ∀ t, t < d.size → wr.cell? ⟨blk, off + t, none⟩ = some (.int .i64 (G t : Nat)) := fun t ht => by
          rw [hw2, hG]; exact cell?_putRow encN _ _ _ d dj (holds_ahead _ _ _ _ _ _ HH.out) hsj t (by omega)
        have hfw : ∀ t, t < d.size → wr.frozen? ⟨blk, off + t, none⟩ = false := fun t ht => by
          rw [hw2, frozen?_putRow]; exact ((holds_ahead _ _ m _ _ _ HH.out) t ht).2
        have HW := Lib.hid hw2
        have HG := Lib.hid hG
        have HB := Lib.hid hB
        have HPA := Lib.hid hPA
        have HD := Lib.hid hdj
        have HA := Lib.hid hA
        -- the end of the round: x has come to its place
        have out : (∀ a, A.getLast? = some a → decide (x < a) = false) → ∀ q, ∃ (i' n' : Nat) (dk' : Array Nat), Value.int .i64 ((i : Int) + 1) = .int .i64 (i' : Nat) ∧ 1 ≤ i' ∧ i' ≤ X.length + 1 ∧ (i' ≤ X.length → dk'.toList = riseF nn (X.take i') ++ X.drop i') ∧ (X.length < i' → dk'.toList = riseF nn X) ∧ dk'.size = d.size ∧ wr.drewN q = putRow encN (Sort.ahead w n') blk off dk' := fun hl q =>
          ⟨i + 1, m + q, dj, by go_num, by omega, by omega, fun _ => by rw [HD.out, ← HS.out _ ⟨A, B, HPA.out, rfl, HB.out, hl⟩, HR.out]; simp, fun hh => by omega, hsj, by rw [HW.out]; exact putRow_drewN _ _ _ _ _ _ _⟩
        have OUT := Lib.hid out
        clear out hw2 hG hB hPA hdj
        by_cases hja : 0 < j
        · obtain ⟨A', b, rfl⟩ : ∃ A' b, A = A' ++ [b] := ⟨A.dropLast, A.getLast (by intro e; rw [e] at hA; simp at hA; omega), (List.dropLast_concat_getLast _).symm⟩
          have hA' : A'.length = j - 1 := by rw [List.length_append, List.length_singleton] at hA; omega
          have gb : G (j - 1) = b := by rw [HG.out, get_bang dj (j - 1) (by omega)]; simp [HD.out, ← hA']
          have hlast : (A' ++ [b]).getLast? = some b := by simp
          have hcl : ∀ W, Calls Tryz.prog 138 #[.int .i64 ((G j : Nat) : Int), .int .i64 ((G (j - 1) : Nat) : Int)] W fun e w' => e = .returned (.bool (decide (x < b))) ∧ w' = W := by
            intro W
            rw [gj, gb]
            exact less_calls x b W
          have HL := Lib.hid hlast
          have HLB := Lib.hid (rfl : decide (x < b) = decide (x < b))
          obtain ⟨D, hD⟩ : ∃ D, decide (x < b) = D := ⟨_, rfl⟩
          rw [hD] at hcl
          have HDD := Lib.hid hD
          clear hlast hA gj gb hD
          cases D
          case true =>
            go_wp2
            go_quiet (first | (go_at_call 138; exact Calls.quiet_of_same (hcl _)))
            go_wp2
            go_region
            all_goals go_wp2
            go_roundw
            case rel =>
              refine ⟨j - 1, m + (nq + 1), swp dj j (j - 1), A', b :: B, by congr 1; omega, hA', by rw [HPA.out]; simp, ?_, ?_, by rw [size_swp]; exact hsj, ?_⟩
              · have := swp_list (d := dj) (A := A') (x := x) (b := b) (rest := B ++ R) (by rw [HD.out]; simp)
                rw [hA', show j - 1 + 1 = j by omega] at this
                rw [this]; simp
              · intro c hc
                rcases List.mem_cons.1 hc with rfl | hc
                · exact HDD.out
                · exact HB.out c hc
              · rw [HW.out, HG.out, HG.out]
                exact swap_worldA encN w m (nq + 1) blk off dj j (j - 1) (by omega) (by omega)
            case measure => simp [intOf]; omega
          case false =>
            go_wp2
            go_quiet (first | (go_at_call 138; exact Calls.quiet_of_same (hcl _)))
            go_wp2
            go_roundw
            case rel => exact OUT.out (fun a ha => by rw [HL.out] at ha; injection ha with ha; rw [← ha]; exact HDD.out) nq
            case measure => simp [intOf]; omega
        · have hA0 : A = [] := List.eq_nil_of_length_eq_zero (by omega)
          clear gj
          go_wp2
          go_quiet (fail)
          go_wp2
          go_roundw
          case rel => exact OUT.out (fun a ha => by rw [hA0] at ha; simp at ha) nq
          case measure => simp [intOf]; omega
    · have hfin : dk.toList = riseF nn X := by
        rcases Nat.lt_or_ge X.length i with h1 | h1
        · exact hE h1
        · rw [hO h1, show i = X.length by omega, List.drop_of_length_le (Nat.le_refl _), List.append_nil, List.take_length]
      have HF := Lib.hid hfin
      clear hO hE hfin
      go_wp2
      go_end0
      exact ⟨rfl, n, dk, HF.out, rfl⟩
set_option maxHeartbeats 1000000 in
set_option maxRecDepth 100000 in
theorem len64_calls (n : Nat) (hn : n ≤ 8) (w : World) : Calls Tryz.prog 142 #[.int .u64 n] w fun e w' => (∃ r : Int, e = .returned (.int .i64 r)) ∧ w' = w := by
  have hc : n = 0 ∨ n = 1 ∨ n = 2 ∨ n = 3 ∨ n = 4 ∨ n = 5 ∨ n = 6 ∨ n = 7 ∨ n = 8 := by omega
  rcases hc with rfl | rfl | rfl | rfl | rfl | rfl | rfl | rfl | rfl
  all_goals
    go_enter Tryz.func142, Tryz.ntmps142
    go_wp2
    go_ret
    exact ⟨⟨_, rfl⟩, rfl⟩
set_option maxHeartbeats 1000000 in
set_option maxRecDepth 100000 in
theorem sort_calls (nn : Nat) (X : List Nat) (hnd : X.Nodup) (hlt0 : ∀ k ∈ X, k < nn) (hXl : X.length ≤ 8) (blk off cap : Nat) (w : World) (d : Array Nat) (hd : d.toList = X) (hH : Holds encN w blk off d) :
    Calls Tryz.prog 83 #[.slice (some ⟨blk, off, none⟩) X.length cap] w fun e w' => e = .returned (.tuple #[]) ∧ ∃ n dk, dk.toList = riseF nn X ∧ w' = putRow encN (Sort.ahead w n) blk off dk := by
  have cI := insOrd_calls nn X hnd hlt0 hXl blk off cap w d hd hH
  have cB : Calls Tryz.prog 113 #[.int .u64 X.length] w fun e w' => (∃ r : Int, e = .returned (.int .i64 r)) ∧ w' = w := by
    have cL := len64_calls X.length hXl w
    clear cI hd hH hnd hlt0
    go_enter Tryz.func113, Tryz.ntmps113
    go_wp2_with (go_at_call 142; refine cL.mono ?_; rintro e w' ⟨⟨r, rfl⟩, hw⟩; rw [hw]; clear hw w')
    go_ret
    exact ⟨⟨_, rfl⟩, rfl⟩
  have c1 : decide ((X.length : Int) ≤ 12) = true := decide_eq_true (by omega)
  have cP : ∀ r : Int, Calls Tryz.prog 112 #[.slice (some ⟨blk, off, none⟩) X.length cap, .int .i64 0, .int .i64 X.length, .int .i64 r] w fun e w' => e = .returned (.tuple #[]) ∧ ∃ n dk, dk.toList = riseF nn X ∧ w' = putRow encN (Sort.ahead w n) blk off dk := by
    intro r
    have w1 : IntKind.i64.wrap (X.length : Int) = (X.length : Int) := IntWalk.i64_in _ (by omega)
    clear cB hd hH hnd hlt0
    go_enter Tryz.func112, Tryz.ntmps112
    go_wp2
    go_loopw [1, 2] (fun u v wr => u = .int .i64 0 ∧ v = .int .i64 X.length ∧ wr = w) (fun _ _ _ => 0)
    case atStart => exact ⟨rfl, rfl, rfl⟩
    case round =>
      obtain ⟨rfl, rfl, rfl⟩ := hrel
      go_wp2_with (go_at_call 132; refine cI.mono ?_; rintro e W ⟨rfl, n, dk, h1, h2⟩; have H2 := Lib.hid h2; clear h2)
      refine bodyPost_ret (results_none rfl _ _ _) rfl ?_
      exact ⟨rfl, n, dk, h1, H2.out⟩
  have w1 : IntKind.u64.wrap (X.length : Int) = (X.length : Int) := by show (X.length : Int) % 18446744073709551616 = _; omega
  clear cI hd hH hnd hlt0
  go_enter Tryz.func83, Tryz.ntmps83
  go_wp2_with (first | (go_at_call 113; refine cB.mono ?_; rintro e w' ⟨⟨r, rfl⟩, hw⟩; rw [hw]; clear hw w') | (go_at_call 112; refine (cP _).mono ?_; rintro e W ⟨rfl, n, dk, h1, h2⟩; have H2 := Lib.hid h2; clear h2))
  go_end0
  exact ⟨rfl, n, dk, h1, H2.out⟩
end Go.Proofs.YtogidacejbjljaaGreatDoor.PTextChecks
end
section
/- The two sorts of the layout, over rows that a call owns. -/
set_option linter.unusedVariables false
set_option linter.unusedSimpArgs false
namespace Go.Proofs.YtogidacejbjljaaGreatDoor.PTextChecks
open Go.RowKit Go.Mix Go.Own Go.Sort Go.Proofs.YtogidacejbjljaaGreatDoorW.PrintWords Go.Proofs.YtogidacejbjljaaGreatDoorW.PrintLast Go.Proofs.YtogidacejbjljaaGreatDoorW.PrintMore
theorem heap_putRow {w : World} {g off : Nat} {cur : Array Value} {t : TypeId} (hg : w.heap[g]? = some (.cells cur t (0, 0))) (m : Nat) (dk : Array Nat) :
    (putRow encN (Sort.ahead w m) g off dk).heap[g]? = some (.cells (putCells encN off dk cur) t (0, 0)) := by
  unfold putRow mapBlock
  show ((Sort.ahead w m).heap.modify g (onCells (putCells encN off dk)))[g]? = _
  rw [Array.getElem?_modify, if_pos rfl]
  show (w.heap[g]?).map _ = _
  rw [hg]
  rfl
theorem heap_putRow_far (w : World) {g off k : Nat} (hk : k ≠ g) (m : Nat) (dk : Array Nat) : (putRow encN (Sort.ahead w m) g off dk).heap[k]? = w.heap[k]? := by
  unfold putRow mapBlock
  show ((Sort.ahead w m).heap.modify g (onCells (putCells encN off dk)))[k]? = _
  rw [Array.getElem?_modify, if_neg (fun h => hk h.symm)]
  rfl
theorem putRow_lies {w : World} {base : Nat} {n g off c : Nat} {xs : List Value} (h : Lies w base 3 1 (.slice (some ⟨g, off, none⟩) n c) n xs) (h0 : 0 < n) (dk : Array Nat) (hd : dk.size = n) (m : Nat) :
    Lies (putRow encN (Sort.ahead w m) g off dk) base 3 1 (.slice (some ⟨g, off, none⟩) n c) n (dk.toList.map encN) ∧ Below base w (putRow encN (Sort.ahead w m) g off dk) ∧ KB [3] w (putRow encN (Sort.ahead w m) g off dk) := by
  rcases h.2 with ⟨_, h1⟩ | ⟨g', off', cap, cur, hv, hb, hg, hnc, hcm, hcs, ht⟩
  · omega
  · injection hv with e1 e2 e3
    injection e1 with e1
    injection e1 with e1 e4 e5
    subst e1 e3 e4
    refine ⟨⟨by simp [hd], .inr ⟨g, off, c, _, rfl, hb, heap_putRow hg m dk, hnc, hcm, by simpa [putCells] using hcs, ?_⟩⟩, ⟨rfl, rfl, rfl, by simp, fun k hk => heap_putRow_far w (by omega) m dk⟩, ⟨by simp, fun k cu u hu hk => ?_⟩⟩
    · apply List.ext_getElem?
      intro i
      by_cases hi : i < n
      · rw [List.getElem?_take_of_lt (by omega), List.getElem?_drop, Array.getElem?_toList]
        have hlt : off + i < cur.size := by omega
        have e6 : dk[i]! = dk.toList[i]'(by simpa [hd] using hi) := get_bang dk i (by omega)
        unfold putCells
        rw [Array.getElem?_mapIdx, Array.getElem?_eq_getElem hlt, Option.map_some, if_pos ⟨by omega, by omega⟩, show off + i - off = i by omega, e6, List.getElem?_map, List.getElem?_eq_getElem (by simpa [hd] using hi), Option.map_some]
      · rw [List.getElem?_eq_none (by rw [List.length_take]; omega), List.getElem?_eq_none (by simp [hd]; omega)]
    · have hne : k ≠ g := fun e => by
        subst e
        rw [hg] at hk
        simp at hk
        exact hu (by rw [← hk.2]; simp)
      exact (heap_putRow_far w hne m dk).trans hk
theorem lies_holds {w : World} {base : Nat} {v : Value} {L : List Nat} (h : Lies w base 3 1 v L.length (L.map encN)) (h0 : 0 < L.length) : ∃ g off c, v = .slice (some ⟨g, off, none⟩) L.length c ∧ base ≤ g ∧ Holds encN w g off L.toArray := by
  obtain ⟨g, off, c, e, hle, hb, hlt, hcur, hfz, hcl, hput⟩ := h.put h0
  refine ⟨g, off, c, e, hb, fun j hj => ⟨?_, hfz _⟩⟩
  have hj' : j < L.length := by simpa using hj
  refine hcl j _ ?_
  rw [List.getElem?_map, List.getElem?_eq_getElem hj', Option.map_some, get_bang L.toArray j hj]
set_option maxHeartbeats 1000000 in
set_option maxRecDepth 100000 in
theorem stable_nil (p : Option Addr) (cap : Nat) (f : Value) (w : World) (hf : ∃ a b c, f = .func a b c) : Calls Tryz.prog 76 #[.slice p 0 cap, f] w fun e w' => e = .returned (.tuple #[]) ∧ w' = w := by
  obtain ⟨fa, fb, fc, rfl⟩ := hf
  have cI : Calls Tryz.prog 130 #[.slice p 0 cap, .int .i64 0, .int .i64 0, .func fa fb fc] w fun e w' => e = .returned (.tuple #[]) ∧ w' = w := by
    go_enter Tryz.func130, Tryz.ntmps130
    go_wp2
    go_loopw [8] (fun v wr => v = .int .i64 1 ∧ wr = w) (fun _ _ => 0)
    case atStart => exact ⟨rfl, rfl⟩
    case round =>
      obtain ⟨rfl, rfl⟩ := hrel
      go_wp2
      go_end0
      exact ⟨rfl, rfl⟩
  have c109 : Calls Tryz.prog 109 #[.slice p 0 cap, .int .i64 0, .func fa fb fc] w fun e w' => e = .returned (.tuple #[]) ∧ w' = w := by
    go_enter Tryz.func109, Tryz.ntmps109
    go_wp2
    go_loopw [7, 8] (fun a v wr => a = .int .i64 0 ∧ v = .int .i64 20 ∧ wr = w) (fun _ _ _ => 0)
    case atStart => exact ⟨rfl, rfl, rfl⟩
    case round =>
      obtain ⟨rfl, rfl, rfl⟩ := hrel
      go_wp2_with (go_at_call 130; refine cI.mono ?_; rintro e W ⟨rfl, hW⟩; rw [hW]; clear hW W)
      go_loopw [6] (fun v wx => v = .int .i64 20 ∧ wx = wr) (fun _ _ => 0)
      case atStart => exact ⟨rfl, rfl⟩
      case round =>
        obtain ⟨rfl, rfl⟩ := hrel
        go_wp2
        go_end0
        exact ⟨rfl, rfl⟩
  go_enter Tryz.func76, Tryz.ntmps76
  go_wp2_with (go_at_call 109; refine c109.mono ?_; rintro e W ⟨rfl, hW⟩; rw [hW]; clear hW W)
  go_end0
  exact ⟨rfl, rfl⟩
/-- The order of the cues, as a row. -/
theorem order_calls (C : List Cu) (bL base : Nat) (v : Value) (hC : C.length ≤ 8) (hr : ∀ i, i < C.length → 0 ≤ layerOf C i ∧ layerOf C i ≤ 7) (w : World) (hL : Lies w base 3 1 v C.length ((List.range C.length).map encN)) (h : Layers w bL C) (hb : bL < base)
    (hcb : 0 < C.length → ∀ A c, w.cell? ⟨bL, 0, none⟩ = some (.slice A C.length c) → ∀ ad, A = some ad → ad.block < base) :
    Calls Tryz.prog 76 #[v, .func (.func 77) #[] #[.pointer (some ⟨bL, 0, none⟩)]] w fun e w' => e = .returned (.tuple #[]) ∧ Lies w' base 3 1 v C.length ((ordF (layerOf C) C.length).map encN) ∧ Below base w w' := by
  by_cases h0 : 0 < C.length
  · have hrl : (List.range C.length).length = C.length := List.length_range
    have hL' : Lies w base 3 1 v (List.range C.length).length ((List.range C.length).map encN) := by rw [hrl]; exact hL
    obtain ⟨g, off, c, rfl, hg, hH⟩ := lies_holds hL' (by rw [hrl]; exact h0)
    rw [hrl] at hL ⊢
    refine (stable_calls C bL g off c hC hr w _ (by simp) hH h (by omega) (fun A c h1 ad ha => by have := hcb h0 A c h1 ad ha; omega)).mono ?_
    rintro e w' ⟨rfl, n, dk, hd, rfl⟩
    have hdl : dk.size = C.length := by
      rw [← Array.length_toList, hd]
      have : ((List.range C.length)).Perm (ordF (layerOf C) C.length) := by
        refine (List.perm_ext_iff_of_nodup List.nodup_range (ordF_nodup _ _)).2 fun a => ?_
        rw [List.mem_range, ordF_mem hr]
      rw [← this.length_eq, hrl]
    obtain ⟨h1, h2, _⟩ := putRow_lies hL h0 dk hdl n
    rw [hd] at h1
    exact ⟨rfl, h1, h2⟩
  · have hz : C.length = 0 := by omega
    have hv : ∃ A c, v = .slice A 0 c := by obtain ⟨A, c, e, _⟩ := hL.form; exact ⟨A, c, by rw [e, hz]⟩
    obtain ⟨A, c, rfl⟩ := hv
    refine (stable_nil A c _ w ⟨_, _, _, rfl⟩).mono ?_
    rintro e w' ⟨rfl, rfl⟩
    refine ⟨rfl, ?_, Below.refl _ _⟩
    have e : ordF (layerOf C) C.length = List.range C.length := by rw [hz, ordF_zero]; rfl
    rw [e]
    exact hL
set_option maxHeartbeats 1000000 in
set_option maxRecDepth 100000 in
theorem sort_nil (p : Option Addr) (cap : Nat) (w : World) : Calls Tryz.prog 83 #[.slice p 0 cap] w fun e w' => e = .returned (.tuple #[]) ∧ w' = w := by
  have cI : Calls Tryz.prog 132 #[.slice p 0 cap, .int .i64 0, .int .i64 0] w fun e w' => e = .returned (.tuple #[]) ∧ w' = w := by
    go_enter Tryz.func132, Tryz.ntmps132
    go_wp2
    go_loopw [6] (fun v wr => v = .int .i64 1 ∧ wr = w) (fun _ _ => 0)
    case atStart => exact ⟨rfl, rfl⟩
    case round =>
      obtain ⟨rfl, rfl⟩ := hrel
      go_wp2
      go_end0
      exact ⟨rfl, rfl⟩
  have cB : Calls Tryz.prog 113 #[.int .u64 0] w fun e w' => (∃ r : Int, e = .returned (.int .i64 r)) ∧ w' = w := by
    have cL := len64_calls 0 (by omega) w
    go_enter Tryz.func113, Tryz.ntmps113
    go_wp2_with (go_at_call 142; refine cL.mono ?_; rintro e w' ⟨⟨r, rfl⟩, hw⟩; rw [hw]; clear hw w')
    go_ret
    exact ⟨⟨_, rfl⟩, rfl⟩
  have cP : ∀ r : Int, Calls Tryz.prog 112 #[.slice p 0 cap, .int .i64 0, .int .i64 0, .int .i64 r] w fun e w' => e = .returned (.tuple #[]) ∧ w' = w := by
    intro r
    go_enter Tryz.func112, Tryz.ntmps112
    go_wp2
    go_loopw [1, 2] (fun u v wr => u = .int .i64 0 ∧ v = .int .i64 0 ∧ wr = w) (fun _ _ _ => 0)
    case atStart => exact ⟨rfl, rfl, rfl⟩
    case round =>
      obtain ⟨rfl, rfl, rfl⟩ := hrel
      go_wp2_with (go_at_call 132; refine cI.mono ?_; rintro e W ⟨rfl, hW⟩; rw [hW]; clear hW W)
      refine bodyPost_ret (results_none rfl _ _ _) rfl ?_
      exact ⟨rfl, rfl⟩
  go_enter Tryz.func83, Tryz.ntmps83
  go_wp2_with (first | (go_at_call 113; refine cB.mono ?_; rintro e w' ⟨⟨r, rfl⟩, hw⟩; rw [hw]; clear hw w') | (go_at_call 112; refine (cP _).mono ?_; rintro e W ⟨rfl, hW⟩; rw [hW]; clear hW W))
  go_end0
  exact ⟨rfl, rfl⟩
/-- The lost cues, sorted, as a row. -/
theorem lost_calls (nn base : Nat) (X : List Nat) (v : Value) (hnd : X.Nodup) (hlt : ∀ k ∈ X, k < nn) (hXl : X.length ≤ 8) (w : World) (hL : Lies w base 3 1 v X.length (X.map encN)) :
    Calls Tryz.prog 83 #[v] w fun e w' => e = .returned (.tuple #[]) ∧ Lies w' base 3 1 v X.length ((riseF nn X).map encN) ∧ Below base w w' ∧ KB [3] w w' := by
  by_cases h0 : 0 < X.length
  · obtain ⟨g, off, c, rfl, hg, hH⟩ := lies_holds hL h0
    refine (sort_calls nn X hnd hlt hXl g off c w _ (by simp) hH).mono ?_
    rintro e w' ⟨rfl, n, dk, hd, rfl⟩
    have hdl : dk.size = X.length := by rw [← Array.length_toList, hd]; exact (rise_perm hnd hlt).length_eq
    obtain ⟨h1, h2, h3⟩ := putRow_lies hL h0 dk hdl n
    rw [hd] at h1
    exact ⟨rfl, h1, h2, h3⟩
  · have hz : X = [] := List.eq_nil_of_length_eq_zero (by omega)
    subst hz
    obtain ⟨A, c, e, _⟩ := hL.form
    subst e
    refine (sort_nil A c w).mono ?_
    rintro e w' ⟨rfl, rfl⟩
    refine ⟨rfl, ?_, Below.refl _ _, KB.refl _ _⟩
    have e : riseF nn [] = [] := by simp [riseF]
    rw [e]
    exact hL
end Go.Proofs.YtogidacejbjljaaGreatDoor.PTextChecks
end
section
/- text.Layout: the lines of cues, placed. -/
set_option linter.unusedVariables false
set_option linter.unusedSimpArgs false
namespace Go.Proofs.YtogidacejbjljaaGreatDoor.PTextChecks
open Go.RowKit Go.Mix Go.Own Go.Sort Go.Proofs.YtogidacejbjljaaGreatDoorW.PrintWords Go.Proofs.YtogidacejbjljaaGreatDoorW.PrintLast Go.Proofs.YtogidacejbjljaaGreatDoorW.PrintMore
/-- A row of cues that an argument holds. -/
def CuesIn (w : World) (A : Option Addr) (C : List Cu) : Prop := ∀ (k : Nat) (q : Cu), C[k]? = some q → ∃ ad Ap cp, A = some ad ∧ w.cell? (ad.add (k * 4)) = some (.int .i64 q.a) ∧ w.cell? ⟨(ad.add (k * 4)).block, (ad.add (k * 4)).off + 1, none⟩ = some (.int .i64 q.b) ∧
  w.cell? ⟨(ad.add (k * 4)).block, (ad.add (k * 4)).off + 2, none⟩ = some (.int .i64 q.c) ∧ w.cell? ⟨(ad.add (k * 4)).block, (ad.add (k * 4)).off + 3, none⟩ = some (.slice Ap q.l.length cp) ∧ q.l.length ≤ cp ∧ Kd.C k42 w Ap q.l.length q.l
theorem CuesIn.below {w w' : World} {A : Option Addr} {C : List Cu} (h : CuesIn w A C) (hb : Below w.heap.size w w') : CuesIn w' A C := by
  intro k q hq
  obtain ⟨ad, Ap, cp, rfl, c0, c1, c2, c3, hcp, hK⟩ := h k q hq
  exact ⟨ad, Ap, cp, rfl, cell_later hb c0, cell_later hb c1, cell_later hb c2, cell_later hb c3, hcp, Kd.C_below hK hb⟩
theorem CuesIn.lt {w : World} {A : Option Addr} {C : List Cu} (h : CuesIn w A C) (h0 : 0 < C.length) : ∀ ad, A = some ad → ad.block < w.heap.size := by
  intro ad ha
  obtain ⟨ad', Ap, cp, e, c0, _⟩ := h 0 _ (List.getElem?_eq_getElem h0)
  rw [ha] at e
  injection e with e
  subst e
  have := World.block_lt_of_cell? w _ c0
  rwa [add_block] at this
def layP (C : List Cu) (canvas tall : Int) : List Pl := if layE C canvas tall = 0 then (layS C canvas tall).1 else []
def layX (C : List Cu) (canvas tall : Int) : List Nat := if layE C canvas tall = 0 then lostS C canvas tall else []
def LayPost (C : List Cu) (canvas tall : Int) (w : World) (e : Ending) (w' : World) : Prop :=
  ∃ v vl, e = .returned (.tuple #[v, vl, .int .i64 (layE C canvas tall)]) ∧ Pls w' w.heap.size v (layP C canvas tall) ∧ Lies w' w.heap.size 3 1 vl (layX C canvas tall).length ((layX C canvas tall).map encN) ∧ Below w.heap.size w w'
theorem lay_err {C : List Cu} {canvas tall e : Int} (h : layE C canvas tall = e) (he : e ≠ 0) : layP C canvas tall = [] ∧ layX C canvas tall = [] := by
  subst h
  exact ⟨if_neg he, if_neg he⟩
theorem lay_post_err {C : List Cu} {canvas tall e : Int} {w w' : World} (h : layE C canvas tall = e) (he : e ≠ 0) (hb : Below w.heap.size w w') : LayPost C canvas tall w (.returned (.tuple #[.slice none 0 0, .slice none 0 0, .int .i64 e])) w' := by
  obtain ⟨h1, h2⟩ := lay_err h he
  exact ⟨_, _, by rw [h], by rw [h1]; exact Pls.nil _ _, by rw [h2]; exact Lies.nil _ _ _ _, hb⟩
theorem xS_range {al mar canvas wide : Int} (h1 : 0 ≤ mar ∧ mar ≤ 100) (h2 : 1 ≤ canvas ∧ canvas ≤ 1000) (h3 : 0 ≤ wide ∧ wide ≤ 50000) : -60000 ≤ xS al mar canvas wide ∧ xS al mar canvas wide ≤ 60000 := by
  unfold xS
  split
  · omega
  · split <;> omega
theorem blk_small {k : Int} {q : Cu} {canvas y : Int} (lo : LinesOk q canvas) (hy : -14000 ≤ y ∧ y ≤ 14000) : ∀ p ∈ blkF k q canvas 0 y (linesQ q canvas), SmP p := by
  intro p hp
  obtain ⟨n, r, hn, hr, _, rfl⟩ := blkF_mem hp
  have h1 := lo.wide r (List.mem_of_getElem? hr)
  have h2 := lo.high r (List.mem_of_getElem? hr)
  have h3 := uptoH_range lo.high n
  have h4 := xS_range (al := q.b) (headB_margin lo.head) lo.cv h1
  have h5 := lo.len
  exact ⟨⟨by show -1000000 ≤ xS _ _ _ _; omega, by show xS _ _ _ _ ≤ 1000000; omega⟩, ⟨by show -1000000 ≤ y + uptoH _ n; omega, by show y + uptoH _ n ≤ 1000000; omega⟩, ⟨by show -1000000 ≤ sumW r.1 0; omega, by show sumW r.1 0 ≤ 1000000; omega⟩, by show -1000000 ≤ r.2; omega, by show r.2 ≤ 1000000; omega⟩
set_option maxHeartbeats 16000000 in
set_option maxRecDepth 100000 in
theorem layout_calls (C : List Cu) (A : Option Addr) (cap : Nat) (canvas tall : Int) (w : World) (hA : CuesIn w A C) (hc : C.length ≤ cap) (hf : ∀ q ∈ C, Fit q.l) :
    Calls Tryz.prog 39 #[.slice A C.length cap, .int .i64 canvas, .int .i64 tall] w (LayPost C canvas tall w) := by
  obtain ⟨i0, hi, hii⟩ := Option.map_eq_some_iff.1 infoInt
  simp only [Prod.mk.injEq] at hii
  obtain ⟨hz0, hz1, hz2⟩ := hii
  obtain ⟨i1, hj, hjj⟩ := Option.map_eq_some_iff.1 infoPlaced
  simp only [Prod.mk.injEq] at hjj
  obtain ⟨hpz0, hpz1, hpz2⟩ := hjj
  have hbw1 : Below w.heap.size w (w.alloc (.cells #[.slice A C.length cap] 53)) := (Below.refl _ w).alloc (Nat.le_refl _) _
  cases hg : (inB canvas 1 1000 && inB tall 1 1000)
  case false =>
    have hE : layE C canvas tall = 1 := by unfold layE; rw [hg]; rfl
    have HE := Lib.hid (fun X (h : Below w.heap.size w X) => lay_post_err hE (by decide) h)
    clear hE
    cases hi1 : inB canvas 1 1000
    all_goals (rw [hi1] at hg)
    all_goals (cases hi2 : inB tall 1 1000)
    all_goals (rw [hi2] at hg)
    all_goals (try (exact absurd hg (by decide)))
    all_goals clear hg
    all_goals
      go_enter Tryz.func39, Tryz.ntmps39
      go_wp2
      go_step3
      go_wp2_with (go_at_call 57; refine (within_calls' _ _ _ _).mono ?_; rintro e W2 ⟨rfl, hW⟩; rw [hW]; clear hW W2)
      (try rw [Exit.noGoto_ret])
      refine bodyPost_ret (results_tmp3 rfl _ _ _) rfl ?_
      exact HE.out _ hbw1
  case true =>
    have hg' := hg
    rw [Bool.and_eq_true] at hg
    have hi1 := hg.1
    have hi2 := hg.2
    have hcv := inB_true hg.1
    have htl := inB_true hg.2
    cases h8 : decide ((8 : Int) < (C.length : Int))
    case true =>
      have hE : layE C canvas tall = 2 := by unfold layE; rw [hg', if_pos rfl, if_pos (by have := of_decide_eq_true h8; omega)]
      have HE := Lib.hid (fun X (h : Below w.heap.size w X) => lay_post_err hE (by decide) h)
      clear hE hg hg'
      go_enter Tryz.func39, Tryz.ntmps39
      go_wp2
      go_step3
      go_wp2_with (go_at_call 57; refine (within_calls' _ _ _ _).mono ?_; rintro e W2 ⟨rfl, hW⟩; rw [hW]; clear hW W2)
      (try rw [Exit.noGoto_ret])
      refine bodyPost_ret (results_tmp3 rfl _ _ _) rfl ?_
      exact HE.out _ hbw1
    case false =>
      have hC8 : C.length ≤ 8 := by have := of_decide_eq_false h8; omega
      have hE : layE C canvas tall = firstE canvas C := by unfold layE; rw [hg', if_pos rfl, if_neg (by omega)]
      have HE := Lib.hid hE
      clear hE hg hg'
      have hB0 := heap_alloc_new w (.cells #[.slice A C.length cap] 53)
      have hA1 := hA.below hbw1
      have hAl : ∀ ad, A = some ad → 0 < C.length → ad.block < w.heap.size := fun ad ha h0 => hA.lt h0 ad ha
      go_enter Tryz.func39, Tryz.ntmps39
      go_wp2
      go_step3
      go_wp2_with (go_at_call 57; refine (within_calls' _ _ _ _).mono ?_; rintro e W2 ⟨rfl, hW⟩; rw [hW]; clear hW W2)
      generalize w.alloc (.cells #[.slice A C.length cap] 53) = W1 at hbw1 hB0 hA1 ⊢
      have hs1 := hbw1.size
      have hlt1 := (Array.getElem?_eq_some_iff.1 hB0).1
      obtain ⟨m0, m0'⟩ := blk1 hB0
      clear hA hi1 hi2
      go_loopw [9, 36] (fun vo i wr => ∃ n : Nat, n ≤ C.length ∧ i = .int .i64 n ∧ Lies wr W1.heap.size 3 1 vo n ((List.range n).map encN) ∧ (∀ (i : Nat) (q : Cu), i < n → C[i]? = some q → brkE q.a q.b q.c q.l canvas = 0) ∧ Below W1.heap.size W1 wr) (fun _ i _ => C.length - (intOf i).toNat)
      case atStart => exact ⟨0, by omega, rfl, Lies.nil _ _ _ _, fun i q h => by omega, Below.refl _ _⟩
      case round =>
        obtain ⟨n, hn, rfl, hL, hbk, hbr⟩ := hrel
        by_cases hlt : n < C.length
        · obtain ⟨q, hq⟩ : ∃ q, C[n]? = some q := ⟨_, List.getElem?_eq_getElem hlt⟩
          obtain ⟨ad, Ap, cp, rfl, c0, c1, c2, c3, hcp, hK⟩ := (hA1.below hbr) n q hq
          have hqm := List.mem_of_getElem? hq
          have cB := tBreak_calls q.a q.b q.c Ap cp q.l canvas _ (Kd.C_alloc hK (.cells #[.int .i64 q.a, .int .i64 q.b, .int .i64 q.c, .slice Ap q.l.length cp] 25)) hcp (hf q hqm)
          unfold BrkPost at cB
          obtain ⟨E, hEq⟩ : ∃ E, brkE q.a q.b q.c q.l canvas = E := ⟨_, rfl⟩
          rw [hEq] at cB
          have hbx : Below W1.heap.size W1 (wr.alloc (.cells #[.int .i64 q.a, .int .i64 q.b, .int .i64 q.c, .slice Ap q.l.length cp] 25)) := hbr.alloc hbr.size _
          have hLx := hL.kb (KB.below (ts := []) ((Below.refl wr.heap.size wr).alloc (Nat.le_refl _) (.cells #[.int .i64 q.a, .int .i64 q.b, .int .i64 q.c, .slice Ap q.l.length cp] 25))) (by simp)
          have HEq := Lib.hid hEq
          have wr1 : IntKind.i64.wrap ((n : Int) + 1) = (n : Int) + 1 := IntWalk.i64_in _ (by omega)
          clear hEq hK hL hAl
          cases hE0 : (E != 0)
          case true =>
            have hpost : layE C canvas tall = E := by rw [HE.out, firstE_nth hbk hq (by rw [HEq.out]; simpa using hE0), HEq.out]
            have HP := Lib.hid (fun X (h : Below w.heap.size w X) => lay_post_err hpost (by simpa using hE0) h)
            clear hpost hbk
            go_wp2_with (go_at_call 35; refine cB.mono ?_; rintro e W5 ⟨v5, rfl, _, hb5⟩)
            (try rw [Exit.noGoto_ret])
            refine bodyPost_ret (results_tmp3 rfl _ _ _) rfl ?_
            exact HP.out _ (hbw1.trans ((hbx.trans (hb5.mono hbx.size)).mono hs1))
          case false =>
            have hbk2 : ∀ (i : Nat) (p : Cu), i < n + 1 → C[i]? = some p → brkE p.a p.b p.c p.l canvas = 0 := by
              intro i p hi hp
              by_cases h : i < n
              · exact hbk i p h hp
              · obtain rfl : i = n := by omega
                rw [hq] at hp
                injection hp with hp
                subst hp
                rw [HEq.out]
                simpa using hE0
            have HB := Lib.hid hbk2
            clear hbk hbk2
            go_wp2_with (first | (go_at_call 35; refine cB.mono ?_; rintro e W5 ⟨v5, rfl, _, hb5⟩; have hb6 : Below W5.heap.size W5 (W5.alloc (.cells #[.int .i64 n] 3)) := (Below.refl _ W5).alloc (Nat.le_refl _) _; have hL5 := (hLx.kb (KB.below (ts := []) hb5) (by simp)).kb (KB.below (ts := []) hb6) (by simp)) | (at_builtin; refine Go.Own.wpList_append_lies rfl _ _ 56 rfl W1.heap.size 3 i0 _ 1 8 Tryz.underlying56 hi hz0 hz1 hz2 rfl (by decide) _ n ((List.range n).map encN) rfl hL5 ⟨W5.heap.size, 0, none⟩ 1 1 [.int .i64 n] rfl rfl ?qa2 ?qa3 ?qa4 ?qa5 ?qa6 (by decide) ?_))
            case qa2 => intro j u hj; rw [add0]; exact newcell W5 #[.int .i64 n] 3 j u (by simpa using hj)
            case qa3 => intro u hu; simp only [List.mem_cons, List.mem_nil_iff, or_false] at hu; rcases hu with rfl; rfl
            case qa4 => unfold maxLen; omega
            case qa5 => omega
            case qa6 => exact Nat.le_trans hbx.size (Nat.le_trans hb5.size hb6.size)
            intro v6 W6 hL6 hg6
            have hb7 : Below W1.heap.size W1 W6 := ((hbx.trans (hb5.mono hbx.size)).trans (hb6.mono (Nat.le_trans hbx.size hb5.size))).grown hg6 (Nat.le_trans hbx.size (Nat.le_trans hb5.size hb6.size)) (fun j hj => (hL5.lt j hj).1)
            clear hg6 hL5 hb6 hb5 hLx hbx cB
            go_wp2
            go_roundw
            case rel => exact ⟨n + 1, by omega, by go_num, by rw [List.range_succ, List.map_append]; exact hL6, HB.out, hb7⟩
            case measure => (simp [intOf]; try omega)
        · obtain rfl : n = C.length := by omega
          rename World => V
          have hok : ∀ q ∈ C, brkE q.a q.b q.c q.l canvas = 0 := fun q hq => by
            obtain ⟨i, hi⟩ := List.mem_iff_getElem?.1 hq
            exact hbk i q (List.getElem?_eq_some_iff.1 hi).1 hi
          have hr := layer_range hok
          have hE0 : layE C canvas tall = 0 := HE.out.trans (firstE_zero fun i q h => hbk i q (List.getElem?_eq_some_iff.1 h).1 h)
          have HE0 := Lib.hid hE0
          clear hE0 hbk
          obtain ⟨Ao, co, rfl, hco⟩ := hL.form
          have hLay : Layers V w.heap.size C := ⟨A, cap, cell_later hbr m0, hc, fun k q hq => by
            obtain ⟨ad, Ap, cp, e, c0, _⟩ := (hA1.below hbr) k q hq
            exact ⟨ad, e, c0⟩⟩
          have cO := order_calls C w.heap.size W1.heap.size (.slice Ao C.length co) hC8 hr V hL hLay hlt1 (fun h0 A' c' h1 ad ha => by
            rw [cell_later hbr m0] at h1
            injection h1 with h1
            injection h1 with h1
            subst h1
            have := hAl ad ha h0
            omega)
          clear hLay hAl hL
          go_wp2_with (go_at_call 76; refine cO.mono ?_; rintro e W6 ⟨rfl, hL6, hb6⟩)
          clear cO
          have hb16 : Below W1.heap.size W1 W6 := hbr.trans hb6
          have hA6 := hA1.below hb16
          have hm6 := cell_later hb16 m0
          have hs6 : W1.heap.size ≤ W6.heap.size := hb16.size
          clear hb6 hbr
          go_step3
          go_wp2_with fail
          have hbo7 := heap_alloc_new W6 (.cells #[.slice none 0 0] 55)
          have hb7 : Below W6.heap.size W6 (W6.alloc (.cells #[.slice none 0 0] 55)) := (Below.refl _ W6).alloc (Nat.le_refl _) _
          obtain ⟨ORD, hORD⟩ : ∃ ORD, ordF (layerOf C) C.length = ORD := ⟨_, rfl⟩
          have hol : ORD.length = C.length := by
            rw [← hORD]
            have : ((List.range C.length)).Perm (ordF (layerOf C) C.length) := (List.perm_ext_iff_of_nodup List.nodup_range (ordF_nodup _ _)).2 fun a => by rw [List.mem_range, ordF_mem hr]
            rw [← this.length_eq, List.length_range]
          have hom : ∀ k ∈ ORD, k < C.length := fun k hk => (ordF_mem hr k).1 (by rw [hORD]; exact hk)
          rw [hORD] at hL6
          have HORD := Lib.hid hORD
          have HOL := Lib.hid hol
          clear hORD hol
          go_loopg [15, 60] C.length (fun g vl i wr => ∃ (n : Nat) (P : List Pl) (X : List Nat) (vo : Value), n + g = C.length ∧ i = .int .i64 n ∧ runS C canvas tall (ORD.take n) = (P, X) ∧ wr.heap[W6.heap.size]? = some (.cells #[vo] 55 (0, 0)) ∧ Pls wr W6.heap.size vo P ∧ Lies wr W6.heap.size 3 1 vl X.length (X.map encN) ∧ Below W6.heap.size W6 wr ∧ P.length ≤ 400 * n ∧ (∀ p ∈ P, SmP p) ∧ X.length ≤ n)
          case atStart => exact ⟨0, [], [], _, by omega, rfl, by simp [runS], hbo7, Pls.nil _ _, Lies.nil _ _ _ _, hb7, by simp, fun p hp => by simp at hp, by simp⟩
          case round =>
            obtain ⟨n, P, X, vo, hng, rfl, hrun, hbo, hP, hX, hbr, hPl, hPs, hXl⟩ := hrel
            cases gk with
            | zero =>
              obtain rfl : n = C.length := by omega
              rw [List.take_of_length_le (by rw [HOL.out]; omega)] at hrun
              have hlay : layS C canvas tall = (P, X) := by unfold layS; rw [HORD.out]; exact hrun
              obtain ⟨hnd, hmem⟩ := lay_nodup C canvas tall
              rw [hlay] at hnd hmem
              have hlt0 : ∀ k ∈ X, k < C.length := fun k hk => (ordF_mem hr k).1 (hmem k hk)
              have cS := lost_calls C.length W6.heap.size X _ hnd hlt0 (by omega) wr hX
              have hLL : (riseF C.length X).length = X.length := (rise_perm hnd hlt0).length_eq
              have hlost : lostS C canvas tall = riseF C.length X := by unfold lostS; rw [hlay]
              have hp1 : layP C canvas tall = P := by unfold layP; rw [if_pos HE0.out, hlay]
              have hp2 : layX C canvas tall = riseF C.length X := by unfold layX; rw [if_pos HE0.out, hlost]
              have HF := Lib.hid (And.intro hp1 (And.intro hp2 hLL))
              obtain ⟨AO, cO, rfl, hcO⟩ := hP.form
              obtain ⟨AX, cX, rfl, hcX⟩ := hX.form
              have hbw6 : Below w.heap.size w W6 := hbw1.trans (hb16.mono hs1)
              have hs66 := hbw6.size
              clear hp1 hp2 hlost hLL hrun hlay hnd hmem hlt0 hL6
              go_wp2_with (go_at_call 83; refine cS.mono ?_; rintro e W9 ⟨rfl, hL9, hb9, hk9⟩; have hbo9 := hk9.2 _ _ _ (by decide) hbo; obtain ⟨b0, b0'⟩ := blk1 hbo9; have hP9 := hP.kb hk9 (by decide) (by decide))
              (try rw [Exit.noGoto_ret])
              refine bodyPost_ret (results_tmp3 rfl _ _ _) rfl ?_
              obtain ⟨f1, f2, f3⟩ := HF.out
              refine ⟨_, _, ?_, by rw [f1]; exact hP9.mono hs66, by rw [f2, f3]; exact hL9.mono hs66, hbw6.trans ((hbr.trans (hb9.mono (Nat.le_refl _))).mono hs66)⟩
              rw [HE0.out]
              rfl
            | succ g0 =>
              rename World => V2
              have hlt : n < C.length := by omega
              have hol := HOL.out
              obtain ⟨k, hk⟩ : ∃ k, ORD[n]? = some k := ⟨_, List.getElem?_eq_getElem (by omega)⟩
              have hkl : k < C.length := hom k (List.mem_of_getElem? hk)
              obtain ⟨q, hq⟩ : ∃ q, C[k]? = some q := ⟨_, List.getElem?_eq_getElem hkl⟩
              have hqm := List.mem_of_getElem? hq
              obtain ⟨ado, rfl, hoc⟩ := hL6.at (by omega)
              have o1 : V2.cell? (ado.add n) = some (.int .i64 k) := cell_later hbr ((hoc n 0 (.int .i64 k) (by rw [Nat.add_zero, List.getElem?_map, hk]; rfl)).1 rfl)
              obtain ⟨ad, Ap, cp, rfl, c0, c1, c2, c3, hcp, hK⟩ := (hA6.below hbr) k q hq
              have hmr := cell_later hbr hm6
              have lo := linesOk_of (hok q hqm)
              have cB := block_calls k q Ap cp canvas tall V2 (by omega) hK hcp lo htl
              have hstep : ∀ s', stepS C canvas tall (P, X) k = s' → runS C canvas tall (ORD.take (n + 1)) = s' := by
                intro s' hs
                have htk : ORD.take (n + 1) = ORD.take n ++ [k] := by
                  obtain ⟨h1, h2⟩ := List.getElem?_eq_some_iff.1 hk
                  rw [List.take_succ_eq_append_getElem h1, h2]
                rw [htk, runS_snoc, hrun, hs]
              have hall : 0 ≤ allH (linesQ q canvas) ∧ allH (linesQ q canvas) ≤ 12800 := by rw [← uptoH_all]; have := uptoH_range lo.high (linesQ q canvas).length; have := lo.len; omega
              have hfr := fromS_range (al := q.b) (headB_margin lo.head) htl hall
              have hnone := fun h => stepS_none (s := (P, X)) (canvas := canvas) (tall := tall) hq h
              have hsome := fun y h => stepS_some (s := (P, X)) (canvas := canvas) (tall := tall) (y := y) hq h
              have hstart := slideS_start (k := (k : Int)) (q := q) (canvas := canvas) (tall := tall) (L := linesQ q canvas) (out := P)
              have hslide := fun y => slideF_step (k := (k : Int)) (q := q) (canvas := canvas) (tall := tall) (L := linesQ q canvas) (out := P) (R := slideS (k : Int) q canvas tall (linesQ q canvas) P) (y := y) hall.1
              have hsmall := fun y (hy : -14000 ≤ y ∧ y ≤ 14000) => blk_small (k := (k : Int)) lo hy
              have hmove := fun d y => blkF_move (k : Int) q canvas d (linesQ q canvas) 0 y
              have hbl := fun y => blkF_len (k : Int) q canvas (linesQ q canvas) 0 y
              have hLlen := lo.len
              have hLpos := lo.pos
              have hby : (q.b ≤ 3 ∧ byS q.b = -1) ∨ (¬ q.b ≤ 3 ∧ byS q.b = 1) := by
                unfold byS
                by_cases h : q.b ≤ 3
                · exact .inl ⟨h, if_pos h⟩
                · exact .inr ⟨h, if_neg h⟩
              clear lo hrun hom
              generalize hLq : linesQ q canvas = L at *
              generalize hFr : fromS q.b q.c tall (allH L) = fr at *
              generalize hR : slideS (k : Int) q canvas tall L P = R at *
              have H1 := Lib.hid hstep
              have H2 := Lib.hid hnone
              have H3 := Lib.hid hsome
              have H4 := Lib.hid hslide
              have H5 := Lib.hid hsmall
              have H6 := Lib.hid hmove
              have H7 := Lib.hid hbl
              have H8 := Lib.hid hstart
              have HPs := Lib.hid hPs
              clear hstep hnone hsome hslide hsmall hmove hbl hstart hLq hFr hR hPs hK hoc hk
              obtain ⟨AO, cO, rfl, hcO⟩ := hP.form
              obtain ⟨AX, cX, rfl, hcX⟩ := hX.form
              rcases hby with ⟨hb3, hby⟩ | ⟨hb3, hby⟩
              · go_wp2_with (go_at_call 78; refine cB.mono ?_; rintro e W8 ⟨v8, rfl, hP8, hb8⟩; have c0 := cell_later hb8 c0; have c1 := cell_later hb8 c1; have c2 := cell_later hb8 c2; have c3 := cell_later hb8 c3; have hmr := cell_later hb8 hmr; obtain ⟨A8, c8, e8, hc8⟩ := hP8.form; rw [H7.out] at e8 hc8; subst e8)
                clear cB c0 c1 c2 c3 hmr o1
                go_loopg [15, 19, 20] (moves q.b tall fr) (fun g vl f t wx => ∃ y : Int, g = moves q.b tall y ∧ vl = .slice AX X.length cX ∧ f = .int .i64 y ∧ t = .int .i64 (y + allH L) ∧ (∃ m, moves q.b tall y < m ∧ slideF (k : Int) q canvas tall L P m y = R) ∧ Pls wx V2.heap.size (.slice A8 L.length c8) (blkF (k : Int) q canvas 0 y L) ∧ Below V2.heap.size V2 wx ∧ -13000 ≤ y ∧ y ≤ 1001)
                case atStart => exact ⟨fr, rfl, rfl, rfl, rfl, H8.out, hP8, hb8, by omega, by omega⟩
                case round =>
                  obtain ⟨y, hgk, rfl, rfl, rfl, hsl, hPw, hbx, hy1, hy2⟩ := hrel
                  obtain ⟨s1, s2, s3⟩ := H4.out y hsl
                  have HGK := Lib.hid hgk
                  have hbo2 := (hbx.block _ (Array.getElem?_eq_some_iff.1 hbo).1).trans hbo
                  have hb6x : Below W6.heap.size W6 wr := hbr.trans (hbx.mono hbr.size)
                  clear hsl hP8 hb8 hgk
                  by_cases hout : y < 0 ∨ tall < y + allH L
                  · have HN := Lib.hid (H1.out _ (H2.out (s1 hout)))
                    have hXx := hX.kb (KB.below (ts := []) hbx) (by simp)
                    have hb9 : Below wr.heap.size wr (wr.alloc (.cells #[.int .i64 k] 3)) := (Below.refl _ wr).alloc (Nat.le_refl _) _
                    have hL9 := hXx.kb (KB.below (ts := []) hb9) (by simp)
                    clear s1 s2 s3 hXx
                    rcases Int.lt_or_le y 0 with h0 | h0
                    · have d1 : decide (y < 0) = true := decide_eq_true h0
                      go_wp2_with (at_builtin; refine Go.Own.wpList_append_lies rfl _ _ 56 rfl W6.heap.size 3 i0 _ 1 8 Tryz.underlying56 hi hz0 hz1 hz2 rfl (by decide) _ X.length (X.map encN) rfl hL9 ⟨wr.heap.size, 0, none⟩ 1 1 [.int .i64 k] rfl rfl ?x0a2 ?x0a3 ?x0a4 ?x0a5 ?x0a6 (by decide) ?_)
                      case x0a2 => intro j u hj; rw [add0]; exact newcell wr #[.int .i64 k] 3 j u (by simpa using hj)
                      case x0a3 => intro u hu; simp only [List.mem_cons, List.mem_nil_iff, or_false] at hu; rcases hu with rfl; rfl
                      case x0a4 => unfold maxLen; omega
                      case x0a5 => omega
                      case x0a6 => exact Nat.le_trans hb6x.size hb9.size
                      intro v9 W9 hL10 hg9
                      have hkb : KB [3] V2 W9 := ((KB.below hbx).trans (KB.below hb9)).trans (KB.grown hg9 fun j hj => by obtain ⟨_, _, cu, hc⟩ := hL9.lt j hj; exact ⟨cu, 3, by simp, hc⟩)
                      have hb10 : Below W6.heap.size W6 W9 := (hb6x.trans (hb9.mono hb6x.size)).grown hg9 (Nat.le_trans hb6x.size hb9.size) (fun j hj => (hL9.lt j hj).1)
                      clear hg9 hL9 hb9
                      go_wp2
                      go_roundg g0
                      case measure => omega
                      case rel => exact ⟨n + 1, P, X ++ [k], _, by omega, by go_num, HN.out, hkb.2 _ _ _ (by decide) hbo, hP.kb hkb (by decide) (by decide), by rw [List.length_append, List.map_append]; exact hL10, hb10, by omega, HPs.out, by simp; omega⟩
                    · have d1 : decide (y < 0) = false := decide_eq_false (by omega)
                      have d2 : decide (tall < y + allH L) = true := decide_eq_true (by omega)
                      go_wp2_with (at_builtin; refine Go.Own.wpList_append_lies rfl _ _ 56 rfl W6.heap.size 3 i0 _ 1 8 Tryz.underlying56 hi hz0 hz1 hz2 rfl (by decide) _ X.length (X.map encN) rfl hL9 ⟨wr.heap.size, 0, none⟩ 1 1 [.int .i64 k] rfl rfl ?x0b2 ?x0b3 ?x0b4 ?x0b5 ?x0b6 (by decide) ?_)
                      case x0b2 => intro j u hj; rw [add0]; exact newcell wr #[.int .i64 k] 3 j u (by simpa using hj)
                      case x0b3 => intro u hu; simp only [List.mem_cons, List.mem_nil_iff, or_false] at hu; rcases hu with rfl; rfl
                      case x0b4 => unfold maxLen; omega
                      case x0b5 => omega
                      case x0b6 => exact Nat.le_trans hb6x.size hb9.size
                      intro v9 W9 hL10 hg9
                      have hkb : KB [3] V2 W9 := ((KB.below hbx).trans (KB.below hb9)).trans (KB.grown hg9 fun j hj => by obtain ⟨_, _, cu, hc⟩ := hL9.lt j hj; exact ⟨cu, 3, by simp, hc⟩)
                      have hb10 : Below W6.heap.size W6 W9 := (hb6x.trans (hb9.mono hb6x.size)).grown hg9 (Nat.le_trans hb6x.size hb9.size) (fun j hj => (hL9.lt j hj).1)
                      clear hg9 hL9 hb9
                      go_wp2
                      go_roundg g0
                      case measure => omega
                      case rel => exact ⟨n + 1, P, X ++ [k], _, by omega, by go_num, HN.out, hkb.2 _ _ _ (by decide) hbo, hP.kb hkb (by decide) (by decide), by rw [List.length_append, List.map_append]; exact hL10, hb10, by omega, HPs.out, by simp; omega⟩
                  · have d1 : decide (y < 0) = false := decide_eq_false (by omega)
                    have d2 : decide (tall < y + allH L) = false := decide_eq_false (by omega)
                    have hsm := H5.out y (by omega)
                    have hPO := hP.kb (KB.below (ts := []) hbx) (by simp) (by simp)
                    have cM := con80_calls (blkF (k : Int) q canvas 0 y L) A8 c8 V2.heap.size P AO cO W6.heap.size W6.heap.size wr (by rw [H7.out]; exact hPw) (by rw [H7.out]; omega) hsm hPO (by omega) HPs.out hbo2
                    rw [H7.out] at cM
                    obtain ⟨b0, b0'⟩ := blk1 hbo2
                    cases hm : meetsS (blkF (k : Int) q canvas 0 y L) P
                    case true =>
                      have hmm : ((blkF (k : Int) q canvas 0 y L).any fun x => P.any fun y => ovl x y) = true := hm
                      rw [hmm] at cM
                      obtain ⟨g1, g2⟩ := s3 hout hm
                      have G1 := Lib.hid g1
                      have G2 := Lib.hid g2
                      have hsm := Lib.hid hsm
                      have wy1 : IntKind.i64.wrap (y + -1) = y + -1 := IntWalk.i64_in _ (by omega)
                      have wy2 : IntKind.i64.wrap (y + allH L + -1) = y + allH L + -1 := IntWalk.i64_in _ (by omega)
                      clear s1 s2 s3 g1 g2 hmm hm
                      go_wp2_with (go_at_call 79; refine cM.mono ?_; rintro e W9 ⟨rfl, hb9⟩)
                      have hP9 := hPw.below hb9
                      have hbx9 : Below V2.heap.size V2 W9 := hbx.trans (hb9.mono hbx.size)
                      clear hPw hb9 hPO cM b0 b0'
                      go_loopw [105] (fun i wy => ∃ m : Nat, m ≤ L.length ∧ i = .int .i64 m ∧ Pls wy V2.heap.size (.slice A8 L.length c8) (mvTo (-1) m (blkF (k : Int) q canvas 0 y L)) ∧ Below V2.heap.size V2 wy) (fun i _ => L.length - (intOf i).toNat)
                      case atStart => exact ⟨0, by omega, rfl, by rw [mvTo_zero]; exact hP9, hbx9⟩
                      case round =>
                        obtain ⟨m, hm, rfl, hPm, hbm⟩ := hrel
                        by_cases hml : m < L.length
                        · obtain ⟨us, hu1, hu2, hu3⟩ := hPm
                          rw [mvTo_length, H7.out] at hu1 hu2
                          obtain ⟨p, hp⟩ : ∃ p, (blkF (k : Int) q canvas 0 y L)[m]? = some p := ⟨_, List.getElem?_eq_getElem (by rw [H7.out]; exact hml)⟩
                          have hpm := mvTo_get (d := -1) hp
                          have hset := mvTo_set (d := -1) hp
                          have hsp := hsm.out p (List.mem_of_getElem? hp)
                          obtain ⟨u, hu⟩ : ∃ u, us[m]? = some u := ⟨_, List.getElem?_eq_getElem (by omega)⟩
                          obtain ⟨g, off, c9, e9, hc9, hg1, hg2, hg3, hfz, hcl, hput⟩ := hu2.put (by omega)
                          injection e9 with e10 e11 e12
                          subst e10 e12
                          have hcl3 := hcl (m * 7 + 3) (.int .i64 p.y) ((cells63_get hu hpm (by omega)).trans rfl)
                          have hfz3 := hfz (off + m * 7 + 3)
                          have hp3 := hput (m * 7 + 3) (.int .i64 (p.y + -1)) (by omega)
                          rw [cells63_y _ (by rw [mvTo_length, H7.out]; exact hu1) hpm, hset] at hp3
                          have eo : off + (m * 7 + 3) = off + m * 7 + 3 := by omega
                          rw [eo] at hcl3 hp3
                          have hps := set_ps (y := p.y + -1) hpm
                          rw [hset] at hps
                          have hkp : KB [63] wr (wr.setCell ⟨g, off + m * 7 + 3, none⟩ (.int .i64 (p.y + -1))) := by obtain ⟨cur, hcur⟩ := hg3; exact KB.set hcur (by simp) _
                          have hin : ∀ (i : Nat) (u : Value) (p' : Pl), us[i]? = some u → (mvTo (-1) (m + 1) (blkF (k : Int) q canvas 0 y L))[i]? = some p' → In42 (wr.setCell ⟨g, off + m * 7 + 3, none⟩ (.int .i64 (p.y + -1))) u p'.ps := by
                            intro i u p' h1 h2
                            obtain ⟨r, hr1, hr2⟩ := hps i p' h2
                            rw [← hr2]
                            exact (hu3 i u r h1 hr1).kb hkp (by decide)
                          have hbm2 : Below V2.heap.size V2 (wr.setCell ⟨g, off + m * 7 + 3, none⟩ (.int .i64 (p.y + -1))) := hbm.setCell (p := ⟨g, _, none⟩) hg1 _
                          have HIN := Lib.hid hin
                          have wp1 : IntKind.i64.wrap (p.y + -1) = p.y + -1 := IntWalk.i64_in _ (by have := hsp.2.1; omega)
                          have wm1 : IntKind.i64.wrap ((m : Int) + 1) = (m : Int) + 1 := IntWalk.i64_in _ (by omega)
                          clear hset hps hin hput hcl hfz hpm hp hu hu3 hsp hkp
                          go_wp2_with fail
                          go_roundw
                          case rel => exact ⟨m + 1, by omega, by go_num, ⟨us, by rw [mvTo_length, H7.out]; exact hu1, by rw [mvTo_length, H7.out]; exact hp3, HIN.out⟩, hbm2⟩
                          case measure => (simp [intOf]; try omega)
                        · obtain rfl : m = L.length := by omega
                          have hPn : Pls wr V2.heap.size (.slice A8 L.length c8) (blkF (k : Int) q canvas 0 (y + -1) L) := by
                            rw [H6.out]
                            have := mvTo_all (-1) (blkF (k : Int) q canvas 0 y L)
                            rw [H7.out] at this
                            rw [← this]
                            exact hPm
                          clear hPm
                          go_wp2_with fail
                          go_roundg (moves q.b tall (y + byS q.b))
                          case measure => rw [HGK.out]; exact G1.out
                          case rel => exact ⟨y + byS q.b, rfl, rfl, by rw [hby], by rw [hby]; congr 1; omega, G2.out, by rw [hby]; exact hPn, hbm, by rw [hby]; omega, by rw [hby]; omega⟩
                    case false =>
                      have hmm : ((blkF (k : Int) q canvas 0 y L).any fun x => P.any fun y => ovl x y) = false := hm
                      rw [hmm] at cM
                      have HN := Lib.hid (H1.out _ (H3.out y (s2 hout hm)))
                      clear s1 s2 s3 hmm hm
                      go_wp2_with (first | (go_at_call 79; refine cM.mono ?_; rintro e W9 ⟨rfl, hb9⟩; have hP9 := hPw.below hb9; have hPO9 := hPO.below hb9; have hbo9 := (hb9.block _ (Array.getElem?_eq_some_iff.1 hbo2).1).trans hbo2; obtain ⟨q0, q0'⟩ := blk1 hbo9; obtain ⟨us, hu1, hu2, hu3⟩ := hP9; rw [H7.out] at hu2; obtain ⟨ps, hp1, hp2, hp3⟩ := hPO9; obtain ⟨a8, c8', e8, hc8', hcells⟩ := hu2.cell hLpos; injection e8 with e8 e9 e10; subst e8 e10) | (at_builtin; refine Go.Own.wpList_append_lies rfl _ _ 55 rfl W6.heap.size 63 i1 _ 7 72 Tryz.underlying55 hj hpz0 hpz1 hpz2 rfl (by decide) _ P.length (cells63 ps P) rfl hp2 a8 L.length c8 (cells63 us (blkF (k : Int) q canvas 0 y L)) rfl (by rw [cells63_length _ _ hu1, H7.out]) hcells (cells63_one (w := W9) hu3) ?z04 ?z05 ?z06 hLpos ?_))
                      case z04 => unfold maxLen; omega
                      case z05 => omega
                      case z06 => exact Nat.le_trans hb6x.size hb9.size
                      intro v10 W10 hL10 hg10
                      obtain ⟨A10, c10, rfl, hc10⟩ := hL10.form
                      have hk10 : KB [63] W9 W10 := KB.grown hg10 fun j hj => by obtain ⟨_, _, cu, hc⟩ := hp2.lt j hj; exact ⟨cu, 63, by simp, hc⟩
                      have hb10 : Below W6.heap.size W6 W10 := (hb6x.trans (hb9.mono hb6x.size)).grown hg10 (Nat.le_trans hb6x.size hb9.size) (fun j hj => (hp2.lt j hj).1)
                      have hboA := hk10.2 _ _ _ (by decide) hbo9
                      obtain ⟨r0, r0'⟩ := blk1 hboA
                      clear hg10 q0 q0' b0 b0' cM hPw hPO
                      go_wp2_with fail
                      go_roundg g0
                      case measure => omega
                      case rel =>
                        have hkS : KB [55] W10 (W10.setCell ⟨W6.heap.size, 0, none⟩ (.slice A10 (P.length + L.length) c10)) := KB.set hboA (by simp) _
                        have hkA : KB [63, 55] V2 (W10.setCell ⟨W6.heap.size, 0, none⟩ (.slice A10 (P.length + L.length) c10)) := (((KB.below hbx).trans (KB.below hb9)).trans (hk10.mono (by simp))).trans (hkS.mono (by simp))
                        exact ⟨n + 1, P ++ blkF (k : Int) q canvas 0 y L, X, _, by omega, by go_num, HN.out, by rw [set1 hboA]; rfl, (Pls.append (w := W9) hp1 hp3 hu1 hu3 (by rw [H7.out]; exact hL10) hk10).kb hkS (by decide) (by decide), hX.kb hkA (by decide), hb10.setCell (p := ⟨W6.heap.size, 0, none⟩) (Nat.le_refl _) _, by rw [List.length_append, H7.out]; omega, fun p hp => by rcases List.mem_append.1 hp with h | h; exact HPs.out p h; exact hsm p h, by omega⟩
              · go_wp2_with (go_at_call 78; refine cB.mono ?_; rintro e W8 ⟨v8, rfl, hP8, hb8⟩; have c0 := cell_later hb8 c0; have c1 := cell_later hb8 c1; have c2 := cell_later hb8 c2; have c3 := cell_later hb8 c3; have hmr := cell_later hb8 hmr; obtain ⟨A8, c8, e8, hc8⟩ := hP8.form; rw [H7.out] at e8 hc8; subst e8)
                clear cB c0 c1 c2 c3 hmr o1
                go_loopg [15, 19, 20] (moves q.b tall fr) (fun g vl f t wx => ∃ y : Int, g = moves q.b tall y ∧ vl = .slice AX X.length cX ∧ f = .int .i64 y ∧ t = .int .i64 (y + allH L) ∧ (∃ m, moves q.b tall y < m ∧ slideF (k : Int) q canvas tall L P m y = R) ∧ Pls wx V2.heap.size (.slice A8 L.length c8) (blkF (k : Int) q canvas 0 y L) ∧ Below V2.heap.size V2 wx ∧ -13000 ≤ y ∧ y ≤ 1001)
                case atStart => exact ⟨fr, rfl, rfl, rfl, rfl, H8.out, hP8, hb8, by omega, by omega⟩
                case round =>
                  obtain ⟨y, hgk, rfl, rfl, rfl, hsl, hPw, hbx, hy1, hy2⟩ := hrel
                  obtain ⟨s1, s2, s3⟩ := H4.out y hsl
                  have HGK := Lib.hid hgk
                  have hbo2 := (hbx.block _ (Array.getElem?_eq_some_iff.1 hbo).1).trans hbo
                  have hb6x : Below W6.heap.size W6 wr := hbr.trans (hbx.mono hbr.size)
                  clear hsl hP8 hb8 hgk
                  by_cases hout : y < 0 ∨ tall < y + allH L
                  · have HN := Lib.hid (H1.out _ (H2.out (s1 hout)))
                    have hXx := hX.kb (KB.below (ts := []) hbx) (by simp)
                    have hb9 : Below wr.heap.size wr (wr.alloc (.cells #[.int .i64 k] 3)) := (Below.refl _ wr).alloc (Nat.le_refl _) _
                    have hL9 := hXx.kb (KB.below (ts := []) hb9) (by simp)
                    clear s1 s2 s3 hXx
                    rcases Int.lt_or_le y 0 with h0 | h0
                    · have d1 : decide (y < 0) = true := decide_eq_true h0
                      go_wp2_with (at_builtin; refine Go.Own.wpList_append_lies rfl _ _ 56 rfl W6.heap.size 3 i0 _ 1 8 Tryz.underlying56 hi hz0 hz1 hz2 rfl (by decide) _ X.length (X.map encN) rfl hL9 ⟨wr.heap.size, 0, none⟩ 1 1 [.int .i64 k] rfl rfl ?x1a2 ?x1a3 ?x1a4 ?x1a5 ?x1a6 (by decide) ?_)
                      case x1a2 => intro j u hj; rw [add0]; exact newcell wr #[.int .i64 k] 3 j u (by simpa using hj)
                      case x1a3 => intro u hu; simp only [List.mem_cons, List.mem_nil_iff, or_false] at hu; rcases hu with rfl; rfl
                      case x1a4 => unfold maxLen; omega
                      case x1a5 => omega
                      case x1a6 => exact Nat.le_trans hb6x.size hb9.size
                      intro v9 W9 hL10 hg9
                      have hkb : KB [3] V2 W9 := ((KB.below hbx).trans (KB.below hb9)).trans (KB.grown hg9 fun j hj => by obtain ⟨_, _, cu, hc⟩ := hL9.lt j hj; exact ⟨cu, 3, by simp, hc⟩)
                      have hb10 : Below W6.heap.size W6 W9 := (hb6x.trans (hb9.mono hb6x.size)).grown hg9 (Nat.le_trans hb6x.size hb9.size) (fun j hj => (hL9.lt j hj).1)
                      clear hg9 hL9 hb9
                      go_wp2
                      go_roundg g0
                      case measure => omega
                      case rel => exact ⟨n + 1, P, X ++ [k], _, by omega, by go_num, HN.out, hkb.2 _ _ _ (by decide) hbo, hP.kb hkb (by decide) (by decide), by rw [List.length_append, List.map_append]; exact hL10, hb10, by omega, HPs.out, by simp; omega⟩
                    · have d1 : decide (y < 0) = false := decide_eq_false (by omega)
                      have d2 : decide (tall < y + allH L) = true := decide_eq_true (by omega)
                      go_wp2_with (at_builtin; refine Go.Own.wpList_append_lies rfl _ _ 56 rfl W6.heap.size 3 i0 _ 1 8 Tryz.underlying56 hi hz0 hz1 hz2 rfl (by decide) _ X.length (X.map encN) rfl hL9 ⟨wr.heap.size, 0, none⟩ 1 1 [.int .i64 k] rfl rfl ?x1b2 ?x1b3 ?x1b4 ?x1b5 ?x1b6 (by decide) ?_)
                      case x1b2 => intro j u hj; rw [add0]; exact newcell wr #[.int .i64 k] 3 j u (by simpa using hj)
                      case x1b3 => intro u hu; simp only [List.mem_cons, List.mem_nil_iff, or_false] at hu; rcases hu with rfl; rfl
                      case x1b4 => unfold maxLen; omega
                      case x1b5 => omega
                      case x1b6 => exact Nat.le_trans hb6x.size hb9.size
                      intro v9 W9 hL10 hg9
                      have hkb : KB [3] V2 W9 := ((KB.below hbx).trans (KB.below hb9)).trans (KB.grown hg9 fun j hj => by obtain ⟨_, _, cu, hc⟩ := hL9.lt j hj; exact ⟨cu, 3, by simp, hc⟩)
                      have hb10 : Below W6.heap.size W6 W9 := (hb6x.trans (hb9.mono hb6x.size)).grown hg9 (Nat.le_trans hb6x.size hb9.size) (fun j hj => (hL9.lt j hj).1)
                      clear hg9 hL9 hb9
                      go_wp2
                      go_roundg g0
                      case measure => omega
                      case rel => exact ⟨n + 1, P, X ++ [k], _, by omega, by go_num, HN.out, hkb.2 _ _ _ (by decide) hbo, hP.kb hkb (by decide) (by decide), by rw [List.length_append, List.map_append]; exact hL10, hb10, by omega, HPs.out, by simp; omega⟩
                  · have d1 : decide (y < 0) = false := decide_eq_false (by omega)
                    have d2 : decide (tall < y + allH L) = false := decide_eq_false (by omega)
                    have hsm := H5.out y (by omega)
                    have hPO := hP.kb (KB.below (ts := []) hbx) (by simp) (by simp)
                    have cM := con80_calls (blkF (k : Int) q canvas 0 y L) A8 c8 V2.heap.size P AO cO W6.heap.size W6.heap.size wr (by rw [H7.out]; exact hPw) (by rw [H7.out]; omega) hsm hPO (by omega) HPs.out hbo2
                    rw [H7.out] at cM
                    obtain ⟨b0, b0'⟩ := blk1 hbo2
                    cases hm : meetsS (blkF (k : Int) q canvas 0 y L) P
                    case true =>
                      have hmm : ((blkF (k : Int) q canvas 0 y L).any fun x => P.any fun y => ovl x y) = true := hm
                      rw [hmm] at cM
                      obtain ⟨g1, g2⟩ := s3 hout hm
                      have G1 := Lib.hid g1
                      have G2 := Lib.hid g2
                      have hsm := Lib.hid hsm
                      have wy1 : IntKind.i64.wrap (y + 1) = y + 1 := IntWalk.i64_in _ (by omega)
                      have wy2 : IntKind.i64.wrap (y + allH L + 1) = y + allH L + 1 := IntWalk.i64_in _ (by omega)
                      clear s1 s2 s3 g1 g2 hmm hm
                      go_wp2_with (go_at_call 79; refine cM.mono ?_; rintro e W9 ⟨rfl, hb9⟩)
                      have hP9 := hPw.below hb9
                      have hbx9 : Below V2.heap.size V2 W9 := hbx.trans (hb9.mono hbx.size)
                      clear hPw hb9 hPO cM b0 b0'
                      go_loopw [105] (fun i wy => ∃ m : Nat, m ≤ L.length ∧ i = .int .i64 m ∧ Pls wy V2.heap.size (.slice A8 L.length c8) (mvTo (1) m (blkF (k : Int) q canvas 0 y L)) ∧ Below V2.heap.size V2 wy) (fun i _ => L.length - (intOf i).toNat)
                      case atStart => exact ⟨0, by omega, rfl, by rw [mvTo_zero]; exact hP9, hbx9⟩
                      case round =>
                        obtain ⟨m, hm, rfl, hPm, hbm⟩ := hrel
                        by_cases hml : m < L.length
                        · obtain ⟨us, hu1, hu2, hu3⟩ := hPm
                          rw [mvTo_length, H7.out] at hu1 hu2
                          obtain ⟨p, hp⟩ : ∃ p, (blkF (k : Int) q canvas 0 y L)[m]? = some p := ⟨_, List.getElem?_eq_getElem (by rw [H7.out]; exact hml)⟩
                          have hpm := mvTo_get (d := 1) hp
                          have hset := mvTo_set (d := 1) hp
                          have hsp := hsm.out p (List.mem_of_getElem? hp)
                          obtain ⟨u, hu⟩ : ∃ u, us[m]? = some u := ⟨_, List.getElem?_eq_getElem (by omega)⟩
                          obtain ⟨g, off, c9, e9, hc9, hg1, hg2, hg3, hfz, hcl, hput⟩ := hu2.put (by omega)
                          injection e9 with e10 e11 e12
                          subst e10 e12
                          have hcl3 := hcl (m * 7 + 3) (.int .i64 p.y) ((cells63_get hu hpm (by omega)).trans rfl)
                          have hfz3 := hfz (off + m * 7 + 3)
                          have hp3 := hput (m * 7 + 3) (.int .i64 (p.y + 1)) (by omega)
                          rw [cells63_y _ (by rw [mvTo_length, H7.out]; exact hu1) hpm, hset] at hp3
                          have eo : off + (m * 7 + 3) = off + m * 7 + 3 := by omega
                          rw [eo] at hcl3 hp3
                          have hps := set_ps (y := p.y + 1) hpm
                          rw [hset] at hps
                          have hkp : KB [63] wr (wr.setCell ⟨g, off + m * 7 + 3, none⟩ (.int .i64 (p.y + 1))) := by obtain ⟨cur, hcur⟩ := hg3; exact KB.set hcur (by simp) _
                          have hin : ∀ (i : Nat) (u : Value) (p' : Pl), us[i]? = some u → (mvTo (1) (m + 1) (blkF (k : Int) q canvas 0 y L))[i]? = some p' → In42 (wr.setCell ⟨g, off + m * 7 + 3, none⟩ (.int .i64 (p.y + 1))) u p'.ps := by
                            intro i u p' h1 h2
                            obtain ⟨r, hr1, hr2⟩ := hps i p' h2
                            rw [← hr2]
                            exact (hu3 i u r h1 hr1).kb hkp (by decide)
                          have hbm2 : Below V2.heap.size V2 (wr.setCell ⟨g, off + m * 7 + 3, none⟩ (.int .i64 (p.y + 1))) := hbm.setCell (p := ⟨g, _, none⟩) hg1 _
                          have HIN := Lib.hid hin
                          have wp1 : IntKind.i64.wrap (p.y + 1) = p.y + 1 := IntWalk.i64_in _ (by have := hsp.2.1; omega)
                          have wm1 : IntKind.i64.wrap ((m : Int) + 1) = (m : Int) + 1 := IntWalk.i64_in _ (by omega)
                          clear hset hps hin hput hcl hfz hpm hp hu hu3 hsp hkp
                          go_wp2_with fail
                          go_roundw
                          case rel => exact ⟨m + 1, by omega, by go_num, ⟨us, by rw [mvTo_length, H7.out]; exact hu1, by rw [mvTo_length, H7.out]; exact hp3, HIN.out⟩, hbm2⟩
                          case measure => (simp [intOf]; try omega)
                        · obtain rfl : m = L.length := by omega
                          have hPn : Pls wr V2.heap.size (.slice A8 L.length c8) (blkF (k : Int) q canvas 0 (y + 1) L) := by
                            rw [H6.out]
                            have := mvTo_all (1) (blkF (k : Int) q canvas 0 y L)
                            rw [H7.out] at this
                            rw [← this]
                            exact hPm
                          clear hPm
                          go_wp2_with fail
                          go_roundg (moves q.b tall (y + byS q.b))
                          case measure => rw [HGK.out]; exact G1.out
                          case rel => exact ⟨y + byS q.b, rfl, rfl, by rw [hby], by rw [hby]; congr 1; omega, G2.out, by rw [hby]; exact hPn, hbm, by rw [hby]; omega, by rw [hby]; omega⟩
                    case false =>
                      have hmm : ((blkF (k : Int) q canvas 0 y L).any fun x => P.any fun y => ovl x y) = false := hm
                      rw [hmm] at cM
                      have HN := Lib.hid (H1.out _ (H3.out y (s2 hout hm)))
                      clear s1 s2 s3 hmm hm
                      go_wp2_with (first | (go_at_call 79; refine cM.mono ?_; rintro e W9 ⟨rfl, hb9⟩; have hP9 := hPw.below hb9; have hPO9 := hPO.below hb9; have hbo9 := (hb9.block _ (Array.getElem?_eq_some_iff.1 hbo2).1).trans hbo2; obtain ⟨q0, q0'⟩ := blk1 hbo9; obtain ⟨us, hu1, hu2, hu3⟩ := hP9; rw [H7.out] at hu2; obtain ⟨ps, hp1, hp2, hp3⟩ := hPO9; obtain ⟨a8, c8', e8, hc8', hcells⟩ := hu2.cell hLpos; injection e8 with e8 e9 e10; subst e8 e10) | (at_builtin; refine Go.Own.wpList_append_lies rfl _ _ 55 rfl W6.heap.size 63 i1 _ 7 72 Tryz.underlying55 hj hpz0 hpz1 hpz2 rfl (by decide) _ P.length (cells63 ps P) rfl hp2 a8 L.length c8 (cells63 us (blkF (k : Int) q canvas 0 y L)) rfl (by rw [cells63_length _ _ hu1, H7.out]) hcells (cells63_one (w := W9) hu3) ?z14 ?z15 ?z16 hLpos ?_))
                      case z14 => unfold maxLen; omega
                      case z15 => omega
                      case z16 => exact Nat.le_trans hb6x.size hb9.size
                      intro v10 W10 hL10 hg10
                      obtain ⟨A10, c10, rfl, hc10⟩ := hL10.form
                      have hk10 : KB [63] W9 W10 := KB.grown hg10 fun j hj => by obtain ⟨_, _, cu, hc⟩ := hp2.lt j hj; exact ⟨cu, 63, by simp, hc⟩
                      have hb10 : Below W6.heap.size W6 W10 := (hb6x.trans (hb9.mono hb6x.size)).grown hg10 (Nat.le_trans hb6x.size hb9.size) (fun j hj => (hp2.lt j hj).1)
                      have hboA := hk10.2 _ _ _ (by decide) hbo9
                      obtain ⟨r0, r0'⟩ := blk1 hboA
                      clear hg10 q0 q0' b0 b0' cM hPw hPO
                      go_wp2_with fail
                      go_roundg g0
                      case measure => omega
                      case rel =>
                        have hkS : KB [55] W10 (W10.setCell ⟨W6.heap.size, 0, none⟩ (.slice A10 (P.length + L.length) c10)) := KB.set hboA (by simp) _
                        have hkA : KB [63, 55] V2 (W10.setCell ⟨W6.heap.size, 0, none⟩ (.slice A10 (P.length + L.length) c10)) := (((KB.below hbx).trans (KB.below hb9)).trans (hk10.mono (by simp))).trans (hkS.mono (by simp))
                        exact ⟨n + 1, P ++ blkF (k : Int) q canvas 0 y L, X, _, by omega, by go_num, HN.out, by rw [set1 hboA]; rfl, (Pls.append (w := W9) hp1 hp3 hu1 hu3 (by rw [H7.out]; exact hL10) hk10).kb hkS (by decide) (by decide), hX.kb hkA (by decide), hb10.setCell (p := ⟨W6.heap.size, 0, none⟩) (Nat.le_refl _) _, by rw [List.length_append, H7.out]; omega, fun p hp => by rcases List.mem_append.1 hp with h | h; exact HPs.out p h; exact hsm p h, by omega⟩
end Go.Proofs.YtogidacejbjljaaGreatDoor.PTextChecks
end
section
/- TextChecks' own function (7), by hand. -/
set_option linter.unusedVariables false
set_option linter.unusedSimpArgs false
namespace Go.Proofs.YtogidacejbjljaaGreatDoor.PTextChecks
open Go.RowKit Go.Mix Go.Proofs.YtogidacejbjljaaGreatDoorW.PrintWords Go.Proofs.YtogidacejbjljaaGreatDoorW.PrintLast Go.Proofs.YtogidacejbjljaaGreatDoorW.PrintMore
theorem eqp_self {l : List S42} (hl : l.length ≤ 140737488351232) : ∀ (d i k : Nat), i + d = l.length → d < k → r18_EqPieces.l0 k l l (i : Int) = some true := by
  intro d
  induction d with
  | zero =>
    intro i k hi hk
    obtain ⟨k, rfl⟩ : ∃ m, k = m + 1 := ⟨k - 1, by omega⟩
    unfold r18_EqPieces.l0
    rw [if_neg (by omega)]
  | succ d ih =>
    intro i k hi hk
    obtain ⟨k, rfl⟩ : ∃ m, k = m + 1 := ⟨k - 1, by omega⟩
    have hlt : i < l.length := by omega
    unfold r18_EqPieces.l0
    rw [if_pos (by omega), if_pos (by omega), if_pos (by omega), if_neg (by simp), wsucc hlt (by omega)]
    exact ih (i + 1) k (by omega) (by omega)
theorem same_self (a b c : Int) {l : List S42} (hl : l.length ≤ 140737488351232) : r18_Same.f (l.length + 1) a b c l a b c l = some true := by
  unfold r18_Same.f r18_EqPieces.f
  rw [if_pos rfl, if_pos rfl, if_pos rfl, if_pos rfl]
  rw [show (0 : Int) = ((0 : Nat) : Int) from rfl, eqp_self hl l.length 0 _ (by omega) (by omega)]
  rfl
theorem wordsLen_le {l : List S42} {B : Nat} : (∀ p ∈ l, p.f0.size ≤ B) → wordsLen l ≤ l.length * B := by
  induction l with
  | nil => intro _; simp [wordsLen]
  | cons p l ih =>
    intro h
    have h1 := h p (List.mem_cons_self ..)
    have h2 := ih fun q hq => h q (List.mem_cons_of_mem _ hq)
    simp only [wordsLen, List.map_cons, List.sum_cons, List.length_cons] at h2 ⊢
    rw [Nat.succ_mul]
    omega
def longB (l : List S42) : Bool := decide (400 < l.length) || decide (10000 < wordsLen l)
theorem long_run {l : List S42} (h : ∀ p ∈ l, p.f0.size ≤ 140737488351232) (a b c : Int) : w18_long.f (l.length + 1) a b c l = some (longB l) := by
  unfold w18_long.f longB
  by_cases hl : (l.length : Int) > 400
  · rw [if_pos hl, decide_eq_true (by omega)]; rfl
  · have h1 := wordsLen_le h
    have h2 : l.length * 140737488351232 ≤ 400 * 140737488351232 := Nat.mul_le_mul (by omega) (Nat.le_refl _)
    rw [if_neg hl, rWords_big (by omega) (by omega) a b c _ (by omega), decide_eq_false (p := 400 < l.length) (by omega)]
    simp only [Option.bind_some, wordsOf_size, Bool.false_or]
    congr 1
    rw [Bool.eq_iff_iff, decide_eq_true_iff, decide_eq_true_iff]
    omega
theorem Ext.at {W : World} (x : Ext W) {a : Addr} {v : Value} (h : W.cell? a = some v) : x.w.cell? a = some v := cell_later x.2 h
def LRel (w1 : World) (wr : World) : Prop := Below w1.heap.size w1 wr
end Go.Proofs.YtogidacejbjljaaGreatDoor.PTextChecks
end
section
/- What the layout's laws call besides: longAll, EqInts, HasInt, EqPlaced. -/
set_option linter.unusedVariables false
set_option linter.unusedSimpArgs false
namespace Go.Proofs.YtogidacejbjljaaGreatDoor.PTextChecks
open Go.RowKit Go.Mix Go.Own Go.Sort Go.Proofs.YtogidacejbjljaaGreatDoorW.PrintWords Go.Proofs.YtogidacejbjljaaGreatDoorW.PrintLast Go.Proofs.YtogidacejbjljaaGreatDoorW.PrintMore
def totL (C : List Cu) : Nat := (C.map fun q => wordsLen q.l).sum
def longAllB (C : List Cu) : Bool := C.any (fun q => longB q.l) || (decide (50 < C.length) || decide (400 < totL C))
theorem totL_take_succ {C : List Cu} {n : Nat} {q : Cu} (h : C[n]? = some q) : totL (C.take (n + 1)) = totL (C.take n) + wordsLen q.l := by
  obtain ⟨hn, he⟩ := List.getElem?_eq_some_iff.1 h
  unfold totL
  rw [List.take_succ_eq_append_getElem hn, List.map_append, List.sum_append, he]
  simp
theorem wl_in_tot {C : List Cu} {q : Cu} (h : q ∈ C) : wordsLen q.l ≤ totL C := by
  induction C with
  | nil => simp at h
  | cons p C ih =>
    simp only [totL, List.map_cons, List.sum_cons] at ih ⊢
    rcases List.mem_cons.1 h with rfl | h
    · omega
    · have := ih h; omega
theorem longAll_fit {C : List Cu} (h : longAllB C = false) : C.length ≤ 50 ∧ totL C ≤ 400 ∧ ∀ q ∈ C, Fit q.l ∧ q.l.length ≤ 400 ∧ wordsLen q.l ≤ 400 := by
  unfold longAllB at h
  rw [Bool.or_eq_false_iff, Bool.or_eq_false_iff, decide_eq_false_iff_not, decide_eq_false_iff_not] at h
  obtain ⟨h1, h2, h3⟩ := h
  refine ⟨by omega, by omega, fun q hq => ?_⟩
  have h4 : longB q.l = false := by
    rw [List.any_eq_false] at h1
    simpa using h1 q hq
  unfold longB at h4
  rw [Bool.or_eq_false_iff, decide_eq_false_iff_not, decide_eq_false_iff_not] at h4
  have := wl_in_tot hq
  exact ⟨⟨by omega, by omega⟩, by omega, by omega⟩
set_option maxHeartbeats 2000000 in
set_option maxRecDepth 100000 in
theorem longAll_calls (C : List Cu) (A : Option Addr) (cap : Nat) (w : World) (hA : CuesIn w A C) (hC : C.length ≤ 140737488351232) (hs : ∀ q ∈ C, ∀ p ∈ q.l, p.f0.size ≤ 140737488351232) :
    Calls Tryz.prog 38 #[.slice A C.length cap] w fun e w' => e = .returned (.bool (longAllB C)) ∧ Below w.heap.size w w' := by
  go_enter Tryz.func38, Tryz.ntmps38
  go_wp2
  go_loopw [3, 4] (fun s i wr => ∃ n : Nat, n ≤ C.length ∧ s = .int .i64 (totL (C.take n)) ∧ i = .int .i64 n ∧ (C.take n).any (fun q => longB q.l) = false ∧ totL (C.take n) ≤ 10000 * n ∧ Below w.heap.size w wr) (fun _ i _ => C.length - (intOf i).toNat)
  case atStart => exact ⟨0, by omega, rfl, rfl, rfl, by simp [totL], Below.refl _ _⟩
  case round =>
    obtain ⟨n, hn, rfl, rfl, hno, htot, hbr⟩ := hrel
    by_cases hlt : n < C.length
    · obtain ⟨q, hq⟩ : ∃ q, C[n]? = some q := ⟨_, List.getElem?_eq_getElem hlt⟩
      obtain ⟨ad, Ap, cp, rfl, c0, c1, c2, c3, hcp, hK⟩ := (hA.below hbr) n q hq
      have hqm := List.mem_of_getElem? hq
      have cL := fun X (h : Kd.C k42 X Ap q.l.length q.l) => w18_long.calls (q.l.length + 1) q.a q.b q.c Ap cp q.l (longB q.l) X h hcp (long_run (hs q hqm) q.a q.b q.c)
      have hts := any_take_succ (fun q : Cu => longB q.l) C n q hq
      rw [hno, Bool.false_or] at hts
      try simp only at hts
      have hat := any_at (fun q : Cu => longB q.l) C n q hq
      try simp only at hat
      have hsu := totL_take_succ hq
      generalize totL (C.take n) = tt at hsu htot ⊢
      have wr1 : IntKind.i64.wrap ((n : Int) + 1) = (n : Int) + 1 := IntWalk.i64_in _ (by omega)
      have HT := Lib.hid hts
      have HA := Lib.hid hat
      have HS := Lib.hid hsu
      clear hts hat hsu hno
      cases hlg : longB q.l
      case true =>
        rw [hlg] at cL
        have HF : longAllB C = true := by unfold longAllB; rw [HA.out hlg]; rfl
        have HF := Lib.hid HF
        go_wp2_with (go_at_call 17; refine (cL _ hK).mono ?_; rintro e W ⟨rfl, hbW⟩)
        go_ret
        exact ⟨by rw [HF.out]; rfl, hbr.trans (hbW.mono hbr.size)⟩
      case false =>
        rw [hlg] at cL
        have hlg' := hlg
        unfold longB at hlg'
        rw [Bool.or_eq_false_iff, decide_eq_false_iff_not, decide_eq_false_iff_not] at hlg'
        have cW := fun X h => rWords_calls q.a q.b q.c Ap cp q.l X h hcp ⟨by omega, by omega⟩
        have hwz := wordsOf_size q.l
        generalize wordsOf q.l = ws at cW hwz
        have wr2 : IntKind.i64.wrap ((tt : Int) + (ws.size : Int)) = (tt : Int) + (ws.size : Int) := IntWalk.i64_in _ (by omega)
        have HZ := Lib.hid hwz
        have hwl : wordsLen q.l ≤ 10000 := by omega
        clear hwz
        go_wp2_with (first | (go_at_call 17; refine (cL _ hK).mono ?_; rintro e W ⟨rfl, hbW⟩; have hKW := Kd.C_below hK hbW; have c0 := cell_later hbW c0; have c1 := cell_later hbW c1; have c2 := cell_later hbW c2; have c3 := cell_later hbW c3) | (go_at_call 30; refine (cW _ hKW).mono ?_; rintro e W2 ⟨rfl, hb2⟩))
        go_roundw
        case rel => exact ⟨n + 1, by omega, by rw [HS.out, ← HZ.out]; simp, by go_num, by rw [HT.out]; exact hlg, by rw [HS.out]; omega, hbr.trans ((hbW.trans (hb2.mono hbW.size)).mono hbr.size)⟩
        case measure => (simp [intOf]; try omega)
    · obtain rfl : n = C.length := by omega
      rw [List.take_length] at hno ⊢
      have hF : longAllB C = (decide (50 < C.length) || decide (400 < totL C)) := by unfold longAllB; rw [hno, Bool.false_or]
      have HF := Lib.hid hF
      clear hF hno
      generalize totL C = tt at htot HF ⊢
      cases h5 : decide ((50 : Int) < (C.length : Int))
      case true =>
        have h5' : decide (50 < C.length) = true := decide_eq_true (by have := of_decide_eq_true h5; omega)
        have HF2 := Lib.hid h5'
        clear h5'
        go_wp2
        go_ret
        exact ⟨by rw [HF.out, HF2.out]; rfl, hbr⟩
      case false =>
        have h5' : decide (50 < C.length) = false := decide_eq_false (by have := of_decide_eq_false h5; omega)
        have HF2 := Lib.hid h5'
        clear h5'
        go_wp2
        go_ret
        refine ⟨?_, hbr⟩
        rw [HF.out, HF2.out]
        simp
        try omega
theorem at_ints {w : World} {base : Nat} {A : Option Addr} {c : Nat} {L : List Nat} (h : Lies w base 3 1 (.slice A L.length c) L.length (L.map encN)) (k : Nat) (hk : k < L.length) : ∃ ad x, A = some ad ∧ L[k]? = some x ∧ w.cell? (ad.add k) = some (.int .i64 (x : Nat)) := by
  obtain ⟨ad, rfl, hc⟩ := h.at (by omega)
  refine ⟨ad, L[k], rfl, List.getElem?_eq_getElem hk, (hc k 0 _ ?_).1 rfl⟩
  rw [Nat.add_zero, List.getElem?_map, List.getElem?_eq_getElem hk]
  rfl
set_option maxHeartbeats 1000000 in
set_option maxRecDepth 100000 in
theorem hasInt_calls (L : List Nat) (k : Nat) (A : Option Addr) (ca b1 : Nat) (w : World) (hL : L.length ≤ 1000000) (h1 : Lies w b1 3 1 (.slice A L.length ca) L.length (L.map encN)) :
    Calls Tryz.prog 44 #[.slice A L.length ca, .int .i64 k] w fun e w' => (∃ r : Int, e = .returned (.int .i64 r) ∧ decide (0 ≤ r) = decide (k ∈ L)) ∧ Below w.heap.size w w' := by
  go_enter Tryz.func44, Tryz.ntmps44
  go_wp2
  go_loopw [5] (fun i wr => ∃ n : Nat, n ≤ L.length ∧ i = .int .i64 n ∧ k ∉ L.take n ∧ Below w.heap.size w wr) (fun i _ => L.length - (intOf i).toNat)
  case atStart => exact ⟨0, by omega, rfl, by simp, Below.refl _ _⟩
  case round =>
    obtain ⟨n, hn, rfl, hno, hbr⟩ := hrel
    by_cases hlt : n < L.length
    · obtain ⟨ad, x, rfl, hx, d1⟩ := at_ints (h1.kb (KB.below (ts := []) hbr) (by simp)) n hlt
      have wr1 : IntKind.i64.wrap ((n : Int) + 1) = (n : Int) + 1 := IntWalk.i64_in _ (by omega)
      have hmx := List.mem_of_getElem? hx
      have htk : L.take (n + 1) = L.take n ++ [x] := by
        obtain ⟨h1, h2⟩ := List.getElem?_eq_some_iff.1 hx
        rw [List.take_succ_eq_append_getElem h1, h2]
      cases hxk : ((x : Int) == (k : Int))
      case true =>
        have hk : k ∈ L := by have : x = k := by have := eq_of_beq hxk; omega
                              exact this ▸ hmx
        have HK := Lib.hid hk
        clear hk htk hx hmx hno
        go_wp2_with fail
        go_ret
        exact ⟨⟨n, rfl, by rw [decide_eq_true HK.out]; exact decide_eq_true (by omega)⟩, hbr⟩
      case false =>
        have hk : k ∉ L.take (n + 1) := by
          rw [htk, List.mem_append, List.mem_singleton, not_or]
          refine ⟨hno, fun e => ?_⟩
          subst e
          simp at hxk
        have HK := Lib.hid hk
        clear hk htk hx hmx hno
        go_wp2_with fail
        go_roundw
        case rel => exact ⟨n + 1, by omega, by go_num, HK.out, hbr⟩
        case measure => (simp [intOf]; try omega)
    · obtain rfl : n = L.length := by omega
      rw [List.take_length] at hno
      have HK := Lib.hid hno
      clear hno
      go_wp2
      go_ret
      exact ⟨⟨-1, rfl, by rw [decide_eq_false HK.out]; rfl⟩, hbr⟩
end Go.Proofs.YtogidacejbjljaaGreatDoor.PTextChecks
end
section
/- TextApart's own function (11). -/
set_option linter.unusedVariables false
set_option linter.unusedSimpArgs false
namespace Go.Proofs.YtogidacejbjljaaGreatDoor.PTextChecks
open Go.RowKit Go.Mix Go.Own Go.Sort Go.Proofs.YtogidacejbjljaaGreatDoorW.PrintWords Go.Proofs.YtogidacejbjljaaGreatDoorW.PrintLast Go.Proofs.YtogidacejbjljaaGreatDoorW.PrintMore
/-- How many of the first i lines each cue has. -/
def ctsL (P : List Pl) (n i : Nat) : List Nat := (List.range n).map fun k : Nat => cntOf (P.take i) (k : Int)
theorem ctsL_length (P : List Pl) (n i : Nat) : (ctsL P n i).length = n := by simp [ctsL]
theorem ctsL_zero (P : List Pl) (n : Nat) : (ctsL P n 0).map encN = List.replicate n (.int .i64 0) := by
  unfold ctsL
  rw [List.map_map, List.eq_replicate_iff]
  refine ⟨by simp, fun b hb => ?_⟩
  obtain ⟨k, _, rfl⟩ := List.mem_map.1 hb
  simp [cntOf, encN]
theorem ctsL_get {P : List Pl} {n i k : Nat} (h : k < n) : (ctsL P n i)[k]? = some (cntOf (P.take i) k) := by
  unfold ctsL
  rw [List.getElem?_map, List.getElem?_range h]
  rfl
theorem ctsL_step {P : List Pl} {n i k : Nat} {p : Pl} (hp : P[i]? = some p) (hk : p.cue = (k : Nat)) : (ctsL P n i).set k (cntOf (P.take i) k + 1) = ctsL P n (i + 1) := by
  obtain ⟨hi, he⟩ := List.getElem?_eq_some_iff.1 hp
  have htk : P.take (i + 1) = P.take i ++ [p] := by rw [List.take_succ_eq_append_getElem hi, he]
  apply List.ext_getElem?
  intro j
  by_cases hj : j < n
  · rw [ctsL_get hj, htk, cntOf_app, List.getElem?_set, ctsL_length]
    by_cases hjk : k = j
    · subst hjk
      rw [if_pos rfl, if_pos hj]
      simp [cntOf, hk]
    · rw [if_neg hjk, ctsL_get hj]
      have : cntOf [p] j = 0 := by
        unfold cntOf
        rw [List.countP_eq_zero]
        intro q hq
        rw [List.mem_singleton.1 hq, hk]
        simp
        omega
      rw [this, Nat.add_zero]
  · rw [List.getElem?_eq_none (by rw [List.length_set, ctsL_length]; omega), List.getElem?_eq_none (by rw [ctsL_length]; omega)]
theorem lay_ok {C : List Cu} {canvas tall : Int} (h : layE C canvas tall = 0) : (1 ≤ canvas ∧ canvas ≤ 1000) ∧ (1 ≤ tall ∧ tall ≤ 1000) ∧ C.length ≤ 8 ∧ ∀ q ∈ C, brkE q.a q.b q.c q.l canvas = 0 := by
  unfold layE at h
  split at h
  · rename_i hg
    rw [Bool.and_eq_true] at hg
    split at h
    · omega
    · exact ⟨inB_true hg.1, inB_true hg.2, by omega, firstE_ok h⟩
  · omega
theorem brkL_len {q : Cu} {canvas : Int} (h : brkE q.a q.b q.c q.l canvas = 0) : (brkL q.a q.b q.c q.l canvas).length = (linesQ q canvas).length := by
  unfold brkL
  rw [if_pos h, List.length_map]
  rfl
theorem Lies.max {w : World} {base : Nat} {e : TypeId} {size : Nat} {v : Value} {n : Nat} {xs : List Value} (h : Lies w base e size v n xs) : n ≤ maxLen := by
  rcases h.2 with ⟨_, h0⟩ | ⟨g, off, cap, cur, hv, hb, hg, hnc, hcm, hcs, ht⟩
  · omega
  · omega
theorem lay_small {C : List Cu} {canvas tall : Int} (hok : ∀ q ∈ C, brkE q.a q.b q.c q.l canvas = 0) (htl : tall ≤ 1000) : ∀ p ∈ (layS C canvas tall).1, SmP p := by
  have : ∀ (l : List Nat) (s : List Pl × List Nat), (∀ p ∈ s.1, SmP p) → ∀ p ∈ (l.foldl (stepS C canvas tall) s).1, SmP p := by
    intro l
    induction l with
    | nil => exact fun s h => h
    | cons k l ih =>
      intro s h
      rw [List.foldl_cons]
      refine ih _ ?_
      cases hq : C[k]? with
      | none => simp only [stepS, placeS, hq]; exact h
      | some q =>
        have lo := linesOk_of (hok q (List.mem_of_getElem? hq))
        cases hs : slideS k q canvas tall (linesQ q canvas) s.1 with
        | none => rw [stepS_none hq hs]; exact h
        | some y =>
          rw [stepS_some hq hs]
          obtain ⟨y0, y1, _⟩ := slideF_some _ _ _ hs
          have hall := uptoH_range lo.high (linesQ q canvas).length
          rw [uptoH_all] at hall
          intro p hp
          rcases List.mem_append.1 hp with hp | hp
          · exact h p hp
          · exact blk_small lo ⟨by omega, by omega⟩ p hp
  exact this _ _ (fun p hp => by simp at hp)
set_option maxHeartbeats 8000000 in
set_option maxRecDepth 100000 in
theorem law11_calls (C : List Cu) (A : Option Addr) (cap : Nat) (canvas tall : Int) (w : World) (hA : CuesIn w A C) (hc : C.length ≤ cap) (hC : C.length ≤ 140737488351232) (hs : ∀ q ∈ C, ∀ p ∈ q.l, p.f0.size ≤ 140737488351232) :
    Calls Tryz.prog 11 #[.slice A C.length cap, .int .i64 canvas, .int .i64 tall] w fun e w' => e = .returned (.bool true) ∧ Below w.heap.size w w' := by
  have cL := longAll_calls C A cap w hA hC hs
  obtain ⟨i0, hi, hii⟩ := Option.map_eq_some_iff.1 infoInt
  simp only [Prod.mk.injEq] at hii
  obtain ⟨hz0, hz1, hz2⟩ := hii
  go_enter Tryz.func11, Tryz.ntmps11
  cases hlg : longAllB C
  case true =>
    rw [hlg] at cL
    go_wp2_with (first | (go_at_call 38; refine cL.mono ?_; rintro e W ⟨rfl, hbW⟩) | (go_at_call 13; refine (awake_calls _).mono ?_; rintro e W2 ⟨rfl, hbW2⟩))
    go_ret
    exact ⟨rfl, hbW.trans (hbW2.mono hbW.size)⟩
  case false =>
    rw [hlg] at cL
    obtain ⟨hC50, htot, hfit⟩ := longAll_fit hlg
    have cY := fun X hx => layout_calls C A cap canvas tall X hx hc (fun q hq => (hfit q hq).1)
    unfold LayPost at cY
    cases hE : (layE C canvas tall != 0)
    case true =>
      generalize layE C canvas tall = E at cY hE
      go_wp2_with (first | (go_at_call 38; refine cL.mono ?_; rintro e W ⟨rfl, hbW⟩; have hAW := hA.below hbW) | (go_at_call 39; refine (cY _ hAW).mono ?_; rintro e W1 ⟨v, vl, rfl, _, _, hb1⟩) | (go_at_call 13; refine (awake_calls _).mono ?_; rintro e W2 ⟨rfl, hbW2⟩))
      go_ret
      exact ⟨rfl, (hbW.trans (hb1.mono hbW.size)).trans (hbW2.mono (Nat.le_trans hbW.size hb1.size))⟩
    case false =>
      have hE0 : layE C canvas tall = 0 := by simpa using hE
      obtain ⟨hcv, htl, hC8, hok⟩ := lay_ok hE0
      have hr := layer_range hok
      have hhh : ∀ q ∈ C, ∀ p ∈ linesQ q canvas, 0 ≤ p.2 := fun q hq p hp => ((linesOk_of (hok q hq)).high p hp).1
      have hinv := lay_inv (canvas := canvas) (tall := tall) hhh hr
      have hlm := lostS_mem (canvas := canvas) (tall := tall) hhh hr
      have hordm := ordF_mem hr
      have hp1 : layP C canvas tall = (layS C canvas tall).1 := by unfold layP; rw [if_pos hE0]
      have hp2 : layX C canvas tall = lostS C canvas tall := by unfold layX; rw [if_pos hE0]
      rw [hE0, hp1, hp2] at cY
      have hXl : (lostS C canvas tall).length ≤ 8 := by
        unfold lostS riseF
        have := List.length_filter_le (fun i => decide (i ∈ (layS C canvas tall).2)) (List.range C.length)
        rw [List.length_range] at this
        omega
      have hsm := lay_small (tall := tall) hok htl.2
      obtain ⟨a1, a2, a3, a4⟩ := hinv
      generalize layS C canvas tall = S at *
      obtain ⟨P, X0⟩ := S
      generalize lostS C canvas tall = X at *
      simp only at cY a1 a2 a3 a4 hlm hsm
      have H1 := Lib.hid a1
      have H2 := Lib.hid a2
      have H3 := Lib.hid a3
      have H4 := Lib.hid a4
      have HSM := Lib.hid hsm
      have HLM := Lib.hid hlm
      have HOM := Lib.hid hordm
      clear a1 a2 a3 a4 hlm hsm hordm hp1 hp2 hhh hr hE hE0
      have HOK := Lib.hid hok
      have HFIT := Lib.hid hfit
      clear hok hfit
      go_wp2_with (first | (go_at_call 38; refine cL.mono ?_; rintro e W ⟨rfl, hbW⟩; have hAW := hA.below hbW) | (go_at_call 39; refine (cY _ hAW).mono ?_; rintro e W1 ⟨v, vl, rfl, hPv, hXv, hb1⟩; obtain ⟨Av, cv, rfl, hcv2⟩ := hPv.form; obtain ⟨Ax, cx, rfl, hcx⟩ := hXv.form) | (at_make; refine wpList_make_full _ rfl _ _ 56 rfl W1.heap.size 3 i0 _ 1 Tryz.underlying56 hi hz0 hz1 .i64 .i64 _ _ C.length rfl rfl rfl rfl (by rw [hz2]; omega) (by unfold maxLen; omega) (Nat.le_refl _) ?_; intro W2 hown hgr))
      have hct : Lies W2 W1.heap.size 3 1 (.slice (some ⟨W1.heap.size, 0, none⟩) C.length C.length) C.length ((ctsL P C.length 0).map encN) := by
        rw [ctsL_zero]
        have := Lies.of_owns hown
        rw [show (Value.int IntKind.i64 0).cells = #[.int .i64 0] from rfl, toList_madeCells_one, Nat.mul_one] at this
        exact this
      have hb2 : Below W1.heap.size W1 W2 := (Below.refl _ W1).grown hgr (Nat.le_refl _) (by simp)
      have hbw1 : Below w.heap.size w W1 := hbW.trans (hb1.mono hbW.size)
      have hA1 := hA.below hbw1
      have hPm : P.length ≤ 9223372036854775807 := by obtain ⟨us, _, hl, _⟩ := hPv; have := Lies.max hl; unfold maxLen at this; omega
      have hgw : W1.heap.size < W2.heap.size ∨ C.length = 0 := by
        rcases Nat.eq_zero_or_pos C.length with h | h
        · exact .inr h
        · obtain ⟨g, off, c, e, _, hg1, hg2, _⟩ := hct.put h
          injection e with e
          injection e with e
          injection e with e
          exact .inl (by omega)
      clear cL cY hown hgr hA hbW hb1 hAW
      go_loopw [11] (fun i wr => ∃ n : Nat, n ≤ P.length ∧ i = .int .i64 n ∧ Lies wr W1.heap.size 3 1 (.slice (some ⟨W1.heap.size, 0, none⟩) C.length C.length) C.length ((ctsL P C.length n).map encN) ∧ Below W1.heap.size W1 wr) (fun i _ => P.length - (intOf i).toNat)
      case atStart => exact ⟨0, by omega, rfl, hct, hb2⟩
      case round =>
        obtain ⟨n, hn, rfl, hcr, hbr⟩ := hrel
        by_cases hlt : n < P.length
        · obtain ⟨adp, u, p, rfl, hp, hI, d0, d1, d2, d3, d4, d5, d6⟩ := at_pls (hPv.below hbr) n hlt
          obtain ⟨k, q, r, hk, hcue, hq, hy, hyh, hline, hrm, hwid, hps⟩ := H1.out n p hp
          have hkl : k < C.length := (HOM.out k).1 hk
          obtain ⟨ad, Ap, cp, rfl, c0, c1, c2, c3, hcp, hK⟩ := (hA1.below hbr) k q hq
          have lo := linesOk_of (HOK.out q (List.mem_of_getElem? hq))
          obtain ⟨hrs, hro⟩ := lo.short r hrm
          have hget := ctsL_get (P := P) (i := n) hkl
          have hstep := ctsL_step (n := C.length) hp hcue
          obtain ⟨ct, hct0⟩ : ∃ ct, cntOf (P.take n) k = ct := ⟨_, rfl⟩
          rw [hct0] at hget hstep hline
          have hctn : ct ≤ n := by rw [← hct0]; unfold cntOf; exact Nat.le_trans (List.countP_le_length) (List.length_take_le n P)
          have hcnt : ∀ X, Lies X W1.heap.size 3 1 (.slice (some ⟨W1.heap.size, 0, none⟩) C.length C.length) C.length ((ctsL P C.length n).map encN) → X.cell? ⟨W1.heap.size, k, none⟩ = some (.int .i64 (ct : Nat)) ∧ X.frozen? ⟨W1.heap.size, k, none⟩ = false ∧ (∃ cur, X.heap[W1.heap.size]? = some (.cells cur 3 (0, 0))) ∧ Lies (X.setCell ⟨W1.heap.size, k, none⟩ (.int .i64 ((ct : Int) + 1))) W1.heap.size 3 1 (.slice (some ⟨W1.heap.size, 0, none⟩) C.length C.length) C.length ((ctsL P C.length (n + 1)).map encN) := by
            intro X hX
            obtain ⟨g, off, c9, e9, hc9, hg1, hg2, hg3, hfz, hcl, hput⟩ := hX.put (by omega)
            injection e9 with e10 e11 e12
            injection e10 with e10
            injection e10 with e13 e14 e15
            subst e13 e14
            have k1 := hcl k (.int .i64 (ct : Nat)) (by rw [List.getElem?_map, hget]; rfl)
            have kp := hput k (.int .i64 ((ct : Int) + 1)) (by omega)
            have kst : ((ctsL P C.length n).map encN).set k (.int .i64 ((ct : Int) + 1)) = (ctsL P C.length (n + 1)).map encN := by rw [← hstep, List.map_set]; rfl
            rw [kst] at kp
            simp only [Nat.zero_add] at k1 kp
            exact ⟨k1, hfz k, hg3, kp⟩
          have hsp := HSM.out p (List.mem_of_getElem? hp)
          have HP := Lib.hid hp
          have hfitr := linesS_fit (room := roomS q.c canvas) (lettersOf_ok lo.ok) (by rw [lettersOf_length]; have := lo.fit.2; omega) r hrm
          have hwe := sumW_eq r.1 0 hro (by omega) (by omega)
          have hmarg := headB_margin lo.head
          have hpl : p.ps.length ≤ 2000 := by rw [hps]; have := piecesS_len r.1 r.1.length; rw [List.take_length] at this; omega
          have hpw : wordsLen p.ps = r.1.length := by rw [hps]; have := lettersOf_length (piecesS r.1); rw [letters_pieces (fun x hx => ⟨(hro x hx).1.1, by have := (hro x hx).1.2; omega⟩)] at this; exact this.symm
          obtain ⟨Au, cu, rfl, hle3, hC1⟩ := hI.reads (by omega)
          have HPS := Lib.hid hpw
          clear hget hstep hct0 hrm hK hp hps hpw lo
          obtain ⟨pc, pl, px, py, pw, ph, pps⟩ := p
          simp only at hcue hy hyh hline hwid hpl d0 d1 d2 d3 d4 d5 d6 hle3 hC1 hsp hI
          subst hcue hline
          have HW := Lib.hid (show pw = sumI r.1 by rw [hwid, hwe]; omega)
          have hsp' : ((-1000000 ≤ px ∧ px ≤ 1000000) ∧ (-1000000 ≤ py ∧ py ≤ 1000000) ∧ (-1000000 ≤ pw ∧ pw ≤ 1000000) ∧ -1000000 ≤ ph ∧ ph ≤ 1000000) := hsp
          clear hwid hwe
          obtain ⟨pn, hpn⟩ : ∃ pn, pps.length = pn := ⟨_, rfl⟩
          rw [hpn] at d6 hle3 hpl
          have hX : Below wr.heap.size wr (wr.alloc (.cells #[.int .i64 k, .int .i64 ct, .int .i64 px, .int .i64 py, .int .i64 pw, .int .i64 ph, .slice Au pn cu] 63)) := (Below.refl _ wr).alloc (Nat.le_refl _) _
          obtain ⟨k1, kf, _, _⟩ := hcnt _ hcr
          have hg1 : W1.heap.size < wr.heap.size := World.block_lt_of_cell? wr _ k1
          have k1X := cell_later hX k1
          have t1 : decide ((k : Int) < 0) = false := decide_eq_false (by omega)
          have t2 : decide ((C.length : Int) ≤ (k : Int)) = false := decide_eq_false (by omega); have t2n : decide (C.length ≤ k) = false := decide_eq_false (by omega)
          have t3 : decide (py < 0) = false := decide_eq_false (by omega)
          have wy : IntKind.i64.wrap (py + ph) = py + ph := IntWalk.i64_in _ (by omega)
          have t4 : decide (tall < py + ph) = false := decide_eq_false (by omega)
          have x1 : (0 : Int) ≤ (k : Int) := by omega
          have x2 : (k : Int) < (C.length : Int) := by omega
          have wct : IntKind.i64.wrap ((ct : Int) + 1) = (ct : Int) + 1 := IntWalk.i64_in _ (by omega)
          go_wp2_with fail
          go_quiet (fail)
          have hY : Below wr.heap.size wr ((wr.alloc (.cells #[.int .i64 k, .int .i64 ct, .int .i64 px, .int .i64 py, .int .i64 pw, .int .i64 ph, .slice Au pn cu] 63)).drewN nq) := bdrewN hX nq
          have hbY := ((bdrewN (Below.refl (wr.alloc (.cells #[.int .i64 k, .int .i64 ct, .int .i64 px, .int .i64 py, .int .i64 pw, .int .i64 ph, .slice Au pn cu] 63)).heap.size (wr.alloc (.cells #[.int .i64 k, .int .i64 ct, .int .i64 px, .int .i64 py, .int .i64 pw, .int .i64 ph, .slice Au pn cu] 63))) nq).block wr.heap.size (by simp)).trans (heap_alloc_new wr (.cells #[.int .i64 k, .int .i64 ct, .int .i64 px, .int .i64 py, .int .i64 pw, .int .i64 ph, .slice Au pn cu] 63))
          obtain ⟨k1Y, kfY, ⟨curY, hcurY⟩, kpY⟩ := hcnt _ (hcr.kb (KB.below (ts := []) hY) (by simp))
          generalize (wr.alloc (.cells #[.int .i64 k, .int .i64 ct, .int .i64 px, .int .i64 py, .int .i64 pw, .int .i64 ph, .slice Au pn cu] 63)).drewN nq = Y at hY hbY k1Y kfY kpY hcurY ⊢
          obtain ⟨y0, y1, y2, y3, y4, y5, y6⟩ := blk7 hbY
          clear k1 kf k1X hX hcr
          go_wp2_with fail
          have hZb : Below W1.heap.size W1 (Y.setCell ⟨W1.heap.size, k, none⟩ (.int .i64 ((ct : Int) + 1))) := (hbr.trans (hY.mono hbr.size)).setCell (p := ⟨W1.heap.size, k, none⟩) (Nat.le_refl _) _
          have hZbox := (setCell_far Y (g := W1.heap.size) (i := k) (.int .i64 ((ct : Int) + 1)) (k := wr.heap.size) (by omega)).trans hbY
          have hIZ := hI.kb ((KB.below (ts := [3]) hY).trans (KB.set hcurY (by simp) (i := k) (.int .i64 ((ct : Int) + 1)))) (by decide)
          obtain ⟨bx, hbxe⟩ : ∃ bx, wr.heap.size = bx := ⟨_, rfl⟩
          rw [hbxe] at hZbox ⊢
          generalize Y.setCell ⟨W1.heap.size, k, none⟩ (.int .i64 ((ct : Int) + 1)) = Z at kpY hZb hZbox hIZ ⊢
          clear hcurY hI hY hbY k1Y kfY y0 y1 y2 y3 y4 y5 y6 hbr hC1 hcnt c0 c1 c2 c3 hbxe t1 t2 t3 t4 wy wct hg1 d0 d1 d2 d3 d4 d5 d6
          obtain ⟨ad', Ap', cp', eA, c0, c1, c2, c3, _, _⟩ := (hA1.below hZb) k q hq
          injection eA with eA
          subst eA
          obtain ⟨z0, z1, z2, z3, z4, z5, z6⟩ := blk7 hZbox
          obtain ⟨rm, hrm⟩ : ∃ rm, max (canvas - 2 * q.c) 1 = rm := ⟨_, rfl⟩
          have hroom : roomS q.c canvas = rm := by rw [← hrm]; unfold roomS; omega
          have wc1 : IntKind.i64.wrap (2 * q.c) = 2 * q.c := IntWalk.i64_in _ (by omega)
          have wc2 : IntKind.i64.wrap (canvas - 2 * q.c) = canvas - 2 * q.c := IntWalk.i64_in _ (by omega)
          have wn1 : IntKind.i64.wrap ((n : Int) + 1) = (n : Int) + 1 := IntWalk.i64_in _ (by omega)
          rw [hroom] at hfitr
          cases hwr : decide (rm < pw)
          case false =>
            clear hfitr hroom
            go_quiet (fail)
            obtain ⟨Z2, hZ2⟩ : ∃ Z2, Z.drewN nq = Z2 := ⟨_, rfl⟩
            have hz2 : Below Z.heap.size Z Z2 := by rw [← hZ2]; exact bdrewN (Below.refl _ _) nq
            rw [hZ2]
            clear hZ2 z0 z1 z2 z3 z4 z5 z6 c0 c1 c2 c3 hrm
            have hbz2 : Below W1.heap.size W1 Z2 := hZb.trans (hz2.mono hZb.size)
            have kz2 := kpY.kb (KB.below (ts := []) hz2) (by simp)
            have hboxz := (hz2.block _ (Array.getElem?_eq_some_iff.1 hZbox).1).trans hZbox
            clear hz2 hZb hZbox kpY
            go_wp2_with fail
            go_loopw [13] (fun j wy => ∃ m : Nat, m ≤ n ∧ j = .int .i64 m ∧ Below Z2.heap.size Z2 wy) (fun j _ => n - (intOf j).toNat)
            case atStart => exact ⟨0, by omega, rfl, Below.refl _ _⟩
            case round =>
              obtain ⟨m, hm, rfl, hbm⟩ := hrel
              have wm : IntKind.i64.wrap ((m : Int) + 1) = (m : Int) + 1 := IntWalk.i64_in _ (by omega)
              by_cases hmn : m < n
              · obtain ⟨adq, uq, pq, eq0, hpq, hIq, f0, f1, f2, f3, f4, f5, f6⟩ := at_pls (hPv.below (hbz2.trans (hbm.mono hbz2.size))) m (by omega)
                injection eq0 with eq0
                subst eq0
                have hov := H2.out n m _ pq HP.out hpq hmn
                have hsq := HSM.out pq (List.mem_of_getElem? hpq)
                obtain ⟨Aq, cq, rfl, _⟩ := hIq.form
                have cO := fun X => roverlap_calls _ pq (.slice Au pn cu) (.slice Aq pq.ps.length cq) hsp hsq X
                rw [hov] at cO
                unfold agg7 at cO
                obtain ⟨qc, ql, qx, qy, qw, qh, qps⟩ := pq
                simp only at cO f0 f1 f2 f3 f4 f5 f6
                generalize qps.length = qn at cO f6
                obtain ⟨g0, g1, g2, g3, g4, g5, g6⟩ := blk7 ((hbm.block _ (Array.getElem?_eq_some_iff.1 hboxz).1).trans hboxz)
                have G0 := fun x : Ext wr => x.at g0
                have G1 := fun x : Ext wr => x.at g1
                have G2 := fun x : Ext wr => x.at g2
                have G3 := fun x : Ext wr => x.at g3
                have G4 := fun x : Ext wr => x.at g4
                have G5 := fun x : Ext wr => x.at g5
                have G6 := fun x : Ext wr => x.at g6
                have F0 := fun x : Ext wr => x.at f0
                have F1 := fun x : Ext wr => x.at f1
                have F2 := fun x : Ext wr => x.at f2
                have F3 := fun x : Ext wr => x.at f3
                have F4 := fun x : Ext wr => x.at f4
                have F5 := fun x : Ext wr => x.at f5
                have F6 := fun x : Ext wr => x.at f6
                have m1 : (0 : Int) ≤ (m : Int) := by omega
                have m2 : (m : Int) < (P.length : Int) := by omega
                have m3 : ¬ ((m : Int) < 0) := by omega
                have m4 : m < P.length := by omega
                clear hov hsq hpq hIq g0 g1 g2 g3 g4 g5 g6 f0 f1 f2 f3 f4 f5 f6
                go_wp2_with fail
                refine wp_region_ext (by kernel_rfl) (by kernel_rfl) ?_
                repeat (go_big_quiet_step (first | (go_at_call 43; exact Calls.ext (cO _))))
                refine wpQuiet_nil ?_
                rintro _ ⟨x, rfl⟩
                have hbx2 : Below Z2.heap.size Z2 x.w := hbm.trans (x.2.mono hbm.size)
                clear G0 G1 G2 G3 G4 G5 G6 F0 F1 F2 F3 F4 F5 F6 cO
                generalize x.w = V at hbx2
                go_wp2
                go_roundw
                case rel => exact ⟨m + 1, by omega, by go_num, hbx2⟩
                case measure => (simp [intOf]; try omega)
              · obtain rfl : m = n := by omega
                go_wp2_with fail
                go_roundw
                case rel => exact ⟨m + 1, by omega, by go_num, kz2.kb (KB.below (ts := []) hbm) (by simp), hbz2.trans (hbm.mono hbz2.size)⟩
                case measure => (simp [intOf]; try omega)
          case true =>
            have hr1 : r.1.length ≤ 1 := by
              rcases hfitr with h | h
              · exact h
              · have := of_decide_eq_true hwr
                rw [HW.out] at this
                omega
            obtain ⟨A', c', e', hle', hC2⟩ := In42.reads hIZ (by omega)
            injection e' with e1 e2 e3
            subst e1 e3
            have hwl : wordsLen pps = r.1.length := HPS.out
            have cW := fun X (h : Kd.C k42 X Au pps.length pps) => tWords_calls 0 0 0 Au cu pps X h hle' ⟨by omega, by omega⟩
            have hws := wordsOf_size pps
            generalize wordsOf pps = ws at cW hws
            have tw : decide ((1 : Int) < (ws.size : Int)) = false := decide_eq_false (by omega)
            rw [hpn] at cW hC2
            have E0 := fun x : Ext Z => x.at z0
            have E4 := fun x : Ext Z => x.at z4
            have E6 := fun x : Ext Z => x.at z6
            have C2f := fun x : Ext Z => x.at c2
            have cW' := fun x : Ext Z => cW x.w (Kd.C_below hC2 x.2)
            clear z0 z1 z2 z3 z4 z5 z6 c0 c1 c2 c3 hfitr hroom hws hwl cW hIZ
            refine wp_region_ext (by kernel_rfl) (by kernel_rfl) ?_
            repeat (go_big_quiet_step (first | (go_at_call 29; exact Calls.ext (cW' _))))
            refine wpQuiet_nil ?_
            rintro _ ⟨x, rfl⟩
            have hz2 : Below Z.heap.size Z x.w := x.2
            clear E0 E4 E6 C2f cW' hC2 hrm
            generalize x.w = Z2 at hz2 ⊢
            have hbz2 : Below W1.heap.size W1 Z2 := hZb.trans (hz2.mono hZb.size)
            have kz2 := kpY.kb (KB.below (ts := []) hz2) (by simp)
            have hboxz := (hz2.block _ (Array.getElem?_eq_some_iff.1 hZbox).1).trans hZbox
            clear hz2 hZb hZbox kpY
            go_wp2_with fail
            go_loopw [13] (fun j wy => ∃ m : Nat, m ≤ n ∧ j = .int .i64 m ∧ Below Z2.heap.size Z2 wy) (fun j _ => n - (intOf j).toNat)
            case atStart => exact ⟨0, by omega, rfl, Below.refl _ _⟩
            case round =>
              obtain ⟨m, hm, rfl, hbm⟩ := hrel
              have wm : IntKind.i64.wrap ((m : Int) + 1) = (m : Int) + 1 := IntWalk.i64_in _ (by omega)
              by_cases hmn : m < n
              · obtain ⟨adq, uq, pq, eq0, hpq, hIq, f0, f1, f2, f3, f4, f5, f6⟩ := at_pls (hPv.below (hbz2.trans (hbm.mono hbz2.size))) m (by omega)
                injection eq0 with eq0
                subst eq0
                have hov := H2.out n m _ pq HP.out hpq hmn
                have hsq := HSM.out pq (List.mem_of_getElem? hpq)
                obtain ⟨Aq, cq, rfl, _⟩ := hIq.form
                have cO := fun X => roverlap_calls _ pq (.slice Au pn cu) (.slice Aq pq.ps.length cq) hsp hsq X
                rw [hov] at cO
                unfold agg7 at cO
                obtain ⟨qc, ql, qx, qy, qw, qh, qps⟩ := pq
                simp only at cO f0 f1 f2 f3 f4 f5 f6
                generalize qps.length = qn at cO f6
                obtain ⟨g0, g1, g2, g3, g4, g5, g6⟩ := blk7 ((hbm.block _ (Array.getElem?_eq_some_iff.1 hboxz).1).trans hboxz)
                have G0 := fun x : Ext wr => x.at g0
                have G1 := fun x : Ext wr => x.at g1
                have G2 := fun x : Ext wr => x.at g2
                have G3 := fun x : Ext wr => x.at g3
                have G4 := fun x : Ext wr => x.at g4
                have G5 := fun x : Ext wr => x.at g5
                have G6 := fun x : Ext wr => x.at g6
                have F0 := fun x : Ext wr => x.at f0
                have F1 := fun x : Ext wr => x.at f1
                have F2 := fun x : Ext wr => x.at f2
                have F3 := fun x : Ext wr => x.at f3
                have F4 := fun x : Ext wr => x.at f4
                have F5 := fun x : Ext wr => x.at f5
                have F6 := fun x : Ext wr => x.at f6
                have m1 : (0 : Int) ≤ (m : Int) := by omega
                have m2 : (m : Int) < (P.length : Int) := by omega
                have m3 : ¬ ((m : Int) < 0) := by omega
                have m4 : m < P.length := by omega
                clear hov hsq hpq hIq g0 g1 g2 g3 g4 g5 g6 f0 f1 f2 f3 f4 f5 f6
                go_wp2_with fail
                refine wp_region_ext (by kernel_rfl) (by kernel_rfl) ?_
                repeat (go_big_quiet_step (first | (go_at_call 43; exact Calls.ext (cO _))))
                refine wpQuiet_nil ?_
                rintro _ ⟨x, rfl⟩
                have hbx2 : Below Z2.heap.size Z2 x.w := hbm.trans (x.2.mono hbm.size)
                clear G0 G1 G2 G3 G4 G5 G6 F0 F1 F2 F3 F4 F5 F6 cO
                generalize x.w = V at hbx2
                go_wp2
                go_roundw
                case rel => exact ⟨m + 1, by omega, by go_num, hbx2⟩
                case measure => (simp [intOf]; try omega)
              · obtain rfl : m = n := by omega
                go_wp2_with fail
                go_roundw
                case rel => exact ⟨m + 1, by omega, by go_num, kz2.kb (KB.below (ts := []) hbm) (by simp), hbz2.trans (hbm.mono hbz2.size)⟩
                case measure => (simp [intOf]; try omega)
        · obtain rfl : n = P.length := by omega
          rename World => V1
          go_wp2_with fail
          go_loopw [14] (fun i wx => ∃ m : Nat, m ≤ C.length ∧ i = .int .i64 m ∧ Below V1.heap.size V1 wx) (fun i _ => C.length - (intOf i).toNat)
          case atStart => exact ⟨0, by omega, rfl, Below.refl _ _⟩
          case round =>
            obtain ⟨m, hm, rfl, hbm⟩ := hrel
            have hbV : Below W1.heap.size W1 wr := hbr.trans (hbm.mono hbr.size)
            have wm : IntKind.i64.wrap ((m : Int) + 1) = (m : Int) + 1 := IntWalk.i64_in _ (by omega)
            by_cases hml : m < C.length
            · obtain ⟨q, hq⟩ : ∃ q, C[m]? = some q := ⟨_, List.getElem?_eq_getElem hml⟩
              obtain ⟨ad, Ap, cp, rfl, c0, c1, c2, c3, hcp, hK⟩ := (hA1.below hbV) m q hq
              have hqm := List.mem_of_getElem? hq
              have hbk := HOK.out q hqm
              have cB := tBreak_calls q.a q.b q.c Ap cp q.l canvas wr hK hcp (HFIT.out q hqm).1
              unfold BrkPost at cB
              rw [hbk] at cB
              have hbl := brkL_len hbk
              generalize brkL q.a q.b q.c q.l canvas = BL at cB hbl
              have hBLm : ∀ W v, Brk W wr.heap.size v BL → ∃ A5 c5, v = .slice A5 BL.length c5 ∧ BL.length ≤ c5 := fun W v h => by obtain ⟨vs, _, h2, _⟩ := h; exact h2.form
              have hcV := hcr.kb (KB.below (ts := []) hbm) (by simp)
              obtain ⟨g, off, c9, e9, hc9, hg1, hg2, hg3, hfz, hcl, hput⟩ := hcV.put (by omega)
              injection e9 with e10 e11 e12
              injection e10 with e10
              injection e10 with e13 e14 e15
              subst e13 e14 e12
              have hget := ctsL_get (P := P) (i := P.length) hml
              rw [List.take_length] at hget
              have k1 := hcl m (.int .i64 (cntOf P m : Nat)) (by rw [List.getElem?_map, hget]; rfl)
              simp only [Nat.zero_add] at k1
              have hXw := hXv.kb (KB.below (ts := []) hbV) (by simp)
              have m1 : (0 : Int) ≤ (m : Int) := by omega
              have m2 : (m : Int) < (C.length : Int) := by omega
              clear hcl hput hfz hget hcV hg3 hK hbk
              cases hgone : decide (m ∈ X)
              case true =>
                have hc0 : cntOf P m = 0 := (H3.out m ((HLM.out m).1 (of_decide_eq_true hgone))).2
                rw [hc0] at k1
                clear hc0 hbl
                go_wp2_with (first | (go_at_call 35; refine cB.mono ?_; rintro e W5 ⟨v5, rfl, hbk5, hb5⟩; obtain ⟨A5, c5, e5, _⟩ := hBLm _ _ hbk5; subst e5; have hX5 := hXw.kb (KB.below (ts := []) hb5) (by simp); have k5 := cell_later hb5 k1) | (go_at_call 44; refine (hasInt_calls X m Ax cx W.heap.size _ (by omega) hX5).mono ?_; rintro e W6 ⟨⟨z, rfl, hz⟩, hb6⟩; rw [hgone] at hz; have k6 := cell_later hb6 k5))
                go_roundw
                case rel => exact ⟨m + 1, by omega, by go_num, hbm.trans ((hb5.trans (hb6.mono hb5.size)).mono hbm.size)⟩
                case measure => (simp [intOf]; try omega)
              case false =>
                have hc0 : cntOf P m = BL.length := by
                  rw [hbl]
                  exact H4.out m q ((HOM.out m).2 hml) (fun h => by have := (HLM.out m).2 h; rw [decide_eq_true this] at hgone; cases hgone) hq
                rw [hc0] at k1
                clear hc0 hbl
                go_wp2_with (first | (go_at_call 35; refine cB.mono ?_; rintro e W5 ⟨v5, rfl, hbk5, hb5⟩; obtain ⟨A5, c5, e5, _⟩ := hBLm _ _ hbk5; subst e5; have hX5 := hXw.kb (KB.below (ts := []) hb5) (by simp); have k5 := cell_later hb5 k1) | (go_at_call 44; refine (hasInt_calls X m Ax cx W.heap.size _ (by omega) hX5).mono ?_; rintro e W6 ⟨⟨z, rfl, hz⟩, hb6⟩; rw [hgone] at hz; have k6 := cell_later hb6 k5))
                go_roundw
                case rel => exact ⟨m + 1, by omega, by go_num, hbm.trans ((hb5.trans (hb6.mono hb5.size)).mono hbm.size)⟩
                case measure => (simp [intOf]; try omega)
            · obtain rfl : m = C.length := by omega
              go_wp2_with (go_at_call 13; refine (awake_calls _).mono ?_; rintro e W9 ⟨rfl, hb9⟩)
              go_ret
              exact ⟨rfl, hbw1.trans ((hbV.trans (hb9.mono hbV.size)).mono hbw1.size)⟩
end Go.Proofs.YtogidacejbjljaaGreatDoor.PTextChecks
end
