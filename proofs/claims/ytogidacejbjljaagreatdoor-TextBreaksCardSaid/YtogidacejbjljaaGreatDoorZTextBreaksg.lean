/- Lemmas on the way to the card of TextBreaks, joined from: BFlush BBroken BRef BRows BBreak BRBreak TLaw BLaw. Conditions: as each lemma says. -/
import Derived.Outline
import Derived.Test.YtogidacejbjljaaGreatDoorZTextBreaksf
import Derived.Deep.Slices
section
/- text.broken's closure flush: the letters at hand into lines. -/
set_option linter.unusedVariables false
set_option linter.unusedSimpArgs false
namespace Go.Proofs.YtogidacejbjljaaGreatDoor.PTextChecks
open Go.RowKit Go.Mix Go.Own Go.Proofs.YtogidacejbjljaaGreatDoorW.PrintWords Go.Proofs.YtogidacejbjljaaGreatDoorW.PrintLast Go.Proofs.YtogidacejbjljaaGreatDoorW.PrintMore
theorem infoLine : (Tryz.prog.info? 107).map (fun i => (i.zero, i.size, i.bytes)) = some (some (.agg #[.slice none 0 0, .int .i64 0, .int .i64 0]), 3, 40) := by kernel_rfl
def Boxes (w : World) (bL bR bO bS : Nat) (vl vo : Value) (room sz : Int) : Prop :=
  w.heap[bL]? = some (.cells #[vl] 147 (0, 0)) ∧ w.heap[bR]? = some (.cells #[.int .i64 room] 3 (0, 0)) ∧ w.heap[bO]? = some (.cells #[vo] 104 (0, 0)) ∧ w.heap[bS]? = some (.cells #[.int .i64 sz] 3 (0, 0))
theorem blk1 {W : World} {b : Nat} {v0 : Value} {t : TypeId} (h : W.heap[b]? = some (.cells #[v0] t (0, 0))) : W.cell? ⟨b, 0, none⟩ = some v0 ∧ W.frozen? ⟨b, 0, none⟩ = false := by
  refine ⟨?_, ?_⟩ <;> simp [World.cell?, World.frozen?, h]
def lenAt (w : World) (b : Nat) : Nat := match w.cell? ⟨b, 0, none⟩ with | some (.slice _ n _) => n | _ => 0
def firstN : Value → Nat | .bool true => 1 | _ => 0
/-- The worlds in which all blocks but those of lines lie as they lay. -/
def KX (W : World) : Type := { w' : World // KB [107] W w' }
instance (W : World) : Nonempty (KX W) := ⟨⟨W, KB.refl _ W⟩⟩
def KX.w {W : World} (x : KX W) : World := x.1
theorem KX.cell {W : World} (x : KX W) {b : Nat} {v : Value} {t : TypeId} (h : W.heap[b]? = some (.cells #[v] t (0, 0))) (ht : t ∉ [107]) : x.w.cell? ⟨b, 0, none⟩ = some v := (blk1 (x.2.2 b _ t ht h)).1
/-- What is still to come. -/
def toCome (first : Bool) (room : Int) (l : List S81) (sz : Int) : List (List S81 × Int) := if first then flushS room l sz else (brk room l).map fun r => (r, heightS r)
theorem toCome_step (first : Bool) (room : Int) (l : List S81) (sz : Int) (h : first = true ∨ l ≠ []) : toCome first room l sz = (l.take (takenS l room), highS (l.take (takenS l room)) sz) :: toCome false room (l.drop (takenS l room)) sz := by
  cases l with
  | nil =>
    obtain rfl : first = true := by simpa using h
    simp [toCome, flushS, highS, brk_nil, takenS_nil]
  | cons x r =>
    have hb := brk_cons (l := x :: r) (by simp) room
    have hp := takenS_pos (l := x :: r) (by simp) room
    have hh : highS ((x :: r).take (takenS (x :: r) room)) sz = heightS ((x :: r).take (takenS (x :: r) room)) := by
      unfold highS
      rw [if_neg]
      obtain ⟨m, hm⟩ : ∃ m, takenS (x :: r) room = m + 1 := ⟨takenS (x :: r) room - 1, by omega⟩
      rw [hm]
      simp
    have he : toCome first room (x :: r) sz = (brk room (x :: r)).map fun r => (r, heightS r) := by cases first <;> simp [toCome, flushS]
    rw [he, hb, List.map_cons, hh]
    simp [toCome]
def FRel (w : World) (base bL bR bO bS : Nat) (room sz : Int) (T : List (List S81 × Int)) (first : Bool) (l : List S81) (O : List (List S81 × Int)) (vl vo : Value) (wr : World) : Prop :=
  Boxes wr bL bR bO bS vl vo room sz ∧ Lies wr base 151 6 vl l.length (flat81 l) ∧ Outs wr base vo O ∧ KB [147, 104, 107] w wr ∧ Below base w wr ∧ O ++ toCome first room l sz = T
set_option maxHeartbeats 4000000 in
set_option maxRecDepth 100000 in
theorem flush_calls (w : World) (base bL bR bO bS : Nat) (room sz : Int) (l : List S81) (O : List (List S81 × Int)) (vl vo : Value) (hbx : Boxes w bL bR bO bS vl vo room sz) (hl : Lies w base 151 6 vl l.length (flat81 l)) (hO : Outs w base vo O)
    (hb : base ≤ bL ∧ base ≤ bO) (ho : Okl l) (hsz : 0 ≤ sz ∧ sz ≤ 8) (hlen : O.length + l.length + 1 ≤ 1000000) :
    Calls Tryz.prog 105 #[.pointer (some ⟨bL, 0, none⟩), .pointer (some ⟨bR, 0, none⟩), .pointer (some ⟨bO, 0, none⟩), .pointer (some ⟨bS, 0, none⟩)] w fun e w' => ∃ vl' vo' u, e = .returned u ∧ Boxes w' bL bR bO bS vl' vo' room sz ∧ Lies w' base 151 6 vl' 0 [] ∧ Outs w' base vo' (O ++ flushS room l sz) ∧ KB [147, 104, 107] w w' ∧ Below base w w' := by
  obtain ⟨i0, hi, hii⟩ := Option.map_eq_some_iff.1 infoLine
  simp only [Prod.mk.injEq] at hii
  obtain ⟨hz0, hz1, hz2⟩ := hii
  go_enter Tryz.func105, Tryz.ntmps105
  go_wp2
  go_loopw [4] (fun t wr => ∃ (first : Bool) (l' : List S81) (O' : List (List S81 × Int)) (vl' vo' : Value), t = .bool first ∧ Okl l' ∧ l'.length ≤ l.length ∧ FRel w base bL bR bO bS room sz (O ++ flushS room l sz) first l' O' vl' vo' wr) (fun t wr => lenAt wr bL + firstN t)
  case atStart => exact ⟨true, l, O, vl, vo, rfl, ho, Nat.le_refl _, hbx, hl, hO, KB.refl _ _, Below.refl _ _, rfl⟩
  case round =>
    obtain ⟨first, l', O', vl', vo', rfl, ho', hll, ⟨b1, b2, b3, b4⟩, hl', hO', hk, hbw, hT⟩ := hrel
    have hlen2 : O'.length + l'.length ≤ 2000000 := by
      have h1 := congrArg List.length hT
      rw [List.length_append, List.length_append] at h1
      have h2 := flushS_len room l sz
      omega
    have hBs : base ≤ wr.heap.size := by have := (Array.getElem?_eq_some_iff.1 b1).1; omega
    cases first with
    | true =>
      have hst : toCome true room l' sz = _ := toCome_step true room l' sz (.inl rfl)
      rw [hst] at hT
      obtain ⟨A, c, rfl, hle, hC⟩ := lies81 hl' (by omega)
      have hnl := takenS_le l' room
      have cT := taken_calls A c l' room wr hC (by omega) ho'.byt
      obtain ⟨m1, m1'⟩ := blk1 b1
      obtain ⟨m2, m2'⟩ := blk1 b2
      obtain ⟨m3, m3'⟩ := blk1 b3
      obtain ⟨m4, m4'⟩ := blk1 b4
      obtain ⟨n, hn⟩ : ∃ n, takenS l' room = n := ⟨_, rfl⟩
      rw [hn] at hT hnl cT
      have HT := Lib.hid hT
      have HLA := Lib.hid (show lenAt wr bL = l'.length from by simp [lenAt, m1])
      have HLN := Lib.hid hlen2
      clear hT hst hn hlen2
      go_wp2_with (go_at_call 106; refine cT.mono ?_; rintro e W1 ⟨rfl, hb1⟩)
      have k1 : W1.heap[bL]? = _ := (hb1.block _ (Array.getElem?_eq_some_iff.1 b1).1).trans b1
      have k2 : W1.heap[bR]? = _ := (hb1.block _ (Array.getElem?_eq_some_iff.1 b2).1).trans b2
      have k3 : W1.heap[bO]? = _ := (hb1.block _ (Array.getElem?_eq_some_iff.1 b3).1).trans b3
      have k4 : W1.heap[bS]? = _ := (hb1.block _ (Array.getElem?_eq_some_iff.1 b4).1).trans b4
      have hl1 := hl'.kb (KB.below (ts := []) hb1) (by simp)
      have hO1 := hO'.kb (KB.below (ts := []) hb1) (by simp) (by simp)
      have hk1 := hk.trans (KB.below hb1)
      have hBs1 : base ≤ W1.heap.size := Nat.le_trans hBs hb1.size
      have hbw1 : Below base w W1 := hbw.trans (hb1.mono hBs)
      clear m1 m1' m2 m2' m3 m3' m4 m4' hb1 b1 b2 b3 b4 hk hbw hC cT hl' hO'
      have x1 := fun x : KX W1 => x.cell k1 (by decide)
      have x3 := fun x : KX W1 => x.cell k3 (by decide)
      have x4 := fun x : KX W1 => x.cell k4 (by decide)
      have hnc : n ≤ c := by omega
      refine wp_region_mix_last' (C := fun w' => ∃ x : KX W1, w' = x.w) 8 rfl [5, 6, 7] 2 (by kernel_rfl) (by kernel_rfl) (by kernel_rfl) (by kernel_rfl) ⟨⟨W1.drew, KB.below (Below.refl _ W1).drew⟩, rfl⟩ ?_
      refine mix_pure rfl (fun K hK => ?_)
      go_simp
      refine hK _ _ ?_
      clear hK K
      refine mix_pure rfl (fun K hK => ?_)
      go_simp
      refine hK _ _ ?_
      clear hK K
      refine mix_pure rfl (fun K hK => ?_)
      go_simp
      refine hK _ _ ?_
      clear hK K
      refine mix_pure rfl (fun K hK => ?_)
      go_simp
      refine hK _ _ ?_
      clear hK K
      refine mix_pure rfl (fun K hK => ?_)
      go_simp
      refine hK _ _ ?_
      clear hK K
      have htl : (l'.take n).length = n := by rw [List.length_take]; omega
      have hLt : Lies W1 base 151 6 (.slice A n c) (l'.take n).length (flat81 (l'.take n)) := by rw [htl, ← flat81_take]; exact hl1.take hnl
      have hM : Kd.C k81 W1 A (l'.take n).length (l'.take n) := by
        obtain ⟨A', c', he, _, h⟩ := lies81 hLt (by have := HLN.out; omega)
        injection he with h1 h2 h3
        rw [h1]
        exact h
      have cM := makeLine_calls A c (l'.take n) sz W1.drew (Kd.C_drew hM) (by have := HLN.out; omega) (ho'.take n) hsz
      rw [htl] at cM
      obtain ⟨vs, hv1, hv2, hv3⟩ := hO1
      refine mix_eff rfl (fun K hK => ?_)
      go_simp
      simp only [effUpon_enter]
      refine cM.mono ?_
      rintro e W2 ⟨A2, c2, rfl, hR2, hb2⟩
      have hI2 := R_in42 hR2
      have hb2' : Below W1.heap.size W1 W2 := (Below.refl _ W1).drew.trans hb2
      have hx2 : KB [107] W1 W2 := KB.below hb2'
      refine ⟨_, rfl, ⟨⟨W2, hx2⟩, rfl⟩, hK _ _ ?_⟩
      clear hK K cM hR2
      generalize hpl : (piecesS (l'.take n)).length = pl at *
      generalize hsu : sumW (l'.take n) 0 = su at *
      generalize hhi : highS (l'.take n) sz = high at *
      refine mix_eff rfl (fun K hK => ?_)
      go_simp
      simp only [effUpon_value]
      have hx3 : KB [107] W1 (W2.alloc (.cells #[.slice A2 pl c2, .int .i64 su, .int .i64 high] 107)) := hx2.trans (KB.below ((Below.refl _ W2).alloc (Nat.le_refl _) _))
      have hx3' : KB [107] W2 (W2.alloc (.cells #[.slice A2 pl c2, .int .i64 su, .int .i64 high] 107)) := KB.below ((Below.refl _ W2).alloc (Nat.le_refl _) _)
      refine ⟨⟨⟨_, hx3⟩, rfl⟩, hK _ _ ?_⟩
      clear hK K
      have hL3 : Lies (W2.alloc (.cells #[.slice A2 pl c2, .int .i64 su, .int .i64 high] 107)) base 107 3 vo' O'.length (cells107 vs O') := (hv2.kb (KB.below (ts := []) hb2') (by simp)).kb (KB.below (ts := []) ((Below.refl _ W2).alloc (Nat.le_refl _) _)) (by simp)
      have hOl : O'.length ≤ 2000000 := by have := HLN.out; omega
      refine mix_append rfl rfl _ _ 104 rfl base 107 i0 _ 3 40 Tryz.underlying104 hi hz0 hz1 hz2 rfl (by decide) vo' O'.length (cells107 vs O') rfl hL3 ⟨W2.heap.size, 0, none⟩ 1 1 [.slice A2 pl c2, .int .i64 su, .int .i64 high] rfl rfl ?qc2 ?qc3 ?qc4 ?qc5 ?qc6 (by decide) ?_
      case qc2 =>
        intro j u hj
        rw [add0, cell_of_row _ _ j _ 107 (0, 0) (heap_alloc_new W2 _)]
        simpa using hj
      case qc3 => intro u hu; simp only [List.mem_cons, List.mem_nil_iff, or_false] at hu; rcases hu with rfl | rfl | rfl <;> rfl
      case qc4 => unfold maxLen; omega
      case qc5 => omega
      case qc6 => have := hb2'.size; simp; omega
      intro v3 W3 hL4 hg3
      have hx4 : KB [107] W1 W3 := hx3.trans (KB.grown hg3 fun k hk => by obtain ⟨_, _, cur, hc⟩ := hL3.lt k hk; exact ⟨cur, 107, by simp, hc⟩)
      have hO4 : Outs W3 base v3 (O' ++ [(l'.take n, high)]) := by
        refine Outs.snoc hv1 (fun i u p h1 h2 => (hv3 i u p h1 h2).kb (KB.below (ts := []) hb2') (by simp)) ?_ ?_ (hx3'.trans (KB.grown hg3 fun k hk => by obtain ⟨_, _, cur, hc⟩ := hL3.lt k hk; exact ⟨cur, 107, by simp, hc⟩)) (u := .slice A2 pl c2)
        · rw [hsu]; exact hL4
        · rw [← hpl] at hI2 ⊢; exact hI2
      have hb4 : Below base w W3 := (hbw1.trans ((hb2'.mono hBs1).alloc (Nat.le_trans hBs1 hb2'.size) _)).grown hg3 (by have := hb2'.size; simp; omega) (fun k hk => (hL3.lt k hk).1)
      obtain ⟨A3, c3, rfl, hle3⟩ := hL4.form
      refine ⟨⟨⟨W3, hx4⟩, rfl⟩, ?_⟩
      have hl4 := hl1.kb hx4 (by decide)
      have p1 := hx4.2 bL _ 147 (by decide) k1
      have p2 := hx4.2 bR _ 3 (by decide) k2
      have p3 := hx4.2 bO _ 104 (by decide) k3
      have p4 := hx4.2 bS _ 3 (by decide) k4
      have hk4 : KB [147, 104, 107] w W3 := hk1.trans (hx4.mono (by simp))
      clear hx3 hx2 hg3 hL3 hL4 hb2 hb2' hv1 hv2 hv3 hI2 x1 x3 x4 k1 k2 k3 k4 hk1 hbw1 hx4 hx3'
      have hne1 : ¬ bL = bO := by rintro rfl; rw [p1] at p3; simp at p3
      have hne2 : ¬ bO = bL := fun h => hne1 h.symm
      obtain ⟨m1, m1'⟩ := blk1 p1
      obtain ⟨m2, m2'⟩ := blk1 p2
      obtain ⟨m3, m3'⟩ := blk1 p3
      obtain ⟨m4, m4'⟩ := blk1 p4
      refine mix_nil ?_
      intro _
      go_wp2
      go_roundw
      case rel =>
        have q3 : (W3.setCell ⟨bO, 0, none⟩ (.slice A3 (O'.length + 1) c3)).heap[bL]? = some (.cells #[.slice A l'.length c] 147 (0, 0)) := (setCell_far _ _ hne1).trans p1
        have s1 : KB [104] W3 (W3.setCell ⟨bO, 0, none⟩ (.slice A3 (O'.length + 1) c3)) := KB.set p3 (by simp) _
        have s2 := fun u : Value => KB.set (ts := [147]) (i := 0) q3 (by simp) u
        refine ⟨false, l'.drop n, O' ++ [(l'.take n, high)], _, .slice A3 (O'.length + 1) c3, rfl, ho'.drop n, by rw [List.length_drop]; omega, ⟨heap_set (i := 0) q3, ?_, ?_, ?_⟩, ?_, ?_, ?_, ?_, ?_⟩
        · exact (setCell_far _ _ (by rintro rfl; rw [p1] at p2; simp at p2)).trans ((setCell_far _ _ (by rintro rfl; rw [p3] at p2; simp at p2)).trans p2)
        · exact (setCell_far _ _ hne2).trans (heap_set (i := 0) p3)
        · exact (setCell_far _ _ (by rintro rfl; rw [p1] at p4; simp at p4)).trans ((setCell_far _ _ (by rintro rfl; rw [p3] at p4; simp at p4)).trans p4)
        · have := (((hl4.kb s1 (by decide)).kb (s2 (.slice (if c = n then A else Option.map (fun x => x.add (n * 6)) A) (l'.length - n) (c - n))) (by decide)).drop hnl)
          rw [List.length_drop, ← flat81_drop]
          exact this
        · exact (hO4.kb s1 (by decide) (by decide)).kb (s2 _) (by decide) (by decide)
        · exact hk4.trans ((s1.mono (by simp)).trans ((s2 _).mono (by simp)))
        · exact (hb4.setCell (p := ⟨bO, 0, none⟩) hb.2 _).setCell (p := ⟨bL, 0, none⟩) hb.1 _
        · rw [← HT.out, List.append_assoc]
          rfl
      case measure =>
        have q3 : (W3.setCell ⟨bO, 0, none⟩ (.slice A3 (O'.length + 1) c3)).heap[bL]? = some (.cells #[.slice A l'.length c] 147 (0, 0)) := (setCell_far _ _ hne1).trans p1
        rw [HLA.out]
        unfold lenAt
        rw [(blk1 (heap_set (i := 0) q3)).1]
        simp [firstN]
        omega
    | false =>
      by_cases hne : l' = []
      · subst hne
        have hT2 : O' = O ++ flushS room l sz := by simpa [toCome, brk_nil] using hT
        have HT := Lib.hid hT2
        have hA : ∃ A c, vl' = .slice A 0 c := by obtain ⟨A, c, h, _⟩ := hl'.form; exact ⟨A, c, h⟩
        obtain ⟨A, c, rfl⟩ := hA
        obtain ⟨m1, m1'⟩ := blk1 b1
        clear hT hT2
        go_wp2
        refine bodyPost_end (v := .tuple #[]) (by simp [results, show Tryz.f105.results = #[] from rfl]) rfl ?_
        rw [← HT.out]
        exact ⟨_, _, _, rfl, ⟨b1, b2, b3, b4⟩, hl', hO', hk, hbw⟩
      · have hpos := List.length_pos_iff.2 hne
        have hst : toCome false room l' sz = _ := toCome_step false room l' sz (.inr hne)
        rw [hst] at hT
        obtain ⟨A, c, rfl, hle, hC⟩ := lies81 hl' (by omega)
        have hnl := takenS_le l' room
        have cT := taken_calls A c l' room wr hC (by omega) ho'.byt
        obtain ⟨m1, m1'⟩ := blk1 b1
        obtain ⟨m2, m2'⟩ := blk1 b2
        obtain ⟨m3, m3'⟩ := blk1 b3
        obtain ⟨m4, m4'⟩ := blk1 b4
        obtain ⟨n, hn⟩ : ∃ n, takenS l' room = n := ⟨_, rfl⟩
        rw [hn] at hT hnl cT
        have HT := Lib.hid hT
        have HLA := Lib.hid (show lenAt wr bL = l'.length from by simp [lenAt, m1])
        have hpn : 0 < n := hn ▸ takenS_pos hne room
        have HLN := Lib.hid hlen2
        clear hT hst hn hlen2
        have hp1 : decide ((0 : Int) < (l'.length : Int)) = true := decide_eq_true (by omega)
        go_wp2_with (go_at_call 106; refine cT.mono ?_; rintro e W1 ⟨rfl, hb1⟩)
        have k1 : W1.heap[bL]? = _ := (hb1.block _ (Array.getElem?_eq_some_iff.1 b1).1).trans b1
        have k2 : W1.heap[bR]? = _ := (hb1.block _ (Array.getElem?_eq_some_iff.1 b2).1).trans b2
        have k3 : W1.heap[bO]? = _ := (hb1.block _ (Array.getElem?_eq_some_iff.1 b3).1).trans b3
        have k4 : W1.heap[bS]? = _ := (hb1.block _ (Array.getElem?_eq_some_iff.1 b4).1).trans b4
        have hl1 := hl'.kb (KB.below (ts := []) hb1) (by simp)
        have hO1 := hO'.kb (KB.below (ts := []) hb1) (by simp) (by simp)
        have hk1 := hk.trans (KB.below hb1)
        have hBs1 : base ≤ W1.heap.size := Nat.le_trans hBs hb1.size
        have hbw1 : Below base w W1 := hbw.trans (hb1.mono hBs)
        clear m1 m1' m2 m2' m3 m3' m4 m4' hb1 b1 b2 b3 b4 hk hbw hC cT hl' hO'
        have x1 := fun x : KX W1 => x.cell k1 (by decide)
        have x3 := fun x : KX W1 => x.cell k3 (by decide)
        have x4 := fun x : KX W1 => x.cell k4 (by decide)
        have hnc : n ≤ c := by omega
        refine wp_region_mix_last' (C := fun w' => ∃ x : KX W1, w' = x.w) 8 rfl [5, 6, 7] 2 (by kernel_rfl) (by kernel_rfl) (by kernel_rfl) (by kernel_rfl) ⟨⟨W1.drew, KB.below (Below.refl _ W1).drew⟩, rfl⟩ ?_
        refine mix_pure rfl (fun K hK => ?_)
        go_simp
        refine hK _ _ ?_
        clear hK K
        refine mix_pure rfl (fun K hK => ?_)
        go_simp
        refine hK _ _ ?_
        clear hK K
        refine mix_pure rfl (fun K hK => ?_)
        go_simp
        refine hK _ _ ?_
        clear hK K
        refine mix_pure rfl (fun K hK => ?_)
        go_simp
        refine hK _ _ ?_
        clear hK K
        refine mix_pure rfl (fun K hK => ?_)
        go_simp
        refine hK _ _ ?_
        clear hK K
        have htl : (l'.take n).length = n := by rw [List.length_take]; omega
        have hLt : Lies W1 base 151 6 (.slice A n c) (l'.take n).length (flat81 (l'.take n)) := by rw [htl, ← flat81_take]; exact hl1.take hnl
        have hM : Kd.C k81 W1 A (l'.take n).length (l'.take n) := by
          obtain ⟨A', c', he, _, h⟩ := lies81 hLt (by have := HLN.out; omega)
          injection he with h1 h2 h3
          rw [h1]
          exact h
        have cM := makeLine_calls A c (l'.take n) sz W1.drew (Kd.C_drew hM) (by have := HLN.out; omega) (ho'.take n) hsz
        rw [htl] at cM
        obtain ⟨vs, hv1, hv2, hv3⟩ := hO1
        refine mix_eff rfl (fun K hK => ?_)
        go_simp
        simp only [effUpon_enter]
        refine cM.mono ?_
        rintro e W2 ⟨A2, c2, rfl, hR2, hb2⟩
        have hI2 := R_in42 hR2
        have hb2' : Below W1.heap.size W1 W2 := (Below.refl _ W1).drew.trans hb2
        have hx2 : KB [107] W1 W2 := KB.below hb2'
        refine ⟨_, rfl, ⟨⟨W2, hx2⟩, rfl⟩, hK _ _ ?_⟩
        clear hK K cM hR2
        generalize hpl : (piecesS (l'.take n)).length = pl at *
        generalize hsu : sumW (l'.take n) 0 = su at *
        generalize hhi : highS (l'.take n) sz = high at *
        refine mix_eff rfl (fun K hK => ?_)
        go_simp
        simp only [effUpon_value]
        have hx3 : KB [107] W1 (W2.alloc (.cells #[.slice A2 pl c2, .int .i64 su, .int .i64 high] 107)) := hx2.trans (KB.below ((Below.refl _ W2).alloc (Nat.le_refl _) _))
        have hx3' : KB [107] W2 (W2.alloc (.cells #[.slice A2 pl c2, .int .i64 su, .int .i64 high] 107)) := KB.below ((Below.refl _ W2).alloc (Nat.le_refl _) _)
        refine ⟨⟨⟨_, hx3⟩, rfl⟩, hK _ _ ?_⟩
        clear hK K
        have hL3 : Lies (W2.alloc (.cells #[.slice A2 pl c2, .int .i64 su, .int .i64 high] 107)) base 107 3 vo' O'.length (cells107 vs O') := (hv2.kb (KB.below (ts := []) hb2') (by simp)).kb (KB.below (ts := []) ((Below.refl _ W2).alloc (Nat.le_refl _) _)) (by simp)
        have hOl : O'.length ≤ 2000000 := by have := HLN.out; omega
        refine mix_append rfl rfl _ _ 104 rfl base 107 i0 _ 3 40 Tryz.underlying104 hi hz0 hz1 hz2 rfl (by decide) vo' O'.length (cells107 vs O') rfl hL3 ⟨W2.heap.size, 0, none⟩ 1 1 [.slice A2 pl c2, .int .i64 su, .int .i64 high] rfl rfl ?qc2 ?qc3 ?qc4 ?qc5 ?qc6 (by decide) ?_
        case qc2 =>
          intro j u hj
          rw [add0, cell_of_row _ _ j _ 107 (0, 0) (heap_alloc_new W2 _)]
          simpa using hj
        case qc3 => intro u hu; simp only [List.mem_cons, List.mem_nil_iff, or_false] at hu; rcases hu with rfl | rfl | rfl <;> rfl
        case qc4 => unfold maxLen; omega
        case qc5 => omega
        case qc6 => have := hb2'.size; simp; omega
        intro v3 W3 hL4 hg3
        have hx4 : KB [107] W1 W3 := hx3.trans (KB.grown hg3 fun k hk => by obtain ⟨_, _, cur, hc⟩ := hL3.lt k hk; exact ⟨cur, 107, by simp, hc⟩)
        have hO4 : Outs W3 base v3 (O' ++ [(l'.take n, high)]) := by
          refine Outs.snoc hv1 (fun i u p h1 h2 => (hv3 i u p h1 h2).kb (KB.below (ts := []) hb2') (by simp)) ?_ ?_ (hx3'.trans (KB.grown hg3 fun k hk => by obtain ⟨_, _, cur, hc⟩ := hL3.lt k hk; exact ⟨cur, 107, by simp, hc⟩)) (u := .slice A2 pl c2)
          · rw [hsu]; exact hL4
          · rw [← hpl] at hI2 ⊢; exact hI2
        have hb4 : Below base w W3 := (hbw1.trans ((hb2'.mono hBs1).alloc (Nat.le_trans hBs1 hb2'.size) _)).grown hg3 (by have := hb2'.size; simp; omega) (fun k hk => (hL3.lt k hk).1)
        obtain ⟨A3, c3, rfl, hle3⟩ := hL4.form
        refine ⟨⟨⟨W3, hx4⟩, rfl⟩, ?_⟩
        have hl4 := hl1.kb hx4 (by decide)
        have p1 := hx4.2 bL _ 147 (by decide) k1
        have p2 := hx4.2 bR _ 3 (by decide) k2
        have p3 := hx4.2 bO _ 104 (by decide) k3
        have p4 := hx4.2 bS _ 3 (by decide) k4
        have hk4 : KB [147, 104, 107] w W3 := hk1.trans (hx4.mono (by simp))
        clear hx3 hx2 hg3 hL3 hL4 hb2 hb2' hv1 hv2 hv3 hI2 x1 x3 x4 k1 k2 k3 k4 hk1 hbw1 hx4 hx3'
        have hne1 : ¬ bL = bO := by rintro rfl; rw [p1] at p3; simp at p3
        have hne2 : ¬ bO = bL := fun h => hne1 h.symm
        obtain ⟨m1, m1'⟩ := blk1 p1
        obtain ⟨m2, m2'⟩ := blk1 p2
        obtain ⟨m3, m3'⟩ := blk1 p3
        obtain ⟨m4, m4'⟩ := blk1 p4
        refine mix_nil ?_
        intro _
        go_wp2
        go_roundw
        case rel =>
          have q3 : (W3.setCell ⟨bO, 0, none⟩ (.slice A3 (O'.length + 1) c3)).heap[bL]? = some (.cells #[.slice A l'.length c] 147 (0, 0)) := (setCell_far _ _ hne1).trans p1
          have s1 : KB [104] W3 (W3.setCell ⟨bO, 0, none⟩ (.slice A3 (O'.length + 1) c3)) := KB.set p3 (by simp) _
          have s2 := fun u : Value => KB.set (ts := [147]) (i := 0) q3 (by simp) u
          refine ⟨false, l'.drop n, O' ++ [(l'.take n, high)], _, .slice A3 (O'.length + 1) c3, rfl, ho'.drop n, by rw [List.length_drop]; omega, ⟨heap_set (i := 0) q3, ?_, ?_, ?_⟩, ?_, ?_, ?_, ?_, ?_⟩
          · exact (setCell_far _ _ (by rintro rfl; rw [p1] at p2; simp at p2)).trans ((setCell_far _ _ (by rintro rfl; rw [p3] at p2; simp at p2)).trans p2)
          · exact (setCell_far _ _ hne2).trans (heap_set (i := 0) p3)
          · exact (setCell_far _ _ (by rintro rfl; rw [p1] at p4; simp at p4)).trans ((setCell_far _ _ (by rintro rfl; rw [p3] at p4; simp at p4)).trans p4)
          · have := (((hl4.kb s1 (by decide)).kb (s2 (.slice (if c = n then A else Option.map (fun x => x.add (n * 6)) A) (l'.length - n) (c - n))) (by decide)).drop hnl)
            rw [List.length_drop, ← flat81_drop]
            exact this
          · exact (hO4.kb s1 (by decide) (by decide)).kb (s2 _) (by decide) (by decide)
          · exact hk4.trans ((s1.mono (by simp)).trans ((s2 _).mono (by simp)))
          · exact (hb4.setCell (p := ⟨bO, 0, none⟩) hb.2 _).setCell (p := ⟨bL, 0, none⟩) hb.1 _
          · rw [← HT.out, List.append_assoc]
            rfl
        case measure =>
          have q3 : (W3.setCell ⟨bO, 0, none⟩ (.slice A3 (O'.length + 1) c3)).heap[bL]? = some (.cells #[.slice A l'.length c] 147 (0, 0)) := (setCell_far _ _ hne1).trans p1
          rw [HLA.out]
          unfold lenAt
          rw [(blk1 (heap_set (i := 0) q3)).1]
          simp [firstN]
          omega
end Go.Proofs.YtogidacejbjljaaGreatDoor.PTextChecks
end
section
/- text.broken: the lines of a valid cue. -/
set_option linter.unusedVariables false
set_option linter.unusedSimpArgs false
namespace Go.Proofs.YtogidacejbjljaaGreatDoor.PTextChecks
open Go.RowKit Go.Mix Go.Own Go.Proofs.YtogidacejbjljaaGreatDoorW.PrintWords Go.Proofs.YtogidacejbjljaaGreatDoorW.PrintLast Go.Proofs.YtogidacejbjljaaGreatDoorW.PrintMore
theorem infoLetter : (Tryz.prog.info? 151).map (fun i => (i.zero, i.size, i.bytes)) = some (some (.agg #[.int .u8 0, .bool false, .bool false, .bool false, .int .i64 0, .int .i64 0]), 6, 32) := by kernel_rfl
def roomS (c canvas : Int) : Int := max 1 (canvas - 2 * c)
theorem five_new (w : World) (o0 o1 o2 o3 o4 : Obj) (W : World) (hW : W = ((((w.alloc o0).alloc o1).alloc o2).alloc o3).alloc o4) : W.heap[w.heap.size]? = some o0 ∧ W.heap[w.heap.size + 1]? = some o1 ∧ W.heap[w.heap.size + 1 + 1]? = some o2 ∧ W.heap[w.heap.size + 1 + 1 + 1]? = some o3 ∧ W.heap[w.heap.size + 1 + 1 + 1 + 1]? = some o4 ∧ W.heap.size = w.heap.size + 5 ∧ Below w.heap.size w W := by
  subst hW
  have s1 : ∀ (W : World) (o : Obj), (W.alloc o).heap.size = W.heap.size + 1 := fun W o => by simp
  have n1 : ∀ (W : World) (o : Obj) (k : Nat), k = W.heap.size → (W.alloc o).heap[k]? = some o := fun W o k h => by rw [h]; exact heap_alloc_new W o
  have o1' : ∀ (W : World) (o : Obj) (k : Nat) (x : Obj), W.heap[k]? = some x → (W.alloc o).heap[k]? = some x := fun W o k x h => (heap_alloc_old W o (Array.getElem?_eq_some_iff.1 h).1).trans h
  refine ⟨?_, ?_, ?_, ?_, ?_, ?_, ?_⟩
  · exact o1' _ _ _ _ (o1' _ _ _ _ (o1' _ _ _ _ (o1' _ _ _ _ (n1 _ _ _ rfl))))
  · exact o1' _ _ _ _ (o1' _ _ _ _ (o1' _ _ _ _ (n1 _ _ _ (s1 _ _).symm)))
  · exact o1' _ _ _ _ (o1' _ _ _ _ (n1 _ _ _ (by rw [s1, s1])))
  · exact o1' _ _ _ _ (n1 _ _ _ (by rw [s1, s1, s1]))
  · exact n1 _ _ _ (by rw [s1, s1, s1, s1])
  · rw [s1, s1, s1, s1, s1]
  · exact (((((Below.refl _ w).alloc (Nat.le_refl _) _).alloc (by rw [s1]; omega) _).alloc (by rw [s1, s1]; omega) _).alloc (by rw [s1, s1, s1]; omega) _).alloc (by rw [s1, s1, s1, s1]; omega) _
theorem okl_letters {l : List S42} (h : ∀ p ∈ l, isTextB p.f0 = true ∧ styB p.f1 = true) : Okl (lettersOf l) := by
  intro x hx
  obtain ⟨p, hp, hx⟩ := List.mem_flatMap.1 hx
  obtain ⟨u, hu, rfl⟩ := List.mem_map.1 hx
  obtain ⟨h1, h2⟩ := h p hp
  unfold isTextB at h1
  rw [Bool.and_eq_true] at h1
  have h3 := List.all_eq_true.1 h1.1 u hu
  unfold okByte at h3
  unfold styB inB at h2
  simp only [Bool.and_eq_true, Bool.or_eq_true, beq_iff_eq, decide_eq_true_iff] at h2 h3
  refine ⟨⟨?_, ?_⟩, ?_, ?_⟩ <;> simp only <;> omega
/-- The worlds in which all blocks but those of some types lie as they lay. -/
def KZ (ts : List TypeId) (W : World) : Type := { w' : World // KB ts W w' }
instance (ts : List TypeId) (W : World) : Nonempty (KZ ts W) := ⟨⟨W, KB.refl _ W⟩⟩
def KZ.w {ts : List TypeId} {W : World} (x : KZ ts W) : World := x.1
theorem KZ.blk {ts : List TypeId} {W : World} (x : KZ ts W) {b : Nat} {cs : Array Value} {t : TypeId} (h : W.heap[b]? = some (.cells cs t (0, 0))) (ht : t ∉ ts) : x.w.heap[b]? = some (.cells cs t (0, 0)) := x.2.2 b _ t ht h
def BRel (w : World) (bC bL bR bO bS : Nat) (room sz : Int) (cs : Array Value) (T : List (List S81 × Int)) (rest cur : List S81) (O : List (List S81 × Int)) (vl vo : Value) (wr : World) : Prop :=
  Boxes wr bL bR bO bS vl vo room sz ∧ wr.heap[bC]? = some (.cells cs 25 (0, 0)) ∧ Lies wr w.heap.size 151 6 vl cur.length (flat81 cur) ∧ Outs wr w.heap.size vo O ∧ Below w.heap.size w wr ∧
    O ++ restS room rest cur sz = T ∧ Okl cur ∧ Okl rest ∧ cur.length + rest.length ≤ 2000 ∧ O.length ≤ 5000 ∧ 0 ≤ sz ∧ sz ≤ 8
set_option maxHeartbeats 4000000 in
set_option maxRecDepth 100000 in
theorem broken_calls (a b c : Int) (A : Option Addr) (cap : Nat) (l : List S42) (canvas : Int) (w : World) (hr : Kd.C k42 w A l.length l) (hc : l.length ≤ cap) (hl : l.length ≤ 100) (hw : wordsLen l ≤ 2000)
    (hok : ∀ p ∈ l, isTextB p.f0 = true ∧ styB p.f1 = true) (hm : 0 ≤ c ∧ c ≤ 100) (hcv : 1 ≤ canvas ∧ canvas ≤ 1000) :
    Calls Tryz.prog 74 #[.agg #[.int .i64 a, .int .i64 b, .int .i64 c, .slice A l.length cap], .int .i64 canvas] w fun e w' => ∃ v, e = .returned v ∧ Outs w' w.heap.size v (linesS (roomS c canvas) (lettersOf l)) ∧ Below w.heap.size w w' := by
  obtain ⟨i0, hi, hii⟩ := Option.map_eq_some_iff.1 infoLetter
  simp only [Prod.mk.injEq] at hii
  obtain ⟨hz0, hz1, hz2⟩ := hii
  have wr1 : IntKind.i64.wrap (2 * c) = 2 * c := IntWalk.i64_in _ (by omega)
  have wr2 : IntKind.i64.wrap (canvas - 2 * c) = canvas - 2 * c := IntWalk.i64_in _ (by omega)
  go_enter Tryz.func74, Tryz.ntmps74
  go_wp2
  obtain ⟨f0, f1, f2, f3, f4, fs, fb⟩ := five_new w _ _ _ _ _ _ rfl
  generalize hW : World.alloc _ _ = W at f0 f1 f2 f3 f4 fs fb
  go_loopw [23] (fun i wr => ∃ (n : Nat) (sz : Int) (cur : List S81) (O : List (List S81 × Int)) (vl vo : Value), n ≤ l.length ∧ i = .int .i64 n ∧ BRel w w.heap.size (w.heap.size + 1 + 1 + 1) (w.heap.size + 1) (w.heap.size + 1 + 1) (w.heap.size + 1 + 1 + 1 + 1) (roomS c canvas) sz #[.int .i64 a, .int .i64 b, .int .i64 c, .slice A l.length cap] (linesS (roomS c canvas) (lettersOf l)) (lettersOf (l.drop n)) cur O vl vo wr) (fun i _ => l.length - (intOf i).toNat)
  case atStart =>
    have hol := okl_letters hok
    have hll : (lettersOf l).length ≤ 2000 := by rw [lettersOf_length]; exact hw
    exact ⟨0, 2, [], [], .slice none 0 0, .slice none 0 0, by omega, rfl, ⟨f3, f1, f2, f4⟩, f0, Lies.nil _ _ _ _, Outs.nil _ _, fb, rfl, fun x hx => by simp at hx, hol, by simpa using hll, by simp, by omega, by omega⟩
  case round =>
    obtain ⟨n, sz, cur, O, vl, vo, hn, rfl, ⟨b1, b2, b3, b4⟩, hcb, hl1, hO1, hbw, hT, hoc, hor, hlc, hOl, hsz⟩ := hrel
    obtain ⟨T, hT0⟩ : ∃ T, linesS (roomS c canvas) (lettersOf l) = T := ⟨_, rfl⟩
    have hTl : T.length ≤ 5000 := by
      rw [← hT0]
      have := linesS_len (roomS c canvas) (lettersOf l)
      rw [lettersOf_length] at this
      omega
    rw [hT0] at hT ⊢
    by_cases hlt : n < l.length
    · have hr3 := Kd.C_below hr hbw
      obtain ⟨ad, rfl, d0, d1, d2, d3, d4, d5⟩ := at_T42 hr3 (n : Int) (by omega) (by omega)
      obtain ⟨p, hp⟩ : ∃ p, rd_T42 l (n : Int) = p := ⟨_, rfl⟩
      rw [hp] at d0 d1 d2 d3 d4 d5
      have hdr : l.drop n = p :: l.drop (n + 1) := by rw [rd42_drop l n hlt, hp]
      have hpm : p ∈ l := List.mem_of_mem_drop (i := n) (by rw [hdr]; exact List.mem_cons_self ..)
      obtain ⟨hpt, hps⟩ := hok p hpm
      rw [hdr, lettersOf_cons] at hT hor hlc
      simp only [Int.toNat_natCast] at d0 d1 d2 d3 d4 d5
      have HT := Lib.hid hT
      clear hT hp hdr
      obtain ⟨m4, m4'⟩ := blk1 b4
      have m4a := fun o => Lib.cell?_alloc_some o m4
      have h4lt := (Array.getElem?_eq_some_iff.1 b4).1
      have m4b : ∀ o, (wr.alloc o).frozen? ⟨w.heap.size + 1 + 1 + 1 + 1, 0, none⟩ = false := fun o => by
        have := (heap_alloc_old wr o h4lt).trans b4
        simp [World.frozen?, this]
      have hne1 : ¬ wr.heap.size = w.heap.size + 1 + 1 + 1 + 1 := by omega
      have hne2 : ¬ w.heap.size + 1 + 1 + 1 + 1 = wr.heap.size := by omega
      go_wp2_with fail
      obtain ⟨W0, hW0⟩ : ∃ W0, (wr.setCell ⟨w.heap.size + 1 + 1 + 1 + 1, 0, none⟩ (.int .i64 p.f1.f3)).alloc (.cells #[.string p.f0, .bool p.f1.f0, .bool p.f1.f1, .bool p.f1.f2, .int .i64 p.f1.f3, .int .i64 p.f1.f4] 42) = W0 := ⟨_, rfl⟩
      rw [hW0]
      have hzs : (wr.setCell ⟨w.heap.size + 1 + 1 + 1 + 1, 0, none⟩ (.int .i64 p.f1.f3)).heap.size = wr.heap.size := by simp [World.setCell]
      have hold : ∀ k, k < wr.heap.size → k ≠ w.heap.size + 1 + 1 + 1 + 1 → W0.heap[k]? = wr.heap[k]? := fun k h1 h2 => by rw [← hW0, heap_alloc_old _ _ (by rw [hzs]; exact h1)]; exact setCell_far _ _ h2
      have g1 := (hold _ (Array.getElem?_eq_some_iff.1 b1).1 (by omega)).trans b1
      have g2 := (hold _ (Array.getElem?_eq_some_iff.1 b2).1 (by omega)).trans b2
      have g3 := (hold _ (Array.getElem?_eq_some_iff.1 b3).1 (by omega)).trans b3
      have gc := (hold _ (Array.getElem?_eq_some_iff.1 hcb).1 (by omega)).trans hcb
      have g4 : W0.heap[w.heap.size + 1 + 1 + 1 + 1]? = some (.cells #[.int .i64 p.f1.f3] 3 (0, 0)) := by rw [← hW0, heap_alloc_old _ _ (by rw [hzs]; exact h4lt)]; exact heap_set (i := 0) b4
      have gp : W0.heap[wr.heap.size]? = some (.cells #[.string p.f0, .bool p.f1.f0, .bool p.f1.f1, .bool p.f1.f2, .int .i64 p.f1.f3, .int .i64 p.f1.f4] 42 (0, 0)) := by rw [← hW0, ← hzs]; exact heap_alloc_new _ _
      have sA : KB [3] wr W0 := by rw [← hW0]; exact (KB.set b4 (by simp) _).trans (KB.below ((Below.refl _ _).alloc (Nat.le_refl _) _))
      have gb : Below w.heap.size w W0 := by rw [← hW0]; exact (hbw.setCell (p := ⟨w.heap.size + 1 + 1 + 1 + 1, 0, none⟩) (by show w.heap.size ≤ w.heap.size + 1 + 1 + 1 + 1; omega) _).alloc (by rw [hzs]; exact hbw.size) _
      have hl2 := hl1.kb sA (by decide)
      have hO2 := hO1.kb sA (by decide) (by decide)
      have hps2 : 0 ≤ p.f1.f3 ∧ p.f1.f3 ≤ 8 := by unfold styB inB at hps; simp only [Bool.and_eq_true, decide_eq_true_iff] at hps; omega
      have hrne : rowOf p ++ lettersOf (l.drop (n + 1)) ≠ [] := by
        unfold isTextB at hpt
        rw [Bool.and_eq_true, decide_eq_true_iff] at hpt
        intro h
        have h0 : (rowOf p).length = 0 := by rw [(List.append_eq_nil_iff.1 h).1]; rfl
        rw [rowOf_length] at h0
        omega
      have hT2 : O ++ restS (roomS c canvas) (rowOf p ++ lettersOf (l.drop (n + 1))) cur p.f1.f3 = T := by rw [restS_sz _ _ _ p.f1.f3 sz hrne]; exact HT.out
      clear hold m4 m4' m4a m4b hne1 hne2 h4lt hW0 hzs b1 b2 b3 b4 hcb hl1 hO1 sA HT d0 d1 d2 d3 d4 d5
      have hpsz : p.f0.size ≤ 2000 := Nat.le_trans (wordsLen_mem hpm) hw
      obtain ⟨bP, hbP⟩ : ∃ bP, wr.heap.size = bP := ⟨_, rfl⟩
      rw [hbP] at gp ⊢
      go_loopw [33] (fun i wi => ∃ (j : Nat) (cur : List S81) (O : List (List S81 × Int)) (vl vo : Value), j ≤ p.f0.size ∧ i = .int .i64 j ∧ wi.heap[bP]? = some (.cells #[.string p.f0, .bool p.f1.f0, .bool p.f1.f1, .bool p.f1.f2, .int .i64 p.f1.f3, .int .i64 p.f1.f4] 42 (0, 0)) ∧
        BRel w w.heap.size (w.heap.size + 1 + 1 + 1) (w.heap.size + 1) (w.heap.size + 1 + 1) (w.heap.size + 1 + 1 + 1 + 1) (roomS c canvas) p.f1.f3 #[.int .i64 a, .int .i64 b, .int .i64 c, .slice (some ad) l.length cap] T ((rowOf p).drop j ++ lettersOf (l.drop (n + 1))) cur O vl vo wi) (fun i _ => p.f0.size - (intOf i).toNat)
      case atStart => exact ⟨0, cur, O, vl, vo, by omega, rfl, gp, ⟨g1, g2, g3, g4⟩, gc, hl2, hO2, gb, hT2, hoc, hor, hlc, hOl, hps2.1, hps2.2⟩
      case round =>
        obtain ⟨j, cur', O', vl', vo', hj, rfl, hpb, ⟨e1, e2, e3, e4⟩, ecb, el, eo, eb, eT, ec, er, elc, eol, _, _⟩ := hrel
        obtain ⟨y0, y1, y2, y3, y4, y5⟩ := blk6 hpb
        by_cases hjl : j < p.f0.size
        · have hdj := rowOf_drop p j hjl
          have hub : byteAt p.f0 j hjl = p.f0[j] := rfl
          rw [hub] at hdj
          have hx : (⟨((p.f0[j]).toNat : Int), p.f1⟩ : S81) ∈ (rowOf p).drop j ++ lettersOf (l.drop (n + 1)) := by rw [hdj]; simp
          have hxo := er _ hx
          rw [hdj, List.cons_append] at eT er elc
          have hjs : IntKind.i64.wrap ((j : Int) + 1) = (j : Int) + 1 := IntWalk.i64_in _ (by omega)
          cases hnl : ((((p.f0[j]).toNat : Int)) == 10)
          case true =>
            have hnl' : (((p.f0[j]).toNat : Int)) = 10 := by simpa using hnl
            rw [restS_nl _ _ _ _ _ hnl', ← List.append_assoc] at eT
            have HT := Lib.hid eT
            have cF := flush_calls wr w.heap.size (w.heap.size + 1 + 1 + 1) (w.heap.size + 1) (w.heap.size + 1 + 1) (w.heap.size + 1 + 1 + 1 + 1) (roomS c canvas) p.f1.f3 cur' O' vl' vo' ⟨e1, e2, e3, e4⟩ el eo ⟨by omega, by omega⟩ ec hps2 (by omega)
            clear eT hnl'
            go_wp2_with (go_at_call 105; refine cF.mono ?_; rintro e W1 ⟨vl1, vo1, u1, rfl, hbx1, hl1, hO1, hk1, hb1⟩)
            have hfl := congrArg List.length HT.out
            go_roundw
            case rel =>
              refine ⟨j + 1, [], O' ++ flushS (roomS c canvas) cur' p.f1.f3, vl1, vo1, by omega, by go_num, hk1.2 _ _ 42 (by decide) hpb, hbx1, hk1.2 _ _ 25 (by decide) ecb, hl1, hO1, eb.trans hb1, HT.out, fun x hx => by simp at hx, ?_, ?_, ?_, hps2.1, hps2.2⟩
              · intro x hx'; exact er x (List.mem_cons_of_mem _ hx')
              · simp only [List.length_cons, List.length_nil] at elc ⊢; omega
              · rw [List.length_append] at hfl; omega
            case measure => simp [intOf]; omega
          case false =>
            have hnl' : (((p.f0[j]).toNat : Int)) ≠ 10 := by simpa using hnl
            rw [restS_no _ _ _ _ _ hnl'] at eT
            have HT := Lib.hid eT
            clear eT hnl'
            obtain ⟨Al, cl, rfl, hlel⟩ := el.form
            go_wp2_with fail
            have x1 := fun z : KZ [151] wr => (blk1 (z.blk e1 (by decide))).1
            have xp := fun z : KZ [151] wr => blk6 (z.blk hpb (by decide))
            have xp0 := fun z : KZ [151] wr => (xp z).1
            have xp1 := fun z : KZ [151] wr => (xp z).2.1
            have xp2 := fun z : KZ [151] wr => (xp z).2.2.1
            have xp3 := fun z : KZ [151] wr => (xp z).2.2.2.1
            have xp4 := fun z : KZ [151] wr => (xp z).2.2.2.2.1
            have xp5 := fun z : KZ [151] wr => (xp z).2.2.2.2.2
            clear xp
            refine wp_region_mix_last' (C := fun w' => ∃ z : KZ [151] wr, w' = z.w) 10 rfl [8, 9] 2 (by kernel_rfl) (by kernel_rfl) (by kernel_rfl) (by kernel_rfl) ⟨⟨wr.drew, KB.below (Below.refl _ wr).drew⟩, rfl⟩ ?_
            refine mix_pure rfl (fun K hK => ?_)
            go_simp
            refine hK _ _ ?_
            clear hK K
            refine mix_pure rfl (fun K hK => ?_)
            go_simp
            refine hK _ _ ?_
            clear hK K
            refine mix_pure rfl (fun K hK => ?_)
            go_simp
            refine hK _ _ ?_
            clear hK K
            refine mix_pure rfl (fun K hK => ?_)
            go_simp
            refine hK _ _ ?_
            clear hK K
            refine mix_pure rfl (fun K hK => ?_)
            go_simp
            refine hK _ _ ?_
            clear hK K
            refine mix_pure rfl (fun K hK => ?_)
            go_simp
            refine hK _ _ ?_
            clear hK K
            refine mix_pure rfl (fun K hK => ?_)
            go_simp
            refine hK _ _ ?_
            clear hK K
            refine mix_pure rfl (fun K hK => ?_)
            go_simp
            refine hK _ _ ?_
            clear hK K
            refine mix_eff rfl (fun K hK => ?_)
            go_simp
            simp only [effUpon_value]
            have hx3 : KB [151] wr (wr.drew.alloc (.cells #[.int .u8 (p.f0[j].toNat : Int), .bool p.f1.f0, .bool p.f1.f1, .bool p.f1.f2, .int .i64 p.f1.f3, .int .i64 p.f1.f4] 151)) := KB.below ((Below.refl _ wr).drew.alloc (Nat.le_refl _) _)
            refine ⟨⟨⟨_, hx3⟩, rfl⟩, hK _ _ ?_⟩
            clear hK K
            have hL3 : Lies (wr.drew.alloc (.cells #[.int .u8 (p.f0[j].toNat : Int), .bool p.f1.f0, .bool p.f1.f1, .bool p.f1.f2, .int .i64 p.f1.f3, .int .i64 p.f1.f4] 151)) w.heap.size 151 6 (.slice Al cur'.length cl) cur'.length (flat81 cur') := el.kb (KB.below (ts := []) ((Below.refl _ wr).drew.alloc (Nat.le_refl _) _)) (by simp)
            have hcl : cur'.length ≤ 2000 := by simp only [List.length_cons] at elc; omega
            refine mix_append rfl rfl _ _ 147 rfl w.heap.size 151 i0 _ 6 32 Tryz.underlying147 hi hz0 hz1 hz2 rfl (by decide) _ cur'.length (flat81 cur') rfl hL3 ⟨wr.heap.size, 0, none⟩ 1 1 (enc81 ⟨(p.f0[j].toNat : Int), p.f1⟩) rfl rfl ?qc2 ?qc3 ?qc4 ?qc5 ?qc6 (by decide) ?_
            case qc2 =>
              intro k u hk
              rw [add0]
              show (wr.alloc (.cells #[.int .u8 (p.f0[j].toNat : Int), .bool p.f1.f0, .bool p.f1.f1, .bool p.f1.f2, .int .i64 p.f1.f3, .int .i64 p.f1.f4] 151)).cell? ⟨wr.heap.size, k, none⟩ = some u
              rw [cell_of_row _ _ k _ 151 (0, 0) (heap_alloc_new wr _)]
              simpa [enc81] using hk
            case qc3 => intro u hu; simp only [enc81, List.mem_cons, List.mem_nil_iff, or_false] at hu; rcases hu with rfl | rfl | rfl | rfl | rfl | rfl <;> rfl
            case qc4 => unfold maxLen; omega
            case qc5 => omega
            case qc6 => have := eb.size; simp; omega
            intro v3 W3 hL4 hg3
            have hx4 : KB [151] wr W3 := (KB.below ((Below.refl _ wr).drew.alloc (Nat.le_refl _) _)).trans (KB.grown hg3 fun k hk => by obtain ⟨_, _, cu, hc⟩ := hL3.lt k hk; exact ⟨cu, 151, by simp, hc⟩)
            have hb4 : Below w.heap.size w W3 := (eb.drew.alloc (by have := eb.size; simpa using this) _).grown hg3 (by have := eb.size; simp; omega) (fun k hk => (hL3.lt k hk).1)
            obtain ⟨A3, c3, rfl, hle3⟩ := hL4.form
            refine ⟨⟨⟨W3, hx4⟩, rfl⟩, ?_⟩
            have q1 := hx4.2 _ _ 147 (by decide) e1
            have q2 := hx4.2 _ _ 3 (by decide) e2
            have q3 := hx4.2 _ _ 104 (by decide) e3
            have q4 := hx4.2 _ _ 3 (by decide) e4
            have qc := hx4.2 _ _ 25 (by decide) ecb
            have qp := hx4.2 _ _ 42 (by decide) hpb
            have eo4 := eo.kb hx4 (by decide) (by decide)
            clear hx3 hg3 hL3 x1 xp0 xp1 xp2 xp3 xp4 xp5 hx4
            have hnb : ¬ bP = w.heap.size + 1 + 1 + 1 := by rintro rfl; rw [q1] at qp; simp at qp
            obtain ⟨m1, m1'⟩ := blk1 q1
            refine mix_nil ?_
            intro _
            go_wp2
            go_roundw
            case rel =>
              have s1 := fun u : Value => KB.set (ts := [147]) (i := 0) q1 (by simp) u
              refine ⟨j + 1, cur' ++ [⟨((p.f0[j]).toNat : Int), p.f1⟩], O', .slice A3 (cur'.length + 1) c3, _, by omega, by go_num, (setCell_far _ _ hnb).trans qp, ⟨heap_set (i := 0) q1, (setCell_far _ _ (by omega)).trans q2, (setCell_far _ _ (by omega)).trans q3, (setCell_far _ _ (by omega)).trans q4⟩, (setCell_far _ _ (by omega)).trans qc, ?_, eo4.kb (s1 _) (by decide) (by decide), hb4.setCell (p := ⟨w.heap.size + 1 + 1 + 1, 0, none⟩) (by show w.heap.size ≤ w.heap.size + 1 + 1 + 1; omega) _, HT.out, ?_, ?_, ?_, eol, hps2.1, hps2.2⟩
              · have := hL4.kb (s1 (.slice A3 (cur'.length + 1) c3)) (by decide)
                rw [List.length_append, show flat81 (cur' ++ [⟨((p.f0[j]).toNat : Int), p.f1⟩]) = flat81 cur' ++ enc81 ⟨((p.f0[j]).toNat : Int), p.f1⟩ from by simp [flat81]]
                exact this
              · intro x hx'
                rcases List.mem_append.1 hx' with h | h
                · exact ec x h
                · rw [List.mem_singleton.1 h]; exact hxo
              · intro x hx'; exact er x (List.mem_cons_of_mem _ hx')
              · simp only [List.length_cons, List.length_append, List.length_nil] at elc ⊢; omega
            case measure => simp [intOf]; omega
        · have hjs : j = p.f0.size := by omega
          have hd0 : (rowOf p).drop j = [] := List.drop_of_length_le (by rw [rowOf_length]; omega)
          rw [hd0, List.nil_append] at eT er elc
          have HT := Lib.hid eT
          have wr5 : IntKind.i64.wrap ((n : Int) + 1) = (n : Int) + 1 := IntWalk.i64_in _ (by omega)
          clear eT hd0
          go_wp2
          go_roundw
          case rel => exact ⟨n + 1, p.f1.f3, cur', O', vl', vo', by omega, by go_num, ⟨e1, e2, e3, e4⟩, ecb, el, eo, eb, HT.out, ec, er, elc, eol, hps2.1, hps2.2⟩
          case measure => simp [intOf]; omega
    · have hnl : l.drop n = [] := List.drop_of_length_le (by omega)
      rw [hnl, show lettersOf [] = [] from rfl, restS_nil] at hT
      have HT := Lib.hid hT
      have cF := flush_calls wr w.heap.size (w.heap.size + 1 + 1 + 1) (w.heap.size + 1) (w.heap.size + 1 + 1) (w.heap.size + 1 + 1 + 1 + 1) (roomS c canvas) sz cur O vl vo ⟨b1, b2, b3, b4⟩ hl1 hO1 ⟨by omega, by omega⟩ hoc hsz (by omega)
      clear hT hnl
      go_wp2_with (go_at_call 105; refine cF.mono ?_; rintro e W1 ⟨vl1, vo1, u1, rfl, ⟨x1, x2, x3, x4⟩, hl1', hO1', hk1, hb1⟩; obtain ⟨m3, m3'⟩ := blk1 x3)
      go_ret
      exact ⟨_, rfl, by have h9 := hO1'; rw [HT.out, ← hT0] at h9; exact h9, hbw.trans hb1⟩
end Go.Proofs.YtogidacejbjljaaGreatDoor.PTextChecks
end
section
/- The reference's lines of letters: height, broken. -/
set_option linter.unusedVariables false
set_option linter.unusedSimpArgs false
namespace Go.Proofs.YtogidacejbjljaaGreatDoor.PTextChecks
open Go.RowKit Go.Mix Go.Own Go.Proofs.YtogidacejbjljaaGreatDoorW.PrintWords Go.Proofs.YtogidacejbjljaaGreatDoorW.PrintLast Go.Proofs.YtogidacejbjljaaGreatDoorW.PrintMore
theorem infoRow : (Tryz.prog.info? 111).map (fun i => (i.zero, i.size, i.bytes)) = some (some (.agg #[.slice none 0 0, .int .i64 0]), 2, 32) := by kernel_rfl
/-- The value is a row that reads as these letters. -/
def Rd81 (w : World) (u : Value) (l : List S81) : Prop := ∃ A c, u = .slice A l.length c ∧ l.length ≤ c ∧ Kd.C k81 w A l.length l
theorem Rd81.below {w w' : World} {u : Value} {l : List S81} (h : Rd81 w u l) (hb : Below w.heap.size w w') : Rd81 w' u l := by
  obtain ⟨A, c, rfl, hle, hC⟩ := h
  exact ⟨A, c, rfl, hle, Kd.C_below hC hb⟩
theorem C81_take {w : World} {A : Option Addr} {l : List S81} (h : Kd.C k81 w A l.length l) {m : Nat} (hm : m ≤ l.length) : Kd.C k81 w A (l.take m).length (l.take m) := by
  obtain ⟨_, h2, h3⟩ := h
  have hl : (l.take m).length = m := by rw [List.length_take]; omega
  refine ⟨rfl, by rw [hl]; omega, fun hp => ?_⟩
  rw [hl] at hp
  obtain ⟨a, ha, hc⟩ := h3 (by omega)
  refine ⟨a, ha, fun j p hj => hc j p ?_⟩
  rw [List.getElem?_take] at hj
  split at hj
  · exact hj
  · cases hj
theorem C81_drop {w : World} {A : Option Addr} {l : List S81} (h : Kd.C k81 w A l.length l) {m c : Nat} (hm : m ≤ l.length) (hc : l.length ≤ c) :
    Kd.C k81 w (if c = m then A else Option.map (fun x => x.add (m * 6)) A) (l.drop m).length (l.drop m) := by
  obtain ⟨_, h2, h3⟩ := h
  have hl : (l.drop m).length = l.length - m := List.length_drop ..
  refine ⟨rfl, by rw [hl]; omega, fun hp => ?_⟩
  rw [hl] at hp
  obtain ⟨a, rfl, hcell⟩ := h3 (by omega)
  rw [if_neg (by omega)]
  refine ⟨_, rfl, fun j p hj => ?_⟩
  rw [List.getElem?_drop] at hj
  obtain ⟨cs, h6, hK, hcs⟩ := hcell (m + j) p hj
  refine ⟨cs, h6, hK, fun i u hi => ?_⟩
  rw [← hcs i u hi, Go.Deep.add_add]
  congr 2
  rw [Nat.add_mul]
  show m * 6 + (j * 6 + i) = m * 6 + j * 6 + i
  omega
theorem C81_sub {w : World} {A : Option Addr} {l : List S81} (h : Kd.C k81 w A l.length l) {c i j : Nat} (hij : i ≤ j) (hj : j ≤ l.length) (hc : l.length ≤ c) :
    Kd.C k81 w (if c = i then A else Option.map (fun x => x.add (i * 6)) A) ((l.take j).drop i).length ((l.take j).drop i) := by
  have h1 := C81_drop h (m := i) (by omega) hc
  have h2 := C81_take h1 (m := j - i) (by rw [List.length_drop]; omega)
  rw [List.drop_take]
  exact h2
theorem rwide_calls (x : S81) (h : 0 ≤ x.f0 ∧ x.f0 < 256) (w : World) :
    Calls Tryz.prog 98 #[.agg #[.int .u8 x.f0, .bool x.f1.f0, .bool x.f1.f1, .bool x.f1.f2, .int .i64 x.f1.f3, .int .i64 x.f1.f4]] w fun e w' => e = .returned (.int .i64 (wd x)) ∧ Below w.heap.size w w' := by
  refine r18_wide.calls 14 x.f0 x.f1.f0 x.f1.f1 x.f1.f2 x.f1.f3 x.f1.f4 (wd x) w ?_
  have := rwide_run x.f0.toNat (by omega) x.f1 12 (by omega)
  rw [Int.toNat_of_nonneg h.1] at this
  exact this
set_option maxHeartbeats 4000000 in
set_option maxRecDepth 100000 in
theorem height_calls (A : Option Addr) (cap : Nat) (l : List S81) (w : World) (hr : Kd.C k81 w A l.length l) (hl : l.length ≤ 1000000) (ho : Okl l) :
    Calls Tryz.prog 129 #[.slice A l.length cap] w fun e w' => e = .returned (.int .i64 (heightS l)) ∧ Below w.heap.size w w' := by
  go_enter Tryz.func129, Tryz.ntmps129
  go_wp2
  go_loopw [3, 4] (fun m i wr => ∃ n : Nat, n ≤ l.length ∧ m = .int .i64 (topS (l.take n)) ∧ i = .int .i64 n ∧ Below w.heap.size w wr) (fun _ i _ => l.length - (intOf i).toNat)
  case atStart => exact ⟨0, by omega, rfl, rfl, Below.refl _ _⟩
  case round =>
    obtain ⟨n, hn, rfl, rfl, hbw⟩ := hrel
    have htb := topS_le (ho.take n)
    by_cases hlt : n < l.length
    · have hr3 := Kd.C_below hr hbw
      obtain ⟨ad, rfl, d0, d1, d2, d3, d4, d5⟩ := at_T81 hr3 (n : Int) (by omega) (by omega)
      obtain ⟨x, hx⟩ : ∃ x, rd_T81 l (n : Int) = x := ⟨_, rfl⟩
      rw [hx] at d0 d1 d2 d3 d4 d5
      have htop := topS_succ l n hlt
      rw [hx] at htop
      generalize topS (l.take n) = top at htop htb ⊢
      simp only [Int.toNat_natCast] at d0 d1 d2 d3 d4 d5
      have HT := Lib.hid htop
      clear htop hx
      go_wp2_with fail
      go_roundw
      case rel => exact ⟨n + 1, by omega, by rw [HT.out], by go_num, hbw⟩
      case measure => simp [intOf]; omega
    · have hnl : n = l.length := by omega
      rw [hnl, List.take_length] at htb ⊢
      have h4 : 4 * topS l = heightS l := rfl
      generalize topS l = top at htb h4 ⊢
      have wr1 : IntKind.i64.wrap (4 * top) = 4 * top := IntWalk.i64_in _ (by omega)
      go_wp2_with fail
      go_ret
      exact ⟨ret_int rfl, hbw⟩
def cells111 (vs : List Value) (O : List (List S81 × Int)) : List Value := (List.zip vs O).flatMap fun p => [p.1, .int .i64 p.2.2]
theorem cells111_snoc (vs : List Value) (O : List (List S81 × Int)) (u : Value) (p : List S81 × Int) (h : vs.length = O.length) : cells111 (vs ++ [u]) (O ++ [p]) = cells111 vs O ++ [u, .int .i64 p.2] := by
  unfold cells111
  rw [List.zip_append h, List.flatMap_append]
  rfl
theorem cells111_append (vs vs' : List Value) (O O' : List (List S81 × Int)) (h : vs.length = O.length) : cells111 (vs ++ vs') (O ++ O') = cells111 vs O ++ cells111 vs' O' := by
  unfold cells111
  rw [List.zip_append h, List.flatMap_append]
/-- A row of lines, each of which reads as its letters in the world w0. -/
def Rows (w0 w : World) (base : Nat) (v : Value) (vs : List Value) (O : List (List S81 × Int)) : Prop := vs.length = O.length ∧ Lies w base 111 2 v O.length (cells111 vs O) ∧ ∀ (i : Nat) (u : Value) (p : List S81 × Int), vs[i]? = some u → O[i]? = some p → Rd81 w0 u p.1
theorem Rows.nil (w0 w : World) (base : Nat) : Rows w0 w base (.slice none 0 0) [] [] := ⟨rfl, Lies.nil w base 111 2, fun i u p h => by simp at h⟩
theorem reads_append {w0 : World} {vs vs' : List Value} {O O' : List (List S81 × Int)} (h : vs.length = O.length) (h1 : ∀ (i : Nat) (u : Value) (p : List S81 × Int), vs[i]? = some u → O[i]? = some p → Rd81 w0 u p.1)
    (h2 : ∀ (i : Nat) (u : Value) (p : List S81 × Int), vs'[i]? = some u → O'[i]? = some p → Rd81 w0 u p.1) : ∀ (i : Nat) (u : Value) (p : List S81 × Int), (vs ++ vs')[i]? = some u → (O ++ O')[i]? = some p → Rd81 w0 u p.1 := by
  intro i u p hu hp
  by_cases hi : i < O.length
  · rw [List.getElem?_append_left (by omega)] at hu
    rw [List.getElem?_append_left hi] at hp
    exact h1 i u p hu hp
  · rw [List.getElem?_append_right (by omega)] at hu
    rw [List.getElem?_append_right (by omega)] at hp
    rw [h] at hu
    exact h2 _ u p hu hp
theorem reads_one {w0 : World} {u : Value} {q : List S81 × Int} (h : Rd81 w0 u q.1) : ∀ (i : Nat) (v : Value) (p : List S81 × Int), [u][i]? = some v → [q][i]? = some p → Rd81 w0 v p.1 := by
  intro i v p hv hp
  cases i with
  | zero =>
    injection hv with hv
    injection hp with hp
    subst hv hp
    exact h
  | succ i => simp at hv
def lenOf : Value → Nat | .slice _ n _ => n | _ => 0
def linesO (room : Int) (l : List S81) : List (List S81 × Int) := (brk room l).map fun r => (r, heightS r)
theorem linesO_cons {l : List S81} (h : l ≠ []) (room : Int) : linesO room l = (l.take (takenS l room), heightS (l.take (takenS l room))) :: linesO room (l.drop (takenS l room)) := by
  unfold linesO
  rw [brk_cons h, List.map_cons]
theorem linesO_len (room : Int) (l : List S81) : (linesO room l).length ≤ l.length := by
  unfold linesO
  rw [List.length_map]
  exact brk_len room l
set_option maxHeartbeats 1000000 in
set_option maxRecDepth 100000 in
theorem rbroken_calls (w0 : World) (A : Option Addr) (cap : Nat) (l : List S81) (room : Int) (w : World) (h0 : Below w0.heap.size w0 w) (hr : Kd.C k81 w0 A l.length l) (hcp : l.length ≤ cap) (hl : l.length ≤ 1000000) (ho : Okl l) :
    Calls Tryz.prog 108 #[.slice A l.length cap, .int .i64 room] w fun e w' => ∃ v vs, e = .returned v ∧ Rows w0 w' w.heap.size v vs (linesO room l) ∧ Below w.heap.size w w' := by
  obtain ⟨i0, hi, hii⟩ := Option.map_eq_some_iff.1 infoRow
  simp only [Prod.mk.injEq] at hii
  obtain ⟨hz0, hz1, hz2⟩ := hii
  go_enter Tryz.func108, Tryz.ntmps108
  go_wp2
  go_loopw [0, 5] (fun v0 vo wr => ∃ (A' : Option Addr) (c' : Nat) (l' : List S81) (vs : List Value) (O : List (List S81 × Int)), v0 = .slice A' l'.length c' ∧ l'.length ≤ c' ∧ Kd.C k81 w0 A' l'.length l' ∧ Okl l' ∧ l'.length ≤ l.length ∧ Rows w0 wr w.heap.size vo vs O ∧ Below w.heap.size w wr ∧ O ++ linesO room l' = linesO room l) (fun v0 _ _ => lenOf v0)
  case atStart => exact ⟨A, cap, l, [], [], rfl, hcp, hr, ho, Nat.le_refl _, Rows.nil _ _ _, Below.refl _ _, rfl⟩
  case round =>
    obtain ⟨A', c', l', vs, O, rfl, hc', hC, ho', hll, hO, hbw, hT⟩ := hrel
    have hOl : O.length + l'.length ≤ 2000000 := by
      have h1 := congrArg List.length hT
      have h2 := linesO_len room l
      by_cases he : l' = []
      · subst he
        rw [show linesO room [] = [] from rfl, List.append_nil] at h1
        simp only [List.length_nil]
        omega
      · rw [List.length_append] at h1
        omega
    obtain ⟨T, hTe⟩ : ∃ T, linesO room l = T := ⟨_, rfl⟩
    rw [hTe] at hT ⊢
    by_cases hne : l' = []
    · subst hne
      rw [show linesO room [] = [] from rfl, List.append_nil] at hT
      have HT := Lib.hid hT
      clear hT
      go_wp2_with fail
      go_ret
      exact ⟨_, vs, rfl, by have h9 := hO; rw [HT.out, ← hTe] at h9; exact h9, hbw⟩
    · have hpos := List.length_pos_iff.2 hne
      have hp1 : decide ((0 : Int) < (l'.length : Int)) = true := decide_eq_true (by omega)
      rw [linesO_cons hne] at hT
      have HT := Lib.hid hT
      have HO := Lib.hid hO
      have HOL := Lib.hid hOl
      clear hT hO hOl
      obtain ⟨wo, hwo⟩ : ∃ wo, wo = wr := ⟨_, rfl⟩
      subst hwo
      go_wp2_with fail
      go_loopw [6, 7, 8] (fun i b s wi => ∃ (n bl : Nat) (sum : Int), n ≤ l'.length ∧ bl ≤ n ∧ i = .int .i64 n ∧ b = .int .i64 bl ∧ s = .int .i64 sum ∧ takeF room (l'.drop n) sum n bl = takenS l' room ∧ Below wo.heap.size wo wi) (fun i _ _ _ => l'.length - (intOf i).toNat)
      case atStart => exact ⟨0, 0, 0, by omega, by omega, rfl, rfl, rfl, rfl, Below.refl _ _⟩
      case round =>
        obtain ⟨n, bl, sum, hn, hbl, rfl, rfl, rfl, htk, hbi⟩ := hrel
        have h0i : Below w0.heap.size w0 wo := h0.trans (hbw.mono h0.size)
        have hCi := Kd.C_below (Kd.C_below hC h0i) hbi
        by_cases hlt : n < l'.length
        · obtain ⟨ad, rfl, d0, d1, d2, d3, d4, d5⟩ := at_T81 hCi (n : Int) (by omega) (by omega)
          obtain ⟨x, hx⟩ : ∃ x, rd_T81 l' (n : Int) = x := ⟨_, rfl⟩
          rw [hx] at d0 d1 d2 d3 d4 d5
          have hxb := ho'.byt x (by rw [← hx]; exact rd81_mem l' n hlt)
          have hdr : l'.drop n = x :: l'.drop (n + 1) := by rw [rd81_drop l' n hlt, hx]
          obtain ⟨s1, hs1⟩ : ∃ s1, wrap64 (sum + wd x) = s1 := ⟨_, rfl⟩
          have HS := Lib.hid hs1
          have HD := Lib.hid hdr
          have HTK := Lib.hid htk
          have hs1' : IntKind.i64.wrap (sum + wd x) = s1 := by rw [i64_w]; exact hs1
          have cW := fun X => rwide_calls x hxb X
          generalize wd x = z at cW hs1'
          clear htk hdr hs1 hx
          simp only [Int.toNat_natCast] at d0 d1 d2 d3 d4 d5
          have wr1 : IntKind.i64.wrap ((n : Int) + 1) = (n : Int) + 1 := IntWalk.i64_in _ (by omega)
          have wr2 : IntKind.i64.wrap ((n : Int) + 1 - 1) = (n : Int) := by rw [Int.add_sub_cancel]; exact IntWalk.i64_in _ (by omega)
          have hlt' : decide ((n : Int) < (l'.length : Int)) = true := decide_eq_true (by omega)
          have hbi' := hbi
          rcases Nat.eq_zero_or_pos n with hz | hz
          · have tz : ((n : Int) == 0) = true := by simp [hz]
            have hcz : (decide (room < s1) && decide (0 < n)) = false := by simp [hz]
            have HZ := Lib.hid hz
            clear hz
            cases hsp : decide (x.f0 = 32)
            case false =>
              have HG := Lib.hid (take_go HTK HD HS (hcz))
              have hsp1 : (x.f0 == 32) = false := hsp
              go_wp2_with (go_at_call 98; refine (cW _).mono ?_; rintro e W ⟨rfl, hbW⟩; have d0 := cell_later hbW d0; have d1 := cell_later hbW d1; have d2 := cell_later hbW d2; have d3 := cell_later hbW d3; have d4 := cell_later hbW d4; have d5 := cell_later hbW d5; have hbi' := hbi'.trans (hbW.mono hbi'.size))
              go_roundw
              case rel => exact ⟨n + 1, bl, s1, by omega, by omega, by go_num, by go_num, by go_num, by rw [← HG.out, if_neg (of_decide_eq_false hsp)], hbi'⟩
              case measure => simp [intOf]; omega
            case true =>
              have HG := Lib.hid (take_go HTK HD HS (hcz))
              have hsp1 : (x.f0 == 32) = true := hsp
              go_wp2_with (go_at_call 98; refine (cW _).mono ?_; rintro e W ⟨rfl, hbW⟩; have d0 := cell_later hbW d0; have d1 := cell_later hbW d1; have d2 := cell_later hbW d2; have d3 := cell_later hbW d3; have d4 := cell_later hbW d4; have d5 := cell_later hbW d5; have hbi' := hbi'.trans (hbW.mono hbi'.size))
              go_roundw
              case rel => exact ⟨n + 1, n + 1, s1, by omega, by omega, by go_num, by go_num, by go_num, by rw [← HG.out, if_pos (of_decide_eq_true hsp)], hbi'⟩
              case measure => simp [intOf]; omega
          · have tz : ((n : Int) == 0) = false := by simp; omega
            cases hle : decide (s1 ≤ room)
            case true =>
              have hcz : (decide (room < s1) && decide (0 < n)) = false := by rw [decide_eq_false (by have := of_decide_eq_true hle; omega)]; rfl
              cases hsp : decide (x.f0 = 32)
              case false =>
                have HG := Lib.hid (take_go HTK HD HS (hcz))
                have hsp1 : (x.f0 == 32) = false := hsp
                go_wp2_with (go_at_call 98; refine (cW _).mono ?_; rintro e W ⟨rfl, hbW⟩; have d0 := cell_later hbW d0; have d1 := cell_later hbW d1; have d2 := cell_later hbW d2; have d3 := cell_later hbW d3; have d4 := cell_later hbW d4; have d5 := cell_later hbW d5; have hbi' := hbi'.trans (hbW.mono hbi'.size))
                go_roundw
                case rel => exact ⟨n + 1, bl, s1, by omega, by omega, by go_num, by go_num, by go_num, by rw [← HG.out, if_neg (of_decide_eq_false hsp)], hbi'⟩
                case measure => simp [intOf]; omega
              case true =>
                have HG := Lib.hid (take_go HTK HD HS (hcz))
                have hsp1 : (x.f0 == 32) = true := hsp
                go_wp2_with (go_at_call 98; refine (cW _).mono ?_; rintro e W ⟨rfl, hbW⟩; have d0 := cell_later hbW d0; have d1 := cell_later hbW d1; have d2 := cell_later hbW d2; have d3 := cell_later hbW d3; have d4 := cell_later hbW d4; have d5 := cell_later hbW d5; have hbi' := hbi'.trans (hbW.mono hbi'.size))
                go_roundw
                case rel => exact ⟨n + 1, n + 1, s1, by omega, by omega, by go_num, by go_num, by go_num, by rw [← HG.out, if_pos (of_decide_eq_true hsp)], hbi'⟩
                case measure => simp [intOf]; omega
            case false =>
              have hcz : (decide (room < s1) && decide (0 < n)) = true := by rw [decide_eq_true (by have := of_decide_eq_false hle; omega), decide_eq_true hz]; rfl
              have hend := take_end HTK HD HS hcz
              cases hbp : decide (0 < bl)
              case false =>
                have hbp' : decide ((0 : Int) < (bl : Int)) = false := decide_eq_false (by have := of_decide_eq_false hbp; omega)
                have hm : n = takenS l' room := by rw [← hend, if_neg (of_decide_eq_false hbp)]
                have HM := Lib.hid hm
                have hml : n ≤ l'.length := by omega
                have hmc : n ≤ c' := by omega
                have hmp : 0 < n := by rw [hm]; exact takenS_pos hne room
                clear hm
                go_wp2_with (go_at_call 98; refine (cW _).mono ?_; rintro e W ⟨rfl, hbW⟩; have d0 := cell_later hbW d0; have d1 := cell_later hbW d1; have d2 := cell_later hbW d2; have d3 := cell_later hbW d3; have d4 := cell_later hbW d4; have d5 := cell_later hbW d5; have hbi' := hbi'.trans (hbW.mono hbi'.size))
                have hbo : Below w.heap.size w W := hbw.trans (hbi'.mono hbw.size)
                refine wp_region_mix (C := fun w' => ∃ z : KZ [111] W, w' = z.w) [7, 9, 10] 2 (by kernel_rfl) (by kernel_rfl) (by kernel_rfl) ⟨⟨World.drew W, KB.below (Below.refl _ _).drew⟩, rfl⟩ ?_
                refine mix_pure rfl (fun K hK => ?_)
                go_simp
                refine hK _ _ ?_
                clear hK K
                refine mix_pure rfl (fun K hK => ?_)
                go_simp
                refine hK _ _ ?_
                clear hK K
                refine mix_pure rfl (fun K hK => ?_)
                go_simp
                refine hK _ _ ?_
                clear hK K
                refine mix_pure rfl (fun K hK => ?_)
                go_simp
                refine hK _ _ ?_
                clear hK K
                refine mix_pure rfl (fun K hK => ?_)
                go_simp
                refine hK _ _ ?_
                clear hK K
                refine mix_pure rfl (fun K hK => ?_)
                go_simp
                refine hK _ _ ?_
                clear hK K
                refine mix_pure rfl (fun K hK => ?_)
                go_simp
                refine hK _ _ ?_
                clear hK K
                have htl : (l'.take n).length = n := by rw [List.length_take]; omega
                have cH := height_calls _ c' (l'.take n) _ (Kd.C_drew (Kd.C_below (Kd.C_below (C81_take hC hml) h0i) hbi')) (by omega) (ho'.take n)
                rw [htl] at cH
                refine mix_eff rfl (fun K hK => ?_)
                go_simp
                simp only [effUpon_enter]
                refine cH.mono ?_
                rintro e W2 ⟨rfl, hb2⟩
                have hb2' : Below (World.heap W).size W W2 := (Below.refl _ _).drew.trans hb2
                have hx2 : KB [111] W W2 := KB.below hb2'
                refine ⟨_, rfl, ⟨⟨W2, hx2⟩, rfl⟩, hK _ _ ?_⟩
                clear hK K
                generalize hhi : heightS (l'.take n) = high at *
                refine mix_pure rfl (fun K hK => ?_)
                go_simp
                refine hK _ _ ?_
                clear hK K
                refine mix_eff rfl (fun K hK => ?_)
                go_simp
                simp only [effUpon_value]
                have hb3 : Below wo.heap.size wo (W2.alloc (.cells #[.slice (some ad) n c', .int .i64 high] 111)) := (hbi'.trans (hb2'.mono hbi'.size)).alloc (Nat.le_trans hbi'.size hb2'.size) _
                have hx3 : KB [111] W (W2.alloc (.cells #[.slice (some ad) n c', .int .i64 high] 111)) := hx2.trans (KB.below ((Below.refl _ W2).alloc (Nat.le_refl _) _))
                have hb3' : Below w.heap.size w (W2.alloc (.cells #[.slice (some ad) n c', .int .i64 high] 111)) := hbw.trans (hb3.mono hbw.size)
                refine ⟨⟨⟨_, hx3⟩, rfl⟩, hK _ _ ?_⟩
                clear hK K
                obtain ⟨hv1, hv2, hv3⟩ := HO.out
                have hL3 := hv2.kb (KB.below (ts := []) hb3) (by simp)
                have hOl := HOL.out
                refine mix_append rfl rfl _ _ 108 rfl w.heap.size 111 i0 _ 2 32 Tryz.underlying108 hi hz0 hz1 hz2 rfl (by decide) _ O.length (cells111 vs O) rfl hL3 ⟨W2.heap.size, 0, none⟩ 1 1 [.slice (some ad) n c', .int .i64 high] rfl rfl ?qc2 ?qc3 ?qc4 ?qc5 ?qc6 (by decide) ?_
                case qc2 =>
                  intro k u hk
                  rw [add0, cell_of_row _ _ k _ 111 (0, 0) (heap_alloc_new W2 _)]
                  simpa using hk
                case qc3 => intro u hu; simp only [List.mem_cons, List.mem_nil_iff, or_false] at hu; rcases hu with rfl | rfl <;> rfl
                case qc4 => unfold maxLen; omega
                case qc5 => omega
                case qc6 => exact Nat.le_trans hb3'.size (Nat.le_refl _)
                intro v3 W3 hL4 hg3
                have hx4 : KB [111] W W3 := hx3.trans (KB.grown hg3 fun k hk => by obtain ⟨_, _, cu, hc⟩ := hL3.lt k hk; exact ⟨cu, 111, by simp, hc⟩)
                have hb4 : Below w.heap.size w W3 := hb3'.grown hg3 hb3'.size (fun k hk => (hL3.lt k hk).1)
                refine ⟨⟨⟨W3, hx4⟩, rfl⟩, ?_⟩
                obtain ⟨A3, c3, rfl, hle3⟩ := hL4.form
                refine mix_pure rfl (fun K hK => ?_)
                go_simp
                refine hK _ _ ?_
                clear hK K
                refine mix_nil ?_
                intro _
                have hRn : Rd81 w0 (.slice (some ad) n c') (l'.take n) := ⟨(some ad), c', by rw [htl], by omega, C81_take hC hml⟩
                have hCd := C81_drop hC hml hc'
                clear hx4 hx3 hx2 hb3 hb3' hL3 hg3
                go_wp2
                go_roundw
                case rel =>
                  refine ⟨_, c' - n, l'.drop n, vs ++ [.slice (some ad) n c'], O ++ [(l'.take n, high)], by rw [List.length_drop]; first | rfl | (rw [Nat.sub_self]; done) | (rw [if_neg (by omega)]; rfl), by rw [List.length_drop]; omega, hCd, ho'.drop _, by rw [List.length_drop]; omega, ⟨by simp [hv1], ?_, reads_append hv1 hv3 (reads_one hRn)⟩, hb4, ?_⟩
                  · rw [cells111_snoc vs O _ _ hv1, List.length_append]
                    exact hL4
                  · have h9 := HT.out
                    rw [← HM.out, hhi] at h9
                    rw [List.append_assoc]
                    exact h9
                case measure => simp [lenOf]; omega
              case true =>
                have hbp' : decide ((0 : Int) < (bl : Int)) = true := decide_eq_true (by have := of_decide_eq_true hbp; omega)
                have hm : bl = takenS l' room := by rw [← hend, if_pos (of_decide_eq_true hbp)]
                have HM := Lib.hid hm
                have hml : bl ≤ l'.length := by omega
                have hmc : bl ≤ c' := by omega
                have hmp : 0 < bl := by rw [hm]; exact takenS_pos hne room
                clear hm
                go_wp2_with (go_at_call 98; refine (cW _).mono ?_; rintro e W ⟨rfl, hbW⟩; have d0 := cell_later hbW d0; have d1 := cell_later hbW d1; have d2 := cell_later hbW d2; have d3 := cell_later hbW d3; have d4 := cell_later hbW d4; have d5 := cell_later hbW d5; have hbi' := hbi'.trans (hbW.mono hbi'.size))
                have hbo : Below w.heap.size w W := hbw.trans (hbi'.mono hbw.size)
                refine wp_region_mix (C := fun w' => ∃ z : KZ [111] W, w' = z.w) [7, 9, 10] 2 (by kernel_rfl) (by kernel_rfl) (by kernel_rfl) ⟨⟨World.drew W, KB.below (Below.refl _ _).drew⟩, rfl⟩ ?_
                refine mix_pure rfl (fun K hK => ?_)
                go_simp
                refine hK _ _ ?_
                clear hK K
                refine mix_pure rfl (fun K hK => ?_)
                go_simp
                refine hK _ _ ?_
                clear hK K
                refine mix_pure rfl (fun K hK => ?_)
                go_simp
                refine hK _ _ ?_
                clear hK K
                refine mix_pure rfl (fun K hK => ?_)
                go_simp
                refine hK _ _ ?_
                clear hK K
                refine mix_pure rfl (fun K hK => ?_)
                go_simp
                refine hK _ _ ?_
                clear hK K
                refine mix_pure rfl (fun K hK => ?_)
                go_simp
                refine hK _ _ ?_
                clear hK K
                refine mix_pure rfl (fun K hK => ?_)
                go_simp
                refine hK _ _ ?_
                clear hK K
                have htl : (l'.take bl).length = bl := by rw [List.length_take]; omega
                have cH := height_calls _ c' (l'.take bl) _ (Kd.C_drew (Kd.C_below (Kd.C_below (C81_take hC hml) h0i) hbi')) (by omega) (ho'.take bl)
                rw [htl] at cH
                refine mix_eff rfl (fun K hK => ?_)
                go_simp
                simp only [effUpon_enter]
                refine cH.mono ?_
                rintro e W2 ⟨rfl, hb2⟩
                have hb2' : Below (World.heap W).size W W2 := (Below.refl _ _).drew.trans hb2
                have hx2 : KB [111] W W2 := KB.below hb2'
                refine ⟨_, rfl, ⟨⟨W2, hx2⟩, rfl⟩, hK _ _ ?_⟩
                clear hK K
                generalize hhi : heightS (l'.take bl) = high at *
                refine mix_pure rfl (fun K hK => ?_)
                go_simp
                refine hK _ _ ?_
                clear hK K
                refine mix_eff rfl (fun K hK => ?_)
                go_simp
                simp only [effUpon_value]
                have hb3 : Below wo.heap.size wo (W2.alloc (.cells #[.slice (some ad) bl c', .int .i64 high] 111)) := (hbi'.trans (hb2'.mono hbi'.size)).alloc (Nat.le_trans hbi'.size hb2'.size) _
                have hx3 : KB [111] W (W2.alloc (.cells #[.slice (some ad) bl c', .int .i64 high] 111)) := hx2.trans (KB.below ((Below.refl _ W2).alloc (Nat.le_refl _) _))
                have hb3' : Below w.heap.size w (W2.alloc (.cells #[.slice (some ad) bl c', .int .i64 high] 111)) := hbw.trans (hb3.mono hbw.size)
                refine ⟨⟨⟨_, hx3⟩, rfl⟩, hK _ _ ?_⟩
                clear hK K
                obtain ⟨hv1, hv2, hv3⟩ := HO.out
                have hL3 := hv2.kb (KB.below (ts := []) hb3) (by simp)
                have hOl := HOL.out
                refine mix_append rfl rfl _ _ 108 rfl w.heap.size 111 i0 _ 2 32 Tryz.underlying108 hi hz0 hz1 hz2 rfl (by decide) _ O.length (cells111 vs O) rfl hL3 ⟨W2.heap.size, 0, none⟩ 1 1 [.slice (some ad) bl c', .int .i64 high] rfl rfl ?qc2 ?qc3 ?qc4 ?qc5 ?qc6 (by decide) ?_
                case qc2 =>
                  intro k u hk
                  rw [add0, cell_of_row _ _ k _ 111 (0, 0) (heap_alloc_new W2 _)]
                  simpa using hk
                case qc3 => intro u hu; simp only [List.mem_cons, List.mem_nil_iff, or_false] at hu; rcases hu with rfl | rfl <;> rfl
                case qc4 => unfold maxLen; omega
                case qc5 => omega
                case qc6 => exact Nat.le_trans hb3'.size (Nat.le_refl _)
                intro v3 W3 hL4 hg3
                have hx4 : KB [111] W W3 := hx3.trans (KB.grown hg3 fun k hk => by obtain ⟨_, _, cu, hc⟩ := hL3.lt k hk; exact ⟨cu, 111, by simp, hc⟩)
                have hb4 : Below w.heap.size w W3 := hb3'.grown hg3 hb3'.size (fun k hk => (hL3.lt k hk).1)
                refine ⟨⟨⟨W3, hx4⟩, rfl⟩, ?_⟩
                obtain ⟨A3, c3, rfl, hle3⟩ := hL4.form
                refine mix_pure rfl (fun K hK => ?_)
                go_simp
                refine hK _ _ ?_
                clear hK K
                refine mix_nil ?_
                intro _
                have hRn : Rd81 w0 (.slice (some ad) bl c') (l'.take bl) := ⟨(some ad), c', by rw [htl], by omega, C81_take hC hml⟩
                have hCd := C81_drop hC hml hc'
                clear hx4 hx3 hx2 hb3 hb3' hL3 hg3
                go_wp2
                go_roundw
                case rel =>
                  refine ⟨_, c' - bl, l'.drop bl, vs ++ [.slice (some ad) bl c'], O ++ [(l'.take bl, high)], by rw [List.length_drop]; first | rfl | (rw [Nat.sub_self]; done) | (rw [if_neg (by omega)]; rfl), by rw [List.length_drop]; omega, hCd, ho'.drop _, by rw [List.length_drop]; omega, ⟨by simp [hv1], ?_, reads_append hv1 hv3 (reads_one hRn)⟩, hb4, ?_⟩
                  · rw [cells111_snoc vs O _ _ hv1, List.length_append]
                    exact hL4
                  · have h9 := HT.out
                    rw [← HM.out, hhi] at h9
                    rw [List.append_assoc]
                    exact h9
                case measure => simp [lenOf]; omega
        · obtain rfl : n = l'.length := by omega
          have hlt' : decide ((l'.length : Int) < (l'.length : Int)) = false := decide_eq_false (by omega)
          have hbi' := hbi
          obtain ⟨W, hW⟩ : ∃ W, W = wr := ⟨_, rfl⟩
          subst hW
          have hm : l'.length = takenS l' room := by rw [← htk, List.drop_of_length_le (by omega)]; rfl
          have HM := Lib.hid hm
          have hml : l'.length ≤ l'.length := by omega
          have hmc : l'.length ≤ c' := by omega
          have hmp : 0 < l'.length := by rw [hm]; exact takenS_pos hne room
          clear hm
          go_wp2_with fail
          have hbo : Below w.heap.size w W := hbw.trans (hbi'.mono hbw.size)
          refine wp_region_mix (C := fun w' => ∃ z : KZ [111] W, w' = z.w) [7, 9, 10] 2 (by kernel_rfl) (by kernel_rfl) (by kernel_rfl) ⟨⟨World.drew W, KB.below (Below.refl _ _).drew⟩, rfl⟩ ?_
          refine mix_pure rfl (fun K hK => ?_)
          go_simp
          refine hK _ _ ?_
          clear hK K
          refine mix_pure rfl (fun K hK => ?_)
          go_simp
          refine hK _ _ ?_
          clear hK K
          refine mix_pure rfl (fun K hK => ?_)
          go_simp
          refine hK _ _ ?_
          clear hK K
          refine mix_pure rfl (fun K hK => ?_)
          go_simp
          refine hK _ _ ?_
          clear hK K
          refine mix_pure rfl (fun K hK => ?_)
          go_simp
          refine hK _ _ ?_
          clear hK K
          refine mix_pure rfl (fun K hK => ?_)
          go_simp
          refine hK _ _ ?_
          clear hK K
          refine mix_pure rfl (fun K hK => ?_)
          go_simp
          refine hK _ _ ?_
          clear hK K
          have htl : (l'.take l'.length).length = l'.length := by rw [List.length_take]; omega
          have cH := height_calls _ c' (l'.take l'.length) _ (Kd.C_drew (Kd.C_below (Kd.C_below (C81_take hC hml) h0i) hbi')) (by omega) (ho'.take l'.length)
          rw [htl] at cH
          refine mix_eff rfl (fun K hK => ?_)
          go_simp
          simp only [effUpon_enter]
          refine cH.mono ?_
          rintro e W2 ⟨rfl, hb2⟩
          have hb2' : Below (World.heap W).size W W2 := (Below.refl _ _).drew.trans hb2
          have hx2 : KB [111] W W2 := KB.below hb2'
          refine ⟨_, rfl, ⟨⟨W2, hx2⟩, rfl⟩, hK _ _ ?_⟩
          clear hK K
          generalize hhi : heightS (l'.take l'.length) = high at *
          refine mix_pure rfl (fun K hK => ?_)
          go_simp
          refine hK _ _ ?_
          clear hK K
          refine mix_eff rfl (fun K hK => ?_)
          go_simp
          simp only [effUpon_value]
          have hb3 : Below wo.heap.size wo (W2.alloc (.cells #[.slice A' l'.length c', .int .i64 high] 111)) := (hbi'.trans (hb2'.mono hbi'.size)).alloc (Nat.le_trans hbi'.size hb2'.size) _
          have hx3 : KB [111] W (W2.alloc (.cells #[.slice A' l'.length c', .int .i64 high] 111)) := hx2.trans (KB.below ((Below.refl _ W2).alloc (Nat.le_refl _) _))
          have hb3' : Below w.heap.size w (W2.alloc (.cells #[.slice A' l'.length c', .int .i64 high] 111)) := hbw.trans (hb3.mono hbw.size)
          refine ⟨⟨⟨_, hx3⟩, rfl⟩, hK _ _ ?_⟩
          clear hK K
          obtain ⟨hv1, hv2, hv3⟩ := HO.out
          have hL3 := hv2.kb (KB.below (ts := []) hb3) (by simp)
          have hOl := HOL.out
          refine mix_append rfl rfl _ _ 108 rfl w.heap.size 111 i0 _ 2 32 Tryz.underlying108 hi hz0 hz1 hz2 rfl (by decide) _ O.length (cells111 vs O) rfl hL3 ⟨W2.heap.size, 0, none⟩ 1 1 [.slice A' l'.length c', .int .i64 high] rfl rfl ?qc2 ?qc3 ?qc4 ?qc5 ?qc6 (by decide) ?_
          case qc2 =>
            intro k u hk
            rw [add0, cell_of_row _ _ k _ 111 (0, 0) (heap_alloc_new W2 _)]
            simpa using hk
          case qc3 => intro u hu; simp only [List.mem_cons, List.mem_nil_iff, or_false] at hu; rcases hu with rfl | rfl <;> rfl
          case qc4 => unfold maxLen; omega
          case qc5 => omega
          case qc6 => exact Nat.le_trans hb3'.size (Nat.le_refl _)
          intro v3 W3 hL4 hg3
          have hx4 : KB [111] W W3 := hx3.trans (KB.grown hg3 fun k hk => by obtain ⟨_, _, cu, hc⟩ := hL3.lt k hk; exact ⟨cu, 111, by simp, hc⟩)
          have hb4 : Below w.heap.size w W3 := hb3'.grown hg3 hb3'.size (fun k hk => (hL3.lt k hk).1)
          refine ⟨⟨⟨W3, hx4⟩, rfl⟩, ?_⟩
          obtain ⟨A3, c3, rfl, hle3⟩ := hL4.form
          refine mix_pure rfl (fun K hK => ?_)
          go_simp
          refine hK _ _ ?_
          clear hK K
          refine mix_nil ?_
          intro _
          have hRn : Rd81 w0 (.slice A' l'.length c') (l'.take l'.length) := ⟨A', c', by rw [htl], by omega, C81_take hC hml⟩
          have hCd := C81_drop hC hml hc'
          clear hx4 hx3 hx2 hb3 hb3' hL3 hg3
          go_wp2
          go_roundw
          case rel =>
            refine ⟨_, c' - l'.length, l'.drop l'.length, vs ++ [.slice A' l'.length c'], O ++ [(l'.take l'.length, high)], by rw [List.length_drop]; first | rfl | (rw [Nat.sub_self]; done) | (rw [if_neg (by omega)]; rfl), by rw [List.length_drop]; omega, hCd, ho'.drop _, by rw [List.length_drop]; omega, ⟨by simp [hv1], ?_, reads_append hv1 hv3 (reads_one hRn)⟩, hb4, ?_⟩
            · rw [cells111_snoc vs O _ _ hv1, List.length_append]
              exact hL4
            · have h9 := HT.out
              rw [← HM.out, hhi] at h9
              rw [List.append_assoc]
              exact h9
          case measure => simp [lenOf]; omega
end Go.Proofs.YtogidacejbjljaaGreatDoor.PTextChecks
end
section
/- The reference's rows: the lines of a valid cue. -/
set_option linter.unusedVariables false
set_option linter.unusedSimpArgs false
namespace Go.Proofs.YtogidacejbjljaaGreatDoor.PTextChecks
open Go.RowKit Go.Mix Go.Own Go.Proofs.YtogidacejbjljaaGreatDoorW.PrintWords Go.Proofs.YtogidacejbjljaaGreatDoorW.PrintLast Go.Proofs.YtogidacejbjljaaGreatDoorW.PrintMore
def endS (l : List S81) : Int := match l.getLast? with | some x => x.f1.f3 | none => 2
theorem endS_last {L : List S81} {n : Nat} {x : S81} (h : L.drop n = [x]) : endS L = x.f1.f3 := by
  unfold endS
  have : L = L.take n ++ [x] := by rw [← h, List.take_append_drop]
  rw [this, List.getLast?_append]
  rfl
theorem endS_step {room : Int} {L : List S81} {n : Nat} {x : S81} {r cur : List S81} (h : L.drop n = x :: r) : restS room r cur x.f1.f3 = restS room r cur (endS L) := by
  cases r with
  | nil => rw [endS_last h]
  | cons y r => exact restS_sz room _ _ _ _ (by simp)
theorem linesS_start (room : Int) (L : List S81) : linesS room L = restS room L [] (endS L) := by
  cases L with
  | nil => rfl
  | cons x r => exact restS_sz room _ _ _ _ (by simp)
theorem rows_no {room : Int} {L O T : List S81} {n f : Nat} {x : S81} {P Q : List (List S81 × Int)} (hf : f ≤ n) (hn : n < L.length) (h : L.drop n = x :: L.drop (n + 1)) (hx : x.f0 ≠ 10) (hT : P ++ restS room (L.drop n) ((L.take n).drop f) (endS L) = Q) :
    P ++ restS room (L.drop (n + 1)) ((L.take (n + 1)).drop f) (endS L) = Q := by
  rw [h, restS_no _ _ _ _ _ hx, endS_step h] at hT
  rw [List.take_succ_eq_append_getElem hn, List.drop_append_of_le_length (by rw [List.length_take]; omega)]
  have : L[n] = x := by
    have := List.drop_eq_getElem_cons hn
    rw [h] at this
    injection this with h1 _
    exact h1.symm
  rw [this]
  exact hT
theorem rows_nl {room : Int} {L : List S81} {n f : Nat} {x : S81} {P Q : List (List S81 × Int)} (h : L.drop n = x :: L.drop (n + 1)) (hx : x.f0 = 10) (hT : P ++ restS room (L.drop n) ((L.take n).drop f) (endS L) = Q) :
    (P ++ flushS room ((L.take n).drop f) x.f1.f3) ++ restS room (L.drop (n + 1)) ((L.take (n + 1)).drop (n + 1)) (endS L) = Q := by
  rw [h, restS_nl _ _ _ _ _ hx, endS_step h, ← List.append_assoc] at hT
  rw [show (L.take (n + 1)).drop (n + 1) = [] from List.drop_of_length_le (List.length_take_le ..)]
  exact hT
theorem rows_end {room : Int} {L : List S81} {f : Nat} {P Q : List (List S81 × Int)} (hT : P ++ restS room (L.drop L.length) ((L.take L.length).drop f) (endS L) = Q) : P ++ flushS room ((L.take L.length).drop f) (endS L) = Q := by
  rw [List.drop_length, restS_nil] at hT
  exact hT
theorem flushS_some {room : Int} {cur : List S81} (h : cur ≠ []) (sz : Int) : flushS room cur sz = linesO room cur := by
  unfold flushS linesO
  rw [if_neg (by simpa using h)]
theorem flushS_none (room : Int) (sz : Int) : flushS room [] sz = [([], 4 * sz)] := rfl
theorem cells111_one {w0 : World} {vs : List Value} {O : List (List S81 × Int)} (h : ∀ (i : Nat) (u : Value) (p : List S81 × Int), vs[i]? = some u → O[i]? = some p → Rd81 w0 u p.1) : ∀ u ∈ cells111 vs O, u.oneCell' = true := by
  intro u hu
  unfold cells111 at hu
  obtain ⟨p, hp, hu⟩ := List.mem_flatMap.1 hu
  obtain ⟨i, hi⟩ := List.mem_iff_getElem?.1 hp
  have hz := List.getElem?_zip_eq_some.1 hi
  obtain ⟨A, c, he, _⟩ := h i p.1 p.2 hz.1 hz.2
  simp only [List.mem_cons, List.mem_nil_iff, or_false] at hu
  rcases hu with rfl | rfl
  · rw [he]; rfl
  · rfl
theorem letters3 (a b c : Int) (A : Option Addr) (cap : Nat) (l : List S42) (w : World) (hr : Kd.C k42 w A l.length l) (hc : l.length ≤ cap) (hf : Fit l) :
    Calls Tryz.prog 59 #[.agg #[.int .i64 a, .int .i64 b, .int .i64 c, .slice A l.length cap]] w fun e w' => ∃ A' c', e = .returned (.slice A' (lettersOf l).length c') ∧ (lettersOf l).length ≤ c' ∧ Kd.C k81 w' A' (lettersOf l).length (lettersOf l) ∧ Below w.heap.size w w' := by
  refine (r18_letters.calls (2 * l.length + wordsLen l + 1) a b c A cap l _ w hr hc (rletters_run hf.1 hf.2 a b c _ (by omega))).mono ?_
  rintro e w' ⟨v', rfl, hR, hb⟩
  obtain ⟨A', c', rfl, hle, hC'⟩ := Kd.R_reads hR
  exact ⟨A', c', rfl, hle, hC', hb⟩
def RowsAt (L : List S81) (room : Int) (T : List (List S81 × Int)) (f i : Nat) (O : List (List S81 × Int)) : Prop :=
  (i ≤ L.length ∧ f ≤ i ∧ O ++ restS room (L.drop i) ((L.take i).drop f) (endS L) = T) ∨ (i = L.length + 1 ∧ O = T)
set_option maxHeartbeats 2000000 in
set_option maxRecDepth 100000 in
theorem rrows_calls (a b c : Int) (A : Option Addr) (cap : Nat) (l : List S42) (canvas : Int) (w : World) (hr : Kd.C k42 w A l.length l) (hc : l.length ≤ cap) (hl : l.length ≤ 100) (hw : wordsLen l ≤ 2000)
    (hok : ∀ p ∈ l, isTextB p.f0 = true ∧ styB p.f1 = true) (hm : 0 ≤ c ∧ c ≤ 100) (hcv : 1 ≤ canvas ∧ canvas ≤ 1000) :
    Calls Tryz.prog 75 #[.agg #[.int .i64 a, .int .i64 b, .int .i64 c, .slice A l.length cap], .int .i64 canvas] w fun e w' => ∃ v vs, e = .returned v ∧ Rows w' w' w.heap.size v vs (linesS (roomS c canvas) (lettersOf l)) ∧ Below w.heap.size w w' := by
  obtain ⟨i0, hi, hii⟩ := Option.map_eq_some_iff.1 infoRow
  simp only [Prod.mk.injEq] at hii
  obtain ⟨hz0, hz1, hz2⟩ := hii
  have wr1 : IntKind.i64.wrap (2 * c) = 2 * c := IntWalk.i64_in _ (by omega)
  have wr2 : IntKind.i64.wrap (canvas - 2 * c) = canvas - 2 * c := IntWalk.i64_in _ (by omega)
  have hroom : max (canvas - 2 * c) 1 = roomS c canvas := by unfold roomS; omega
  have ho := okl_letters hok
  have hll : (lettersOf l).length ≤ 2000 := by rw [lettersOf_length]; exact hw
  have cL := fun X h => letters3 a b c A cap l X h hc ⟨by omega, by omega⟩
  generalize lettersOf l = L at ho hll cL ⊢
  generalize roomS c canvas = room at hroom ⊢
  go_enter Tryz.func75, Tryz.ntmps75
  go_wp2_with (go_at_call 59; refine (cL _ (Kd.C_alloc hr _)).mono ?_; rintro e W1 ⟨A1, c1, rfl, hle1, hC1, hb1⟩)
  have hbW : Below w.heap.size w W1 := ((Below.refl _ w).alloc (Nat.le_refl _) _).trans (hb1.mono (by simp))
  try rw [hroom]
  clear hb1 cL hr
  go_loopw [7, 8, 9] (fun vo f i wr => ∃ (nf ni : Nat) (vs : List Value) (O : List (List S81 × Int)), f = .int .i64 nf ∧ i = .int .i64 ni ∧ Rows W1 wr W1.heap.size vo vs O ∧ Below W1.heap.size W1 wr ∧ RowsAt L room (linesS room L) nf ni O) (fun _ _ i _ => L.length + 1 - (intOf i).toNat)
  case atStart => exact ⟨0, 0, [], [], rfl, rfl, Rows.nil _ _ _, Below.refl _ _, .inl ⟨by omega, by omega, (linesS_start room L).symm⟩⟩
  case round =>
    obtain ⟨nf, ni, vs, O, rfl, rfl, hO, hbw, hA⟩ := hrel
    obtain ⟨T, hTe⟩ : ∃ T, linesS room L = T := ⟨_, rfl⟩
    have hTl : T.length ≤ 5000 := by rw [← hTe]; have := linesS_len room L; omega
    rw [hTe] at hA ⊢
    rcases hA with ⟨hi1, hf1, hT⟩ | ⟨hi1, hT⟩
    · have hOl : O.length ≤ 5000 := by have := congrArg List.length hT; rw [List.length_append] at this; omega
      have wr3 : IntKind.i64.wrap ((ni : Int) + 1) = (ni : Int) + 1 := IntWalk.i64_in _ (by omega)
      have hle : decide ((ni : Int) ≤ (L.length : Int)) = true := decide_eq_true (by omega)
      have HO := Lib.hid hO
      clear hO
      by_cases hlt : ni < L.length
      · have hCw := Kd.C_below hC1 hbw
        obtain ⟨ad, rfl, d0, d1, d2, d3, d4, d5⟩ := at_T81 hCw (ni : Int) (by omega) (by omega)
        obtain ⟨x, hx⟩ : ∃ x, rd_T81 L (ni : Int) = x := ⟨_, rfl⟩
        rw [hx] at d0 d1 d2 d3 d4 d5
        simp only [Int.toNat_natCast] at d0 d1 d2 d3 d4 d5
        have hxo := ho x (by rw [← hx]; exact rd81_mem L ni hlt)
        have hdr : L.drop ni = x :: L.drop (ni + 1) := by rw [rd81_drop L ni hlt, hx]
        have wr4 : IntKind.i64.wrap (4 * x.f1.f3) = 4 * x.f1.f3 := IntWalk.i64_in _ (by omega)
        cases hnl : (x.f0 == 10)
        case false =>
          have HT := Lib.hid (rows_no (O := []) (T := []) hf1 hlt hdr (by simpa using hnl) hT)
          clear hT hdr hx
          go_wp2_with fail
          go_roundw
          case rel => exact ⟨nf, ni + 1, vs, O, by go_num, by go_num, HO.out, hbw, .inl ⟨by omega, by omega, HT.out⟩⟩
          case measure => simp [intOf]; omega
        case true =>
          have HT := Lib.hid (rows_nl hdr (by simpa using hnl) hT)
          clear hT hdr hx
          rcases Nat.lt_or_ge nf ni with hfi | hfi
          · have HT0 := HT.out
            clear HT
            obtain ⟨cur, hcur⟩ : ∃ cur, (L.take ni).drop nf = cur := ⟨_, rfl⟩
            have hcl : cur.length = ni - nf := by rw [← hcur, List.length_drop, List.length_take]; omega
            have hp1 : decide ((0 : Int) < ((ni - nf : Nat) : Int)) = true := decide_eq_true (by omega)
            have hC2 := C81_sub hC1 hf1 hi1 hle1
            have hoc : Okl cur := by rw [← hcur]; exact (ho.take _).drop _
            rw [hcur, if_neg (by omega)] at hC2
            rw [hcur] at HT0
            obtain ⟨O2, hO2⟩ : ∃ O2, linesO room cur = O2 := ⟨_, rfl⟩
            have hnec : cur ≠ [] := by intro h; rw [h] at hcl; simp at hcl; omega
            have hpos2 : 0 < O2.length := by rw [← hO2, linesO_cons hnec]; simp
            have hO2l : O2.length ≤ 2000 := by rw [← hO2]; have := linesO_len room cur; omega
            have cB := fun X h => rbroken_calls W1 _ (c1 - nf) cur room X h hC2 (by omega) (by omega) hoc
            rw [flushS_some hnec, hO2] at HT0
            simp only [hcl, hO2] at cB
            have HT := Lib.hid HT0
            obtain ⟨hv1, hv2, hv3⟩ := HO.out
            clear HT0 hcur hcl hO2 hnec
            go_wp2_with (first | (go_at_call 108; refine (cB _ hbw).mono ?_; rintro e W2 ⟨v2, vs2, rfl, hR2, hb2⟩; obtain ⟨hw1, hw2, hw3⟩ := hR2; obtain ⟨a2, c2, rfl, hc2, hcell2⟩ := hw2.cell hpos2; have hL3 := hv2.kb (KB.below (ts := []) hb2) (by simp)) | (at_builtin; refine Go.Own.wpList_append_lies rfl _ _ 108 rfl W1.heap.size 111 i0 _ 2 32 Tryz.underlying108 hi hz0 hz1 hz2 rfl (by decide) _ O.length (cells111 vs O) rfl hL3 a2 O2.length c2 (cells111 vs2 O2) rfl hw2.1 hcell2 (cells111_one hw3) ?qc4 ?qc5 ?qc6 hpos2 ?_))
            case qc4 => unfold maxLen; omega
            case qc5 => omega
            case qc6 => exact Nat.le_trans hbw.size hb2.size
            intro v3 W3 hL4 hg3
            have hb4 : Below W1.heap.size W1 W3 := (hbw.trans (hb2.mono hbw.size)).grown hg3 (Nat.le_trans hbw.size hb2.size) (fun k hk => (hL3.lt k hk).1)
            clear hg3 hL3 hcell2 hw2
            go_wp2
            go_roundw
            case rel => exact ⟨ni + 1, ni + 1, vs ++ vs2, O ++ O2, by go_num, by go_num, ⟨by simp [hv1, hw1], by rw [List.length_append, cells111_append _ _ _ _ hv1]; exact hL4, reads_append hv1 hv3 hw3⟩, hb4, .inl ⟨by omega, by omega, HT.out⟩⟩
            case measure => (simp [intOf]; try omega)
          · have hT1 := HT.out
            rw [show (L.take ni).drop nf = [] from List.drop_of_length_le (by rw [List.length_take]; omega), flushS_none] at hT1
            obtain rfl : nf = ni := by omega
            have HT := Lib.hid hT1
            clear hT1
            have hp1 : decide ((0 : Int) < ((nf - nf : Nat) : Int)) = false := decide_eq_false (by omega)
            obtain ⟨hv1, hv2, hv3⟩ := HO.out
            have hb3 : Below wr.heap.size wr (wr.alloc (.cells #[.slice none 0 0, .int .i64 (4 * x.f1.f3)] 111)) := (Below.refl _ wr).alloc (Nat.le_refl _) _
            have hL3 := hv2.kb (KB.below (ts := []) hb3) (by simp)
            go_wp2_with (at_builtin; refine Go.Own.wpList_append_lies rfl _ _ 108 rfl W1.heap.size 111 i0 _ 2 32 Tryz.underlying108 hi hz0 hz1 hz2 rfl (by decide) _ O.length (cells111 vs O) rfl hL3 ⟨wr.heap.size, 0, none⟩ 1 1 [.slice none 0 0, .int .i64 (4 * x.f1.f3)] rfl rfl ?qbc2 ?qbc3 ?qbc4 ?qbc5 ?qbc6 (by decide) ?_)
            try (case qbc2 =>
              intro k u hk
              rw [add0, cell_of_row _ _ k _ 111 (0, 0) (heap_alloc_new wr _)]
              simpa using hk)
            case qbc3 => first | (intro u hu; simp only [List.mem_cons, List.mem_nil_iff, or_false] at hu; rcases hu with rfl | rfl <;> rfl) | exact ⟨rfl, rfl⟩
            case qbc4 => unfold maxLen; omega
            case qbc5 => omega
            case qbc6 => first | exact Nat.le_trans hbw.size hb3.size | (have h1 := hbw.size; omega)
            intro v3 W3 hL4 hg3
            have hb4 : Below W1.heap.size W1 W3 := (hbw.trans (hb3.mono hbw.size)).grown hg3 (Nat.le_trans hbw.size hb3.size) (fun k hk => (hL3.lt k hk).1)
            have hRn : Rd81 W1 (.slice none 0 0) [] := ⟨none, 0, rfl, Nat.le_refl _, rfl, by simp, fun h => absurd h (by simp)⟩
            clear hg3 hL3 hb3
            go_wp2
            go_roundw
            case rel => exact ⟨nf + 1, nf + 1, vs ++ [.slice none 0 0], O ++ [([], 4 * x.f1.f3)], by go_num, by go_num, ⟨by simp [hv1], by rw [List.length_append, cells111_append _ _ _ _ hv1]; exact hL4, reads_append hv1 hv3 (reads_one hRn)⟩, hb4, .inl ⟨by omega, by omega, HT.out⟩⟩
            case measure => (simp [intOf]; try omega)
      · obtain rfl : ni = L.length := by omega
        have hT1 := rows_end hT
        have HT := Lib.hid hT1
        clear hT hT1
        rcases Nat.lt_or_ge nf L.length with hfi | hfi
        · have HT0 := HT.out
          clear HT
          obtain ⟨cur, hcur⟩ : ∃ cur, (L.take L.length).drop nf = cur := ⟨_, rfl⟩
          have hcl : cur.length = L.length - nf := by rw [← hcur, List.length_drop, List.length_take]; omega
          have hp1 : decide ((0 : Int) < ((L.length - nf : Nat) : Int)) = true := decide_eq_true (by omega)
          have hC2 := C81_sub hC1 hf1 hi1 hle1
          have hoc : Okl cur := by rw [← hcur]; exact (ho.take _).drop _
          rw [hcur, if_neg (by omega)] at hC2
          rw [hcur] at HT0
          obtain ⟨O2, hO2⟩ : ∃ O2, linesO room cur = O2 := ⟨_, rfl⟩
          have hnec : cur ≠ [] := by intro h; rw [h] at hcl; simp at hcl; omega
          have hpos2 : 0 < O2.length := by rw [← hO2, linesO_cons hnec]; simp
          have hO2l : O2.length ≤ 2000 := by rw [← hO2]; have := linesO_len room cur; omega
          have cB := fun X h => rbroken_calls W1 _ (c1 - nf) cur room X h hC2 (by omega) (by omega) hoc
          rw [flushS_some hnec, hO2] at HT0
          simp only [hcl, hO2] at cB
          have HT := Lib.hid HT0
          obtain ⟨hv1, hv2, hv3⟩ := HO.out
          clear HT0 hcur hcl hO2 hnec
          go_wp2_with (first | (go_at_call 108; refine (cB _ hbw).mono ?_; rintro e W2 ⟨v2, vs2, rfl, hR2, hb2⟩; obtain ⟨hw1, hw2, hw3⟩ := hR2; obtain ⟨a2, c2, rfl, hc2, hcell2⟩ := hw2.cell hpos2; have hL3 := hv2.kb (KB.below (ts := []) hb2) (by simp)) | (at_builtin; refine Go.Own.wpList_append_lies rfl _ _ 108 rfl W1.heap.size 111 i0 _ 2 32 Tryz.underlying108 hi hz0 hz1 hz2 rfl (by decide) _ O.length (cells111 vs O) rfl hL3 a2 O2.length c2 (cells111 vs2 O2) rfl hw2.1 hcell2 (cells111_one hw3) ?qc4 ?qc5 ?qc6 hpos2 ?_))
          case qc4 => unfold maxLen; omega
          case qc5 => omega
          case qc6 => exact Nat.le_trans hbw.size hb2.size
          intro v3 W3 hL4 hg3
          have hb4 : Below W1.heap.size W1 W3 := (hbw.trans (hb2.mono hbw.size)).grown hg3 (Nat.le_trans hbw.size hb2.size) (fun k hk => (hL3.lt k hk).1)
          clear hg3 hL3 hcell2 hw2
          go_wp2
          go_roundw
          case rel => exact ⟨L.length + 1, L.length + 1, vs ++ vs2, O ++ O2, by go_num, by go_num, ⟨by simp [hv1, hw1], by rw [List.length_append, cells111_append _ _ _ _ hv1]; exact hL4, reads_append hv1 hv3 hw3⟩, hb4, .inr ⟨rfl, HT.out⟩⟩
          case measure => (simp [intOf]; try omega)
        · have hT1 := HT.out
          rw [show (L.take L.length).drop nf = [] from List.drop_of_length_le (by rw [List.length_take]; omega), flushS_none] at hT1
          obtain rfl : nf = L.length := by omega
          have HT := Lib.hid hT1
          clear hT1
          rcases Nat.lt_or_ge L.length c1 with hcc | hcc
          · have hcc1 : ¬ c1 = L.length := by omega
            rcases Nat.eq_zero_or_pos L.length with hz | hz
            · have hT1 := HT.out
              rw [show endS L = 2 from by rw [List.eq_nil_of_length_eq_zero hz]; rfl] at hT1
              have HT := Lib.hid hT1
              have hpl : decide ((0 : Int) < (L.length : Int)) = false := decide_eq_false (by omega)
              have hpl2 : ¬ ((0 : Int) < (L.length : Int)) := by omega
              clear hT1 hz
              have hp1 : decide ((0 : Int) < ((L.length - L.length : Nat) : Int)) = false := decide_eq_false (by omega)
              obtain ⟨hv1, hv2, hv3⟩ := HO.out
              have hb3 : Below wr.heap.size wr (wr.alloc (.cells #[.slice none 0 0, .int .i64 (8)] 111)) := (Below.refl _ wr).alloc (Nat.le_refl _) _
              have hL3 := hv2.kb (KB.below (ts := []) hb3) (by simp)
              go_wp2_with (at_builtin; refine Go.Own.wpList_append_lies rfl _ _ 108 rfl W1.heap.size 111 i0 _ 2 32 Tryz.underlying108 hi hz0 hz1 hz2 rfl (by decide) _ O.length (cells111 vs O) rfl hL3 ⟨wr.heap.size, 0, none⟩ 1 1 [.slice none 0 0, .int .i64 (8)] rfl rfl ?qcc2 ?qcc3 ?qcc4 ?qcc5 ?qcc6 (by decide) ?_)
              try (case qcc2 =>
                intro k u hk
                rw [add0, cell_of_row _ _ k _ 111 (0, 0) (heap_alloc_new wr _)]
                simpa using hk)
              case qcc3 => first | (intro u hu; simp only [List.mem_cons, List.mem_nil_iff, or_false] at hu; rcases hu with rfl | rfl <;> rfl) | exact ⟨rfl, rfl⟩
              case qcc4 => unfold maxLen; omega
              case qcc5 => omega
              case qcc6 => first | exact Nat.le_trans hbw.size hb3.size | (have h1 := hbw.size; omega)
              intro v3 W3 hL4 hg3
              have hb4 : Below W1.heap.size W1 W3 := (hbw.trans (hb3.mono hbw.size)).grown hg3 (Nat.le_trans hbw.size hb3.size) (fun k hk => (hL3.lt k hk).1)
              have hRn : Rd81 W1 (.slice none 0 0) [] := ⟨none, 0, rfl, Nat.le_refl _, rfl, by simp, fun h => absurd h (by simp)⟩
              clear hg3 hL3 hb3
              go_wp2
              go_roundw
              case rel => exact ⟨L.length + 1, L.length + 1, vs ++ [.slice none 0 0], O ++ [([], 8)], by go_num, by go_num, ⟨by simp [hv1], by rw [List.length_append, cells111_append _ _ _ _ hv1]; exact hL4, reads_append hv1 hv3 (reads_one hRn)⟩, hb4, .inr ⟨rfl, HT.out⟩⟩
              case measure => (simp [intOf]; try omega)
            · have hCw := Kd.C_below hC1 hbw
              obtain ⟨ad, rfl, d0, d1, d2, d3, d4, d5⟩ := at_T81 hCw ((L.length - 1 : Nat) : Int) (by omega) (by omega)
              obtain ⟨x, hx⟩ : ∃ x, rd_T81 L ((L.length - 1 : Nat) : Int) = x := ⟨_, rfl⟩
              rw [hx] at d0 d1 d2 d3 d4 d5
              simp only [Int.toNat_natCast] at d0 d1 d2 d3 d4 d5
              have hxo := ho x (by rw [← hx]; exact rd81_mem L _ (by omega))
              have hdr := rd81_drop L (L.length - 1) (by omega)
              rw [hx, List.drop_of_length_le (i := L.length - 1 + 1) (by omega)] at hdr
              have hT1 := HT.out
              rw [endS_last hdr] at hT1
              have HT := Lib.hid hT1
              have wr4 : IntKind.i64.wrap (4 * x.f1.f3) = 4 * x.f1.f3 := IntWalk.i64_in _ (by omega)
              have wr5 : IntKind.i64.wrap ((L.length : Int) - 1) = ((L.length - 1 : Nat) : Int) := by rw [IntWalk.i64_in _ (by omega)]; omega
              have hpl : decide ((0 : Int) < (L.length : Int)) = true := decide_eq_true (by omega)
              clear hT1 hdr hx
              have hp1 : decide ((0 : Int) < ((L.length - L.length : Nat) : Int)) = false := decide_eq_false (by omega)
              obtain ⟨hv1, hv2, hv3⟩ := HO.out
              have hb3 : Below wr.heap.size wr (wr.alloc (.cells #[.slice none 0 0, .int .i64 (4 * x.f1.f3)] 111)) := (Below.refl _ wr).alloc (Nat.le_refl _) _
              have hL3 := hv2.kb (KB.below (ts := []) hb3) (by simp)
              go_wp2_with (at_builtin; refine Go.Own.wpList_append_lies rfl _ _ 108 rfl W1.heap.size 111 i0 _ 2 32 Tryz.underlying108 hi hz0 hz1 hz2 rfl (by decide) _ O.length (cells111 vs O) rfl hL3 ⟨wr.heap.size, 0, none⟩ 1 1 [.slice none 0 0, .int .i64 (4 * x.f1.f3)] rfl rfl ?qdc2 ?qdc3 ?qdc4 ?qdc5 ?qdc6 (by decide) ?_)
              try (case qdc2 =>
                intro k u hk
                rw [add0, cell_of_row _ _ k _ 111 (0, 0) (heap_alloc_new wr _)]
                simpa using hk)
              case qdc3 => first | (intro u hu; simp only [List.mem_cons, List.mem_nil_iff, or_false] at hu; rcases hu with rfl | rfl <;> rfl) | exact ⟨rfl, rfl⟩
              case qdc4 => unfold maxLen; omega
              case qdc5 => omega
              case qdc6 => first | exact Nat.le_trans hbw.size hb3.size | (have h1 := hbw.size; omega)
              intro v3 W3 hL4 hg3
              have hb4 : Below W1.heap.size W1 W3 := (hbw.trans (hb3.mono hbw.size)).grown hg3 (Nat.le_trans hbw.size hb3.size) (fun k hk => (hL3.lt k hk).1)
              have hRn : Rd81 W1 (.slice none 0 0) [] := ⟨none, 0, rfl, Nat.le_refl _, rfl, by simp, fun h => absurd h (by simp)⟩
              clear hg3 hL3 hb3
              go_wp2
              go_roundw
              case rel => exact ⟨L.length + 1, L.length + 1, vs ++ [.slice none 0 0], O ++ [([], 4 * x.f1.f3)], by go_num, by go_num, ⟨by simp [hv1], by rw [List.length_append, cells111_append _ _ _ _ hv1]; exact hL4, reads_append hv1 hv3 (reads_one hRn)⟩, hb4, .inr ⟨rfl, HT.out⟩⟩
              case measure => (simp [intOf]; try omega)
          · obtain rfl : c1 = L.length := by omega
            rcases Nat.eq_zero_or_pos L.length with hz | hz
            · have hT1 := HT.out
              rw [show endS L = 2 from by rw [List.eq_nil_of_length_eq_zero hz]; rfl] at hT1
              have HT := Lib.hid hT1
              have hpl : decide ((0 : Int) < (L.length : Int)) = false := decide_eq_false (by omega)
              have hpl2 : ¬ ((0 : Int) < (L.length : Int)) := by omega
              clear hT1 hz
              have hp1 : decide ((0 : Int) < ((L.length - L.length : Nat) : Int)) = false := decide_eq_false (by omega)
              obtain ⟨hv1, hv2, hv3⟩ := HO.out
              have hb3 : Below wr.heap.size wr (wr.alloc (.cells #[.slice none 0 0, .int .i64 (8)] 111)) := (Below.refl _ wr).alloc (Nat.le_refl _) _
              have hL3 := hv2.kb (KB.below (ts := []) hb3) (by simp)
              go_wp2_with (at_builtin; refine Go.Own.wpList_append_lies rfl _ _ 108 rfl W1.heap.size 111 i0 _ 2 32 Tryz.underlying108 hi hz0 hz1 hz2 rfl (by decide) _ O.length (cells111 vs O) rfl hL3 ⟨wr.heap.size, 0, none⟩ 1 1 [.slice none 0 0, .int .i64 (8)] rfl rfl ?qcc2 ?qcc3 ?qcc4 ?qcc5 ?qcc6 (by decide) ?_)
              try (case qcc2 =>
                intro k u hk
                rw [add0, cell_of_row _ _ k _ 111 (0, 0) (heap_alloc_new wr _)]
                simpa using hk)
              case qcc3 => first | (intro u hu; simp only [List.mem_cons, List.mem_nil_iff, or_false] at hu; rcases hu with rfl | rfl <;> rfl) | exact ⟨rfl, rfl⟩
              case qcc4 => unfold maxLen; omega
              case qcc5 => omega
              case qcc6 => first | exact Nat.le_trans hbw.size hb3.size | (have h1 := hbw.size; omega)
              intro v3 W3 hL4 hg3
              have hb4 : Below W1.heap.size W1 W3 := (hbw.trans (hb3.mono hbw.size)).grown hg3 (Nat.le_trans hbw.size hb3.size) (fun k hk => (hL3.lt k hk).1)
              have hRn : Rd81 W1 (.slice none 0 0) [] := ⟨none, 0, rfl, Nat.le_refl _, rfl, by simp, fun h => absurd h (by simp)⟩
              clear hg3 hL3 hb3
              go_wp2
              go_roundw
              case rel => exact ⟨L.length + 1, L.length + 1, vs ++ [.slice none 0 0], O ++ [([], 8)], by go_num, by go_num, ⟨by simp [hv1], by rw [List.length_append, cells111_append _ _ _ _ hv1]; exact hL4, reads_append hv1 hv3 (reads_one hRn)⟩, hb4, .inr ⟨rfl, HT.out⟩⟩
              case measure => (simp [intOf]; try omega)
            · have hCw := Kd.C_below hC1 hbw
              obtain ⟨ad, rfl, d0, d1, d2, d3, d4, d5⟩ := at_T81 hCw ((L.length - 1 : Nat) : Int) (by omega) (by omega)
              obtain ⟨x, hx⟩ : ∃ x, rd_T81 L ((L.length - 1 : Nat) : Int) = x := ⟨_, rfl⟩
              rw [hx] at d0 d1 d2 d3 d4 d5
              simp only [Int.toNat_natCast] at d0 d1 d2 d3 d4 d5
              have hxo := ho x (by rw [← hx]; exact rd81_mem L _ (by omega))
              have hdr := rd81_drop L (L.length - 1) (by omega)
              rw [hx, List.drop_of_length_le (i := L.length - 1 + 1) (by omega)] at hdr
              have hT1 := HT.out
              rw [endS_last hdr] at hT1
              have HT := Lib.hid hT1
              have wr4 : IntKind.i64.wrap (4 * x.f1.f3) = 4 * x.f1.f3 := IntWalk.i64_in _ (by omega)
              have wr5 : IntKind.i64.wrap ((L.length : Int) - 1) = ((L.length - 1 : Nat) : Int) := by rw [IntWalk.i64_in _ (by omega)]; omega
              have hpl : decide ((0 : Int) < (L.length : Int)) = true := decide_eq_true (by omega)
              clear hT1 hdr hx
              have hp1 : decide ((0 : Int) < ((L.length - L.length : Nat) : Int)) = false := decide_eq_false (by omega)
              obtain ⟨hv1, hv2, hv3⟩ := HO.out
              have hb3 : Below wr.heap.size wr (wr.alloc (.cells #[.slice none 0 0, .int .i64 (4 * x.f1.f3)] 111)) := (Below.refl _ wr).alloc (Nat.le_refl _) _
              have hL3 := hv2.kb (KB.below (ts := []) hb3) (by simp)
              go_wp2_with (at_builtin; refine Go.Own.wpList_append_lies rfl _ _ 108 rfl W1.heap.size 111 i0 _ 2 32 Tryz.underlying108 hi hz0 hz1 hz2 rfl (by decide) _ O.length (cells111 vs O) rfl hL3 ⟨wr.heap.size, 0, none⟩ 1 1 [.slice none 0 0, .int .i64 (4 * x.f1.f3)] rfl rfl ?qdc2 ?qdc3 ?qdc4 ?qdc5 ?qdc6 (by decide) ?_)
              try (case qdc2 =>
                intro k u hk
                rw [add0, cell_of_row _ _ k _ 111 (0, 0) (heap_alloc_new wr _)]
                simpa using hk)
              case qdc3 => first | (intro u hu; simp only [List.mem_cons, List.mem_nil_iff, or_false] at hu; rcases hu with rfl | rfl <;> rfl) | exact ⟨rfl, rfl⟩
              case qdc4 => unfold maxLen; omega
              case qdc5 => omega
              case qdc6 => first | exact Nat.le_trans hbw.size hb3.size | (have h1 := hbw.size; omega)
              intro v3 W3 hL4 hg3
              have hb4 : Below W1.heap.size W1 W3 := (hbw.trans (hb3.mono hbw.size)).grown hg3 (Nat.le_trans hbw.size hb3.size) (fun k hk => (hL3.lt k hk).1)
              have hRn : Rd81 W1 (.slice none 0 0) [] := ⟨none, 0, rfl, Nat.le_refl _, rfl, by simp, fun h => absurd h (by simp)⟩
              clear hg3 hL3 hb3
              go_wp2
              go_roundw
              case rel => exact ⟨L.length + 1, L.length + 1, vs ++ [.slice none 0 0], O ++ [([], 4 * x.f1.f3)], by go_num, by go_num, ⟨by simp [hv1], by rw [List.length_append, cells111_append _ _ _ _ hv1]; exact hL4, reads_append hv1 hv3 (reads_one hRn)⟩, hb4, .inr ⟨rfl, HT.out⟩⟩
              case measure => (simp [intOf]; try omega)
    · subst hi1
      obtain ⟨hv1, hv2, hv3⟩ := hO
      have hle : decide (((L.length + 1 : Nat) : Int) ≤ (L.length : Int)) = false := decide_eq_false (by omega)
      have hle' : decide ((L.length : Int) + 1 ≤ (L.length : Int)) = false := decide_eq_false (by omega)
      have HT := Lib.hid hT
      clear hT
      go_wp2_with fail
      go_ret
      refine ⟨_, vs, rfl, ?_, hbW.trans (hbw.mono hbW.size)⟩
      have h9 : Rows wr wr w.heap.size _ vs O := ⟨hv1, hv2.mono hbW.size, fun i u p h1 h2 => (hv3 i u p h1 h2).below hbw⟩
      rw [HT.out, ← hTe] at h9
      exact h9
end Go.Proofs.YtogidacejbjljaaGreatDoor.PTextChecks
end
section
/- Break, the program's and the reference's: the lines of a cue as rows of pieces. -/
set_option linter.unusedVariables false
set_option linter.unusedSimpArgs false
namespace Go.Own
open Go.RowKit
theorem Lies.at {w : World} {base : Nat} {e : TypeId} {size : Nat} {A : Option Addr} {n c : Nat} {xs : List Value} (h : Lies w base e size (.slice A n c) n xs) (hn : 0 < n) :
    ∃ ad, A = some ad ∧ ∀ (k i : Nat) (u : Value), xs[k + i]? = some u → (i = 0 → w.cell? (ad.add k) = some u) ∧ w.cell? ⟨(ad.add k).block, (ad.add k).off + i, none⟩ = some u := by
  rcases h.2 with ⟨_, h0⟩ | ⟨g, off, cap, cur, hv, hb, hg, hnc, hcm, hcs, ht⟩
  · omega
  · injection hv with h1 h2 h3
    subst h1
    refine ⟨_, rfl, fun k i u hu => ?_⟩
    have hadd : (⟨g, off, none⟩ : Addr).add k = ⟨g, off + k, none⟩ := by unfold Addr.add; split <;> simp_all
    rw [hadd]
    rw [← ht, List.getElem?_take] at hu
    split at hu
    · rw [List.getElem?_drop] at hu
      have h9 : w.cell? ⟨g, off + k + i, none⟩ = some u := by
        rw [← Nat.add_assoc] at hu
        simpa [World.cell?, hg] using hu
      exact ⟨fun h => by subst h; exact h9, h9⟩
    · cases hu
theorem flatMap_get {α β : Type} (f : α → List β) (sz : Nat) (hsz : ∀ x, (f x).length = sz) : ∀ (l : List α) (k i : Nat) (p : α), l[k]? = some p → i < sz → (l.flatMap f)[k * sz + i]? = (f p)[i]?
  | [], _, _, _, h, _ => by simp at h
  | x :: l, 0, i, p, h, hi => by
    obtain rfl : x = p := by simpa using h
    rw [Nat.zero_mul, Nat.zero_add, List.flatMap_cons, List.getElem?_append_left (by rw [hsz]; exact hi)]
  | x :: l, k + 1, i, p, h, hi => by
    have := flatMap_get f sz hsz l k i p (by simpa using h) hi
    rw [List.flatMap_cons, List.getElem?_append_right (by rw [hsz, Nat.succ_mul]; omega), ← this, hsz]
    congr 1
    rw [Nat.succ_mul]
    omega
end Go.Own
namespace Go.Proofs.YtogidacejbjljaaGreatDoor.PTextChecks
open Go.RowKit Go.Mix Go.Own Go.Proofs.YtogidacejbjljaaGreatDoorW.PrintWords Go.Proofs.YtogidacejbjljaaGreatDoorW.PrintLast Go.Proofs.YtogidacejbjljaaGreatDoorW.PrintMore
theorem infoPs : (Tryz.prog.info? 23).map (fun i => (i.zero, i.size, i.bytes)) = some (some (.slice none 0 0), 1, 24) := by kernel_rfl
theorem at_lines {w : World} {base : Nat} {A : Option Addr} {c : Nat} {O : List (List S81 × Int)} {vs : List Value} (h : Lies w base 107 3 (.slice A O.length c) O.length (cells107 vs O)) (hv : vs.length = O.length) (k : Nat) (hk : k < O.length) :
    ∃ ad u p, A = some ad ∧ vs[k]? = some u ∧ O[k]? = some p ∧ w.cell? (ad.add (k * 3)) = some u ∧ w.cell? ⟨(ad.add (k * 3)).block, (ad.add (k * 3)).off + 1, none⟩ = some (.int .i64 (sumW p.1 0)) ∧ w.cell? ⟨(ad.add (k * 3)).block, (ad.add (k * 3)).off + 2, none⟩ = some (.int .i64 p.2) := by
  obtain ⟨ad, rfl, hc⟩ := h.at (by omega)
  have h1 : (List.zip vs O)[k]? = some (vs[k]'(by omega), O[k]) := List.getElem?_zip_eq_some.2 ⟨List.getElem?_eq_getElem _, List.getElem?_eq_getElem _⟩
  have h2 := fun i hi => flatMap_get (fun p : Value × List S81 × Int => [p.1, .int .i64 (sumW p.2.1 0), .int .i64 p.2.2]) 3 (fun _ => rfl) _ k i _ h1 hi
  exact ⟨ad, vs[k]'(by omega), O[k], rfl, List.getElem?_eq_getElem _, List.getElem?_eq_getElem _, (hc (k * 3) 0 _ (h2 0 (by omega))).1 rfl, (hc (k * 3) 1 _ (h2 1 (by omega))).2, (hc (k * 3) 2 _ (h2 2 (by omega))).2⟩
theorem at_rows {w : World} {base : Nat} {A : Option Addr} {c : Nat} {O : List (List S81 × Int)} {vs : List Value} (h : Lies w base 111 2 (.slice A O.length c) O.length (cells111 vs O)) (hv : vs.length = O.length) (k : Nat) (hk : k < O.length) :
    ∃ ad u p, A = some ad ∧ vs[k]? = some u ∧ O[k]? = some p ∧ w.cell? (ad.add (k * 2)) = some u ∧ w.cell? ⟨(ad.add (k * 2)).block, (ad.add (k * 2)).off + 1, none⟩ = some (.int .i64 p.2) := by
  obtain ⟨ad, rfl, hc⟩ := h.at (by omega)
  have h1 : (List.zip vs O)[k]? = some (vs[k]'(by omega), O[k]) := List.getElem?_zip_eq_some.2 ⟨List.getElem?_eq_getElem _, List.getElem?_eq_getElem _⟩
  have h2 := fun i hi => flatMap_get (fun p : Value × List S81 × Int => [p.1, .int .i64 p.2.2]) 2 (fun _ => rfl) _ k i _ h1 hi
  exact ⟨ad, vs[k]'(by omega), O[k], rfl, List.getElem?_eq_getElem _, List.getElem?_eq_getElem _, (hc (k * 2) 0 _ (h2 0 (by omega))).1 rfl, (hc (k * 2) 1 _ (h2 1 (by omega))).2⟩
/-- A row of rows of pieces. -/
def Brk (w : World) (base : Nat) (v : Value) (L : List (List S42)) : Prop := ∃ vs : List Value, vs.length = L.length ∧ Lies w base 23 1 v L.length vs ∧ ∀ (i : Nat) (u : Value) (p : List S42), vs[i]? = some u → L[i]? = some p → In42 w u p
theorem Brk.nil (w : World) (base : Nat) : Brk w base (.slice none 0 0) [] := ⟨[], rfl, Lies.nil w base 23 1, fun i u p h => by simp at h⟩
theorem Brk.snoc {w w' : World} {base : Nat} {v' u : Value} {L : List (List S42)} {p : List S42} {vs : List Value} (h1 : vs.length = L.length) (h2 : ∀ (i : Nat) (u : Value) (p : List S42), vs[i]? = some u → L[i]? = some p → In42 w u p)
    (h3 : Lies w' base 23 1 v' (L.length + 1) (vs ++ [u])) (h4 : In42 w u p) (hk : KB [23] w w') : Brk w' base v' (L ++ [p]) := by
  refine ⟨vs ++ [u], by simp [h1], by rw [List.length_append]; exact h3, fun i u' q hu hq => ?_⟩
  refine Lies.kb (ts := [23]) ?_ hk (by decide)
  rcases Nat.lt_trichotomy i L.length with hi | hi | hi
  · rw [List.getElem?_append_left (by omega)] at hu
    rw [List.getElem?_append_left hi] at hq
    exact h2 i u' q hu hq
  · subst hi
    rw [← h1, List.getElem?_concat_length] at hu
    rw [List.getElem?_concat_length] at hq
    injection hu with hu
    injection hq with hq
    subst hu hq
    exact h4
  · rw [List.getElem?_eq_none (by simp; omega)] at hq
    cases hq
theorem chk_cons (q : Option S40) (x : S42) (l : List S42) : ∃ B : Bool, (B = false → styB x.f1 = true) ∧ chk q (x :: l) = bif !isTextB x.f0 then 4 else bif B then 180 else chk (some x.f1) l := by
  refine ⟨_, ?_, rfl⟩
  intro h
  simp only [Bool.or_eq_false_iff, Bool.not_eq_false'] at h
  unfold styB
  rw [h.1.1, h.1.2]
  rfl
theorem chk_ok : ∀ (l : List S42) (q : Option S40), chk q l = 0 → ∀ p ∈ l, isTextB p.f0 = true ∧ styB p.f1 = true
  | [], _, _ => fun p hp => by simp at hp
  | x :: l, q, h => by
    obtain ⟨B, hB, he⟩ := chk_cons q x l
    rw [he] at h
    cases h1 : isTextB x.f0
    · rw [h1] at h; simp at h
    · rw [h1] at h
      cases B
      · intro p hp
        rcases List.mem_cons.1 hp with rfl | hp
        · exact ⟨h1, hB rfl⟩
        · exact chk_ok l _ h p hp
      · simp at h
theorem checkS_ok {a b c : Int} {l : List S42} (h : checkS a b c l = 0) : headB a b c = true ∧ l.length ≤ 100 ∧ wordsLen l ≤ 2000 ∧ ∀ p ∈ l, isTextB p.f0 = true ∧ styB p.f1 = true := by
  unfold checkS at h
  cases h1 : headB a b c
  · rw [h1] at h; simp at h
  · rw [h1] at h
    cases h2 : (decide (100 < l.length) || (decide (2000 < wordsLen l) || decide (20 < nlf (bs (wordsOf l)) + 1)))
    · rw [h2] at h
      simp only [Bool.or_eq_false_iff, decide_eq_false_iff_not] at h2
      exact ⟨rfl, by omega, by omega, chk_ok l none h⟩
    · rw [h2] at h; simp at h
/-- The lines of a cue, or its error. -/
def brkE (a b c : Int) (l : List S42) (canvas : Int) : Int :=
  if checkS a b c l = 0 then (if inB canvas 1 1000 then (if 400 < (linesS (roomS c canvas) (lettersOf l)).length then 2 else 0) else 1) else checkS a b c l
def brkL (a b c : Int) (l : List S42) (canvas : Int) : List (List S42) :=
  if brkE a b c l canvas = 0 then (linesS (roomS c canvas) (lettersOf l)).map fun p => piecesS p.1 else []
def BrkPost (a b c : Int) (l : List S42) (canvas : Int) (w : World) (e : Ending) (w' : World) : Prop :=
  ∃ v, e = .returned (.tuple #[v, .int .i64 (brkE a b c l canvas)]) ∧ Brk w' w.heap.size v (brkL a b c l canvas) ∧ Below w.heap.size w w'
theorem within_calls' (a lo hi : Int) (w : World) : Calls Tryz.prog 57 #[.int .i64 a, .int .i64 lo, .int .i64 hi] w fun e w' => e = .returned (.bool (inB a lo hi)) ∧ w' = w := by
  unfold inB
  by_cases h : lo ≤ a
  · have hd : decide (lo ≤ a) = true := decide_eq_true h
    go_enter Tryz.func57, Tryz.ntmps57
    go_wp2
    go_ret
    simp [h]
  · have hd : decide (lo ≤ a) = false := decide_eq_false h
    go_enter Tryz.func57, Tryz.ntmps57
    go_wp2
    go_ret
    simp [h]
theorem brk_bad {a b c : Int} {l : List S42} {canvas : Int} (h : checkS a b c l ≠ 0) : brkE a b c l canvas = checkS a b c l ∧ brkL a b c l canvas = [] := by
  have h1 : brkE a b c l canvas = checkS a b c l := by unfold brkE; rw [if_neg h]
  exact ⟨h1, by unfold brkL; rw [h1, if_neg h]⟩
theorem brk_range {a b c : Int} {l : List S42} {canvas : Int} (h : checkS a b c l = 0) (h1 : inB canvas 1 1000 = false) : brkE a b c l canvas = 1 ∧ brkL a b c l canvas = [] := by
  have h2 : brkE a b c l canvas = 1 := by unfold brkE; rw [if_pos h, h1]; rfl
  exact ⟨h2, by unfold brkL; rw [h2]; rfl⟩
theorem brk_limit {a b c : Int} {l : List S42} {canvas : Int} (h : checkS a b c l = 0) (h1 : inB canvas 1 1000 = true) (h2 : 400 < (linesS (roomS c canvas) (lettersOf l)).length) : brkE a b c l canvas = 2 ∧ brkL a b c l canvas = [] := by
  have h2 : brkE a b c l canvas = 2 := by unfold brkE; rw [if_pos h, h1, if_pos rfl, if_pos h2]
  exact ⟨h2, by unfold brkL; rw [h2]; rfl⟩
theorem brk_good {a b c : Int} {l : List S42} {canvas : Int} (h : checkS a b c l = 0) (h1 : inB canvas 1 1000 = true) (h2 : ¬ 400 < (linesS (roomS c canvas) (lettersOf l)).length) : brkE a b c l canvas = 0 ∧ brkL a b c l canvas = (linesS (roomS c canvas) (lettersOf l)).map fun p => piecesS p.1 := by
  have h2 : brkE a b c l canvas = 0 := by unfold brkE; rw [if_pos h, h1, if_pos rfl, if_neg h2]
  exact ⟨h2, by unfold brkL; rw [if_pos h2]⟩
theorem inB_true {a lo hi : Int} (h : inB a lo hi = true) : lo ≤ a ∧ a ≤ hi := by
  unfold inB at h
  rw [Bool.and_eq_true, decide_eq_true_iff, decide_eq_true_iff] at h
  exact h
theorem headB_margin {a b c : Int} (h : headB a b c = true) : 0 ≤ c ∧ c ≤ 100 := by
  unfold headB at h
  rw [Bool.and_eq_true, Bool.and_eq_true] at h
  exact inB_true h.2.2
theorem lettersOf_ok {l : List S42} (hok : ∀ p ∈ l, isTextB p.f0 = true ∧ styB p.f1 = true) : Okl (lettersOf l) := okl_letters hok
set_option maxHeartbeats 2000000 in
set_option maxRecDepth 100000 in
theorem tBreak_calls (a b c : Int) (A : Option Addr) (cap : Nat) (l : List S42) (canvas : Int) (w : World) (hr : Kd.C k42 w A l.length l) (hc : l.length ≤ cap) (hf : Fit l) :
    Calls Tryz.prog 35 #[.agg #[.int .i64 a, .int .i64 b, .int .i64 c, .slice A l.length cap], .int .i64 canvas] w (BrkPost a b c l canvas w) := by
  unfold BrkPost
  obtain ⟨i0, hi, hii⟩ := Option.map_eq_some_iff.1 infoPs
  simp only [Prod.mk.injEq] at hii
  obtain ⟨hz0, hz1, hz2⟩ := hii
  have cC := fun X h => tCheck_calls a b c A cap l X h hc hf
  have cI := fun X => within_calls' canvas 1 1000 X
  obtain ⟨ec, hec⟩ : ∃ ec, checkS a b c l = ec := ⟨_, rfl⟩
  rw [hec] at cC
  go_enter Tryz.func35, Tryz.ntmps35
  cases hc0 : (ec != 0)
  case true =>
    have hne : checkS a b c l ≠ 0 := by rw [hec]; simpa using hc0
    obtain ⟨hE, hL⟩ := brk_bad (canvas := canvas) hne
    rw [hec] at hE
    have HE := Lib.hid hE
    have HL := Lib.hid hL
    clear hE hL hne
    go_wp2_with (go_at_call 25; refine (cC _ (Kd.C_alloc hr _)).mono ?_; rintro e W1 ⟨rfl, hb1⟩)
    go_ret2
    exact ⟨_, by rw [HE.out]; rfl, by rw [HL.out]; exact Brk.nil _ _, ((Below.refl _ w).alloc (Nat.le_refl _) _).trans (hb1.mono (by simp))⟩
  case false =>
    have hz : checkS a b c l = 0 := by rw [hec]; simpa using hc0
    obtain ⟨hhd, hl, hw, hok⟩ := checkS_ok hz
    have hmg := headB_margin hhd
    have HZ := Lib.hid hz
    clear hz
    cases hin : inB canvas 1 1000
    case false =>
      obtain ⟨hE, hL⟩ := brk_range HZ.out hin
      have HE := Lib.hid hE
      have HL := Lib.hid hL
      clear hE hL
      rw [hin] at cI
      go_wp2_with (first | (go_at_call 25; refine (cC _ (Kd.C_alloc hr _)).mono ?_; rintro e W1 ⟨rfl, hb1⟩) | (go_at_call 57; refine (cI _).mono ?_; rintro e W2 ⟨rfl, rfl⟩))
      go_ret2
      exact ⟨_, by rw [HE.out]; rfl, by rw [HL.out]; exact Brk.nil _ _, ((Below.refl _ w).alloc (Nat.le_refl _) _).trans (hb1.mono (by simp))⟩
    case true =>
      rw [hin] at cI
      have hcv := inB_true hin
      have cB := fun X h => broken_calls a b c A cap l canvas X h hc hl hw hok hmg hcv
      obtain ⟨O, hO⟩ : ∃ O, linesS (roomS c canvas) (lettersOf l) = O := ⟨_, rfl⟩
      have hOl : O.length ≤ 5000 := by rw [← hO]; have := linesS_len (roomS c canvas) (lettersOf l); rw [lettersOf_length] at this; omega
      rw [hO] at cB
      cases h4 : decide ((400 : Int) < (O.length : Int))
      case true =>
        obtain ⟨hE, hL⟩ := brk_limit HZ.out hin (by rw [hO]; have := of_decide_eq_true h4; omega)
        have HE := Lib.hid hE
        have HL := Lib.hid hL
        clear hE hL
        go_wp2_with (first | (go_at_call 25; refine (cC _ (Kd.C_alloc hr _)).mono ?_; rintro e W1 ⟨rfl, hb1⟩; obtain ⟨k0, k1, k2, k3⟩ := box4 hb1; have hr1 := Kd.C_below (Kd.C_alloc hr _) hb1) | (go_at_call 57; refine (cI _).mono ?_; rintro e W2 ⟨rfl, rfl⟩) | (go_at_call 74; refine (cB _ hr1).mono ?_; rintro e W3 ⟨v3, rfl, ⟨vs, hv1, hv2, hv3⟩, hb3⟩; obtain ⟨A3, c3, rfl, hle3⟩ := hv2.form))
        go_ret2
        exact ⟨_, by rw [HE.out]; rfl, by rw [HL.out]; exact Brk.nil _ _, (((Below.refl _ w).alloc (Nat.le_refl _) _).trans (hb1.mono (by simp))).trans (hb3.mono (by have := hb1.size; simp at this; omega))⟩
      case false =>
        obtain ⟨hE, hL⟩ := brk_good HZ.out hin (by rw [hO]; have := of_decide_eq_false h4; omega)
        rw [hO] at hL
        have HE := Lib.hid hE
        have HL := Lib.hid hL
        clear hE hL hO
        go_wp2_with (first | (go_at_call 25; refine (cC _ (Kd.C_alloc hr _)).mono ?_; rintro e W1 ⟨rfl, hb1⟩; obtain ⟨k0, k1, k2, k3⟩ := box4 hb1; have hr1 := Kd.C_below (Kd.C_alloc hr _) hb1) | (go_at_call 57; refine (cI _).mono ?_; rintro e W2 ⟨rfl, rfl⟩) | (go_at_call 74; refine (cB _ hr1).mono ?_; rintro e W3 ⟨v3, rfl, ⟨vs, hv1, hv2, hv3⟩, hb3⟩; obtain ⟨A3, c3, rfl, hle3⟩ := hv2.form))
        have hbw3 : Below w.heap.size w W3 := (((Below.refl _ w).alloc (Nat.le_refl _) _).trans (hb1.mono (by simp))).trans (hb3.mono (by have := hb1.size; simp at this; omega))
        clear hb1 hb3 cC cI cB k0 k1 k2 k3 hr1 hr
        go_loopw [8, 27] (fun vo i wr => ∃ n : Nat, n ≤ O.length ∧ i = .int .i64 n ∧ Brk wr W3.heap.size vo ((O.take n).map fun p => piecesS p.1) ∧ KB [23] W3 wr ∧ Below W3.heap.size W3 wr) (fun _ i _ => O.length - (intOf i).toNat)
        case atStart => exact ⟨0, by omega, rfl, Brk.nil _ _, KB.refl _ _, Below.refl _ _⟩
        case round =>
          obtain ⟨n, hn, rfl, hB, hkb, hbw⟩ := hrel
          by_cases hlt : n < O.length
          · obtain ⟨ad, u, p, rfl, hu, hp, d0, d1, d2⟩ := at_lines (hv2.kb hkb (by decide)) hv1 n hlt
            have hIn := (hv3 n u p hu hp).kb hkb (by decide)
            obtain ⟨Au, cu, rfl, hcu⟩ := hIn.form
            have hmap : ((O.take (n + 1)).map fun p => piecesS p.1) = ((O.take n).map fun p => piecesS p.1) ++ [piecesS p.1] := by
              rw [List.take_succ_eq_append_getElem hlt, List.map_append, List.getElem?_eq_getElem hlt] at *
              rw [Option.some.inj hp]
              rfl
            have hml : ((O.take n).map fun p => piecesS p.1).length = n := by rw [List.length_map, List.length_take]; omega
            obtain ⟨vs2, hw1, hw2, hw3⟩ := hB
            rw [hml] at hw1 hw2
            generalize sumW p.1 0 = su at d1
            generalize p.2 = hg at d2
            generalize hpl : (piecesS p.1).length = pl at *
            have wr1 : IntKind.i64.wrap ((n : Int) + 1) = (n : Int) + 1 := IntWalk.i64_in _ (by omega)
            have HM := Lib.hid hmap
            clear hmap hp hu
            have hb2 : Below wr.heap.size wr ((wr.alloc (.cells #[.slice Au pl cu, .int .i64 su, .int .i64 hg] 107)).alloc (.cells #[.slice Au pl cu] 23)) := ((Below.refl _ wr).alloc (Nat.le_refl _) _).alloc (by simp) _
            have hL3 := hw2.kb (KB.below (ts := []) hb2) (by simp)
            go_wp2_with (at_builtin; refine Go.Own.wpList_append_lies rfl _ _ 48 rfl W3.heap.size 23 i0 _ 1 24 Tryz.underlying48 hi hz0 hz1 hz2 rfl (by decide) _ n vs2 rfl hL3 ⟨wr.heap.size + 1, 0, none⟩ 1 1 [.slice Au pl cu] rfl rfl ?qc2 ?qc3 ?qc4 ?qc5 ?qc6 (by decide) ?_)
            case qc2 =>
              intro k u hk
              rw [add0, newcell2 wr _ #[.slice Au pl cu] 23 k u (by simpa using hk)]
            case qc3 => intro u hu; simp only [List.mem_cons, List.mem_nil_iff, or_false] at hu; rcases hu with rfl; rfl
            case qc4 => unfold maxLen; omega
            case qc5 => omega
            case qc6 => exact Nat.le_trans hbw.size hb2.size
            intro v5 W5 hL5 hg5
            have hk5 : KB [23] wr W5 := (KB.below hb2).trans (KB.grown hg5 fun k hk => by obtain ⟨_, _, cu, hc⟩ := hL3.lt k hk; exact ⟨cu, 23, by simp, hc⟩)
            have hb5 : Below W3.heap.size W3 W5 := (hbw.trans (hb2.mono hbw.size)).grown hg5 (Nat.le_trans hbw.size hb2.size) (fun k hk => (hL3.lt k hk).1)
            clear hg5 hL3 hb2
            go_wp2
            go_roundw
            case rel => exact ⟨n + 1, by omega, by go_num, by rw [HM.out]; exact Brk.snoc (w := wr) (by rw [hml]; exact hw1) hw3 (by rw [hml]; exact hL5) (by subst hpl; exact hIn) hk5, hkb.trans hk5, hb5⟩
            case measure => (simp [intOf]; try omega)
          · obtain rfl : n = O.length := by omega
            rw [List.take_length] at hB
            have HB := Lib.hid hB
            clear hB
            go_wp2_with fail
            go_ret2
            refine ⟨_, by rw [HE.out]; rfl, ?_, hbw3.trans (hbw.mono hbw3.size)⟩
            rw [HL.out]
            obtain ⟨vs2, hw1, hw2, hw3⟩ := HB.out
            exact ⟨vs2, hw1, hw2.mono hbw3.size, hw3⟩
end Go.Proofs.YtogidacejbjljaaGreatDoor.PTextChecks
end
section
/- The reference's Break. -/
set_option linter.unusedVariables false
set_option linter.unusedSimpArgs false
namespace Go.Proofs.YtogidacejbjljaaGreatDoor.PTextChecks
open Go.RowKit Go.Mix Go.Own Go.Proofs.YtogidacejbjljaaGreatDoorW.PrintWords Go.Proofs.YtogidacejbjljaaGreatDoorW.PrintLast Go.Proofs.YtogidacejbjljaaGreatDoorW.PrintMore
theorem brkF_in (room : Int) : ∀ (k : Nat) (l : List S81), ∀ r ∈ brkF room k l, (∀ x ∈ r, x ∈ l) ∧ r.length ≤ l.length
  | 0, _ => fun r hr => by simp [brkF] at hr
  | k + 1, l => fun r hr => by
    unfold brkF at hr
    split at hr
    · simp at hr
    · rcases List.mem_cons.1 hr with rfl | hr
      · exact ⟨fun x hx => List.mem_of_mem_take hx, by rw [List.length_take]; omega⟩
      · obtain ⟨h1, h2⟩ := brkF_in room k _ r hr
        exact ⟨fun x hx => List.mem_of_mem_drop (h1 x hx), by rw [List.length_drop] at h2; omega⟩
theorem flushS_in (room : Int) (l : List S81) (sz : Int) : ∀ p ∈ flushS room l sz, (∀ x ∈ p.1, x ∈ l) ∧ p.1.length ≤ l.length := by
  intro p hp
  unfold flushS at hp
  split at hp
  · obtain rfl := List.mem_singleton.1 hp
    exact ⟨fun x hx => by simp at hx, by simp⟩
  · obtain ⟨r, hr, rfl⟩ := List.mem_map.1 hp
    exact brkF_in room _ l r hr
theorem restS_in (room : Int) : ∀ (l cur : List S81) (sz : Int), ∀ p ∈ restS room l cur sz, (∀ x ∈ p.1, x ∈ cur ∨ x ∈ l) ∧ p.1.length ≤ cur.length + l.length
  | [], cur, sz => fun p hp => by
    rw [restS_nil] at hp
    obtain ⟨h1, h2⟩ := flushS_in room cur sz p hp
    exact ⟨fun x hx => .inl (h1 x hx), by simpa using h2⟩
  | y :: r, cur, sz => fun p hp => by
    by_cases h : y.f0 = 10
    · rw [restS_nl room y r cur sz h] at hp
      rcases List.mem_append.1 hp with hp | hp
      · obtain ⟨h1, h2⟩ := flushS_in room cur y.f1.f3 p hp
        exact ⟨fun x hx => .inl (h1 x hx), by omega⟩
      · obtain ⟨h1, h2⟩ := restS_in room r [] y.f1.f3 p hp
        exact ⟨fun x hx => by rcases h1 x hx with h | h; · simp at h
                              · exact .inr (List.mem_cons_of_mem _ h), by simp only [List.length_nil, List.length_cons] at h2 ⊢; omega⟩
    · rw [restS_no room y r cur sz h] at hp
      obtain ⟨h1, h2⟩ := restS_in room r (cur ++ [y]) y.f1.f3 p hp
      refine ⟨fun x hx => ?_, by simp only [List.length_append, List.length_cons, List.length_nil] at h2 ⊢; omega⟩
      rcases h1 x hx with h | h
      · rcases List.mem_append.1 h with h | h
        · exact .inl h
        · obtain rfl := List.mem_singleton.1 h
          exact .inr (List.mem_cons_self ..)
      · exact .inr (List.mem_cons_of_mem _ h)
theorem linesS_in (room : Int) (l : List S81) : ∀ p ∈ linesS room l, (∀ x ∈ p.1, x ∈ l) ∧ p.1.length ≤ l.length := by
  intro p hp
  obtain ⟨h1, h2⟩ := restS_in room l [] 2 p hp
  exact ⟨fun x hx => by rcases h1 x hx with h | h; · simp at h
                        · exact h, by simpa using h2⟩
set_option maxHeartbeats 2000000 in
set_option maxRecDepth 100000 in
theorem rBreak_calls (a b c : Int) (A : Option Addr) (cap : Nat) (l : List S42) (canvas : Int) (w : World) (hr : Kd.C k42 w A l.length l) (hc : l.length ≤ cap) (hf : Fit l) :
    Calls Tryz.prog 36 #[.agg #[.int .i64 a, .int .i64 b, .int .i64 c, .slice A l.length cap], .int .i64 canvas] w (BrkPost a b c l canvas w) := by
  unfold BrkPost
  obtain ⟨i0, hi, hii⟩ := Option.map_eq_some_iff.1 infoPs
  simp only [Prod.mk.injEq] at hii
  obtain ⟨hz0, hz1, hz2⟩ := hii
  have cC := fun X h => rCheck_calls a b c A cap l X h hc hf
  have cI := fun X => in_calls' canvas 1 1000 X
  obtain ⟨ec, hec⟩ : ∃ ec, checkS a b c l = ec := ⟨_, rfl⟩
  rw [hec] at cC
  go_enter Tryz.func36, Tryz.ntmps36
  cases hc0 : (ec != 0)
  case true =>
    have hne : checkS a b c l ≠ 0 := by rw [hec]; simpa using hc0
    obtain ⟨hE, hL⟩ := brk_bad (canvas := canvas) hne
    rw [hec] at hE
    have HE := Lib.hid hE
    have HL := Lib.hid hL
    clear hE hL hne
    go_wp2_with (go_at_call 26; refine (cC _ (Kd.C_alloc hr _)).mono ?_; rintro e W1 ⟨rfl, hb1⟩)
    go_ret2
    exact ⟨_, by rw [HE.out]; rfl, by rw [HL.out]; exact Brk.nil _ _, ((Below.refl _ w).alloc (Nat.le_refl _) _).trans (hb1.mono (by simp))⟩
  case false =>
    have hz : checkS a b c l = 0 := by rw [hec]; simpa using hc0
    obtain ⟨hhd, hl, hw, hok⟩ := checkS_ok hz
    have hmg := headB_margin hhd
    have HZ := Lib.hid hz
    clear hz
    cases hin : inB canvas 1 1000
    case false =>
      obtain ⟨hE, hL⟩ := brk_range HZ.out hin
      have HE := Lib.hid hE
      have HL := Lib.hid hL
      clear hE hL
      rw [hin] at cI
      go_wp2_with (first | (go_at_call 26; refine (cC _ (Kd.C_alloc hr _)).mono ?_; rintro e W1 ⟨rfl, hb1⟩) | (go_at_call 51; refine (cI _).mono ?_; rintro e W2 ⟨rfl, rfl⟩))
      go_ret2
      exact ⟨_, by rw [HE.out]; rfl, by rw [HL.out]; exact Brk.nil _ _, ((Below.refl _ w).alloc (Nat.le_refl _) _).trans (hb1.mono (by simp))⟩
    case true =>
      rw [hin] at cI
      have hcv := inB_true hin
      have cB := fun X h => rrows_calls a b c A cap l canvas X h hc hl hw hok hmg hcv
      have hlin := linesS_in (roomS c canvas) (lettersOf l)
      obtain ⟨O, hO⟩ : ∃ O, linesS (roomS c canvas) (lettersOf l) = O := ⟨_, rfl⟩
      have hOl : O.length ≤ 5000 := by rw [← hO]; have := linesS_len (roomS c canvas) (lettersOf l); rw [lettersOf_length] at this; omega
      rw [hO] at cB hlin
      have hbyt : ∀ p ∈ O, Byt p.1 ∧ p.1.length ≤ 2000 := fun p hp => ⟨fun x hx => (lettersOf_ok hok).byt x ((hlin p hp).1 x hx), by have := (hlin p hp).2; rw [lettersOf_length] at this; omega⟩
      clear hlin
      cases h4 : decide ((400 : Int) < (O.length : Int))
      case true =>
        obtain ⟨hE, hL⟩ := brk_limit HZ.out hin (by rw [hO]; have := of_decide_eq_true h4; omega)
        have HE := Lib.hid hE
        have HL := Lib.hid hL
        clear hE hL
        go_wp2_with (first | (go_at_call 26; refine (cC _ (Kd.C_alloc hr _)).mono ?_; rintro e W1 ⟨rfl, hb1⟩; obtain ⟨k0, k1, k2, k3⟩ := box4 hb1; have hr1 := Kd.C_below (Kd.C_alloc hr _) hb1) | (go_at_call 51; refine (cI _).mono ?_; rintro e W2 ⟨rfl, rfl⟩) | (go_at_call 75; refine (cB _ hr1).mono ?_; rintro e W3 ⟨v3, vs, rfl, ⟨hv1, hv2, hv3⟩, hb3⟩; obtain ⟨A3, c3, rfl, hle3⟩ := hv2.form))
        go_ret2
        exact ⟨_, by rw [HE.out]; rfl, by rw [HL.out]; exact Brk.nil _ _, (((Below.refl _ w).alloc (Nat.le_refl _) _).trans (hb1.mono (by simp))).trans (hb3.mono (by have := hb1.size; simp at this; omega))⟩
      case false =>
        obtain ⟨hE, hL⟩ := brk_good HZ.out hin (by rw [hO]; have := of_decide_eq_false h4; omega)
        rw [hO] at hL
        have HE := Lib.hid hE
        have HL := Lib.hid hL
        clear hE hL hO
        go_wp2_with (first | (go_at_call 26; refine (cC _ (Kd.C_alloc hr _)).mono ?_; rintro e W1 ⟨rfl, hb1⟩; obtain ⟨k0, k1, k2, k3⟩ := box4 hb1; have hr1 := Kd.C_below (Kd.C_alloc hr _) hb1) | (go_at_call 51; refine (cI _).mono ?_; rintro e W2 ⟨rfl, rfl⟩) | (go_at_call 75; refine (cB _ hr1).mono ?_; rintro e W3 ⟨v3, vs, rfl, ⟨hv1, hv2, hv3⟩, hb3⟩; obtain ⟨A3, c3, rfl, hle3⟩ := hv2.form))
        have hbw3 : Below w.heap.size w W3 := (((Below.refl _ w).alloc (Nat.le_refl _) _).trans (hb1.mono (by simp))).trans (hb3.mono (by have := hb1.size; simp at this; omega))
        clear hb1 hb3 cC cI cB k0 k1 k2 k3 hr1 hr
        go_loopw [8, 9] (fun vo i wr => ∃ n : Nat, n ≤ O.length ∧ i = .int .i64 n ∧ Brk wr W3.heap.size vo ((O.take n).map fun p => piecesS p.1) ∧ Below W3.heap.size W3 wr) (fun _ i _ => O.length - (intOf i).toNat)
        case atStart => exact ⟨0, by omega, rfl, Brk.nil _ _, Below.refl _ _⟩
        case round =>
          obtain ⟨n, hn, rfl, hB, hbw⟩ := hrel
          by_cases hlt : n < O.length
          · obtain ⟨ad, u, p, rfl, hu, hp, d0, d1⟩ := at_rows (hv2.kb (KB.below (ts := []) hbw) (by simp)) hv1 n hlt
            obtain ⟨Au, cu, rfl, hcu, hC⟩ := hv3 n u p hu hp
            obtain ⟨hpb, hpl⟩ := hbyt p (List.mem_of_getElem? hp)
            have cP := fun X h => pieces_owns Au cu p.1 X h (by omega) hpb
            have hmap : ((O.take (n + 1)).map fun p => piecesS p.1) = ((O.take n).map fun p => piecesS p.1) ++ [piecesS p.1] := by
              rw [List.take_succ_eq_append_getElem hlt, List.map_append, List.getElem?_eq_getElem hlt] at *
              rw [Option.some.inj hp]
              rfl
            have hml : ((O.take n).map fun p => piecesS p.1).length = n := by rw [List.length_map, List.length_take]; omega
            obtain ⟨vs2, hw1, hw2, hw3⟩ := hB
            rw [hml] at hw1 hw2
            generalize p.2 = hg at d1
            have wr1 : IntKind.i64.wrap ((n : Int) + 1) = (n : Int) + 1 := IntWalk.i64_in _ (by omega)
            have HM := Lib.hid hmap
            have HP := Lib.hid hml
            clear hmap hp hu hml
            have hCw := Kd.C_below hC hbw
            go_wp2_with (first | (go_at_call 52; refine (cP _ hCw).mono ?_; rintro e W4 ⟨v4, rfl, hown4, hb4⟩; have hIn : In42 W4 v4 (piecesS p.1) := (Lies.of_owns hown4).mono (Nat.zero_le _); obtain ⟨A4, c4, rfl, hle4⟩ := hIn.form; generalize hpn : (piecesS p.1).length = pl at hle4 ⊢; have hb5 : Below wr.heap.size wr (W4.alloc (.cells #[.slice A4 pl c4] 23)) := hb4.alloc hb4.size _; have hL3 := hw2.kb (KB.below (ts := []) hb5) (by simp)) | (at_builtin; refine Go.Own.wpList_append_lies rfl _ _ 48 rfl W3.heap.size 23 i0 _ 1 24 Tryz.underlying48 hi hz0 hz1 hz2 rfl (by decide) _ n vs2 rfl hL3 ⟨W4.heap.size, 0, none⟩ 1 1 [.slice A4 pl c4] rfl rfl ?qc2 ?qc3 ?qc4 ?qc5 ?qc6 (by decide) ?_))
            case qc2 =>
              intro k u hk
              rw [add0, cell_of_row _ _ k _ 23 (0, 0) (heap_alloc_new W4 _)]
              simpa using hk
            case qc3 => intro u hu; simp only [List.mem_cons, List.mem_nil_iff, or_false] at hu; rcases hu with rfl; rfl
            case qc4 => unfold maxLen; omega
            case qc5 => omega
            case qc6 => exact Nat.le_trans hbw.size hb5.size
            intro v5 W5 hL5 hg5
            have hb6 : Below W3.heap.size W3 W5 := (hbw.trans (hb5.mono hbw.size)).grown hg5 (Nat.le_trans hbw.size hb5.size) (fun k hk => (hL3.lt k hk).1)
            have hk5 : KB [23] W4 W5 := (KB.below ((Below.refl _ W4).alloc (Nat.le_refl _) _)).trans (KB.grown hg5 fun k hk => by obtain ⟨_, _, cu, hc⟩ := hL3.lt k hk; exact ⟨cu, 23, by simp, hc⟩)
            have hw3' : ∀ (i : Nat) (u : Value) (q : List S42), vs2[i]? = some u → ((O.take n).map fun p => piecesS p.1)[i]? = some q → In42 W4 u q := fun i u q h1 h2 => (hw3 i u q h1 h2).kb (KB.below (ts := []) hb4) (by simp)
            clear hg5 hL3 hb5 hb4 hown4
            go_wp2
            go_roundw
            case rel => exact ⟨n + 1, by omega, by go_num, by rw [HM.out]; exact Brk.snoc (w := W4) (by rw [HP.out]; exact hw1) hw3' (by rw [HP.out]; exact hL5) (by subst hpn; exact hIn) hk5, hb6⟩
            case measure => (simp [intOf]; try omega)
          · obtain rfl : n = O.length := by omega
            rw [List.take_length] at hB
            have HB := Lib.hid hB
            clear hB
            go_wp2_with fail
            go_ret2
            refine ⟨_, by rw [HE.out]; rfl, ?_, hbw3.trans (hbw.mono hbw3.size)⟩
            rw [HL.out]
            obtain ⟨vs2, hw1, hw2, hw3⟩ := HB.out
            exact ⟨vs2, hw1, hw2.mono hbw3.size, hw3⟩
end Go.Proofs.YtogidacejbjljaaGreatDoor.PTextChecks
end
section
/- TextChecks' own function (7), by hand. -/
set_option linter.unusedVariables false
set_option linter.unusedSimpArgs false
namespace Go.Proofs.YtogidacejbjljaaGreatDoor.PTextChecks
open Go.RowKit Go.Mix Go.Proofs.YtogidacejbjljaaGreatDoorW.PrintWords Go.Proofs.YtogidacejbjljaaGreatDoorW.PrintLast Go.Proofs.YtogidacejbjljaaGreatDoorW.PrintMore
theorem eqp_self {l : List S42} (hl : l.length ≤ 140737488351232) : ∀ (d i k : Nat), i + d = l.length → d < k → r18_EqPieces.l0 k l l (i : Int) = some true := by
  intro d
  induction d with
  | zero =>
    intro i k hi hk
    obtain ⟨k, rfl⟩ : ∃ m, k = m + 1 := ⟨k - 1, by omega⟩
    unfold r18_EqPieces.l0
    rw [if_neg (by omega)]
  | succ d ih =>
    intro i k hi hk
    obtain ⟨k, rfl⟩ : ∃ m, k = m + 1 := ⟨k - 1, by omega⟩
    have hlt : i < l.length := by omega
    unfold r18_EqPieces.l0
    rw [if_pos (by omega), if_pos (by omega), if_pos (by omega), if_neg (by simp), wsucc hlt (by omega)]
    exact ih (i + 1) k (by omega) (by omega)
theorem same_self (a b c : Int) {l : List S42} (hl : l.length ≤ 140737488351232) : r18_Same.f (l.length + 1) a b c l a b c l = some true := by
  unfold r18_Same.f r18_EqPieces.f
  rw [if_pos rfl, if_pos rfl, if_pos rfl, if_pos rfl]
  rw [show (0 : Int) = ((0 : Nat) : Int) from rfl, eqp_self hl l.length 0 _ (by omega) (by omega)]
  rfl
theorem wordsLen_le {l : List S42} {B : Nat} : (∀ p ∈ l, p.f0.size ≤ B) → wordsLen l ≤ l.length * B := by
  induction l with
  | nil => intro _; simp [wordsLen]
  | cons p l ih =>
    intro h
    have h1 := h p (List.mem_cons_self ..)
    have h2 := ih fun q hq => h q (List.mem_cons_of_mem _ hq)
    simp only [wordsLen, List.map_cons, List.sum_cons, List.length_cons] at h2 ⊢
    rw [Nat.succ_mul]
    omega
def longB (l : List S42) : Bool := decide (400 < l.length) || decide (10000 < wordsLen l)
theorem long_run {l : List S42} (h : ∀ p ∈ l, p.f0.size ≤ 140737488351232) (a b c : Int) : w18_long.f (l.length + 1) a b c l = some (longB l) := by
  unfold w18_long.f longB
  by_cases hl : (l.length : Int) > 400
  · rw [if_pos hl, decide_eq_true (by omega)]; rfl
  · have h1 := wordsLen_le h
    have h2 : l.length * 140737488351232 ≤ 400 * 140737488351232 := Nat.mul_le_mul (by omega) (Nat.le_refl _)
    rw [if_neg hl, rWords_big (by omega) (by omega) a b c _ (by omega), decide_eq_false (p := 400 < l.length) (by omega)]
    simp only [Option.bind_some, wordsOf_size, Bool.false_or]
    congr 1
    rw [Bool.eq_iff_iff, decide_eq_true_iff, decide_eq_true_iff]
    omega
theorem Ext.at {W : World} (x : Ext W) {a : Addr} {v : Value} (h : W.cell? a = some v) : x.w.cell? a = some v := cell_later x.2 h
def LRel (w1 : World) (wr : World) : Prop := Below w1.heap.size w1 wr
end Go.Proofs.YtogidacejbjljaaGreatDoor.PTextChecks
end
section
/- TextBreaks' own function (8). -/
set_option linter.unusedVariables false
set_option linter.unusedSimpArgs false
namespace Go.Proofs.YtogidacejbjljaaGreatDoor.PTextChecks
open Go.RowKit Go.Mix Go.Own Go.Proofs.YtogidacejbjljaaGreatDoorW.PrintWords Go.Proofs.YtogidacejbjljaaGreatDoorW.PrintLast Go.Proofs.YtogidacejbjljaaGreatDoorW.PrintMore
theorem at_brk {w : World} {base : Nat} {A : Option Addr} {c : Nat} {L : List (List S42)} (h : Brk w base (.slice A L.length c) L) (k : Nat) (hk : k < L.length) (hL : ∀ p ∈ L, p.length ≤ 9223372036854775807) :
    ∃ ad p Au cu, A = some ad ∧ L[k]? = some p ∧ w.cell? (ad.add k) = some (.slice Au p.length cu) ∧ p.length ≤ cu ∧ Kd.C k42 w Au p.length p := by
  obtain ⟨vs, h1, h2, h3⟩ := h
  obtain ⟨ad, rfl, hc⟩ := h2.at (by omega)
  have hp : L[k]? = some L[k] := List.getElem?_eq_getElem _
  have hu : vs[k]? = some (vs[k]'(by omega)) := List.getElem?_eq_getElem _
  obtain ⟨Au, cu, e, hle, hC⟩ := (h3 k _ _ hu hp).reads (hL _ (List.getElem_mem _))
  exact ⟨ad, L[k], Au, cu, rfl, hp, by rw [← e]; exact (hc k 0 _ hu).1 rfl, hle, hC⟩
theorem brkL_small {a b c : Int} {l : List S42} {canvas : Int} (hw : wordsLen l ≤ 1000000) : (brkL a b c l canvas).length ≤ 2000001 ∧ ∀ p ∈ brkL a b c l canvas, p.length ≤ 1000000 := by
  unfold brkL
  split
  · refine ⟨?_, fun p hp => ?_⟩
    · rw [List.length_map]
      have := linesS_len (roomS c canvas) (lettersOf l)
      rw [lettersOf_length] at this
      omega
    · obtain ⟨q, hq, rfl⟩ := List.mem_map.1 hp
      have h1 := (linesS_in _ _ q hq).2
      have h2 := piecesS_len q.1 q.1.length
      rw [List.take_length] at h2
      rw [lettersOf_length] at h1
      omega
  · exact ⟨by simp, fun p hp => by simp at hp⟩
theorem Brk.keep {w w' : World} {base : Nat} {v : Value} {L : List (List S42)} (h : Brk w base v L) (hb : Below w.heap.size w w') : Brk w' base v L := by
  obtain ⟨vs, h1, h2, h3⟩ := h
  exact ⟨vs, h1, h2.kb (KB.below (ts := []) hb) (by simp), fun i u p hu hp => (h3 i u p hu hp).kb (KB.below (ts := []) hb) (by simp)⟩
set_option maxHeartbeats 4000000 in
set_option maxRecDepth 100000 in
theorem law8_calls (a b c : Int) (A : Option Addr) (cap : Nat) (l : List S42) (canvas : Int) (w : World) (hr : Kd.C k42 w A l.length l) (hc : l.length ≤ cap) (hs : ∀ p ∈ l, p.f0.size ≤ 140737488351232) :
    Calls Tryz.prog 8 #[.agg #[.int .i64 a, .int .i64 b, .int .i64 c, .slice A l.length cap], .int .i64 canvas] w fun e w' => e = .returned (.bool true) ∧ Below w.heap.size w w' := by
  have cL := fun W (h : Kd.C k42 W A l.length l) => w18_long.calls (l.length + 1) a b c A cap l (longB l) W h hc (long_run hs a b c)
  go_enter Tryz.func8, Tryz.ntmps8
  cases hlg : longB l
  case true =>
    rw [hlg] at cL
    go_wp2_with (first | (go_at_call 17; refine (cL _ ?s1).mono ?_; (case s1 => exact Kd.C_alloc hr _); rintro e W ⟨rfl, hbW⟩) | (go_at_call 13; refine (awake_calls _).mono ?_; rintro e W2 ⟨rfl, hbW2⟩))
    go_ret
    exact ⟨rfl, ((Below.refl _ w).alloc (Nat.le_refl _) _).trans ((hbW.trans (hbW2.mono hbW.size)).mono (by simp))⟩
  case false =>
    rw [hlg] at cL
    unfold longB at hlg
    rw [Bool.or_eq_false_iff, decide_eq_false_iff_not, decide_eq_false_iff_not] at hlg
    obtain ⟨hl4, hw4⟩ := hlg
    have hf : Fit l := ⟨by omega, by omega⟩
    have cT := fun X h => tBreak_calls a b c A cap l canvas X h hc hf
    have cR := fun X h => rBreak_calls a b c A cap l canvas X h hc hf
    obtain ⟨hsm, hsm2⟩ := brkL_small (a := a) (b := b) (c := c) (l := l) (canvas := canvas) (by omega)
    unfold BrkPost at cT cR
    generalize brkL a b c l canvas = L at cT cR hsm hsm2
    generalize brkE a b c l canvas = E at cT cR
    have hEE : (E != E) = false := by simp
    go_wp2_with (first | (go_at_call 17; refine (cL _ (Kd.C_alloc hr _)).mono ?_; rintro e W ⟨rfl, hbW⟩; obtain ⟨h0, h1, h2, h3⟩ := box4 hbW; have hrW := Kd.C_below (Kd.C_alloc hr _) hbW) | (go_at_call 35; refine (cT _ hrW).mono ?_; rintro e W1 ⟨v1, rfl, hB1, hb1⟩; (obtain ⟨A1, c1, rfl, hle1⟩ : ∃ A1 c1, v1 = .slice A1 L.length c1 ∧ L.length ≤ c1 := (by obtain ⟨vs, _, h2, _⟩ := hB1; exact h2.form)); have h0 := cell_later hb1 h0; have h1 := cell_later hb1 h1; have h2 := cell_later hb1 h2; have h3 := cell_later hb1 h3; have hrW1 := Kd.C_below hrW hb1) | (go_at_call 36; refine (cR _ hrW1).mono ?_; rintro e W2 ⟨v2, rfl, hB2, hb2⟩; (obtain ⟨A2, c2, rfl, hle2⟩ : ∃ A2 c2, v2 = .slice A2 L.length c2 ∧ L.length ≤ c2 := (by obtain ⟨vs, _, h2, _⟩ := hB2; exact h2.form))))
    have hbw2 : Below w.heap.size w W2 := ((Below.refl _ w).alloc (Nat.le_refl _) _).trans (((hbW.trans (hb1.mono hbW.size)).trans (hb2.mono (Nat.le_trans hbW.size hb1.size))).mono (by simp))
    have hB1' := hB1.keep hb2
    clear hB1 h0 h1 h2 h3 hbW hb1 hb2 hrW hrW1 cL cT cR hr
    go_loopw [9] (fun i wr => ∃ n : Nat, n ≤ L.length ∧ i = .int .i64 n ∧ Below W2.heap.size W2 wr) (fun i wr => L.length - (intOf i).toNat)
    case atStart => exact ⟨0, by omega, rfl, Below.refl _ _⟩
    case round =>
      obtain ⟨n, hn, rfl, hbr⟩ := hrel
      by_cases hlt : n < L.length
      · obtain ⟨ad1, p, Au, cu, rfl, hp, d1, hle3, hC1⟩ := at_brk (hB1'.keep hbr) n hlt (fun p hp => by have := hsm2 p hp; omega)
        obtain ⟨ad2, p', Av, cv, rfl, hp', d2, hle4, hC2⟩ := at_brk (hB2.keep hbr) n hlt (fun p hp => by have := hsm2 p hp; omega)
        obtain rfl : p = p' := by rw [hp] at hp'; exact Option.some.inj hp'
        have hpl := hsm2 p (List.mem_of_getElem? hp)
        have cE := fun (x : Ext wr) => (r18_EqPieces.calls (p.length + 1) Au cu p Av cv p true x.w (Kd.C_below hC1 x.2) hle3 (Kd.C_below hC2 x.2) hle4 (by unfold r18_EqPieces.f; rw [if_pos rfl, show (0 : Int) = ((0 : Nat) : Int) from rfl]; exact eqp_self (by omega) p.length 0 _ (by omega) (by omega))).mono (fun e w' h => show e = .returned (.bool true) ∧ Below x.w.heap.size x.w w' from ⟨h.1, h.2.below⟩)
        have e1 := fun x : Ext wr => x.at d1
        have e2 := fun x : Ext wr => x.at d2
        have wr1 : IntKind.i64.wrap ((n : Int) + 1) = (n : Int) + 1 := IntWalk.i64_in _ (by omega)
        clear hp hp'
        go_wp2_with fail
        refine wp_region_ext (by kernel_rfl) (by kernel_rfl) ?_
        repeat (go_big_quiet_step (first | (go_at_call 37; exact Calls.ext (cE _))))
        refine wpQuiet_nil ?_
        rintro _ ⟨x, rfl⟩
        have hbx : Below W2.heap.size W2 x.w := hbr.trans (x.2.mono hbr.size)
        generalize x.w = X at hbx
        go_wp2
        go_roundw
        case rel => exact ⟨n + 1, by omega, by go_num, hbx⟩
        case measure => (simp [intOf]; try omega)
      · obtain rfl : n = L.length := by omega
        go_wp2_with (go_at_call 13; refine (awake_calls _).mono ?_; rintro e W3 ⟨rfl, hbW3⟩)
        go_ret
        exact ⟨rfl, hbw2.trans ((hbr.trans (hbW3.mono hbr.size)).mono hbw2.size)⟩
end Go.Proofs.YtogidacejbjljaaGreatDoor.PTextChecks
end
