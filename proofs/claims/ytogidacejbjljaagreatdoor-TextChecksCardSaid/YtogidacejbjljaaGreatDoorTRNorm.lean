/- The reference's Normal. -/
import Derived.Outline
import Derived.Test.YtogidacejbjljaaGreatDoorTPcs
import Derived.Test.YtogidacejbjljaaGreatDoorTDraw
set_option linter.unusedVariables false
set_option linter.unusedSimpArgs false
namespace Go.Proofs.YtogidacejbjljaaGreatDoor.PTextChecks
open Go.RowKit Go.Mix Go.Proofs.YtogidacejbjljaaGreatDoorW.PrintWords Go.Proofs.YtogidacejbjljaaGreatDoorW.PrintLast Go.Proofs.YtogidacejbjljaaGreatDoorW.PrintMore
theorem letters2 (a b c : Int) (A : Option Addr) (cap : Nat) (l : List S42) (w : World) (hr : Kd.C k42 w A l.length l) (hc : l.length ≤ cap) (hf : Fit l) :
    Calls Tryz.prog 59 #[.agg #[.int .i64 a, .int .i64 b, .int .i64 c, .slice A l.length cap]] w fun e w' => ∃ A' c', e = .returned (.slice A' (lettersOf l).length c') ∧ Kd.C k81 w' A' (lettersOf l).length (lettersOf l) ∧ Below w.heap.size w w' := by
  refine (r18_letters.calls (2 * l.length + wordsLen l + 1) a b c A cap l _ w hr hc (rletters_run hf.1 hf.2 a b c _ (by omega))).mono ?_
  rintro e w' ⟨v', rfl, hR, hb⟩
  obtain ⟨A', c', rfl, hle, hC'⟩ := Kd.R_reads hR
  exact ⟨A', c', rfl, hC', hb⟩
set_option maxHeartbeats 4000000 in
set_option maxRecDepth 100000 in
theorem rNormal_calls (a b c : Int) (A : Option Addr) (cap : Nat) (l : List S42) (w : World) (hr : Kd.C k42 w A l.length l) (hc : l.length ≤ cap) (hf : Fit l) :
    Calls Tryz.prog 32 #[.agg #[.int .i64 a, .int .i64 b, .int .i64 c, .slice A l.length cap]] w (NormPost a b c (normS l) w) := by
  have hll : (lettersOf l).length ≤ 1000000 := by rw [lettersOf_length]; exact hf.2
  have hlb := lettersOf_byt l
  go_enter Tryz.func32, Tryz.ntmps32
  go_wp2
  obtain ⟨z0, z1, z2⟩ := two_new w (Obj.cells #[.int .i64 a, .int .i64 b, .int .i64 c, .slice A l.length cap] 25) (Obj.cells #[.int .i64 0, .int .i64 0, .int .i64 0, .slice none 0 0] 25)
  have hrW : Kd.C k42 ((w.alloc (.cells #[.int .i64 a, .int .i64 b, .int .i64 c, .slice A l.length cap] 25)).alloc (.cells #[.int .i64 0, .int .i64 0, .int .i64 0, .slice none 0 0] 25)) A l.length l := Kd.C_alloc (Kd.C_alloc hr _) _
  have hbW : Below w.heap.size w ((w.alloc (.cells #[.int .i64 a, .int .i64 b, .int .i64 c, .slice A l.length cap] 25)).alloc (.cells #[.int .i64 0, .int .i64 0, .int .i64 0, .slice none 0 0] 25)) := ((Below.refl _ w).alloc (Nat.le_refl _) _).alloc (by simp) _
  generalize (w.alloc (.cells #[.int .i64 a, .int .i64 b, .int .i64 c, .slice A l.length cap] 25)).alloc (.cells #[.int .i64 0, .int .i64 0, .int .i64 0, .slice none 0 0] 25) = W at *
  have hx : ∀ x : Has W w.heap.size, _ := fun x => blk4 (x.2.trans z0)
  have x0 : ∀ x : Has W w.heap.size, x.w.cell? ⟨w.heap.size, 0, none⟩ = some (.int .i64 a) := fun x => (hx x).1.1
  have x1 : ∀ x : Has W w.heap.size, x.w.cell? ⟨w.heap.size, 1, none⟩ = some (.int .i64 b) := fun x => (hx x).1.2.1
  have x2 : ∀ x : Has W w.heap.size, x.w.cell? ⟨w.heap.size, 2, none⟩ = some (.int .i64 c) := fun x => (hx x).1.2.2.1
  have x3 : ∀ x : Has W w.heap.size, x.w.cell? ⟨w.heap.size, 3, none⟩ = some (.slice A l.length cap) := fun x => (hx x).1.2.2.2
  clear hx
  refine wp_region_mix (C := fun w' => ∃ x : Has W w.heap.size, w' = x.w) [7, 8, 10] 2 (by kernel_rfl) (by kernel_rfl) (by kernel_rfl) ⟨⟨W.drew, rfl⟩, rfl⟩ ?_
  refine mix_pure rfl (fun K hK => ?_)
  go_simp
  refine hK _ _ ?_
  clear hK K
  refine mix_pure rfl (fun K hK => ?_)
  go_simp
  refine hK _ _ ?_
  clear hK K
  refine mix_pure rfl (fun K hK => ?_)
  go_simp
  refine hK _ _ ?_
  clear hK K
  refine mix_pure rfl (fun K hK => ?_)
  go_simp
  refine hK _ _ ?_
  clear hK K
  refine mix_pure rfl (fun K hK => ?_)
  go_simp
  refine hK _ _ ?_
  clear hK K
  refine mix_pure rfl (fun K hK => ?_)
  go_simp
  refine hK _ _ ?_
  clear hK K
  refine mix_pure rfl (fun K hK => ?_)
  go_simp
  refine hK _ _ ?_
  clear hK K
  refine mix_eff rfl (fun K hK => ?_)
  go_simp
  simp only [effUpon_enter]
  refine (letters2 a b c A cap l _ (Kd.C_drew hrW) hc hf).mono ?_
  rintro e W1 ⟨A1, c1, rfl, hC1, hb1⟩
  have hs1 := hb1.size
  have hsW : W.heap.size = w.heap.size + 2 := z2
  have hk1 : W1.heap[w.heap.size]? = W.heap[w.heap.size]? := hb1.block w.heap.size (by show w.heap.size < W.heap.size; omega)
  refine ⟨_, rfl, ⟨⟨W1, hk1⟩, rfl⟩, hK _ _ ?_⟩
  clear hK K
  refine mix_eff rfl (fun K hK => ?_)
  go_simp
  simp only [effUpon_enter]
  refine (pieces_calls A1 c1 (lettersOf l) _ hC1 hll hlb).mono ?_
  rintro e W2 ⟨v2, rfl, ⟨A2, c2, rfl, hle2, hA2⟩, hb2⟩
  have hs2 := hb2.size
  have hk2 : W2.heap[w.heap.size]? = W.heap[w.heap.size]? := (hb2.block w.heap.size (by have : W.drew.heap.size = W.heap.size := rfl; omega)).trans hk1
  refine ⟨_, rfl, ⟨⟨W2, hk2⟩, rfl⟩, hK _ _ ?_⟩
  clear hK K
  refine mix_pure rfl (fun K hK => ?_)
  go_simp
  refine hK _ _ ?_
  clear hK K
  have hg1 : W2.heap[w.heap.size + 1]? = some (Obj.cells #[.int .i64 0, .int .i64 0, .int .i64 0, .slice none 0 0] 25) := (hb2.block (w.heap.size + 1) (by have : W.drew.heap.size = W.heap.size := rfl; omega)).trans ((hb1.block (w.heap.size + 1) (by show w.heap.size + 1 < W.heap.size; omega)).trans z1)
  obtain ⟨⟨r0, r1, r2, r3⟩, s0, s1, s2, s3⟩ := blk4 hg1
  obtain ⟨n3, hn3⟩ : ∃ n, (piecesS (lettersOf l)).length = n := ⟨_, rfl⟩
  rw [hn3]
  have fin : ∀ X : World, X = (((W2.setCell ⟨w.heap.size + 1, 0, none⟩ (.int .i64 a)).setCell ⟨w.heap.size + 1, 1, none⟩ (.int .i64 b)).setCell ⟨w.heap.size + 1, 2, none⟩ (.int .i64 c)).setCell ⟨w.heap.size + 1, 3, none⟩ (.slice A2 n3 c2) →
      X.heap[w.heap.size]? = W.heap[w.heap.size]? ∧ X.heap[w.heap.size + 1]? = some (.cells #[.int .i64 a, .int .i64 b, .int .i64 c, .slice A2 n3 c2] 25 (0, 0)) ∧ RowOut (.slice A2 n3 c2) (normS l) X ∧ Below w.heap.size w X := by
    intro X hX
    have hk : ∀ k, k ≠ w.heap.size + 1 → X.heap[k]? = W2.heap[k]? := fun k k2 => by
      rw [hX, Below.heap_setCell _ _ _ _ k2, Below.heap_setCell _ _ _ _ k2, Below.heap_setCell _ _ _ _ k2, Below.heap_setCell _ _ _ _ k2]
    refine ⟨(hk _ (by omega)).trans hk2, ?_, ?_, ?_⟩
    · rw [hX]
      exact heap_set (i := 3) (heap_set (i := 2) (heap_set (i := 1) (heap_set (i := 0) hg1)))
    · have hC := hA2 X fun k k1 k2 => hk k (by have : W.drew.heap.size = W.heap.size := rfl; omega)
      rw [pieces_letters, ] at hC
      rw [pieces_letters] at hn3
      rw [← hn3]
      rw [pieces_letters] at hle2
      exact ⟨_, _, rfl, hle2, hC⟩
    · rw [hX]
      have hb0 : Below w.heap.size w W2 := (hbW.drew.trans (hb1.mono (by show w.heap.size ≤ W.heap.size; omega))).trans (hb2.mono (by have : W.drew.heap.size = W.heap.size := rfl; omega))
      exact (((hb0.setCell (p := ⟨w.heap.size + 1, 0, none⟩) (Nat.le_succ _) _).setCell (p := ⟨w.heap.size + 1, 1, none⟩) (Nat.le_succ _) _).setCell (p := ⟨w.heap.size + 1, 2, none⟩) (Nat.le_succ _) _).setCell (p := ⟨w.heap.size + 1, 3, none⟩) (Nat.le_succ _) _
  refine mix_eff rfl (fun K hK => ?_)
  go_simp
  simp only [effUpon_skip, effUpon_value]
  obtain ⟨f0, f1, f2, f3⟩ := fin _ rfl
  refine ⟨⟨⟨_, f0⟩, rfl⟩, hK _ _ ?_⟩
  clear hK K
  refine mix_nil ?_
  intro _
  go_wp2
  refine bodyPost_ret (results_cell_row rfl _ _ (w.heap.size + 1) 25 _ (0, 0) _ rfl f1 Tryz.underlying25 rfl (by kernel_rfl)) rfl ?_
  exact ⟨_, rfl, f2, f3⟩
end Go.Proofs.YtogidacejbjljaaGreatDoor.PTextChecks
