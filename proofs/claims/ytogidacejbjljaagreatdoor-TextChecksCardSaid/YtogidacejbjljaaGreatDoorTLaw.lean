/- TextChecks' own function (7), by hand. -/
import Derived.Outline
import Derived.Test.YtogidacejbjljaaGreatDoorTRNorm
set_option linter.unusedVariables false
set_option linter.unusedSimpArgs false
namespace Go.Proofs.YtogidacejbjljaaGreatDoor.PTextChecks
open Go.RowKit Go.Mix Go.Proofs.YtogidacejbjljaaGreatDoorW.PrintWords Go.Proofs.YtogidacejbjljaaGreatDoorW.PrintLast Go.Proofs.YtogidacejbjljaaGreatDoorW.PrintMore
theorem eqp_self {l : List S42} (hl : l.length ≤ 140737488351232) : ∀ (d i k : Nat), i + d = l.length → d < k → r18_EqPieces.l0 k l l (i : Int) = some true := by
  intro d
  induction d with
  | zero =>
    intro i k hi hk
    obtain ⟨k, rfl⟩ : ∃ m, k = m + 1 := ⟨k - 1, by omega⟩
    unfold r18_EqPieces.l0
    rw [if_neg (by omega)]
  | succ d ih =>
    intro i k hi hk
    obtain ⟨k, rfl⟩ : ∃ m, k = m + 1 := ⟨k - 1, by omega⟩
    have hlt : i < l.length := by omega
    unfold r18_EqPieces.l0
    rw [if_pos (by omega), if_pos (by omega), if_pos (by omega), if_neg (by simp), wsucc hlt (by omega)]
    exact ih (i + 1) k (by omega) (by omega)
theorem same_self (a b c : Int) {l : List S42} (hl : l.length ≤ 140737488351232) : r18_Same.f (l.length + 1) a b c l a b c l = some true := by
  unfold r18_Same.f r18_EqPieces.f
  rw [if_pos rfl, if_pos rfl, if_pos rfl, if_pos rfl]
  rw [show (0 : Int) = ((0 : Nat) : Int) from rfl, eqp_self hl l.length 0 _ (by omega) (by omega)]
  rfl
theorem wordsLen_le {l : List S42} {B : Nat} : (∀ p ∈ l, p.f0.size ≤ B) → wordsLen l ≤ l.length * B := by
  induction l with
  | nil => intro _; simp [wordsLen]
  | cons p l ih =>
    intro h
    have h1 := h p (List.mem_cons_self ..)
    have h2 := ih fun q hq => h q (List.mem_cons_of_mem _ hq)
    simp only [wordsLen, List.map_cons, List.sum_cons, List.length_cons] at h2 ⊢
    rw [Nat.succ_mul]
    omega
def longB (l : List S42) : Bool := decide (400 < l.length) || decide (10000 < wordsLen l)
theorem long_run {l : List S42} (h : ∀ p ∈ l, p.f0.size ≤ 140737488351232) (a b c : Int) : w18_long.f (l.length + 1) a b c l = some (longB l) := by
  unfold w18_long.f longB
  by_cases hl : (l.length : Int) > 400
  · rw [if_pos hl, decide_eq_true (by omega)]; rfl
  · have h1 := wordsLen_le h
    have h2 : l.length * 140737488351232 ≤ 400 * 140737488351232 := Nat.mul_le_mul (by omega) (Nat.le_refl _)
    rw [if_neg hl, rWords_big (by omega) (by omega) a b c _ (by omega), decide_eq_false (p := 400 < l.length) (by omega)]
    simp only [Option.bind_some, wordsOf_size, Bool.false_or]
    congr 1
    rw [Bool.eq_iff_iff, decide_eq_true_iff, decide_eq_true_iff]
    omega
theorem normS_len (l : List S42) : (normS l).length ≤ wordsLen l := by
  rw [← pieces_letters, ← lettersOf_length]
  have := piecesS_len (lettersOf l) (lettersOf l).length
  rwa [List.take_length] at this
theorem Ext.at {W : World} (x : Ext W) {a : Addr} {v : Value} (h : W.cell? a = some v) : x.w.cell? a = some v := cell_later x.2 h
def LRel (w1 : World) (wr : World) : Prop := Below w1.heap.size w1 wr
set_option maxHeartbeats 4000000 in
set_option maxRecDepth 100000 in
theorem law_calls (a b c : Int) (A : Option Addr) (cap : Nat) (l : List S42) (w : World) (hr : Kd.C k42 w A l.length l) (hc : l.length ≤ cap) (hs : ∀ p ∈ l, p.f0.size ≤ 140737488351232) :
    Calls Tryz.prog 7 #[.agg #[.int .i64 a, .int .i64 b, .int .i64 c, .slice A l.length cap]] w fun e w' => e = .returned (.bool true) ∧ Below w.heap.size w w' := by
  have cL := fun W (h : Kd.C k42 W A l.length l) => w18_long.calls (l.length + 1) a b c A cap l (longB l) W h hc (long_run hs a b c)
  go_enter Tryz.func7, Tryz.ntmps7
  cases hlg : longB l
  case true =>
    rw [hlg] at cL
    go_wp2_with (first | (go_at_call 17; refine (cL _ ?s1).mono ?_; (case s1 => exact Kd.C_alloc hr _); rintro e W ⟨rfl, hbW⟩) | (go_at_call 13; refine (awake_calls _).mono ?_; rintro e W2 ⟨rfl, hbW2⟩))
    go_ret
    exact ⟨rfl, ((Below.refl _ w).alloc (Nat.le_refl _) _).trans ((hbW.trans (hbW2.mono hbW.size)).mono (by simp))⟩
  case false =>
    rw [hlg] at cL
    unfold longB at hlg
    rw [Bool.or_eq_false_iff, decide_eq_false_iff_not, decide_eq_false_iff_not] at hlg
    obtain ⟨hl4, hw4⟩ := hlg
    have hf : Fit l := ⟨by omega, by omega⟩
    go_wp2_with (first | (go_at_call 17; refine (cL _ ?s1).mono ?_; (case s1 => exact Kd.C_alloc hr _); rintro e W ⟨rfl, hbW⟩; obtain ⟨h0, h1, h2, h3⟩ := box4 hbW))
    have hz := hbW.size
    simp at hz
    have hb0 : Below w.heap.size w W := ((Below.refl _ w).alloc (Nat.le_refl _) _).trans (hbW.mono (by simp))
    have hr2 : Kd.C k42 W A l.length l := Kd.C_below hr hb0
    have hbl : w.heap.size < W.heap.size := by omega
    obtain ⟨⟨b0, b0'⟩, ⟨b1, b1'⟩, ⟨b2, b2'⟩, ⟨b3, b3'⟩⟩ : (_ ∧ _) ∧ (_ ∧ _) ∧ (_ ∧ _) ∧ (_ ∧ _) := ⟨⟨h0, h0⟩, ⟨h1, h1⟩, ⟨h2, h2⟩, ⟨h3, h3⟩⟩
    clear hbW hr cL h0 h1 h2 h3 b0' b1' b2' b3'
    go_loopw [3] (fun i wr => ∃ n : Nat, n ≤ l.length ∧ i = .int .i64 n ∧ LRel W wr) (fun i wr => l.length - (intOf i).toNat)
    case atStart => exact ⟨0, by omega, rfl, Below.refl _ _⟩
    case round =>
      obtain ⟨n, hn, rfl, hbr⟩ := hrel
      unfold LRel at hbr
      have c3 : wr.cell? ⟨w.heap.size, 3, none⟩ = some (.slice A l.length cap) := cell_later hbr b3
      by_cases hlt : n < l.length
      · have hr3 := Kd.C_below hr2 hbr
        obtain ⟨ad, rfl, d0, d1, d2, d3, d4, d5⟩ := at_T42 hr3 (n : Int) (by omega) (by omega)
        obtain ⟨p, hp⟩ : ∃ p, rd_T42 l (n : Int) = p := ⟨_, rfl⟩
        rw [hp] at d0 d1 d2 d3 d4 d5
        have hpw : p.f0.size ≤ wordsLen l := by
          rw [← hp]
          have := rd42_drop l n hlt
          exact wordsLen_mem (List.mem_of_mem_drop (by rw [this]; exact List.mem_cons_self ..))
        clear hp
        simp only [Int.toNat_natCast] at d0 d1 d2 d3 d4 d5
        have cW1 := fun X => text_Width.calls (p.f0.size + 1) p.f0 p.f1.f0 p.f1.f1 p.f1.f2 p.f1.f3 p.f1.f4 (widthS p) X (width_run p (by omega) _ (by omega))
        have cW2 := fun X => r18_Width.calls (p.f0.size + 15) p.f0 p.f1.f0 p.f1.f1 p.f1.f2 p.f1.f3 p.f1.f4 (widthS p) X (rWidth_run p (by omega) _ (by omega))
        generalize widthS p = z at cW1 cW2
        have wr2 : (0 : Int) ≤ (n : Int) := by omega
        have wr3 : (n : Int) < (l.length : Int) := by omega
        have wr6 : ¬ ((n : Int) < 0) := by omega
        have k3 := fun x : Ext wr => x.at c3
        have e0 := fun x : Ext wr => x.at d0
        have e1 := fun x : Ext wr => x.at d1
        have e2 := fun x : Ext wr => x.at d2
        have e3 := fun x : Ext wr => x.at d3
        have e4 := fun x : Ext wr => x.at d4
        have e5 := fun x : Ext wr => x.at d5
        go_wp2_with fail
        refine wp_region_ext (by kernel_rfl) (by kernel_rfl) ?_
        repeat (go_big_quiet_step (first | (go_at_call 23; exact Calls.ext (cW1 _)) | (go_at_call 24; exact Calls.ext (cW2 _))))
        refine wpQuiet_nil ?_
        rintro _ ⟨x, rfl⟩
        have hbx : Below W.heap.size W x.w := hbr.trans (x.2.mono hbr.size)
        generalize x.w = X at hbx
        go_wp2
        go_roundw
        case rel => exact ⟨n + 1, by omega, by go_num, hbx⟩
        case measure => simp [intOf]; omega
      · go_wp2_with fail
        clear c3 hlt hn
        have hr3 := Kd.C_below hr2 hbr
        have x0 := fun x : Ext wr => x.at (cell_later hbr b0)
        have x1 := fun x : Ext wr => x.at (cell_later hbr b1)
        have x2 := fun x : Ext wr => x.at (cell_later hbr b2)
        have x3 := fun x : Ext wr => x.at (cell_later hbr b3)
        have hl1 : l.length ≤ 1000000 := by omega
        have hnl := normS_len l
        have hbf : ∀ X, Below wr.heap.size wr X → Below w.heap.size w X := fun X h => hb0.trans ((hbr.trans (h.mono hbr.size)).mono (by omega))
        clear hbr b0 b1 b2 b3 hr2
        refine wp_region_mix (C := fun w' => ∃ x : Ext wr, w' = x.w) [1, 3, 7, 9, 14, 16, 21, 23, 24, 27, 28, 32] 2 (by kernel_rfl) (by kernel_rfl) (by kernel_rfl) ⟨⟨wr.drew, (Below.refl _ wr).drew⟩, rfl⟩ ?_
        have hbx : Below wr.heap.size wr wr.drew := (Below.refl _ wr).drew
        clear hbl
        refine mix_pure rfl (fun K hK => ?_)
        go_simp
        refine hK _ _ ?_
        clear hK K
        refine mix_eff rfl (fun K hK => ?_)
        go_simp
        simp only [effUpon_enter]
        refine (tCheck_calls a b c A cap l _ (Kd.C_below hr3 hbx) hc hf).mono ?_
        rintro e Wn ⟨rfl, hbn⟩
        have hbx := hbx.trans (hbn.mono hbx.size)
        refine ⟨_, rfl, ⟨⟨Wn, hbx⟩, rfl⟩, hK _ _ ?_⟩
        clear hK K
        refine mix_pure rfl (fun K hK => ?_)
        go_simp
        refine hK _ _ ?_
        clear hK K
        refine mix_eff rfl (fun K hK => ?_)
        go_simp
        simp only [effUpon_enter]
        refine (rCheck_calls a b c A cap l _ (Kd.C_below hr3 hbx) hc hf).mono ?_
        rintro e Wn ⟨rfl, hbn⟩
        have hbx := hbx.trans (hbn.mono hbx.size)
        refine ⟨_, rfl, ⟨⟨Wn, hbx⟩, rfl⟩, hK _ _ ?_⟩
        clear hK K
        refine mix_pure rfl (fun K hK => ?_)
        go_simp
        refine hK _ _ ?_
        clear hK K
        refine mix_pure rfl (fun K hK => ?_)
        go_simp
        refine hK _ _ ?_
        clear hK K
        refine mix_pure rfl (fun K hK => ?_)
        go_simp
        refine hK _ _ ?_
        clear hK K
        refine mix_eff rfl (fun K hK => ?_)
        go_simp
        simp only [effUpon_enter]
        refine (tLines_calls a b c A cap l _ (Kd.C_below hr3 hbx) hc hf).mono ?_
        rintro e Wn ⟨rfl, hbn⟩
        have hbx := hbx.trans (hbn.mono hbx.size)
        refine ⟨_, rfl, ⟨⟨Wn, hbx⟩, rfl⟩, hK _ _ ?_⟩
        clear hK K
        refine mix_pure rfl (fun K hK => ?_)
        go_simp
        refine hK _ _ ?_
        clear hK K
        refine mix_eff rfl (fun K hK => ?_)
        go_simp
        simp only [effUpon_enter]
        refine (rLines_calls a b c A cap l _ (Kd.C_below hr3 hbx) hc hf).mono ?_
        rintro e Wn ⟨rfl, hbn⟩
        have hbx := hbx.trans (hbn.mono hbx.size)
        refine ⟨_, rfl, ⟨⟨Wn, hbx⟩, rfl⟩, hK _ _ ?_⟩
        clear hK K
        refine mix_pure rfl (fun K hK => ?_)
        go_simp
        refine hK _ _ ?_
        clear hK K
        refine mix_pure rfl (fun K hK => ?_)
        go_simp
        refine hK _ _ ?_
        clear hK K
        refine mix_pure rfl (fun K hK => ?_)
        go_simp
        refine hK _ _ ?_
        clear hK K
        refine mix_pure rfl (fun K hK => ?_)
        go_simp
        refine hK _ _ ?_
        clear hK K
        refine mix_eff rfl (fun K hK => ?_)
        go_simp
        simp only [effUpon_enter]
        refine (tWords_calls a b c A cap l _ (Kd.C_below hr3 hbx) hc hf).mono ?_
        rintro e Wn ⟨rfl, hbn⟩
        have hbx := hbx.trans (hbn.mono hbx.size)
        refine ⟨_, rfl, ⟨⟨Wn, hbx⟩, rfl⟩, hK _ _ ?_⟩
        clear hK K
        refine mix_pure rfl (fun K hK => ?_)
        go_simp
        refine hK _ _ ?_
        clear hK K
        refine mix_eff rfl (fun K hK => ?_)
        go_simp
        simp only [effUpon_enter]
        refine (rWords_calls a b c A cap l _ (Kd.C_below hr3 hbx) hc hf).mono ?_
        rintro e Wn ⟨rfl, hbn⟩
        have hbx := hbx.trans (hbn.mono hbx.size)
        refine ⟨_, rfl, ⟨⟨Wn, hbx⟩, rfl⟩, hK _ _ ?_⟩
        clear hK K
        refine mix_pure rfl (fun K hK => ?_)
        go_simp
        refine hK _ _ ?_
        clear hK K
        refine mix_pure rfl (fun K hK => ?_)
        go_simp
        refine hK _ _ ?_
        clear hK K
        refine mix_pure rfl (fun K hK => ?_)
        go_simp
        refine hK _ _ ?_
        clear hK K
        refine mix_pure rfl (fun K hK => ?_)
        go_simp
        refine hK _ _ ?_
        clear hK K
        refine mix_eff rfl (fun K hK => ?_)
        go_simp
        simp only [effUpon_enter]
        refine (tNormal_calls a b c A cap l _ (Kd.C_below hr3 hbx) hc hl1 hf).mono ?_
        rintro e Wn ⟨v1, rfl, hv1, hbn⟩
        obtain ⟨A1, c1, rfl, hle1, hC1⟩ := hv1
        have hbx := hbx.trans (hbn.mono hbx.size)
        refine ⟨_, rfl, ⟨⟨Wn, hbx⟩, rfl⟩, hK _ _ ?_⟩
        clear hK K
        refine mix_pure rfl (fun K hK => ?_)
        go_simp
        refine hK _ _ ?_
        clear hK K
        refine mix_eff rfl (fun K hK => ?_)
        go_simp
        simp only [effUpon_enter]
        refine (rNormal_calls a b c A cap l _ (Kd.C_below hr3 hbx) hc hf).mono ?_
        rintro e Wn ⟨v2, rfl, hv2, hbn⟩
        obtain ⟨A2, c2, rfl, hle2, hC2⟩ := hv2
        have hC1 := Kd.C_below hC1 hbn
        have hbx := hbx.trans (hbn.mono hbx.size)
        refine ⟨_, rfl, ⟨⟨Wn, hbx⟩, rfl⟩, hK _ _ ?_⟩
        clear hK K
        refine mix_eff rfl (fun K hK => ?_)
        go_simp
        simp only [effUpon_enter]
        refine (r18_Same.calls ((normS l).length + 1) a b c A1 c1 (normS l) a b c A2 c2 (normS l) true _ hC1 hle1 hC2 hle2 (same_self a b c (by omega))).mono ?_
        rintro e Wn ⟨rfl, hbn⟩
        have hbx := hbx.trans (hbn.mono hbx.size)
        refine ⟨_, rfl, ⟨⟨Wn, hbx⟩, rfl⟩, hK _ _ ?_⟩
        clear hK K
        refine mix_pure rfl (fun K hK => ?_)
        go_simp
        refine hK _ _ ?_
        clear hK K
        refine mix_pure rfl (fun K hK => ?_)
        go_simp
        refine hK _ _ ?_
        clear hK K
        refine mix_eff rfl (fun K hK => ?_)
        go_simp
        simp only [effUpon_enter]
        refine (text_Plain.calls _ _ _ _ _ _ rfl).mono ?_
        rintro e Wn ⟨rfl, hbn⟩
        have hbx := hbx.trans (hbn.mono hbx.size)
        refine ⟨_, rfl, ⟨⟨Wn, hbx⟩, rfl⟩, hK _ _ ?_⟩
        clear hK K
        refine mix_eff rfl (fun K hK => ?_)
        go_simp
        simp only [effUpon_enter]
        refine (r18_Plain.calls _ _ _ _ _ _ rfl).mono ?_
        rintro e Wn ⟨rfl, hbn⟩
        have hbx := hbx.trans (hbn.mono hbx.size)
        refine ⟨_, rfl, ⟨⟨Wn, hbx⟩, rfl⟩, hK _ _ ?_⟩
        clear hK K
        refine mix_pure rfl (fun K hK => ?_)
        go_simp
        refine hK _ _ ?_
        clear hK K
        refine mix_pure rfl (fun K hK => ?_)
        go_simp
        refine hK _ _ ?_
        clear hK K
        refine mix_pure rfl (fun K hK => ?_)
        go_simp
        refine hK _ _ ?_
        clear hK K
        refine mix_eff rfl (fun K hK => ?_)
        go_simp
        simp only [effUpon_enter]
        refine (awake_calls _).mono ?_
        rintro e Wn ⟨rfl, hbn⟩
        have hbx := hbx.trans (hbn.mono hbx.size)
        refine ⟨_, rfl, ⟨⟨Wn, hbx⟩, rfl⟩, hK _ _ ?_⟩
        clear hK K
        refine mix_pure rfl (fun K hK => ?_)
        go_simp
        refine hK _ _ ?_
        clear hK K
        refine mix_pure rfl (fun K hK => ?_)
        go_simp
        refine hK _ _ ?_
        clear hK K
        refine mix_nil ?_
        intro _
        go_wp2
        go_ret
        exact ⟨rfl, hbf _ hbx⟩
end Go.Proofs.YtogidacejbjljaaGreatDoor.PTextChecks
