/- strings.ContainsFunc at the closure of text.Check: whether a text has a rune that may not be. -/
import Derived.Outline
import Derived.Deep.LoopGhost
import Derived.Shelf.GgClosure.StringsIndexFuncTop
import Derived.Laws.RangeAny
import Derived.Test.YtogidacejbjljaaGreatDoorTRChk
set_option linter.unusedVariables false
set_option linter.unusedSimpArgs false
namespace Go.Proofs.YtogidacejbjljaaGreatDoor.PTextChecks
open Go.RowKit Go.Proofs.YtogidacejbjljaaGreatDoorW.PrintWords Go.Proofs.YtogidacejbjljaaGreatDoorW.PrintLast Go.Proofs.YtogidacejbjljaaGreatDoorW.PrintMore
def badRune (r : Nat) : Bool := !okByte r
theorem may_calls (r : Nat) (hr : r ≤ 1114111) (w : World) : Calls Tryz.prog 65 #[.int .i32 (r : Int)] w fun e w' => e = .returned (.bool (okByte r)) ∧ w = w' := by
  by_cases h0 : r = 10
  · have e1 : ((r : Int) == 10) = true := by simp [h0]
    have H := Lib.hid h0; clear h0
    go_enter Tryz.func65, Tryz.ntmps65
    go_wp2
    go_ret
    exact ⟨by have := H.out; subst this; rfl, rfl⟩
  · have e1 : ((r : Int) == 10) = false := beq_eq_false_iff_ne.2 (by omega)
    by_cases h1 : 32 ≤ r
    · have e2 : decide ((32 : Int) ≤ (r : Int)) = true := decide_eq_true (by omega)
      have H := Lib.hid h0; have H1 := Lib.hid h1; clear h0 h1
      go_enter Tryz.func65, Tryz.ntmps65
      go_wp2
      go_ret
      exact ⟨by have h := H.out; have h1 := H1.out; have e3 : decide ((r : Int) ≤ 126) = decide (r ≤ 126) := by rw [Bool.eq_iff_iff]; simp; omega
                simp [okByte, h, h1, e3], rfl⟩
    · have e2 : decide ((32 : Int) ≤ (r : Int)) = false := decide_eq_false (by omega)
      have H := Lib.hid h0; have H1 := Lib.hid h1; clear h0 h1
      go_enter Tryz.func65, Tryz.ntmps65
      go_wp2
      go_ret
      exact ⟨by have := H.out; have := H1.out; simp [okByte, *], rfl⟩
theorem clos64_calls (r : Nat) (hr : r ≤ 1114111) (w : World) : Calls Tryz.prog 64 #[.int .i32 (r : Int)] w fun e w' => e = .returned (.bool (badRune r)) ∧ w = w' := by
  have cM := fun W => may_calls r hr W
  cases hb : okByte r
  all_goals
    rw [hb] at cM
    go_enter Tryz.func64, Tryz.ntmps64
    go_wp2_with (go_at_call 65; refine (cM _).mono ?_; rintro e W ⟨rfl, rfl⟩)
    go_ret
    exact ⟨by simp [badRune, hb], rfl⟩
set_option maxHeartbeats 2000000 in
set_option maxRecDepth 1000000 in
theorem indexFunc_calls (s : ByteArray) (w : World) :
    Calls Tryz.prog 126 #[.string s, .func (.func 64) #[] #[], .bool true] w fun e w' => e = .returned (.int .i64 (Lib.idxFunc badRune true s)) ∧ Below w.heap.size w w' := by
  go_enter Tryz.func126, Tryz.ntmps126
  go_wp2
  go_loopg [] s.size (fun gf wx => ∃ pos : Nat, wx.heap[w.heap.size]? = some (.stringIter s pos) ∧ Below w.heap.size w wx ∧ Lib.idxFuncFrom badRune true s gf pos = Lib.idxFunc badRune true s ∧ s.size ≤ pos + gf)
  case atStart => exact ⟨0, World.iter_heap w s 0, (Below.refl _ w).alloc (Nat.le_refl _) _, rfl, by omega⟩
  case round =>
    obtain ⟨pos, hit, hbw, hleft, hfu⟩ := hrel
    by_cases hps : pos < s.size
    · obtain ⟨g', rfl⟩ : ∃ g', gk = g' + 1 := ⟨gk - 1, by omega⟩
      have hnx : ∀ ty, (Instr.next (.pointer (some ⟨w.heap.size, 0, none⟩)) true ty).run Tryz.prog wr = _ := fun ty => Lib.run_next_any_at wr w.heap.size s pos ty hit hps
      have hwd := Lib.width_pos s pos
      obtain ⟨R, hR⟩ : ∃ R, (Utf8.decode s pos).1 = R := ⟨_, rfl⟩
      obtain ⟨K, hK⟩ : ∃ K, (Utf8.decode s pos).2 = K := ⟨_, rfl⟩
      simp only [Lib.idxFuncFrom, hps, if_true, hR, hK] at hleft
      rw [hR, hK] at hnx
      rw [hK] at hwd
      have hRle : R ≤ 1114111 := by rw [← hR]; exact Lib.rune_le s pos
      have hit2 := Lib.iterAt_heap wr w.heap.size s pos (pos + K) hit
      have hbw2 := Lib.below_iterAt hbw (k := w.heap.size) (Nat.le_refl _) s (pos + K)
      obtain ⟨W, hWd⟩ : ∃ W, wr.iterAt w.heap.size s (pos + K) = W := ⟨_, rfl⟩
      rw [hWd] at hnx hit2 hbw2
      have cS := clos64_calls R hRle W
      cases hsp : badRune R <;> rw [hsp] at cS <;> simp only [hsp, if_true, Bool.false_eq_true, if_false] at hleft
      · go_wp2_with (go_at_call 64; refine cS.mono ?_; rintro e W' ⟨rfl, rfl⟩)
        go_roundg g'
        case measure => omega
        case rel => exact ⟨pos + K, hit2, hbw2, hleft, by omega⟩
      · go_wp2_with (go_at_call 64; refine cS.mono ?_; rintro e W' ⟨rfl, rfl⟩)
        go_ret
        exact ⟨by rw [← hleft] <;> rfl, hbw2⟩
    · have hnx : ∀ ty, (Instr.next (.pointer (some ⟨w.heap.size, 0, none⟩)) true ty).run Tryz.prog wr = _ := fun ty => Lib.run_next_end_at wr w.heap.size s pos ty hit hps
      rw [Lib.idxFuncFrom_end badRune true s gk pos hps] at hleft
      go_wp2
      go_ret
      exact ⟨by rw [← hleft] <;> rfl, hbw⟩
theorem IndexFunc_calls (s : ByteArray) (w : World) :
    Calls Tryz.prog 99 #[.string s, .func (.func 64) #[] #[]] w fun e w' => e = .returned (.int .i64 (Lib.idxFunc badRune true s)) ∧ Below w.heap.size w w' := by
  go_enter Tryz.func99, Tryz.ntmps99
  go_wp2_with (go_at_call 126; refine (indexFunc_calls _ _).mono ?_; rintro e W ⟨rfl, hb⟩)
  go_ret
  exact ⟨rfl, hb⟩
theorem ContainsFunc_calls (s : ByteArray) (w : World) :
    Calls Tryz.prog 63 #[.string s, .func (.func 64) #[] #[]] w fun e w' => e = .returned (.bool (decide (0 ≤ Lib.idxFunc badRune true s))) ∧ Below w.heap.size w w' := by
  go_enter Tryz.func63, Tryz.ntmps63
  go_wp2_with (go_at_call 99; refine (IndexFunc_calls _ _).mono ?_; rintro e W ⟨rfl, hb⟩)
  go_ret
  exact ⟨by simp, hb⟩
theorem badRune_high {r : Nat} (h : 128 ≤ r) : badRune r = true := by
  have : okByte r = false := by unfold okByte; rw [Bool.or_eq_false_iff, Bool.and_eq_false_iff]; exact ⟨beq_eq_false_iff_ne.2 (by omega), .inr (decide_eq_false (by omega))⟩
  unfold badRune; rw [this]; rfl
theorem idx_bad (s : ByteArray) : ∀ (f pos : Nat), s.size ≤ pos + f → decide (0 ≤ Lib.idxFuncFrom badRune true s f pos) = !((bs s).drop pos).all fun c => okByte c.toNat := by
  intro f
  induction f with
  | zero =>
    intro pos h
    rw [List.drop_of_length_le (by rw [bs_length]; omega)]
    rfl
  | succ f ih =>
    intro pos h
    by_cases hp : pos < s.size
    · rw [drop_bs s pos hp]
      have hb : (s[pos]'hp) = byteAt s pos hp := rfl
      simp only [Lib.idxFuncFrom, if_pos hp, List.all_cons]
      by_cases ha : (byteAt s pos hp).toNat < 128
      · rw [decode_ascii s pos hp (by rw [hb]; exact ha), hb]
        simp only
        cases hk : okByte (byteAt s pos hp).toNat
        · rw [if_pos (by simp [badRune, hk])]; simp
        · rw [if_neg (by simp [badRune, hk]), ih (pos + 1) (by omega)]; simp
      · obtain ⟨h1, _⟩ := decode_high s pos hp (by rw [hb]; omega)
        rw [if_pos (badRune_high h1)]
        have : okByte (byteAt s pos hp).toNat = false := by have := badRune_high (r := (byteAt s pos hp).toNat) (by omega); simpa [badRune] using this
        simp [this]
    · rw [Lib.idxFuncFrom_end _ _ _ _ _ hp, List.drop_of_length_le (by rw [bs_length]; omega)]
      rfl
theorem contains_bad (s : ByteArray) (w : World) :
    Calls Tryz.prog 63 #[.string s, .func (.func 64) #[] #[]] w fun e w' => e = .returned (.bool (!(bs s).all fun c => okByte c.toNat)) ∧ Below w.heap.size w w' := by
  have h := idx_bad s s.size 0 (by omega)
  rw [List.drop_zero] at h
  rw [← h]
  exact ContainsFunc_calls s w
end Go.Proofs.YtogidacejbjljaaGreatDoor.PTextChecks
