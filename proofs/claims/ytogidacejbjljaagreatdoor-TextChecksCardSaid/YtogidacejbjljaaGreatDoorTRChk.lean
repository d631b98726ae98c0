/- The reference's Check: what it computes (checkS). -/
import Derived.Outline
import Derived.Lib.Hide
import Derived.IntWalk
import Derived.Test.YtogidacejbjljaaGreatDoorTSpec
set_option linter.unusedVariables false
set_option linter.unusedSimpArgs false
namespace Go.Proofs.YtogidacejbjljaaGreatDoor.PTextChecks
open Go.RowKit Go.Proofs.YtogidacejbjljaaGreatDoorW.PrintWords Go.Proofs.YtogidacejbjljaaGreatDoorW.PrintLast Go.Proofs.YtogidacejbjljaaGreatDoorW.PrintMore
def chk : Option S40 → List S42 → Int
  | _, [] => 0
  | prev, p :: l => bif !isTextB p.f0 then 4 else bif !(inB p.f1.f3 1 8) || !(inB p.f1.f4 0 15) || (match prev with | some q => eqS q p.f1 | none => false) then 180 else chk (some p.f1) l
def checkS (a b c : Int) (l : List S42) : Int :=
  bif !(headB a b c) then 1 else bif decide (100 < l.length) || (decide (2000 < wordsLen l) || decide (20 < nlf (bs (wordsOf l)) + 1)) then 2 else chk none l
theorem bcell {W w1 : World} (hb : Below W.heap.size W w1) : (∀ b o, b < W.heap.size → w1.cell? ⟨b, o, none⟩ = W.cell? ⟨b, o, none⟩) ∧ (∀ b o, b < W.heap.size → w1.frozen? ⟨b, o, none⟩ = W.frozen? ⟨b, o, none⟩) :=
  ⟨fun b o h => hb.cell (p := ⟨b, o, none⟩) h, fun b o h => hb.frozen (p := ⟨b, o, none⟩) h⟩
theorem bdrewN {B : Nat} {w w' : World} (h : Below B w w') (n : Nat) : Below B w (w'.drewN n) := by
  induction n with
  | zero => exact h
  | succ n ih => exact ih.drew
attribute [local go_sem high] eqA40
theorem in_calls' (a lo hi : Int) (w : World) : Calls Tryz.prog 51 #[.int .i64 a, .int .i64 lo, .int .i64 hi] w fun e w' => e = .returned (.bool (inB a lo hi)) ∧ w' = w := by
  unfold inB
  by_cases h : lo ≤ a
  · have hd : decide (lo ≤ a) = true := decide_eq_true h
    go_enter Tryz.func51, Tryz.ntmps51
    go_wp2
    go_ret
    simp [h]
  · have hd : decide (lo ≤ a) = false := decide_eq_false h
    go_enter Tryz.func51, Tryz.ntmps51
    go_wp2
    go_ret
    simp [h]
theorem in_calls (a lo hi : Int) (w : World) : Calls Tryz.prog 51 #[.int .i64 a, .int .i64 lo, .int .i64 hi] w fun e w' => e = .returned (.bool (inB a lo hi)) ∧ w = w' := (in_calls' a lo hi w).mono fun _ _ h => ⟨h.1, h.2.symm⟩
theorem isText_calls (s : ByteArray) (hs : s.size ≤ 1000000) (w : World) : Calls Tryz.prog 67 #[.string s] w fun e w' => e = .returned (.bool (isTextB s)) ∧ Below w.heap.size w w' :=
  (r18_isText.calls (s.size + 1) s _ w (isText_run hs _ (by omega))).mono fun _ _ h => ⟨h.1, h.2.below⟩
/-- What a cue's pieces must be for these functions: not too many, not too long. -/
def Fit (l : List S42) : Prop := l.length ≤ 140737488351232 ∧ wordsLen l ≤ 1000000
theorem rWords_calls (a b c : Int) (A : Option Addr) (cap : Nat) (l : List S42) (w : World) (hr : Kd.C k42 w A l.length l) (hc : l.length ≤ cap) (hf : Fit l) :
    Calls Tryz.prog 30 #[.agg #[.int .i64 a, .int .i64 b, .int .i64 c, .slice A l.length cap]] w fun e w' => e = .returned (.string (wordsOf l)) ∧ Below w.heap.size w w' :=
  r18_Words.calls (l.length + 1) a b c A cap l _ w hr hc (rWords_run hf.1 hf.2 a b c _ (by omega))
theorem rLines_calls (a b c : Int) (A : Option Addr) (cap : Nat) (l : List S42) (w : World) (hr : Kd.C k42 w A l.length l) (hc : l.length ≤ cap) (hf : Fit l) :
    Calls Tryz.prog 28 #[.agg #[.int .i64 a, .int .i64 b, .int .i64 c, .slice A l.length cap]] w fun e w' => e = .returned (.int .i64 ((nlf (bs (wordsOf l)) : Int) + 1)) ∧ Below w.heap.size w w' :=
  r18_Lines.calls (l.length + wordsLen l + 1) a b c A cap l _ w hr hc (rLines_run hf.1 hf.2 a b c _ (by omega) (by omega))
def prevOf (l : List S42) (n : Nat) : Option S40 := if n = 0 then none else some (l.getD (n - 1) z42).f1
def ChkRel (l : List S42) (w2 : World) (n : Nat) (wr : World) : Prop := Below w2.heap.size w2 wr ∧ chk (prevOf l n) (l.drop n) = chk none l
theorem ret_int {k : IntKind} {a b : Int} (h : a = b) : Ending.returned (.int k a) = .returned (.int k b) := by rw [h]
theorem chk_4 {l : List S42} {n : Nat} {p : S42} {r : List S42} (h : Hid (chk (prevOf l n) (l.drop n) = chk none l)) (hd : Hid (l.drop n = p :: r)) (hT : isTextB p.f0 = false) : 4 = chk none l := by
  rw [← h.out, hd.out]; simp [chk, hT]
theorem chk_st {l : List S42} {n : Nat} {p : S42} {r : List S42} (h : Hid (chk (prevOf l n) (l.drop n) = chk none l)) (hd : Hid (l.drop n = p :: r)) (hT : isTextB p.f0 = true)
    (hs : inB p.f1.f3 1 8 = false ∨ inB p.f1.f4 0 15 = false) : 180 = chk none l := by
  rw [← h.out, hd.out]; rcases hs with hs | hs <;> simp [chk, hT, hs]
theorem chk_eq {l : List S42} {n : Nat} {p v : S42} {r : List S42} (h : Hid (chk (prevOf l n) (l.drop n) = chk none l)) (hd : Hid (l.drop n = p :: r)) (hT : isTextB p.f0 = true)
    (h0 : 0 < n) (hv : Hid (rd_T42 l ((n - 1 : Nat) : Int) = v)) (hs : eqS p.f1 v.f1 = true) : 180 = chk none l := by
  have hv := hv.out
  simp only [rd_T42, Int.toNat_natCast, List.getD_eq_getElem?_getD] at hv
  rw [← h.out, hd.out]
  simp [chk, hT, prevOf, show n ≠ 0 from by omega, hv, eqS_comm v.f1 p.f1, hs]
theorem chk_next {l : List S42} {n : Nat} {p : S42} {r : List S42} (h : Hid (chk (prevOf l n) (l.drop n) = chk none l)) (hd : Hid (l.drop n = p :: l.drop (n + 1))) (hp : Hid (l.getD n z42 = p)) (hT : isTextB p.f0 = true)
    (e1 : inB p.f1.f3 1 8 = true) (e2 : inB p.f1.f4 0 15 = true) (hs : (match prevOf l n with | some q => eqS q p.f1 | none => false) = false) : chk (prevOf l (n + 1)) (l.drop (n + 1)) = chk none l := by
  rw [← h.out, hd.out]
  conv => rhs; unfold chk
  rw [hs]
  have hp := hp.out
  rw [List.getD_eq_getElem?_getD] at hp
  simp [hT, e1, e2, prevOf, hp]
set_option maxHeartbeats 4000000 in
set_option maxRecDepth 100000 in
theorem chk_loop (a b c : Int) (A : Option Addr) (cap : Nat) (l : List S42) (w : World) (hr : Kd.C k42 w A l.length l) (hc : l.length ≤ cap) (h0 : inB a 0 7 = true) (h1 : inB b 1 9 = true) (h2 : inB c 0 100 = true)
    (rw_ : ByteArray) (rl : Int)
    (hW : ∀ cap w, Kd.C k42 w A l.length l → l.length ≤ cap → Calls Tryz.prog 30 #[.agg #[.int .i64 a, .int .i64 b, .int .i64 c, .slice A l.length cap]] w fun e w' => e = .returned (.string rw_) ∧ Below w.heap.size w w')
    (hL : ∀ cap w, Kd.C k42 w A l.length l → l.length ≤ cap → Calls Tryz.prog 28 #[.agg #[.int .i64 a, .int .i64 b, .int .i64 c, .slice A l.length cap]] w fun e w' => e = .returned (.int .i64 rl) ∧ Below w.heap.size w w')
    (hl : l.length ≤ 100) (hw1 : rw_.size ≤ 2000) (hrl : rl ≤ 20) (hsz : ∀ s ∈ l, s.f0.size ≤ 1000000) :
    Calls Tryz.prog 26 #[.agg #[.int .i64 a, .int .i64 b, .int .i64 c, .slice A l.length cap]] w fun e w' => e = .returned (.int .i64 (chk none l)) ∧ Below w.heap.size w w' := by
  have t1 : decide ((100 : Int) < (l.length : Int)) = false := decide_eq_false (by omega)
  have t2 : decide ((2000 : Int) < (rw_.size : Int)) = false := decide_eq_false (by omega)
  have t3 : decide ((20 : Int) < rl) = false := decide_eq_false (by omega)
  go_enter Tryz.func26, Tryz.ntmps26
  go_wp2_with (first | (go_at_call 51; refine (in_calls _ _ _ _).mono ?_; simp only [h0, h1, h2]; rintro e w' ⟨rfl, rfl⟩) | (go_at_call 30; refine (hW _ _ ?s1 ?s2).mono ?_; (case s1 => exact Kd.C_alloc hr _); (case s2 => exact hc); rintro e w1 ⟨rfl, hb1⟩; obtain ⟨hc1, hf1⟩ := bcell hb1; have hz1 := hb1.size; simp at hz1) | (go_at_call 28; refine (hL _ _ ?s1 ?s2).mono ?_; (case s1 => exact Kd.C_below (Kd.C_alloc hr _) hb1); (case s2 => exact hc); rintro e w2 ⟨rfl, hb2⟩))
  have hz2 := hb2.size
  have hb12 : Below (w.alloc (.cells #[.int .i64 a, .int .i64 b, .int .i64 c, .slice A l.length cap] 25)).heap.size (w.alloc (.cells #[.int .i64 a, .int .i64 b, .int .i64 c, .slice A l.length cap] 25)) w2 := hb1.trans (hb2.mono hb1.size)
  have hbw : Below w.heap.size w w2 := ((Below.refl _ w).alloc (Nat.le_refl _) _).trans (hb12.mono (by simp))
  have hr2 : Kd.C k42 w2 A l.length l := Kd.C_below hr hbw
  have b3 : w2.cell? ⟨w.heap.size, 3, none⟩ = some (.slice A l.length cap) := by
    rw [hb12.cell (p := ⟨w.heap.size, 3, none⟩) (by simp)]; simp
  clear hc1 hf1 hb1 hb2 hb12 hW hL hr t1 t2 t3
  have hlt2 : w.heap.size < w2.heap.size := by omega
  clear hz1 hz2
  go_loopw [3] (fun i wr => ∃ n : Nat, n ≤ l.length ∧ i = .int .i64 n ∧ ChkRel l w2 n wr) (fun i wr => l.length - (intOf i).toNat)
  case atStart => exact ⟨0, by omega, rfl, Below.refl _ _, rfl⟩
  case round =>
    obtain ⟨n, hn, rfl, hbr, hch⟩ := hrel
    have c3 : wr.cell? ⟨w.heap.size, 3, none⟩ = some (.slice A l.length cap) := by rw [hbr.cell (p := ⟨w.heap.size, 3, none⟩) hlt2]; exact b3
    have hz := hbr.size
    by_cases hlt : n < l.length
    · have hr3 := Kd.C_below hr2 hbr
      obtain ⟨ad, rfl, d0, d1, d2, d3, d4, d5⟩ := at_T42 hr3 (n : Int) (by omega) (by omega)
      have hp : ∃ p, rd_T42 l (n : Int) = p := ⟨_, rfl⟩
      obtain ⟨p, hp⟩ := hp
      rw [hp] at d0 d1 d2 d3 d4 d5
      have hlp : l.getD n z42 = p := by rw [← hp]; simp [rd_T42]
      have hpl : p ∈ l := by rw [← hlp, List.getD_eq_getElem?_getD, List.getElem?_eq_getElem hlt]; exact List.getElem_mem hlt
      have hdr : l.drop n = p :: l.drop (n + 1) := by
        rw [List.drop_eq_getElem_cons hlt]; congr 1; rw [← hlp, List.getD_eq_getElem?_getD, List.getElem?_eq_getElem hlt]; rfl
      have hps := hsz p hpl
      have HCH := Lib.hid hch
      have HDR := Lib.hid hdr
      have HLP := Lib.hid hlp
      clear hch hdr hlp hp hsz hpl
      simp only [Int.toNat_natCast] at d0 d1 d2 d3 d4 d5
      have BL : ∀ W, Below (wr.alloc (.cells #[.string p.f0, .bool p.f1.f0, .bool p.f1.f1, .bool p.f1.f2, .int .i64 p.f1.f3, .int .i64 p.f1.f4] 42)).heap.size (wr.alloc (.cells #[.string p.f0, .bool p.f1.f0, .bool p.f1.f1, .bool p.f1.f2, .int .i64 p.f1.f3, .int .i64 p.f1.f4] 42)) W → Below w2.heap.size w2 W :=
        fun W h => hbr.trans (((Below.refl _ wr).alloc (Nat.le_refl _) _).mono hz |>.trans (h.mono (by simp; omega)))
      have BW : ∀ W, Below w2.heap.size w2 W → Below w.heap.size w W := fun W h => hbw.trans (h.mono (by omega))
      cases hT : isTextB p.f0
      · go_wp2_with (go_at_call 67; refine (isText_calls _ hps _).mono ?_; simp only [hT]; rintro e W ⟨rfl, hbW⟩)
        go_ret
        exact ⟨ret_int (chk_4 HCH HDR hT), BW _ (BL _ hbW)⟩
      · have hst : (inB p.f1.f3 1 8 = false) ∨ (inB p.f1.f3 1 8 = true ∧ inB p.f1.f4 0 15 = false) ∨ (inB p.f1.f3 1 8 = true ∧ inB p.f1.f4 0 15 = true ∧ n = 0) ∨ (inB p.f1.f3 1 8 = true ∧ inB p.f1.f4 0 15 = true ∧ 0 < n) := by
          cases inB p.f1.f3 1 8 <;> cases inB p.f1.f4 0 15 <;> simp <;> omega
        rcases hst with e1 | ⟨e1, e2⟩ | ⟨e1, e2, e3⟩ | ⟨e1, e2, e3⟩
        · go_wp2_with (go_at_call 67; refine (isText_calls _ hps _).mono ?_; simp only [hT]; rintro e W ⟨rfl, hbW⟩)
          obtain ⟨hcW, hfW⟩ := bcell hbW
          go_quiet ((go_at_call 51; exact Calls.quiet_of_same (in_calls' _ _ _ _)))
          go_wp2
          go_ret
          exact ⟨ret_int (chk_st HCH HDR hT (.inl e1)), bdrewN (BW _ (BL _ hbW)) _⟩
        · go_wp2_with (go_at_call 67; refine (isText_calls _ hps _).mono ?_; simp only [hT]; rintro e W ⟨rfl, hbW⟩)
          obtain ⟨hcW, hfW⟩ := bcell hbW
          go_quiet ((go_at_call 51; exact Calls.quiet_of_same (in_calls' _ _ _ _)))
          go_wp2
          go_ret
          exact ⟨ret_int (chk_st HCH HDR hT (.inr e2)), bdrewN (BW _ (BL _ hbW)) _⟩
        · have td : decide ((0 : Int) < (n : Int)) = false := decide_eq_false (by omega)
          have td' : decide (0 < n) = false := decide_eq_false (by omega)
          have E3 := Lib.hid e3
          clear e3
          go_wp2_with (go_at_call 67; refine (isText_calls _ hps _).mono ?_; simp only [hT]; rintro e W ⟨rfl, hbW⟩)
          obtain ⟨hcW, hfW⟩ := bcell hbW
          go_quiet ((go_at_call 51; exact Calls.quiet_of_same (in_calls' _ _ _ _)))
          go_wp2
          go_roundw
          case rel => exact ⟨n + 1, by omega, by go_num, bdrewN (BL _ hbW) _, chk_next (r := []) HCH HDR HLP hT e1 e2 (by rw [E3.out]; rfl)⟩
          case measure => simp [intOf]; omega
        · have td : decide ((0 : Int) < (n : Int)) = true := decide_eq_true (by omega)
          have hpv : ∃ v, rd_T42 l ((n - 1 : Nat) : Int) = v := ⟨_, rfl⟩
          obtain ⟨v, hpv⟩ := hpv
          go_wp2_with (go_at_call 67; refine (isText_calls _ hps _).mono ?_; simp only [hT]; rintro e W ⟨rfl, hbW⟩)
          obtain ⟨hcW, hfW⟩ := bcell hbW
          have hbW' : Below wr.heap.size wr W := ((Below.refl _ wr).alloc (Nat.le_refl _) _).trans (hbW.mono (by simp))
          have c3W : W.cell? ⟨w.heap.size, 3, none⟩ = some (.slice (some ad) l.length cap) := (hbW'.cell (p := ⟨w.heap.size, 3, none⟩) (by show w.heap.size < wr.heap.size; omega)).trans c3
          have hr4 : Kd.C k42 W (some ad) l.length l := Kd.C_below (Kd.C_alloc hr3 _) hbW
          obtain ⟨ad', hae, g0, g1, g2, g3, g4, g5⟩ := at_T42 hr4 ((n - 1 : Nat) : Int) (by omega) (by omega)
          obtain rfl : ad' = ad := by injection hae with hae; exact hae.symm
          rw [hpv] at g0 g1 g2 g3 g4 g5
          simp only [Int.toNat_natCast] at g0 g1 g2 g3 g4 g5
          have HPV := Lib.hid hpv
          clear hpv
          have BLW := BL _ hbW
          clear BL
          have wr1 : IntKind.i64.wrap ((n : Int) - 1) = (n : Int) - 1 := IntWalk.i64_in _ (by omega)
          have wr2 : (0 : Int) ≤ (n : Int) - 1 := by omega
          have wr3 : (n : Int) - 1 < (l.length : Int) := by omega
          have wr4 : 1 ≤ n := by omega
          have wr5 : (1 : Int) ≤ (n : Int) := by omega
          have wr6 : ¬ ((n : Int) - 1 < 0) := by omega
          have wr7 : ((n : Int) - 1).toNat < l.length := by omega
          have wr8 : n - 1 < l.length := by omega
          cases hq : eqS p.f1 v.f1
          all_goals
            have hq' := hq
            unfold eqS at hq'
            go_quiet ((go_at_call 51; exact Calls.quiet_of_same (in_calls' _ _ _ _)))
            clear wr1 wr2 wr3 wr4 wr5 wr6 wr7 wr8
            go_wp2
          · go_roundw
            case rel => exact ⟨n + 1, by omega, by go_num, bdrewN BLW _, chk_next (r := []) HCH HDR HLP hT e1 e2 (by have hv := HPV.out; simp only [rd_T42, Int.toNat_natCast, List.getD_eq_getElem?_getD] at hv; simp [prevOf, show n ≠ 0 from by omega, hv, eqS_comm v.f1 p.f1, hq])⟩
            case measure => simp [intOf]; omega
          · go_ret
            exact ⟨ret_int (chk_eq HCH HDR hT e3 HPV hq), bdrewN (BW _ BLW) _⟩
    · go_wp2
      go_ret
      exact ⟨ret_int (by rw [← hch, List.drop_of_length_le (by omega)]; rfl), hbw.trans (hbr.mono (by omega))⟩

set_option maxHeartbeats 4000000 in
set_option maxRecDepth 100000 in
theorem chk_head (a b c : Int) (A : Option Addr) (cap : Nat) (l : List S42) (w : World) (hh : headB a b c = false) :
    Calls Tryz.prog 26 #[.agg #[.int .i64 a, .int .i64 b, .int .i64 c, .slice A l.length cap]] w fun e w' => e = .returned (.int .i64 1) ∧ Below w.heap.size w w' := by
  unfold headB at hh
  cases h0 : inB a 0 7 <;> cases h1 : inB b 1 9 <;> cases h2 : inB c 0 100 <;> simp [h0, h1, h2] at hh
  all_goals
    go_enter Tryz.func26, Tryz.ntmps26
    go_wp2_with (go_at_call 51; refine (in_calls _ _ _ _).mono ?_; simp only [h0, h1, h2]; rintro e w' ⟨rfl, rfl⟩)
    go_ret
    exact ⟨rfl, (Below.refl _ w).alloc (Nat.le_refl _) _⟩
set_option maxHeartbeats 4000000 in
set_option maxRecDepth 100000 in
theorem chk_limit (a b c : Int) (A : Option Addr) (cap : Nat) (l : List S42) (w : World) (hr : Kd.C k42 w A l.length l) (hc : l.length ≤ cap) (h0 : inB a 0 7 = true) (h1 : inB b 1 9 = true) (h2 : inB c 0 100 = true)
    (rw_ : ByteArray) (rl : Int)
    (hW : ∀ cap w, Kd.C k42 w A l.length l → l.length ≤ cap → Calls Tryz.prog 30 #[.agg #[.int .i64 a, .int .i64 b, .int .i64 c, .slice A l.length cap]] w fun e w' => e = .returned (.string rw_) ∧ Below w.heap.size w w')
    (hL : ∀ cap w, Kd.C k42 w A l.length l → l.length ≤ cap → Calls Tryz.prog 28 #[.agg #[.int .i64 a, .int .i64 b, .int .i64 c, .slice A l.length cap]] w fun e w' => e = .returned (.int .i64 rl) ∧ Below w.heap.size w w')
    (hl : 100 < l.length ∨ (l.length ≤ 100 ∧ 2000 < rw_.size) ∨ (l.length ≤ 100 ∧ rw_.size ≤ 2000 ∧ 20 < rl)) :
    Calls Tryz.prog 26 #[.agg #[.int .i64 a, .int .i64 b, .int .i64 c, .slice A l.length cap]] w fun e w' => e = .returned (.int .i64 2) ∧ Below w.heap.size w w' := by
  have fin : ∀ e w1 w2 : World, Below (w.alloc (.cells #[.int .i64 a, .int .i64 b, .int .i64 c, .slice A l.length cap] 25)).heap.size (w.alloc (.cells #[.int .i64 a, .int .i64 b, .int .i64 c, .slice A l.length cap] 25)) w1 → Below w.heap.size w w1 := fun _ w1 _ h => ((Below.refl _ w).alloc (Nat.le_refl _) _).trans (h.mono (by simp))
  rcases hl with hl | ⟨hl, hw1⟩ | ⟨hl, hw1, hrl⟩
  · have t1 : decide ((100 : Int) < (l.length : Int)) = true := decide_eq_true (by omega)
    go_enter Tryz.func26, Tryz.ntmps26
    go_wp2_with (first | (go_at_call 51; refine (in_calls _ _ _ _).mono ?_; simp only [h0, h1, h2]; rintro e w' ⟨rfl, rfl⟩))
    go_ret
    exact ⟨rfl, (Below.refl _ w).alloc (Nat.le_refl _) _⟩
  · have t1 : decide ((100 : Int) < (l.length : Int)) = false := decide_eq_false (by omega)
    have t2 : decide ((2000 : Int) < (rw_.size : Int)) = true := decide_eq_true (by omega)
    go_enter Tryz.func26, Tryz.ntmps26
    go_wp2_with (first | (go_at_call 51; refine (in_calls _ _ _ _).mono ?_; simp only [h0, h1, h2]; rintro e w' ⟨rfl, rfl⟩) | (go_at_call 30; refine (hW _ _ ?s1 ?s2).mono ?_; (case s1 => exact Kd.C_alloc hr _); (case s2 => exact hc); rintro e w1 ⟨rfl, hb1⟩))
    go_ret
    exact ⟨rfl, fin w w1 w hb1⟩
  · have t1 : decide ((100 : Int) < (l.length : Int)) = false := decide_eq_false (by omega)
    have t2 : decide ((2000 : Int) < (rw_.size : Int)) = false := decide_eq_false (by omega)
    have t3 : decide ((20 : Int) < rl) = true := decide_eq_true (by omega)
    go_enter Tryz.func26, Tryz.ntmps26
    go_wp2_with (first | (go_at_call 51; refine (in_calls _ _ _ _).mono ?_; simp only [h0, h1, h2]; rintro e w' ⟨rfl, rfl⟩) | (go_at_call 30; refine (hW _ _ ?s1 ?s2).mono ?_; (case s1 => exact Kd.C_alloc hr _); (case s2 => exact hc); rintro e w1 ⟨rfl, hb1⟩; obtain ⟨hc1, hf1⟩ := bcell hb1; have hz1 := hb1.size; simp at hz1) | (go_at_call 28; refine (hL _ _ ?s1 ?s2).mono ?_; (case s1 => exact Kd.C_below (Kd.C_alloc hr _) hb1); (case s2 => exact hc); rintro e w2 ⟨rfl, hb2⟩))
    go_ret
    exact ⟨rfl, fin w w2 w (hb1.trans (hb2.mono hb1.size))⟩
theorem rCheck_calls (a b c : Int) (A : Option Addr) (cap : Nat) (l : List S42) (w : World) (hr : Kd.C k42 w A l.length l) (hc : l.length ≤ cap) (hf : Fit l) :
    Calls Tryz.prog 26 #[.agg #[.int .i64 a, .int .i64 b, .int .i64 c, .slice A l.length cap]] w fun e w' => e = .returned (.int .i64 (checkS a b c l)) ∧ Below w.heap.size w w' := by
  have hsz : ∀ s ∈ l, s.f0.size ≤ 1000000 := fun s hs => Nat.le_trans (wordsLen_mem hs) hf.2
  have hs := wordsOf_size l
  cases hh : headB a b c
  · rw [show checkS a b c l = 1 from by simp [checkS, hh]]
    exact chk_head a b c A cap l w hh
  · have hh' := hh
    simp only [headB, Bool.and_eq_true] at hh'
    obtain ⟨h0, h1, h2⟩ := hh'
    have hW := fun cap w hr hc => rWords_calls a b c A cap l w hr hc hf
    have hL := fun cap w hr hc => rLines_calls a b c A cap l w hr hc hf
    by_cases h : 100 < l.length ∨ 2000 < wordsLen l ∨ 20 < nlf (bs (wordsOf l)) + 1
    · rw [show checkS a b c l = 2 from by
        have : (decide (100 < l.length) || (decide (2000 < wordsLen l) || decide (20 < nlf (bs (wordsOf l)) + 1))) = true := by simp only [Bool.or_eq_true, decide_eq_true_eq]; exact h
        unfold checkS; rw [hh, this]; rfl]
      exact chk_limit a b c A cap l w hr hc h0 h1 h2 _ _ hW hL (by omega)
    · rw [show checkS a b c l = chk none l from by
        have : (decide (100 < l.length) || (decide (2000 < wordsLen l) || decide (20 < nlf (bs (wordsOf l)) + 1))) = false := by simp only [Bool.or_eq_false_iff, decide_eq_false_iff_not]; omega
        unfold checkS; rw [hh, this]; rfl]
      exact chk_loop a b c A cap l w hr hc h0 h1 h2 _ _ hW hL (by omega) (by omega) (by omega) hsz
end Go.Proofs.YtogidacejbjljaaGreatDoor.PTextChecks
