/- The program's Check: it computes checkS too. -/
import Derived.Outline
import Derived.Deep.RegionHeld3
import Derived.Test.YtogidacejbjljaaGreatDoorTWords
import Derived.Test.YtogidacejbjljaaGreatDoorTCont
set_option linter.unusedVariables false
set_option linter.unusedSimpArgs false
namespace Go.Proofs.YtogidacejbjljaaGreatDoor.PTextChecks
open Go.RowKit Go.Proofs.YtogidacejbjljaaGreatDoorW.PrintWords Go.Proofs.YtogidacejbjljaaGreatDoorW.PrintLast Go.Proofs.YtogidacejbjljaaGreatDoorW.PrintMore
attribute [local go_sem high] eqA40
theorem headed_calls (a b c : Int) (A : Option Addr) (cap : Nat) (l : List S42) (w : World) (hr : Kd.C k42 w A l.length l) (hc : l.length ≤ cap) :
    Calls Tryz.prog 62 #[.agg #[.int .i64 a, .int .i64 b, .int .i64 c, .slice A l.length cap]] w fun e w' => e = .returned (.bool (headB a b c)) ∧ Below w.heap.size w w' :=
  text_headed.calls a b c A cap l _ w hr hc (headed_run a b c l)
theorem styled_calls (s : S40) (w : World) :
    Calls Tryz.prog 66 #[.agg #[.bool s.f0, .bool s.f1, .bool s.f2, .int .i64 s.f3, .int .i64 s.f4]] w fun e w' => e = .returned (.bool (styB s)) ∧ Below w.heap.size w w' :=
  text_styled.calls _ _ _ _ _ _ w (styled_run s)
theorem cell_later {W w1 : World} (hb : Below W.heap.size W w1) {a : Addr} {v : Value} (h : W.cell? a = some v) : w1.cell? a = some v := (hb.cell (World.block_lt_of_cell? W _ h)).trans h
/-- The worlds in which all that lay in W lies unturned. -/
def Ext (W : World) : Type := { w' : World // Below W.heap.size W w' }
instance (W : World) : Nonempty (Ext W) := ⟨⟨W, Below.refl _ W⟩⟩
def Ext.w {W : World} (x : Ext W) : World := x.1
theorem Ext.cell {W : World} (x : Ext W) {b o : Nat} {v : Value} (h : W.cell? ⟨b, o, none⟩ = some v) : x.w.cell? ⟨b, o, none⟩ = some v := by
  have hlt : b < W.heap.size := World.block_lt_of_cell? W _ h
  exact (x.2.cell (p := ⟨b, o, none⟩) hlt).trans h
theorem wp_region_ext {P : Program} {id : Nat} {Q : Exit → Act → World → Prop} {a : Act} {W : World} {l : List Oper} (hm : P.follows .mixedOrders = true) (hB : Region.lexB .any l.toArray = true)
    (h : wpQuiet P l.toArray (fun w' => ∃ x : Ext W, w' = x.w) (fun a' => ∀ w', (∃ x : Ext W, w' = x.w) → Q .normal a' w') l a) : (Code.region id l.toArray true).wp P Q a W :=
  wp_region_quiet (C := fun w' => ∃ x : Ext W, w' = x.w) hm hB ⟨⟨W.drew, (Below.refl _ W).drew⟩, rfl⟩ (by simpa using h)
theorem Calls.ext {P : Program} {f : FuncId} {args : Array Value} {W : World} {x : Ext W} {v : Value} (h : Calls P f args x.w fun e w' => e = .returned v ∧ Below x.w.heap.size x.w w') :
    Calls P f args x.w fun e w'' => e = .returned v ∧ ∃ y : Ext W, w'' = y.w :=
  h.mono fun _ w' ⟨he, hb⟩ => ⟨he, ⟨⟨w', x.2.trans (hb.mono x.2.size)⟩, rfl⟩⟩
theorem box6 {w W : World} {v0 v1 v2 v3 v4 v5 : Value} {t : TypeId} (hb : Below (w.alloc (.cells #[v0, v1, v2, v3, v4, v5] t)).heap.size (w.alloc (.cells #[v0, v1, v2, v3, v4, v5] t)) W) :
    W.cell? ⟨w.heap.size, 0, none⟩ = some v0 ∧ W.cell? ⟨w.heap.size, 1, none⟩ = some v1 ∧ W.cell? ⟨w.heap.size, 2, none⟩ = some v2 ∧ W.cell? ⟨w.heap.size, 3, none⟩ = some v3 ∧ W.cell? ⟨w.heap.size, 4, none⟩ = some v4 ∧ W.cell? ⟨w.heap.size, 5, none⟩ = some v5 := by
  refine ⟨?_, ?_, ?_, ?_, ?_, ?_⟩ <;> (rw [hb.cell (by simp)]; simp)
theorem box4 {w W : World} {v0 v1 v2 v3 : Value} {t : TypeId} (hb : Below (w.alloc (.cells #[v0, v1, v2, v3] t)).heap.size (w.alloc (.cells #[v0, v1, v2, v3] t)) W) :
    W.cell? ⟨w.heap.size, 0, none⟩ = some v0 ∧ W.cell? ⟨w.heap.size, 1, none⟩ = some v1 ∧ W.cell? ⟨w.heap.size, 2, none⟩ = some v2 ∧ W.cell? ⟨w.heap.size, 3, none⟩ = some v3 := by
  refine ⟨?_, ?_, ?_, ?_⟩ <;> (rw [hb.cell (by simp)]; simp)
set_option maxHeartbeats 4000000 in
set_option maxRecDepth 100000 in
theorem tchk_head (a b c : Int) (A : Option Addr) (cap : Nat) (l : List S42) (w : World) (hr : Kd.C k42 w A l.length l) (hc : l.length ≤ cap) (hh : headB a b c = false) :
    Calls Tryz.prog 25 #[.agg #[.int .i64 a, .int .i64 b, .int .i64 c, .slice A l.length cap]] w fun e w' => e = .returned (.int .i64 1) ∧ Below w.heap.size w w' := by
  have cH := fun W (h : Kd.C k42 W A l.length l) => headed_calls a b c A cap l W h hc
  rw [hh] at cH
  go_enter Tryz.func25, Tryz.ntmps25
  go_wp2_with (go_at_call 62; refine (cH _ ?s1).mono ?_; (case s1 => exact Kd.C_alloc hr _); rintro e W ⟨rfl, hbW⟩)
  go_ret
  exact ⟨rfl, ((Below.refl _ w).alloc (Nat.le_refl _) _).trans (hbW.mono (by simp))⟩
set_option maxHeartbeats 4000000 in
set_option maxRecDepth 100000 in
theorem tchk_limit (a b c : Int) (A : Option Addr) (cap : Nat) (l : List S42) (w : World) (hr : Kd.C k42 w A l.length l) (hc : l.length ≤ cap) (hh : headB a b c = true)
    (rw_ : ByteArray) (rl : Int)
    (hW : ∀ cap w, Kd.C k42 w A l.length l → l.length ≤ cap → Calls Tryz.prog 29 #[.agg #[.int .i64 a, .int .i64 b, .int .i64 c, .slice A l.length cap]] w fun e w' => e = .returned (.string rw_) ∧ Below w.heap.size w w')
    (hL : ∀ cap w, Kd.C k42 w A l.length l → l.length ≤ cap → Calls Tryz.prog 27 #[.agg #[.int .i64 a, .int .i64 b, .int .i64 c, .slice A l.length cap]] w fun e w' => e = .returned (.int .i64 rl) ∧ Below w.heap.size w w')
    (hl : 100 < l.length ∨ (l.length ≤ 100 ∧ 2000 < rw_.size) ∨ (l.length ≤ 100 ∧ rw_.size ≤ 2000 ∧ 20 < rl)) :
    Calls Tryz.prog 25 #[.agg #[.int .i64 a, .int .i64 b, .int .i64 c, .slice A l.length cap]] w fun e w' => e = .returned (.int .i64 2) ∧ Below w.heap.size w w' := by
  have cH := fun W (h : Kd.C k42 W A l.length l) => headed_calls a b c A cap l W h hc
  rw [hh] at cH
  have fin : ∀ w1 : World, Below (w.alloc (.cells #[.int .i64 a, .int .i64 b, .int .i64 c, .slice A l.length cap] 25)).heap.size (w.alloc (.cells #[.int .i64 a, .int .i64 b, .int .i64 c, .slice A l.length cap] 25)) w1 → Below w.heap.size w w1 := fun w1 h => ((Below.refl _ w).alloc (Nat.le_refl _) _).trans (h.mono (by simp))
  rcases hl with hl | ⟨hl, hw1⟩ | ⟨hl, hw1, hrl⟩
  · have t1 : decide ((100 : Int) < (l.length : Int)) = true := decide_eq_true (by omega)
    go_enter Tryz.func25, Tryz.ntmps25
    go_wp2_with (first | (go_at_call 62; refine (cH _ ?s1).mono ?_; (case s1 => exact Kd.C_alloc hr _); rintro e W ⟨rfl, hbW⟩; obtain ⟨f0, f1, f2, f3⟩ := box4 hbW))
    go_ret
    exact ⟨rfl, fin _ hbW⟩
  · have t1 : decide ((100 : Int) < (l.length : Int)) = false := decide_eq_false (by omega)
    have t2 : decide ((2000 : Int) < (rw_.size : Int)) = true := decide_eq_true (by omega)
    go_enter Tryz.func25, Tryz.ntmps25
    go_wp2_with (first | (go_at_call 62; refine (cH _ ?s1).mono ?_; (case s1 => exact Kd.C_alloc hr _); rintro e W ⟨rfl, hbW⟩; obtain ⟨f0, f1, f2, f3⟩ := box4 hbW) | (go_at_call 29; refine (hW _ _ ?s1 ?s2).mono ?_; (case s1 => exact Kd.C_below (Kd.C_alloc hr _) hbW); (case s2 => exact hc); rintro e w1 ⟨rfl, hb1⟩))
    go_ret
    exact ⟨rfl, fin _ (hbW.trans (hb1.mono hbW.size))⟩
  · have t1 : decide ((100 : Int) < (l.length : Int)) = false := decide_eq_false (by omega)
    have t2 : decide ((2000 : Int) < (rw_.size : Int)) = false := decide_eq_false (by omega)
    have t3 : decide ((20 : Int) < rl) = true := decide_eq_true (by omega)
    go_enter Tryz.func25, Tryz.ntmps25
    go_wp2_with (first | (go_at_call 62; refine (cH _ ?s1).mono ?_; (case s1 => exact Kd.C_alloc hr _); rintro e W ⟨rfl, hbW⟩; obtain ⟨f0, f1, f2, f3⟩ := box4 hbW) | (go_at_call 29; refine (hW _ _ ?s1 ?s2).mono ?_; (case s1 => exact Kd.C_below (Kd.C_alloc hr _) hbW); (case s2 => exact hc); rintro e w1 ⟨rfl, hb1⟩; obtain ⟨g0, g1, g2, g3⟩ := box4 (hbW.trans (hb1.mono hbW.size))) | (go_at_call 27; refine (hL _ _ ?s1 ?s2).mono ?_; (case s1 => exact Kd.C_below (Kd.C_below (Kd.C_alloc hr _) hbW) hb1); (case s2 => exact hc); rintro e w2 ⟨rfl, hb2⟩))
    go_ret
    exact ⟨rfl, fin _ (hbW.trans ((hb1.trans (hb2.mono hb1.size)).mono hbW.size))⟩
set_option maxHeartbeats 8000000 in
set_option maxRecDepth 100000 in
theorem tchk_loop (a b c : Int) (A : Option Addr) (cap : Nat) (l : List S42) (w : World) (hr : Kd.C k42 w A l.length l) (hc : l.length ≤ cap) (hh : headB a b c = true)
    (rw_ : ByteArray) (rl : Int)
    (hW : ∀ cap w, Kd.C k42 w A l.length l → l.length ≤ cap → Calls Tryz.prog 29 #[.agg #[.int .i64 a, .int .i64 b, .int .i64 c, .slice A l.length cap]] w fun e w' => e = .returned (.string rw_) ∧ Below w.heap.size w w')
    (hL : ∀ cap w, Kd.C k42 w A l.length l → l.length ≤ cap → Calls Tryz.prog 27 #[.agg #[.int .i64 a, .int .i64 b, .int .i64 c, .slice A l.length cap]] w fun e w' => e = .returned (.int .i64 rl) ∧ Below w.heap.size w w')
    (hl : l.length ≤ 100) (hw1 : rw_.size ≤ 2000) (hrl : rl ≤ 20) :
    Calls Tryz.prog 25 #[.agg #[.int .i64 a, .int .i64 b, .int .i64 c, .slice A l.length cap]] w fun e w' => e = .returned (.int .i64 (chk none l)) ∧ Below w.heap.size w w' := by
  have cH := fun W (h : Kd.C k42 W A l.length l) => headed_calls a b c A cap l W h hc
  rw [hh] at cH
  have t1 : decide ((100 : Int) < (l.length : Int)) = false := decide_eq_false (by omega)
  have t2 : decide ((2000 : Int) < (rw_.size : Int)) = false := decide_eq_false (by omega)
  have t3 : decide ((20 : Int) < rl) = false := decide_eq_false (by omega)
  go_enter Tryz.func25, Tryz.ntmps25
  go_wp2_with (first | (go_at_call 62; refine (cH _ ?s1).mono ?_; (case s1 => exact Kd.C_alloc hr _); rintro e W ⟨rfl, hbW⟩; obtain ⟨f0, f1, f2, f3⟩ := box4 hbW) | (go_at_call 29; refine (hW _ _ ?s1 ?s2).mono ?_; (case s1 => exact Kd.C_below (Kd.C_alloc hr _) hbW); (case s2 => exact hc); rintro e w1 ⟨rfl, hb1⟩; obtain ⟨g0, g1, g2, g3⟩ := box4 (hbW.trans (hb1.mono hbW.size))) | (go_at_call 27; refine (hL _ _ ?s1 ?s2).mono ?_; (case s1 => exact Kd.C_below (Kd.C_below (Kd.C_alloc hr _) hbW) hb1); (case s2 => exact hc); rintro e w2 ⟨rfl, hb2⟩; obtain ⟨h0, h1, h2, h3⟩ := box4 (hbW.trans ((hb1.trans (hb2.mono hb1.size)).mono hbW.size))))
  have hzW := hbW.size
  have hz1 := hb1.size
  have hz2 := hb2.size
  simp at hzW
  have hb12 : Below (w.alloc (.cells #[.int .i64 a, .int .i64 b, .int .i64 c, .slice A l.length cap] 25)).heap.size (w.alloc (.cells #[.int .i64 a, .int .i64 b, .int .i64 c, .slice A l.length cap] 25)) w2 := hbW.trans ((hb1.trans (hb2.mono hb1.size)).mono hbW.size)
  have hbw : Below w.heap.size w w2 := ((Below.refl _ w).alloc (Nat.le_refl _) _).trans (hb12.mono (by simp))
  have hr2 : Kd.C k42 w2 A l.length l := Kd.C_below hr hbw
  have b3 : w2.cell? ⟨w.heap.size, 3, none⟩ = some (.slice A l.length cap) := h3
  have hlt2 : w.heap.size < w2.heap.size := by omega
  clear f0 f1 f2 f3 g0 g1 g2 g3 h0 h1 h2 h3 hbW hb1 hb2 hb12 hr t1 t2 t3 cH hW hL hzW hz1 hz2
  go_loopw [26] (fun i wr => ∃ n : Nat, n ≤ l.length ∧ i = .int .i64 n ∧ ChkRel l w2 n wr) (fun i wr => l.length - (intOf i).toNat)
  case atStart => exact ⟨0, by omega, rfl, Below.refl _ _, rfl⟩
  case round =>
    obtain ⟨n, hn, rfl, hbr, hch⟩ := hrel
    have c3 : wr.cell? ⟨w.heap.size, 3, none⟩ = some (.slice A l.length cap) := by rw [hbr.cell (p := ⟨w.heap.size, 3, none⟩) hlt2]; exact b3
    have hz := hbr.size
    by_cases hlt : n < l.length
    · have hr3 := Kd.C_below hr2 hbr
      obtain ⟨ad, rfl, d0, d1, d2, d3, d4, d5⟩ := at_T42 hr3 (n : Int) (by omega) (by omega)
      obtain ⟨p, hp⟩ : ∃ p, rd_T42 l (n : Int) = p := ⟨_, rfl⟩
      rw [hp] at d0 d1 d2 d3 d4 d5
      have hlp : l.getD n z42 = p := by rw [← hp]; simp [rd_T42]
      have hdr : l.drop n = p :: l.drop (n + 1) := by rw [rd42_drop l n hlt, hp]
      have HCH := Lib.hid hch
      have HDR := Lib.hid hdr
      have HLP := Lib.hid hlp
      clear hch hdr hlp hp
      simp only [Int.toNat_natCast] at d0 d1 d2 d3 d4 d5
      have BL : ∀ W, Below (wr.alloc (.cells #[.string p.f0, .bool p.f1.f0, .bool p.f1.f1, .bool p.f1.f2, .int .i64 p.f1.f3, .int .i64 p.f1.f4] 42)).heap.size (wr.alloc (.cells #[.string p.f0, .bool p.f1.f0, .bool p.f1.f1, .bool p.f1.f2, .int .i64 p.f1.f3, .int .i64 p.f1.f4] 42)) W → Below w2.heap.size w2 W :=
        fun W h => hbr.trans (((Below.refl _ wr).alloc (Nat.le_refl _) _).mono hz |>.trans (h.mono (by simp; omega)))
      have BW : ∀ W, Below w2.heap.size w2 W → Below w.heap.size w W := fun W h => hbw.trans (h.mono (by omega))
      by_cases hem : p.f0.size = 0
      · have hT : isTextB p.f0 = false := by simp [isTextB, hem]
        have hemp : p.f0.toList = [] := by rw [ByteArray.toList_eq]; exact List.eq_nil_of_length_eq_zero (by rw [Array.length_toList]; exact hem)
        have hemp2 : p.f0.toList.isEmpty = true := by rw [hemp]; rfl
        go_wp2_with fail
        go_ret
        exact ⟨ret_int (chk_4 HCH HDR hT), BW _ (BL _ (Below.refl _ _))⟩
      · have hne : p.f0.toList ≠ [] := by rw [ByteArray.toList_eq]; intro h; exact hem (by have := congrArg List.length h; rw [Array.length_toList] at this; exact this)
        have hne2 : p.f0.toList.isEmpty = false := by cases h : p.f0.toList with | nil => exact absurd h hne | cons _ _ => rfl
        have cB := contains_bad p.f0
        cases hT : isTextB p.f0
        · have hall : (bs p.f0).all (fun c => okByte c.toNat) = false := by
            unfold isTextB at hT; rw [decide_eq_true (by omega), Bool.and_true] at hT; exact hT
          rw [hall] at cB
          clear hall
          go_wp2_with (go_at_call 63; refine (cB _).mono ?_; rintro e W ⟨rfl, hbW⟩)
          go_ret
          exact ⟨ret_int (chk_4 HCH HDR hT), BW _ (BL _ hbW)⟩
        · have hall : (bs p.f0).all (fun c => okByte c.toNat) = true := by
            unfold isTextB at hT; rw [Bool.and_eq_true] at hT; exact hT.1
          rw [hall] at cB
          clear hall
          have cSt := fun W => styled_calls p.f1 W
          cases hst : styB p.f1
          · rw [hst] at cSt
            go_wp2_with (go_at_call 63; refine (cB _).mono ?_; rintro e W ⟨rfl, hbW⟩)
            obtain ⟨k0, k1, k2, k3, k4, k5⟩ := box6 hbW
            have e1 := fun x : Ext W => x.cell k1
            have e2 := fun x : Ext W => x.cell k2
            have e3 := fun x : Ext W => x.cell k3
            have e4 := fun x : Ext W => x.cell k4
            have e5 := fun x : Ext W => x.cell k5
            refine wp_region_ext (by kernel_rfl) (by kernel_rfl) ?_
            repeat (go_big_quiet_step ((go_at_call 66; exact Calls.ext (cSt _))))
            refine wpQuiet_nil ?_
            rintro _ ⟨x, rfl⟩
            have hbx : Below w2.heap.size w2 x.w := BL _ (hbW.trans (x.2.mono hbW.size))
            generalize x.w = X at hbx
            go_wp2
            go_ret
            exact ⟨ret_int (chk_st HCH HDR hT (by unfold styB at hst; rw [Bool.and_eq_false_iff] at hst; exact hst)), BW _ hbx⟩
          · rw [hst] at cSt
            have est : inB p.f1.f3 1 8 = true ∧ inB p.f1.f4 0 15 = true := by unfold styB at hst; rw [Bool.and_eq_true] at hst; exact hst
            obtain ⟨e1, e2⟩ := est
            rcases Nat.eq_zero_or_pos n with h0 | h0
            · have td : decide ((0 : Int) < (n : Int)) = false := decide_eq_false (by omega)
              have td' : decide (0 < n) = false := decide_eq_false (by omega)
              have E3 := Lib.hid h0
              clear h0
              go_wp2_with (go_at_call 63; refine (cB _).mono ?_; rintro e W ⟨rfl, hbW⟩)
              obtain ⟨k0, k1, k2, k3, k4, k5⟩ := box6 hbW
              have e1' := fun x : Ext W => x.cell k1
              have e2' := fun x : Ext W => x.cell k2
              have e3' := fun x : Ext W => x.cell k3
              have e4' := fun x : Ext W => x.cell k4
              have e5' := fun x : Ext W => x.cell k5
              refine wp_region_ext (by kernel_rfl) (by kernel_rfl) ?_
              repeat (go_big_quiet_step ((go_at_call 66; exact Calls.ext (cSt _))))
              refine wpQuiet_nil ?_
              rintro _ ⟨x, rfl⟩
              have hbx : Below w2.heap.size w2 x.w := BL _ (hbW.trans (x.2.mono hbW.size))
              generalize x.w = X at hbx
              clear k0 k1 k2 k3 k4 k5 e1' e2' e3' e4' e5'
              go_wp2
              go_roundw
              case rel => exact ⟨n + 1, by omega, by go_num, hbx, chk_next (r := []) HCH HDR HLP hT e1 e2 (by rw [E3.out]; rfl)⟩
              case measure => simp [intOf]; omega
            · have td : decide ((0 : Int) < (n : Int)) = true := decide_eq_true (by omega)
              have td' : decide (0 < n) = true := decide_eq_true (by omega)
              obtain ⟨v, hpv⟩ : ∃ v, rd_T42 l ((n - 1 : Nat) : Int) = v := ⟨_, rfl⟩
              go_wp2_with (go_at_call 63; refine (cB _).mono ?_; rintro e W ⟨rfl, hbW⟩)
              obtain ⟨k0, k1, k2, k3, k4, k5⟩ := box6 hbW
              have hbW' : Below wr.heap.size wr W := ((Below.refl _ wr).alloc (Nat.le_refl _) _).trans (hbW.mono (by simp))
              have hr4 : Kd.C k42 wr (some ad) l.length l := hr3
              obtain ⟨ad', hae, g0, g1, g2, g3, g4, g5⟩ := at_T42 hr4 ((n - 1 : Nat) : Int) (by omega) (by omega)
              obtain rfl : ad' = ad := by injection hae with hae; exact hae.symm
              rw [hpv] at g0 g1 g2 g3 g4 g5
              simp only [Int.toNat_natCast] at g0 g1 g2 g3 g4 g5
              have HPV := Lib.hid hpv
              clear hpv
              have BLW := fun X (h : Below W.heap.size W X) => BL X (hbW.trans (h.mono hbW.size))
              have cc : ∀ {ad : Addr} {u : Value}, wr.cell? ad = some u → ∀ x : Ext W, x.w.cell? ad = some u := fun h x =>
                cell_later (hbW'.trans (x.2.mono hbW'.size)) h
              have c3' := cc c3
              have g0' := cc g0
              have g1' := cc g1
              have g2' := cc g2
              have g3' := cc g3
              have g4' := cc g4
              have g5' := cc g5
              have e1' := fun x : Ext W => x.cell k1
              have e2' := fun x : Ext W => x.cell k2
              have e3' := fun x : Ext W => x.cell k3
              have e4' := fun x : Ext W => x.cell k4
              have e5' := fun x : Ext W => x.cell k5
              clear cc
              have wr1 : IntKind.i64.wrap ((n : Int) - 1) = (n : Int) - 1 := IntWalk.i64_in _ (by omega)
              have wr2 : (0 : Int) ≤ (n : Int) - 1 := by omega
              have wr3 : (n : Int) - 1 < (l.length : Int) := by omega
              have wr4 : 1 ≤ n := by omega
              have wr5 : (1 : Int) ≤ (n : Int) := by omega
              have wr6 : ¬ ((n : Int) - 1 < 0) := by omega
              have wr7 : ((n : Int) - 1).toNat < l.length := by omega
              have wr8 : n - 1 < l.length := by omega
              cases hq : eqS p.f1 v.f1
              all_goals
                have hq' : eqS v.f1 p.f1 = _ := (eqS_comm v.f1 p.f1).trans hq
                unfold eqS at hq'
                refine wp_region_ext (by kernel_rfl) (by kernel_rfl) ?_
                repeat (go_big_quiet_step ((go_at_call 66; exact Calls.ext (cSt _))))
                refine wpQuiet_nil ?_
                rintro _ ⟨x, rfl⟩
                have hbx : Below w2.heap.size w2 x.w := BLW _ x.2
                generalize x.w = X at hbx
                clear wr1 wr2 wr3 wr4 wr5 wr6 wr7 wr8 c3' g0' g1' g2' g3' g4' g5' e1' e2' e3' e4' e5'
                go_wp2
              · go_roundw
                case rel => exact ⟨n + 1, by omega, by go_num, hbx, chk_next (r := []) HCH HDR HLP hT e1 e2 (by have hv := HPV.out; simp only [rd_T42, Int.toNat_natCast, List.getD_eq_getElem?_getD] at hv; simp [prevOf, show n ≠ 0 from by omega, hv, eqS_comm v.f1 p.f1, hq])⟩
                case measure => simp [intOf]; omega
              · go_ret
                exact ⟨ret_int (chk_eq HCH HDR hT h0 HPV hq), BW _ hbx⟩
    · go_wp2
      go_ret
      exact ⟨ret_int (by rw [← hch, List.drop_of_length_le (by omega)]; rfl), hbw.trans (hbr.mono (by omega))⟩
theorem tCheck_calls (a b c : Int) (A : Option Addr) (cap : Nat) (l : List S42) (w : World) (hr : Kd.C k42 w A l.length l) (hc : l.length ≤ cap) (hf : Fit l) :
    Calls Tryz.prog 25 #[.agg #[.int .i64 a, .int .i64 b, .int .i64 c, .slice A l.length cap]] w fun e w' => e = .returned (.int .i64 (checkS a b c l)) ∧ Below w.heap.size w w' := by
  have hs := wordsOf_size l
  cases hh : headB a b c
  · rw [show checkS a b c l = 1 from by simp [checkS, hh]]
    exact tchk_head a b c A cap l w hr hc hh
  · have hW := fun cap w hr hc => tWords_calls a b c A cap l w hr hc hf
    have hL := fun cap w hr hc => tLines_calls a b c A cap l w hr hc hf
    by_cases h : 100 < l.length ∨ 2000 < wordsLen l ∨ 20 < nlf (bs (wordsOf l)) + 1
    · rw [show checkS a b c l = 2 from by
        have : (decide (100 < l.length) || (decide (2000 < wordsLen l) || decide (20 < nlf (bs (wordsOf l)) + 1))) = true := by simp only [Bool.or_eq_true, decide_eq_true_eq]; exact h
        unfold checkS; rw [hh, this]; rfl]
      exact tchk_limit a b c A cap l w hr hc hh _ _ hW hL (by omega)
    · rw [show checkS a b c l = chk none l from by
        have : (decide (100 < l.length) || (decide (2000 < wordsLen l) || decide (20 < nlf (bs (wordsOf l)) + 1))) = false := by simp only [Bool.or_eq_false_iff, decide_eq_false_iff_not]; omega
        unfold checkS; rw [hh, this]; rfl]
      exact tchk_loop a b c A cap l w hr hc hh _ _ hW hL (by omega) (by omega) (by omega)
end Go.Proofs.YtogidacejbjljaaGreatDoor.PTextChecks
