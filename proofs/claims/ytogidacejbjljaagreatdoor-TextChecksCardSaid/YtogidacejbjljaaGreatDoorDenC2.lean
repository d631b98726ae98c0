/- A verified abstract interpreter, part C2: slicing; parts; equality; conversions. -/
import Derived.Test.YtogidacejbjljaaGreatDoorDenC
set_option linter.unusedVariables false
set_option linter.unusedSimpArgs false
namespace Go.Den
open Go.RowKit

theorem boundA_lo {P : Program} {p : Ren} {lo lo' : Option Value} {h l : Nat} {code : BoundsCode} (r : ORelV p lo lo') (hb : boundA lo 0 h = some l) (w : World) :
    ((match lo' with | some v => Instr.sliceBound v h code | none => pure 0) : Sem Nat).run P w = .ok l w := by
  cases r with
  | none => simp only [boundA, Option.some.injEq] at hb; subst hb; rfl
  | some v v' hv => exact boundA_run hv hb (Nat.le_refl _) w

theorem run_sliceBounds {P : Program} {p : Ren} {lo lo' hi hi' mx mx' : Option Value} {isS : Bool} {len cl cap l h m : Nat} (rl : ORelV p lo lo') (rh : ORelV p hi hi') (rm : ORelV p mx mx')
    (hcl : cl ≤ cap) (hm : boundA mx cl cl = some m) (hh : boundA hi len m = some h) (hl : boundA lo 0 h = some l) (hx : mx = none ∨ hi ≠ none) (w : World) :
    (Instr.sliceBounds isS len cap lo' hi' mx').run P w = .ok (l, h, mx'.elim cap (fun _ => m)) w := by
  show _ = Result.ok (l, h, Option.elim mx' cap (fun _ => m)) w
  cases rm with
  | none =>
    simp only [boundA, Option.some.injEq] at hm
    subst hm
    cases rh with
    | none =>
      simp only [boundA, Option.some.injEq] at hh
      subst hh
      cases rl with
      | none =>
        simp only [boundA, Option.some.injEq] at hl
        subst hl
        simp only [Instr.sliceBounds, Option.elim, Sem.run_bind, Sem.run_pure, Result.andThen]
      | some v v' hv =>
        have := fun code => boundA_run (P := P) (code := code) (y := len) hv hl (Nat.le_refl _) w
        simp only [Instr.sliceBounds, Option.elim, Sem.run_bind, Sem.run_pure, Result.andThen, this]
    | some u u' hu =>
      have h1 := fun code => boundA_run (P := P) (code := code) (y := cap) hu hh hcl w
      cases rl with
      | none =>
        simp only [boundA, Option.some.injEq] at hl
        subst hl
        simp only [Instr.sliceBounds, Option.elim, Sem.run_bind, Sem.run_pure, Result.andThen, h1]
      | some v v' hv =>
        have := fun code => boundA_run (P := P) (code := code) (y := h) hv hl (Nat.le_refl _) w
        simp only [Instr.sliceBounds, Option.elim, Sem.run_bind, Sem.run_pure, Result.andThen, h1, this]
  | some x x' hx' =>
    have h0 := fun code => boundA_run (P := P) (code := code) (y := cap) hx' hm hcl w
    cases rh with
    | none => rcases hx with e | e <;> simp at e
    | some u u' hu =>
      have h1 := fun code => boundA_run (P := P) (code := code) (y := m) hu hh (Nat.le_refl _) w
      cases rl with
      | none =>
        simp only [boundA, Option.some.injEq] at hl
        subst hl
        simp only [Instr.sliceBounds, Option.elim, Sem.run_bind, Sem.run_pure, Result.andThen, h0, h1]
      | some v v' hv =>
        have := fun code => boundA_run (P := P) (code := code) (y := h) hv hl (Nat.le_refl _) w
        simp only [Instr.sliceBounds, Option.elim, Sem.run_bind, Sem.run_pure, Result.andThen, h0, h1, this]

inductive ARel (p : Ren) : Addr → Addr → Nat → Prop where
  | mk (b b' x o : Nat) : p b = some (b', x) → ARel p ⟨b, o, none⟩ ⟨b', o, none⟩ x
theorem shiftA_rel {p : Ren} {a a' b : Addr} {eq : Bool} {d x : Nat} (r : ARel p a a' x) (h : shiftA eq d a = some b) : ARel p b (if eq = true then a' else a'.add d) x := by
  cases r with
  | mk c c' _ o hc =>
    simp only [shiftA, Option.some.injEq] at h
    subst h
    cases eq with
    | true => rw [if_pos rfl]; exact .mk _ _ _ _ hc
    | false => rw [if_neg (by simp), Addr.add_none]; exact .mk _ _ _ _ hc
theorem shiftB_rel {p : Ren} {a a' b : Addr} {m l d x : Nat} (r : ARel p a a' x) (h : shiftA (Nat.beq m l) d a = some b) : ARel p b (if m = l then a' else a'.add d) x := by
  have := shiftA_rel r h
  by_cases e : m = l
  · subst e; rw [if_pos (Nat.beq_refl _)] at this; rw [if_pos rfl]; exact this
  · have e2 : ¬ Nat.beq m l = true := fun h => e (Nat.eq_of_beq_eq_true h)
    rw [if_neg e2] at this; rw [if_neg e]; exact this

theorem VRel.slice_inv {p : Ren} {a : Option Addr} {n c : Nat} {v' : Value} (h : VRel p (.slice a n c) v') :
    (a = none ∧ v' = .slice none n c) ∨ ∃ x x' y c', a = some x ∧ ARel p x x' y ∧ v' = .slice (some x') n c' ∧ capRel c c' ∧ (U ≤ c → x.off = 0 → c' = y) := by
  cases h with
  | sliceNil => exact .inl ⟨rfl, rfl⟩
  | slice b b' y o _ _ c' hb hc hy => exact .inr ⟨_, _, y, c', rfl, .mk _ _ _ _ hb, rfl, hc, hy⟩
theorem VRel.ptr_inv {p : Ren} {a : Option Addr} {v' : Value} (h : VRel p (.pointer a) v') :
    (a = none ∧ v' = .pointer none) ∨ ∃ x x' y, a = some x ∧ ARel p x x' y ∧ v' = .pointer (some x') := by
  cases h with
  | ptrNil => exact .inl ⟨rfl, rfl⟩
  | ptr b b' y o hb => exact .inr ⟨_, _, y, rfl, .mk _ _ _ _ hb, rfl⟩
theorem VRel.mkSlice {p : Ren} {a a' : Addr} {n c c' x : Nat} (h : ARel p a a' x) (hc : capRel c c') (hx : U ≤ c → a.off = 0 → c' = x) : VRel p (.slice (some a) n c) (.slice (some a') n c') := by
  cases h with
  | mk b b' x o hb => exact .slice _ _ _ _ _ _ _ hb hc hx
theorem VRel.mkPtr {p : Ren} {a a' : Addr} {x : Nat} (h : ARel p a a' x) : VRel p (.pointer (some a)) (.pointer (some a')) := by
  cases h with
  | mk b b' x o hb => exact .ptr _ _ _ _ hb
theorem lt_not_leU {u c l : Nat} (h : Nat.blt c u = true) : ¬ u ≤ c - l := by have := blt_lt h; omega
theorem exact_not {c l : Nat} (h : Nat.blt c U = true) {q : Prop} (e : U ≤ c - l) : q := absurd e (lt_not_leU h)
theorem shiftA_off {a b : Addr} {d : Nat} (h : shiftA false d a = some b) : b.off = a.off + d := by
  unfold shiftA at h
  split at h
  · simp only [cond_false, Option.some.injEq] at h; subst h; rfl
  · exact absurd h (by simp)
theorem shiftA_off0 {a b : Addr} {d : Nat} (h : shiftA true d a = some b) : b.off = a.off := by
  unfold shiftA at h
  split at h
  · simp only [cond_true, Option.some.injEq] at h; subst h; rfl
  · exact absurd h (by simp)

theorem capLowU_self (u c : Nat) : capLowU u c ≤ c := by
  unfold capLowU
  cases Nat.blt c u <;> simp only [cond_true, cond_false] <;> omega
theorem capLow_self (c : Nat) : capLow c ≤ c := capLowU_self U c

theorem slice2_rel {P : Program} {p : Ren} {size : Nat} {a : Option Addr} {len cap : Nat} {x' v : Value} {lo lo' hi hi' : Option Value} (hx : VRel p (.slice a len cap) x') (rl : ORelV p lo lo') (rh : ORelV p hi hi')
    (h : slice2 size a len cap lo hi = some v) (w : World) : ∃ a' cap' l hh, x' = .slice a' len cap' ∧ (Instr.sliceBounds true len cap' lo' hi' none).run P w = .ok (l, hh, cap') w ∧
      VRel p v (.slice (if cap' = l then a' else a'.map (·.add (l * size))) (hh - l) (cap' - l)) := by
  unfold slice2 at h
  split at h
  · exact absurd h (by simp)
  · rename_i hh hhh
    split at h
    · exact absurd h (by simp)
    · rename_i l hl
      rcases hx.slice_inv with ⟨rfl, rfl⟩ | ⟨x, x', y, c', rfl, har, rfl, hc, hy⟩
      · simp only [Option.some.injEq] at h
        subst h
        refine ⟨none, cap, l, hh, rfl, ?_, ?_⟩
        · have := run_sliceBounds (P := P) (isS := true) (cap := cap) rl rh (.none (p := p)) (capLow_self cap) rfl hhh hl (.inl rfl) w
          simpa using this
        · have : (if cap = l then (none : Option Addr) else Option.map (fun x : Addr => x.add (l * size)) none) = none := by split <;> rfl
          rw [this]
          exact .sliceNil _ _
      · have hb := run_sliceBounds (P := P) (isS := true) (cap := c') rl rh (.none (p := p)) (capLow_le hc) rfl hhh hl (.inl rfl) w
        refine ⟨some x', c', l, hh, rfl, by simpa using hb, ?_⟩
        dsimp only at h
        cases hcu : Nat.blt cap U with
        | true =>
          rw [hcu] at h
          simp only [cond_true] at h
          obtain ⟨rfl, _⟩ := cap_exact hc hcu
          split at h
          · rename_i b hsb
            injection h with h
            subst h
            have := shiftB_rel har hsb
            by_cases e : c' = l
            · rw [if_pos e] at this ⊢; exact VRel.mkSlice this (cap_sub hcu) (fun e _ => exact_not hcu e)
            · rw [if_neg e] at this ⊢; exact VRel.mkSlice this (cap_sub hcu) (fun e _ => exact_not hcu e)
          · exact absurd h (by simp)
        | false =>
          rw [hcu] at h
          simp only [cond_false] at h
          cases hl0 : Nat.beq l 0 with
          | true =>
            have := Nat.eq_of_beq_eq_true hl0
            subst this
            rw [hl0] at h
            simp only [cond_true] at h
            split at h
            · rename_i b hsb
              injection h with h
              subst h
              have := shiftA_rel har hsb
              rw [if_pos rfl] at this
              have e2 : (if c' = 0 then some x' else Option.map (fun y : Addr => y.add (0 * size)) (some x')) = some x' := by
                split
                · rfl
                · simp [Addr.add]
              rw [e2]
              simp only [Nat.sub_zero]
              exact VRel.mkSlice this hc (fun e e2 => hy e (by rw [← shiftA_off0 hsb]; exact e2))
            · exact absurd h (by simp)
          | false =>
            rw [hl0] at h
            simp only [cond_false] at h
            cases hlm : (Nat.blt l (capLow cap) && Nat.blt 0 size) with
            | false => rw [hlm] at h; exact absurd h (by simp)
            | true =>
              rw [hlm] at h
              rw [Bool.and_eq_true] at hlm
              simp only [cond_true] at h
              split at h
              · rename_i b hsb
                injection h with h
                subst h
                have := shiftA_rel har hsb
                rw [if_neg (by simp)] at this
                obtain ⟨g1, g2⟩ := cap_less hc hcu (blt_lt hlm.1)
                rw [if_neg (by omega)]
                refine VRel.mkSlice this g1 (fun _ e => ?_)
                have h1 := blt_lt hlm.2
                have h2 := Nat.ne_of_beq_eq_false hl0
                have h3 := shiftA_off hsb
                have h4 : 0 < l * size := Nat.mul_pos (by omega) h1
                omega
              · exact absurd h (by simp)

theorem slice3_rel {P : Program} {p : Ren} {size : Nat} {a : Option Addr} {len cap : Nat} {x' v hv mv : Value} {lo lo' hi' mx' : Option Value} (hx : VRel p (.slice a len cap) x') (rl : ORelV p lo lo') (rh : ORelV p (some hv) hi')
    (rm : ORelV p (some mv) mx') (h : slice3 size a len cap lo (some hv) (some mv) = some v) (w : World) : ∃ a' cap' l hh m, x' = .slice a' len cap' ∧ (Instr.sliceBounds true len cap' lo' hi' mx').run P w = .ok (l, hh, m) w ∧
      VRel p v (.slice (if m = l then a' else a'.map (·.add (l * size))) (hh - l) (m - l)) := by
  unfold slice3 at h
  split at h
  · exact absurd h (by simp)
  · rename_i m hm
    split at h
    · exact absurd h (by simp)
    · rename_i hh hhh
      split at h
      · exact absurd h (by simp)
      · rename_i l hl
        rcases hx.slice_inv with ⟨rfl, rfl⟩ | ⟨x, x', y, c', rfl, har, rfl, hc, hy⟩
        · simp only [Option.some.injEq] at h
          subst h
          refine ⟨none, cap, l, hh, m, rfl, ?_, ?_⟩
          · have := run_sliceBounds (P := P) (isS := true) (cap := cap) rl rh rm (capLow_self cap) hm hhh hl (.inr (by simp)) w
            cases rm; exact this
          · have : (if m = l then (none : Option Addr) else Option.map (fun x : Addr => x.add (l * size)) none) = none := by split <;> rfl
            rw [this]
            exact .sliceNil _ _
        · have hb := run_sliceBounds (P := P) (isS := true) (cap := c') rl rh rm (capLow_le hc) hm hhh hl (.inr (by simp)) w
          refine ⟨some x', c', l, hh, m, rfl, by cases rm; exact hb, ?_⟩
          dsimp only at h
          cases hcu : Nat.blt m U with
          | false => rw [hcu] at h; exact absurd h (by simp)
          | true =>
            rw [hcu] at h
            simp only [cond_true] at h
            split at h
            · rename_i b hsb
              injection h with h
              subst h
              have := shiftB_rel har hsb
              by_cases e : m = l
              · rw [if_pos e] at this ⊢; exact VRel.mkSlice this (cap_sub hcu) (fun e _ => exact_not hcu e)
              · rw [if_neg e] at this ⊢; exact VRel.mkSlice this (cap_sub hcu) (fun e _ => exact_not hcu e)
            · exact absurd h (by simp)

theorem sliceA_run {P : Program} {p : Ren} {t : TypeId} {x x' v : Value} {lo lo' hi hi' mx mx' : Option Value} (hx : VRel p x x') (rl : ORelV p lo lo') (rh : ORelV p hi hi') (rm : ORelV p mx mx')
    (h : sliceA P t x lo hi mx = some v) (w : World) : ∃ v', (Instr.sliceAt t x' lo' hi' mx').run P w = .ok v' w ∧ VRel p v v' := by
  unfold sliceA at h
  split at h
  · rename_i e hu
    split at h
    · rename_i a len cap
      split at h
      · rename_i inf hinf
        have hrun : ∀ (a' : Option Addr) (cap' l h m : Nat), (Instr.sliceBounds true len cap' lo' hi' mx').run P w = .ok (l, h, m) w →
            (Instr.sliceAt t (.slice a' len cap') lo' hi' mx').run P w = .ok (.slice (if m = l then a' else a'.map (·.add (l * inf.size))) (h - l) (m - l)) w := by
          intro a' cap' l h m hr
          simp only [Instr.sliceAt, Sem.run_bind, run_underlying hu, Result.andThen, Instr.slice, hr, run_sizeOf hinf, Sem.run_pure]
        split at h
        · cases rm
          obtain ⟨a', cap', l, hh, rfl, h1, h2⟩ := slice2_rel (P := P) hx rl rh h w
          exact ⟨_, hrun _ _ _ _ _ h1, h2⟩
        · split at h
          · exact absurd h (by simp)
          · obtain ⟨a', cap', l, hh, m, rfl, h1, h2⟩ := slice3_rel (P := P) hx rl rh rm h w
            exact ⟨_, hrun _ _ _ _ _ h1, h2⟩
      · exact absurd h (by simp)
    · exact absurd h (by simp)
  · rename_i n e hu
    split at h
    · rename_i a
      split at h
      · rename_i inf hinf
        split at h
        · split at h
          · rename_i hh hhh
            split at h
            · rename_i l hl
              cases hcu : Nat.blt n U with
              | false => rw [hcu] at h; exact absurd h (by simp)
              | true =>
                rw [hcu] at h
                simp only [cond_true] at h
                split at h
                · rename_i b hsb
                  injection h with h
                  subst h
                  rcases hx.ptr_inv with ⟨e, _⟩ | ⟨y, y', yc, e, har, rfl⟩
                  · exact absurd e (by simp)
                  · injection e with e
                    subst e
                    cases rm
                    have hb := run_sliceBounds (P := P) (isS := false) (cap := n) rl rh (.none (p := p)) (Nat.le_refl n) rfl hhh hl (.inl rfl) w
                    simp only [Option.elim] at hb
                    have := shiftB_rel har hsb
                    refine ⟨.slice (some (if n = l then y' else y'.add (l * inf.size))) (hh - l) (n - l), ?_, VRel.mkSlice this (cap_sub hcu) (fun e _ => exact_not hcu e)⟩
                    simp only [Instr.sliceAt, Instr.sureAddr, Sem.run_bind, run_underlying hu, Result.andThen, hb, run_sizeOf hinf, Sem.run_pure]
                · exact absurd h (by simp)
            · exact absurd h (by simp)
          · exact absurd h (by simp)
        · exact absurd h (by simp)
      · exact absurd h (by simp)
    · exact absurd h (by simp)
  · exact absurd h (by simp)

end Go.Den
