/- A verified abstract interpreter, part C7: equality, interface values, iterators; the operations together. -/
import Derived.Test.YtogidacejbjljaaGreatDoorDenC6
set_option linter.unusedVariables false
set_option linter.unusedSimpArgs false
namespace Go.Den
open Go.RowKit

/-! ### equality where addresses are among the operands -/
def isNilA : Value → Option Bool
  | .pointer none | .slice none _ _ | .nilFunc | .nilIface | .map none => some true
  | .pointer (some _) | .slice (some _) _ _ | .func .. | .iface .. | .map (some _) => some false
  | _ => none
def eqA (P : Program) (t : TypeId) (x y : Value) : Option Bool :=
  match P.underlying t with
  | some (.pointer e) => match x with
    | .pointer none => (match y with | .pointer b => some b.isNone | _ => none)
    | .pointer (some a) => (match y with
      | .pointer none => some false
      | .pointer (some a2) => (match P.info? e with
        | some i => bif !(Nat.beq i.size 0) && Nat.beq a.block a2.block then some (Nat.beq a.off a2.off) else none
        | none => none)
      | _ => none)
    | _ => none
  | some (.slice _) => match x with
    | .slice none _ _ => (match y with | .slice b _ _ => some b.isNone | _ => none)
    | .slice (some _) _ _ => (match y with | .slice none _ _ => some false | _ => none)
    | _ => none
  | some (.func _ _ _) => match x with
    | .func _ _ _ => (match y with | .nilFunc => some false | _ => none)
    | .nilFunc => (match y with | .func _ _ _ => some false | _ => none)
    | _ => none
  | some (.interface _) => match x with
    | .nilIface => (match y with | .iface _ _ => some false | _ => none)
    | .iface _ _ => (match y with | .nilIface => some false | _ => none)
    | _ => none
  | _ => none

theorem VRel.isNone {p : Ren} {a : Option Addr} {v' : Value} (h : VRel p (.pointer a) v') : ∃ a', v' = .pointer a' ∧ a'.isNone = a.isNone := by
  cases h with
  | ptrNil => exact ⟨none, rfl, rfl⟩
  | ptr b b' x o hb => exact ⟨_, rfl, rfl⟩
theorem VRel.isNoneS {p : Ren} {a : Option Addr} {n c : Nat} {v' : Value} (h : VRel p (.slice a n c) v') : ∃ a' n' c', v' = .slice a' n' c' ∧ a'.isNone = a.isNone := by
  cases h with
  | sliceNil => exact ⟨none, _, _, rfl, rfl⟩
  | slice b b' x o n c c' hb hc hx => exact ⟨_, _, _, rfl, rfl⟩

theorem beq_off {c o1 o2 : Nat} : ((⟨c, o1, none⟩ : Addr) == ⟨c, o2, none⟩) = Nat.beq o1 o2 := by
  by_cases e : o1 = o2
  · subst e; rw [Nat.beq_refl]; simp
  · have : Nat.beq o1 o2 = false := by
      cases q : Nat.beq o1 o2 with
      | false => rfl
      | true => exact absurd (Nat.eq_of_beq_eq_true q) e
    rw [this]
    simp [e]

theorem eqA_run' {P : Program} {p : Ren} {t : TypeId} {x x' y y' : Value} {b : Bool} (d : Nat) (hx : VRel p x x') (hy : VRel p y y') (h : eqA P t x y = some b) (w : World) :
    (Op.equalIn (d + 1) t x' y').run P w = .ok b w := by
  unfold eqA at h
  unfold Op.equalIn
  split at h
  · rename_i e hu
    simp only [Sem.run_bind, run_underlying hu, Result.andThen]
    split at h
    · cases hx
      split at h
      · injection h with h
        subst h
        obtain ⟨a', rfl, h2⟩ := hy.isNone
        simp only [Sem.run_pure, h2]
      · exact absurd h (by simp)
    · rename_i a
      obtain ⟨a', y1, hx'⟩ : ∃ a' y1, ARel p a a' y1 ∧ x' = .pointer (some a') := by
        rcases hx.ptr_inv with ⟨e0, _⟩ | ⟨_, a', y1, e0, h1, h2⟩
        · exact absurd e0 (by simp)
        · injection e0 with e0; subst e0; exact ⟨a', y1, h1, h2⟩
      obtain ⟨har, rfl⟩ := hx'
      split at h
      · injection h with h
        subst h
        cases hy
        rfl
      · rename_i a2
        split at h
        · rename_i i hi
          cases hc : (!(Nat.beq i.size 0) && Nat.beq a.block a2.block) with
          | false => rw [hc] at h; exact absurd h (by simp)
          | true =>
            rw [hc] at h
            simp only [cond_true, Option.some.injEq] at h
            simp only [Bool.and_eq_true, Bool.not_eq_true'] at hc
            have h1 := Nat.ne_of_beq_eq_false hc.1
            have h2 := Nat.eq_of_beq_eq_true hc.2
            cases har with
            | mk b1 c1 _ o1 hb1 =>
              cases hy with
              | ptr b2 c2 y2 o2 hb2 =>
                simp only at h2 h
                subst h2
                rw [hb1] at hb2
                injection hb2 with hb2
                injection hb2 with hb2 _
                subst hb2
                subst h
                simp only [Sem.run_bind, run_sizeOf hi, Result.andThen]
                rw [if_pos h1]
                simp only [sameAddr, beq_self_eq_true, if_true, Sem.run_pure, beq_off]
        · exact absurd h (by simp)
      · exact absurd h (by simp)
    · exact absurd h (by simp)
  · rename_i e hu
    simp only [Sem.run_bind, run_underlying hu, Result.andThen]
    split at h
    · cases hx
      split at h
      · injection h with h
        subst h
        obtain ⟨a', n', c', rfl, h2⟩ := hy.isNoneS
        simp only [Sem.run_pure, h2]
      · exact absurd h (by simp)
    · split at h
      · injection h with h
        subst h
        cases hx
        cases hy
        rfl
      · exact absurd h (by simp)
    · exact absurd h (by simp)
  · rename_i hu
    simp only [Sem.run_bind, run_underlying hu, Result.andThen]
    split at h
    · split at h
      · injection h with h
        subst h
        cases hx
        cases hy
        rfl
      · exact absurd h (by simp)
    · split at h
      · injection h with h
        subst h
        cases hx
        cases hy
        rfl
      · exact absurd h (by simp)
    · exact absurd h (by simp)
  · rename_i hu
    simp only [Sem.run_bind, run_underlying hu, Result.andThen]
    split at h
    · split at h
      · injection h with h
        subst h
        cases hx
        cases hy
        rfl
      · exact absurd h (by simp)
    · split at h
      · injection h with h
        subst h
        cases hx
        cases hy
        rfl
      · exact absurd h (by simp)
    · exact absurd h (by simp)
  · exact absurd h (by simp)

theorem eqA_run {P : Program} {p : Ren} {t : TypeId} {x x' y y' : Value} {b : Bool} (hx : VRel p x x') (hy : VRel p y y') (h : eqA P t x y = some b) (w : World) :
    (Op.equal t x' y').run P w = .ok b w := eqA_run' 9999 hx hy h w

/-! ### interface values -/
def assertA (P : Program) (x : Value) (xt ty : TypeId) (commaOk : Bool) : Option Value :=
  match P.underlying ty with
  | some (.interface want) => match x with
    | .iface t v => match P.info? t with
      | some i => match Instr.missingMethod want i.methods with
        | none => some (bif commaOk then .tuple #[.iface t v, .bool true] else .iface t v)
        | some _ => none
      | none => none
    | .nilIface => bif commaOk then (match P.info? ty with | some i => (match i.zero with | some .nilIface => some (.tuple #[.nilIface, .bool false]) | _ => none) | none => none) else none
    | _ => none
  | some _ => match x with
    | .iface t v => bif Nat.beq t ty then some (bif commaOk then .tuple #[v, .bool true] else v)
      else bif commaOk then (match P.info? ty with | some i => (match i.zero with | some z => bif flat1 z then some (.tuple #[z, .bool false]) else none | none => none) | none => none) else none
    | .nilIface => bif commaOk then (match P.info? ty with | some i => (match i.zero with | some z => bif flat1 z then some (.tuple #[z, .bool false]) else none | none => none) | none => none) else none
    | _ => none
  | none => none

theorem pair_rel {p : Ren} {v v' : Value} (h : VRel p v v') (b : Bool) : VRel p (.tuple #[v, .bool b]) (.tuple #[v', .bool b]) :=
  .tuple _ _ (.cons _ _ _ _ h (.cons _ _ _ _ (.bool b) .nil))

theorem assertA_run {P : Program} {p : Ren} {x x' v : Value} {xt ty : TypeId} {ok : Bool} (hx : VRel p x x') (h : assertA P x xt ty ok = some v) (w : World) :
    ∃ v', (Instr.typeAssert x' xt ty ok).run P w = .ok v' w ∧ VRel p v v' := by
  unfold assertA at h
  unfold Instr.typeAssert
  split at h
  · rename_i want hu
    split at h
    · rename_i t u
      split at h
      · rename_i i hi
        split at h
        · rename_i hm
          injection h with h
          cases hx with
          | iface _ _ u' hu' =>
            have hti : (typeInfo t).run P w = .ok i w := by simp [typeInfo, program, Sem.run_bind, Sem.run, hi, Result.andThen]
            simp only [Sem.run_bind, run_underlying hu, Result.andThen, hti, hm, Sem.run_pure]
            cases ok with
            | true => subst h; exact ⟨_, rfl, pair_rel (.iface _ _ _ hu') true⟩
            | false => subst h; exact ⟨_, rfl, .iface _ _ _ hu'⟩
        · exact absurd h (by simp)
      · exact absurd h (by simp)
    · cases ok with
      | false => exact absurd h (by simp)
      | true =>
        simp only [cond_true] at h
        split at h
        · rename_i i hi
          split at h
          · rename_i hz0
            injection h with h
            subst h
            cases hx
            simp only [Sem.run_bind, run_underlying hu, Result.andThen, if_true, run_zeroValue hi hz0, Sem.run_pure]
            exact ⟨_, rfl, pair_rel .nilIface false⟩
          · exact absurd h (by simp)
        · exact absurd h (by simp)
    · exact absurd h (by simp)
  · rename_i d hne hu
    split at h
    · rename_i t u
      cases hx with
      | iface _ _ u' hu' =>
        cases hb : Nat.beq t ty with
        | true =>
          rw [hb] at h
          simp only [cond_true, Option.some.injEq] at h
          have := Nat.eq_of_beq_eq_true hb
          subst this
          simp only [Sem.run_bind, run_underlying hu, Result.andThen]
          cases d with
          | interface want => exact absurd rfl (hne want)
          | _ =>
            simp only [if_true, Sem.run_pure]
            cases ok with
            | true => subst h; exact ⟨_, rfl, pair_rel hu' true⟩
            | false => subst h; exact ⟨_, rfl, hu'⟩
        | false =>
          rw [hb] at h
          simp only [cond_false] at h
          have hneq := Nat.ne_of_beq_eq_false hb
          cases ok with
          | false => exact absurd h (by simp)
          | true =>
            simp only [cond_true] at h
            split at h
            · rename_i i hi
              split at h
              · rename_i z hz1
                cases hf : flat1 z with
                | false => rw [hf] at h; exact absurd h (by simp)
                | true =>
                  rw [hf] at h
                  simp only [cond_true, Option.some.injEq] at h
                  subst h
                  simp only [Sem.run_bind, run_underlying hu, Result.andThen]
                  cases d with
                  | interface want => exact absurd rfl (hne want)
                  | _ =>
                    simp only [if_neg hneq, if_true, Sem.run_bind, run_zeroValue hi hz1, Result.andThen, Sem.run_pure]
                    exact ⟨_, rfl, pair_rel (flat1_rel p hf) false⟩
              · exact absurd h (by simp)
            · exact absurd h (by simp)
    · cases hx
      cases ok with
      | false => exact absurd h (by simp)
      | true =>
        simp only [cond_true] at h
        split at h
        · rename_i i hi
          split at h
          · rename_i z hz1
            cases hf : flat1 z with
            | false => rw [hf] at h; exact absurd h (by simp)
            | true =>
              rw [hf] at h
              simp only [cond_true, Option.some.injEq] at h
              subst h
              simp only [Sem.run_bind, run_underlying hu, Result.andThen]
              cases d with
              | interface want => exact absurd rfl (hne want)
              | _ =>
                simp only [if_true, Sem.run_bind, run_zeroValue hi hz1, Result.andThen, Sem.run_pure]
                exact ⟨_, rfl, pair_rel (flat1_rel p hf) false⟩
          · exact absurd h (by simp)
        · exact absurd h (by simp)
    · exact absurd h (by simp)
  · exact absurd h (by simp)

def ifaceA (P : Program) (t : TypeId) (x : Value) : Option Value :=
  match P.underlying t with
  | some (.interface _) => none
  | some _ => some (.iface t x)
  | none => none
theorem ifaceA_run {P : Program} {p : Ren} {t : TypeId} {x x' v : Value} (hx : VRel p x x') (h : ifaceA P t x = some v) (w : World) :
    ∃ v', (Instr.makeInterface t x').run P w = .ok v' w ∧ VRel p v v' := by
  unfold ifaceA at h
  split at h
  · exact absurd h (by simp)
  · rename_i d hne hu
    injection h with h
    subst h
    refine ⟨.iface t x', ?_, .iface _ _ _ hx⟩
    unfold Instr.makeInterface
    simp only [Sem.run_bind, run_underlying hu, Result.andThen]
    cases d with
    | interface ms => exact absurd rfl (hne ms)
    | _ => rfl
  · exact absurd h (by simp)

/-! ### iterators over strings -/
def rangeA (P : Program) (s : St) (t : TypeId) (x : Value) : Option (Value × St) :=
  match P.underlying t with
  | some .string => match x with
    | .string str => some (ptrA s.next, s.add (.iter str 0))
    | _ => none
  | _ => none
theorem rangeA_run {P : Program} {w0 : Base} {w : World} {p : Ren} {s s' : St} (R : Rel w0 p s w) {t : TypeId} {x x' v : Value} (hx : VRel p x x') (h : rangeA P s t x = some (v, s')) :
    ∃ q v' w', p.le q ∧ (Instr.range t x').run P w = .ok v' w' ∧ VRel q v v' ∧ Rel w0 q s' w' := by
  unfold rangeA at h
  split at h
  · rename_i hu
    split at h
    · rename_i str
      simp only [Option.some.injEq, Prod.mk.injEq] at h
      obtain ⟨rfl, rfl⟩ := h
      cases hx
      refine ⟨p.ext s.next (w.heap.size, 0), .pointer (some ⟨w.heap.size, 0, none⟩), w.alloc (.stringIter str 0), Ren.le_ext (R.fresh _ (Nat.le_refl _)).2, ?_, .ptr _ _ _ _ (Ren.ext_same _ _ _), R.alloc rfl ⟨rfl, R.newAt⟩⟩
      simp [Instr.range, Sem.run_bind, run_underlying hu, Result.andThen, newObj, Sem.run]
    · exact absurd h (by simp)
  · exact absurd h (by simp)

def nextA (s : St) (x : Value) : Option (Value × St) :=
  match x with
  | .pointer (some ⟨b, 0, none⟩) => match s.heap.get b with
    | some (.iter str pos) =>
      bif Nat.blt pos str.size then
        some (.tuple #[.bool true, goInt pos, .int .i32 (Utf8.decode str pos).1], { s with heap := s.heap.put b (some (.iter str (pos + (Utf8.decode str pos).2))) })
      else some (.tuple #[.bool false], s)
    | _ => none
  | _ => none
theorem nextA_run {P : Program} {w0 : Base} {w : World} {p : Ren} {s s' : St} (R : Rel w0 p s w) {ty : TypeId} {x x' v : Value} (hx : VRel p x x') (h : nextA s x = some (v, s')) :
    ∃ v' w', (Instr.next x' true ty).run P w = .ok v' w' ∧ VRel p v v' ∧ Rel w0 p s' w' := by
  unfold nextA at h
  split at h
  · rename_i b
    split at h
    · rename_i str pos hk
      cases hx with
      | ptr _ b' y _ hb =>
        obtain ⟨bn, cn, hp, hor⟩ := R.obj b _ hk
        rw [hb] at hp
        injection hp with hp
        injection hp with hp _
        subst hp
        have hg : (getObj b').run P w = .ok (.stringIter str pos) w := by simp [getObj, Sem.run, hor.1]
        cases hlt : Nat.blt pos str.size with
        | true =>
          rw [hlt] at h
          simp only [cond_true, Option.some.injEq, Prod.mk.injEq] at h
          obtain ⟨rfl, rfl⟩ := h
          have hl := blt_lt hlt
          have hbs : b' < w.heap.size := (Array.getElem?_eq_some_iff.1 hor.1).1
          have hset : (setObj b' (.stringIter str (pos + (Utf8.decode str pos).2))).run P w = .ok () { w with heap := w.heap.setIfInBounds b' (.stringIter str (pos + (Utf8.decode str pos).2)) } := by
            simp [setObj, Sem.run, hor.1]
          refine ⟨_, { w with heap := w.heap.setIfInBounds b' (.stringIter str (pos + (Utf8.decode str pos).2)) }, ?_, .tuple _ _ (flatL_rel p (by rfl)), R.update hk rfl hb rfl rfl rfl (by simp) (fun j hj _ => by simp [Array.getElem?_setIfInBounds, hj.symm]) ?_ rfl⟩
          · simp only [Instr.next, Sem.run_bind, hg, Result.andThen]
            rw [if_pos hl]
            simp only [Sem.run_bind, hset, Result.andThen, Sem.run_pure]
          · refine ⟨?_, hor.2⟩
            simp [Array.getElem?_setIfInBounds, hbs]
        | false =>
          rw [hlt] at h
          simp only [cond_false, Option.some.injEq, Prod.mk.injEq] at h
          obtain ⟨rfl, rfl⟩ := h
          have hl := blt_not hlt
          refine ⟨_, w, ?_, .tuple _ _ (flatL_rel p (by rfl)), R⟩
          simp only [Instr.next, Sem.run_bind, hg, Result.andThen]
          rw [if_neg hl]
          rfl
    · exact absurd h (by simp)
  · exact absurd h (by simp)

end Go.Den
