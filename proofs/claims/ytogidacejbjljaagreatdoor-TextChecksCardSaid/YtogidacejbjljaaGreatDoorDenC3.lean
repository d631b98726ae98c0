/- A verified abstract interpreter, part C3: parts of structs and arrays, literals, made slices, append, copy. -/
import Derived.Test.YtogidacejbjljaaGreatDoorDenC2
set_option linter.unusedVariables false
set_option linter.unusedSimpArgs false
namespace Go.Den
open Go.RowKit

/-! ### parts -/
theorem LRel.drop {p : Ren} : ∀ {l l' : List Value} (n : Nat), LRel p l l' → LRel p (l.drop n) (l'.drop n)
  | _, _, 0, h => by simpa using h
  | _, _, n + 1, .nil => by simpa using LRel.nil
  | _, _, n + 1, .cons v v' l l' _ hl => by simpa using hl.drop n
theorem LRel.take {p : Ren} : ∀ {l l' : List Value} (n : Nat), LRel p l l' → LRel p (l.take n) (l'.take n)
  | _, _, 0, h => by simpa using LRel.nil
  | _, _, n + 1, .nil => by simpa using LRel.nil
  | _, _, n + 1, .cons v v' l l' hv hl => by simpa using LRel.cons _ _ _ _ hv (hl.take n)

def partA (P : Program) (t : TypeId) (cs : Array Value) (off : Nat) : Option Value :=
  match aggP P t with
  | some true => match P.info? t with
    | some i => some (.agg ((cs.toList.drop off).take i.size).toArray)
    | none => none
  | some false => cs.toList[off]?
  | none => none
theorem extract_list (cs : Array Value) (a n : Nat) : cs.extract a (a + n) = ((cs.toList.drop a).take n).toArray := by
  apply Array.toList_inj.1
  simp
theorem partA_run {P : Program} {p : Ren} {t : TypeId} {cs cs' : Array Value} {off : Nat} {v : Value} (hx : LRel p cs.toList cs'.toList) (h : partA P t cs off = some v) (w : World) :
    ∃ v', (part t cs' off).run P w = .ok v' w ∧ VRel p v v' := by
  unfold partA at h
  split at h
  · rename_i ha
    split at h
    · rename_i i hi
      injection h with h
      subst h
      refine ⟨.agg ((cs'.toList.drop off).take i.size).toArray, ?_, .agg _ _ (by simpa using (hx.drop off).take i.size)⟩
      simp only [part, Sem.run_bind, run_isAgg ha, Result.andThen, if_true, run_sizeOf hi, Sem.run_pure, extract_list]
    · exact absurd h (by simp)
  · rename_i ha
    obtain ⟨v', h1, h2⟩ := hx.get _ _ h
    refine ⟨v', ?_, h2⟩
    have h3 : cs'[off]? = some v' := by rw [← Array.getElem?_toList]; exact h1
    simp only [part, Sem.run_bind, run_isAgg ha, Result.andThen, Bool.false_eq_true, if_false, h3, Sem.run_pure]
  · exact absurd h (by simp)

def fieldA (P : Program) (t : TypeId) (x : Value) (f : Nat) : Option Value :=
  match P.underlying t with
  | some (.struct fields) => match fields[f]? with
    | some fd => match x with
      | .agg cs => partA P fd.type cs fd.offset
      | _ => none
    | none => none
  | _ => none
theorem fieldA_run {P : Program} {p : Ren} {t : TypeId} {x x' v : Value} {f : Nat} (hx : VRel p x x') (h : fieldA P t x f = some v) (w : World) :
    ∃ v', (Instr.field t x' f).run P w = .ok v' w ∧ VRel p v v' := by
  unfold fieldA at h
  split at h
  · rename_i fields hu
    split at h
    · rename_i fd hfd
      split at h
      · cases hx with
        | agg cs cs' hcs =>
          obtain ⟨v', h1, h2⟩ := partA_run hcs h w
          refine ⟨v', ?_, h2⟩
          simp only [Instr.field, Sem.run_bind, run_underlying hu, Result.andThen, hfd, asAgg, Sem.run_pure, h1]
      · exact absurd h (by simp)
    · exact absurd h (by simp)
  · exact absurd h (by simp)

def indexA (P : Program) (t : TypeId) (x ix : Value) : Option Value :=
  match ix with
  | .int _ i => match P.underlying t with
    | some (.array len e) => match x with
      | .agg cs => match P.info? e with
        | some inf => bif decide (0 ≤ i) && decide (i < (len : Int)) then partA P e cs (i.toNat * inf.size) else none
        | none => none
      | _ => none
    | _ => none
  | _ => none
theorem indexA_run {P : Program} {p : Ren} {t : TypeId} {x x' ix ix' v : Value} (hx : VRel p x x') (hi : VRel p ix ix') (h : indexA P t x ix = some v) (w : World) :
    ∃ v', (Instr.index t x' ix').run P w = .ok v' w ∧ VRel p v v' := by
  unfold indexA at h
  split at h
  · rename_i k i
    cases hi
    split at h
    · rename_i len e hu
      split at h
      · split at h
        · rename_i inf hinf
          cases hb : (decide (0 ≤ i) && decide (i < (len : Int))) with
          | false => rw [hb] at h; simp at h
          | true =>
            rw [hb] at h
            simp only [cond_true] at h
            simp only [Bool.and_eq_true, decide_eq_true_eq] at hb
            cases hx with
            | agg cs cs' hcs =>
              obtain ⟨v', h1, h2⟩ := partA_run hcs h w
              refine ⟨v', ?_, h2⟩
              simp only [Instr.index, asIntOf, Sem.run_bind, Sem.run_pure, run_underlying hu, Result.andThen]
              rw [if_pos hb]
              simp only [Sem.run_bind, run_sizeOf hinf, Result.andThen, h1]
        · exact absurd h (by simp)
      · exact absurd h (by simp)
    · exact absurd h (by simp)
  · exact absurd h (by simp)

/-! ### literals -/
theorem semP_bind {P : Program} {α β : Type} (m : Sem α) (f : α → Sem β) : semP P (m >>= f) = (semP P m).bind fun a => semP P (f a) := by
  show semP P (m.bind f) = _
  induction m with
  | pure a => rfl
  | program k ih => exact ih P
  | mark x k ih => exact ih
  | _ => rfl
theorem semP_pure {P : Program} {α : Type} (a : α) : semP P (pure a : Sem α) = some a := rfl

inductive PRel (p : Ren) : List (Nat × Value) → List (Nat × Value) → Prop where
  | nil : PRel p [] []
  | cons (i : Nat) (v v' : Value) (l l' : List (Nat × Value)) : VRel p v v' → PRel p l l' → PRel p ((i, v) :: l) ((i, v') :: l')

theorem foldl_set {p : Ren} (off : Nat) : ∀ {l l' : List Value} (k : Nat) {cs cs' : Array Value}, LRel p l l' → LRel p cs.toList cs'.toList →
    LRel p ((l.zipIdx k).foldl (fun cs (x : Value × Nat) => cs.setIfInBounds (off + x.2) x.1) cs).toList ((l'.zipIdx k).foldl (fun cs (x : Value × Nat) => cs.setIfInBounds (off + x.2) x.1) cs').toList
  | _, _, k, cs, cs', .nil, h => by simpa using h
  | _, _, k, cs, cs', .cons v v' l l' hv hl, h => by
    simp only [List.zipIdx_cons, List.foldl_cons]
    refine foldl_set off (k + 1) hl ?_
    rw [Array.toList_setIfInBounds, Array.toList_setIfInBounds]
    refine LRel.of_get (by simp [h.length]) fun i u u' h1 h2 => ?_
    rw [List.getElem?_set] at h1 h2
    have hlen := h.length
    by_cases e : off + k = i
    · rw [if_pos e] at h1 h2
      split at h1
      · rw [if_pos (by omega)] at h2
        injection h1 with h1
        injection h2 with h2
        subst h1 h2
        exact hv
      · exact absurd h1 (by simp)
    · rw [if_neg e] at h1 h2
      obtain ⟨u2, g1, g2⟩ := h.get i u h1
      rw [h2] at g1
      injection g1 with g1
      subst g1
      exact g2

theorem fill_rel {p : Ren} (place : Nat → Option (Nat × Nat)) : ∀ {ps ps' : List (Nat × Value)} {cs cs' out : Array Value}, PRel p ps ps' → LRel p cs.toList cs'.toList → Instr.fill place cs ps = some out →
    ∃ out', Instr.fill place cs' ps' = some out' ∧ LRel p out.toList out'.toList
  | _, _, cs, cs', out, .nil, h, hf => by
    simp only [Instr.fill, Option.some.injEq] at hf
    subst hf
    exact ⟨cs', rfl, h⟩
  | _, _, cs, cs', out, .cons i v v' l l' hv hl, h, hf => by
    unfold Instr.fill at hf ⊢
    split at hf
    · exact absurd hf (by simp)
    · rename_i off size hp
      have hc := hv.cells
      have e1 : v'.cells.size = v.cells.size := by have := hc.length; simp at this; omega
      have e2 : cs'.size = cs.size := by have := h.length; simp at this; omega
      simp only [e1, e2] at hf ⊢
      split at hf
      · exact absurd hf (by simp)
      · rename_i hcond
        rw [if_neg hcond]
        refine fill_rel place hl ?_ hf
        have := foldl_set (p := p) off 0 hc h
        rw [← Array.foldl_toList, ← Array.foldl_toList, Array.toList_zipIdx, Array.toList_zipIdx]
        exact this

theorem PRel.toList {p : Ren} {ps ps' : Array (Nat × Value)} (h : PRel p ps.toList ps'.toList) : PRel p ps.toList ps'.toList := h

def buildA (P : Program) (t : TypeId) (parts : List (Nat × Value)) : Option Value :=
  match P.info? t with
  | some i => match i.zero with
    | some z => bif flat1 z then semP P (Instr.build t parts.toArray) else none
    | none => none
  | none => none

theorem buildA_run {P : Program} {p : Ren} {t : TypeId} {ps ps' : List (Nat × Value)} {v : Value} (hp : PRel p ps ps') (h : buildA P t ps = some v) (w : World) :
    ∃ v', (Instr.build t ps'.toArray).run P w = .ok v' w ∧ VRel p v v' := by
  unfold buildA at h
  split at h
  · rename_i i hi
    split at h
    · rename_i z hz
      cases hf : flat1 z with
      | false => rw [hf] at h; simp at h
      | true =>
        rw [hf] at h
        simp only [cond_true] at h
        have hzr := (flat1_rel p hf).cells
        suffices hh : ∃ v', semP P (Instr.build t ps'.toArray) = some v' ∧ VRel p v v' by
          obtain ⟨v', h1, h2⟩ := hh
          exact ⟨v', semP_run h1 w, h2⟩
        unfold Instr.build at h ⊢
        have hz0 : semP P (zeroValue t) = some z := by
          simp only [zeroValue, typeInfo, program, semP_bind, semP, hi, hz, Option.bind_some, semP_pure]
        rw [semP_bind, hz0, Option.bind_some] at h ⊢
        rw [semP_bind] at h ⊢
        cases hu : semP P (underlying t) with
        | none => rw [hu] at h; simp at h
        | some d =>
          rw [hu, Option.bind_some] at h
          rw [Option.bind_some]
          cases d with
          | struct fields =>
            dsimp only at h ⊢
            rw [semP_bind] at h ⊢
            cases hm : semP P (fields.mapM fun f => do pure (f.offset, ← sizeOf f.type)) with
            | none => rw [hm] at h; simp at h
            | some places =>
              rw [hm, Option.bind_some] at h
              rw [Option.bind_some]
              split at h
              · rename_i cells hc
                obtain ⟨out', g1, g2⟩ := fill_rel (fun x => places[x]?) hp hzr hc
                simp only [g1]
                simp only [semP_pure, Option.some.injEq] at h
                subst h
                exact ⟨_, rfl, .agg _ _ g2⟩
              · simp [stuck, semP] at h
          | array n e =>
            dsimp only at h ⊢
            rw [semP_bind] at h ⊢
            cases hm : semP P (sizeOf e) with
            | none => rw [hm] at h; simp at h
            | some size =>
              rw [hm, Option.bind_some] at h
              rw [Option.bind_some]
              split at h
              · rename_i cells hc
                obtain ⟨out', g1, g2⟩ := fill_rel _ hp hzr hc
                simp only [g1]
                simp only [semP_pure, Option.some.injEq] at h
                subst h
                exact ⟨_, rfl, .agg _ _ g2⟩
              · simp [stuck, semP] at h
          | _ => simp [stuck, semP] at h
    · exact absurd h (by simp)
  · exact absurd h (by simp)

end Go.Den
