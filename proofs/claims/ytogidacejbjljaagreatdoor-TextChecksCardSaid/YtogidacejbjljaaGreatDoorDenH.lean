/- A verified abstract interpreter, part H: code, calls. -/
import Derived.Test.YtogidacejbjljaaGreatDoorDenG3
set_option linter.unusedVariables false
set_option linter.unusedSimpArgs false
namespace Go.Den
open Go.RowKit

theorem draw_run {P : Program} (hm : P.follows .mixedOrders = true) {C : Cfg} (hC : CfgOk P C) {call : CallFn} (hcall : CallsOk P call) {w0 : Base} {w : World} {n : Nat} {ops : Array Oper} {Q : Exit → Act → World → Prop} {p : Ren} {c c' : Cfr} {a : Act} {out : Out} {id : Nat}
    (F : FRel w0 p n c a w) (h : runDraw P C call n ops c = some (out, c')) (hQ : Holds w0 p n out c' Q) : (Code.region id ops true).wp P Q a w := by
  unfold runDraw at h
  cases hs : drawStatic ops (befs ops.toList []) with
  | false => rw [hs] at h; exact absurd h (by simp)
  | true =>
    rw [hs] at h
    simp only [cond_true] at h
    split at h
    · rename_i rs t s hcan
      cases hd : drawDyn P ops (befs ops.toList []) rs s with
      | false => rw [hd] at h; exact absurd h (by simp)
      | true =>
        rw [hd] at h
        simp only [cond_true, Option.some.injEq, Prod.mk.injEq] at h
        obtain ⟨rfl, rfl⟩ := h
        apply wp_region_any hm
        have S := drawStatic_ok hs
        obtain ⟨c1, c2, c3, c4, c5⟩ := canon_spec hcan
        refine wpAny_draw hC hcall S hcan hd (p := p) (w0 := w0) (ds := a.defers) ?_ ops.size _ p a _ (by simp) ?_ ?_
        · intro q a' w' hle hT hR hds
          exact hQ q .normal a' w' hle ⟨hR, hT, by rw [hds]; exact F.defers.mono hle⟩ .normal
        · rw [Array.toList_replicate, List.countP_replicate]
          simp
        · have hlst : ∀ j, (Array.replicate ops.size false).getD j false = false := by
            intro j
            rw [Array.getD_eq_getD_getElem?, Array.getElem?_replicate]
            split <;> rfl
          refine ⟨Ren.le.refl p, fun i o ho hl => ?_, ?_, rfl⟩
          · simp only [hlst] at hl; exact absurd hl (by simp)
          · obtain ⟨e, k1, k2, k3, k4⟩ := next_eff rs rs.length 0 (by omega)
            refine ⟨none, c.t, e, F.tmps, fun j r x _ _ hl => ?_, fun x _ => rfl, k2, k3, fun x hx hxe => ?_, fun x hx hxe _ => hlst x, ?_, fun φ h => absurd h (by simp)⟩
            · have hl : (Array.replicate ops.size false).getD j false = true := hl
              rw [hlst] at hl; exact absurd hl (by simp)
            · have := k4 x hx (by omega); omega
            · have hnext : ∀ (j : Nat) (r : Rec), rs[j]? = some r → stAt rs s (j + 1) = r.s' := fun j r hr => (c3 j r hr).2.2.2
              have hpure : ∀ (j : Nat) (r : Rec), rs[j]? = some r → r.eff = false → r.s' = r.s := by
                intro j r hr he
                have := (c3 j r hr).2.1
                unfold recOne at this
                cases hw : wantA ops r.t r.o with
                | false => rw [hw] at this; simp only [cond_false, Option.some.injEq] at this; rw [← this]
                | true =>
                  rw [hw] at this
                  simp only [cond_true] at this
                  split at this
                  · simp only [Option.some.injEq] at this; rw [← this]
                  · split at this
                    · simp only [Option.some.injEq] at this; rw [← this] at he; simp at he
                    · exact absurd this (by simp)
              have hch := chain_st hnext hpure e 0 (by omega) (fun x hx _ => by have := k4 x hx (by omega); omega)
              rw [Nat.zero_add] at hch
              rw [hch, c2]
              exact F.rel.drew
    · exact absurd h (by simp)

/-! ### code -/
def runCode (P : Program) (C : Cfg) (call : CallFn) (n : Nat) : Nat → Code → Cfr → Option (Out × Cfr)
  | 0, _, _ => none
  | f + 1, code, c => match code with
    | .skip => some (.normal, c)
    | .label _ => some (.normal, c)
    | .region _ ops draw => bif draw then runDraw P C call n ops c else runOps P C call n ops ops.toList c
    | .seq x y => match runCode P C call n f x c with
      | some (.normal, c') => runCode P C call n f y c'
      | r => r
    | .cond x y z => match ev c.t c.s x with
      | some (.bool b) => bif b then runCode P C call n f y c else runCode P C call n f z c
      | _ => none
    | .block id x => match runCode P C call n f x c with
      | some (.exit i, c') => bif Nat.beq i id then some (.normal, c') else some (.exit i, c')
      | r => r
    | .loop x => match runCode P C call n f x c with
      | some (.normal, c') => runCode P C call n f (.loop x) c'
      | r => r
    | .exit id => some (.exit id, c)
    | .ret => some (.ret, c)
    | _ => none

def LoopWp (P : Program) (c : Code) (Q : Exit → Act → World → Prop) (a : Act) (w : World) : Prop :=
  ∀ (b : Frame) (k : List Item) (cs : List Frame), ∃ e a' w', Q e a' w' ∧ Arrives P (lone (b.at a (.code c :: .inLoop c :: k)) cs w) b k cs e a' w'
theorem loop_of {P : Program} {c : Code} {Q : Exit → Act → World → Prop} {a : Act} {w : World} (h : LoopWp P c Q a w) : (Code.loop c).wp P Q a w :=
  fun b k cs => let ⟨e, a', w', q, r⟩ := h b k cs; ⟨e, a', w', q, .of_steps (.one step_loop) r⟩
theorem loop_unroll {P : Program} {c : Code} {Q : Exit → Act → World → Prop} {a : Act} {w : World} (h : c.wp P (Exit.then (LoopWp P c Q) Q) a w) : LoopWp P c Q a w := by
  intro b k cs
  obtain ⟨e, a₁, w₁, hq, harr⟩ := h b (.inLoop c :: k) cs
  cases e with
  | normal =>
    obtain ⟨e₂, a₂, w₂, hq₂, harr₂⟩ := hq b k cs
    exact ⟨e₂, a₂, w₂, hq₂, .of_steps (Steps.trans harr (.one step_inLoop)) harr₂⟩
  | exit id => exact ⟨_, a₁, w₁, hq, .pass (x := .inLoop c) rfl (fun _ _ => .inl (by simp)) harr⟩
  | goto l => exact ⟨_, a₁, w₁, hq, .pass (x := .inLoop c) rfl (fun _ _ => .inl (by simp)) harr⟩
  | ret => exact ⟨_, a₁, w₁, hq, .pass (x := .inLoop c) rfl (fun _ _ => .inl (by simp)) harr⟩
  | panic ch => exact ⟨_, a₁, w₁, hq, .pass (x := .inLoop c) rfl (fun _ _ => .inl (by simp)) harr⟩
  | outgrown => exact ⟨_, a₁, w₁, hq, .pass (x := .inLoop c) rfl (fun _ _ => .inl (by simp)) harr⟩

/-- A continuation in two arms: behind a normal end, and else. -/
theorem Holds.then {w0 : Base} {p : Ren} {n : Nat} {o : Out} {c : Cfr} {K : Act → World → Prop} {Q : Exit → Act → World → Prop}
    (h1 : o = .normal → ∀ q a w, p.le q → FRel w0 q n c a w → K a w) (h2 : o ≠ .normal → Holds w0 p n o c Q) : Holds w0 p n o c (Exit.then K Q) := by
  intro q e a w hle hF hx
  cases hx with
  | normal => exact h1 rfl q a w hle hF
  | exit id => exact h2 (by simp) q _ a w hle hF (.exit id)
  | ret => exact h2 (by simp) q _ a w hle hF .ret
  | panic v v' hv => exact h2 (by simp) q _ a w hle hF (.panic v v' hv)

theorem runCode_run {P : Program} (hm : P.follows .mixedOrders = true) {C : Cfg} (hC : CfgOk P C) {call : CallFn} (hcall : CallsOk P call) {w0 : Base} {n : Nat} :
    ∀ (f : Nat) (code : Code) (Q : Exit → Act → World → Prop) (p : Ren) (c c' : Cfr) (a : Act) (w : World) (out : Out), FRel w0 p n c a w → runCode P C call n f code c = some (out, c') → Holds w0 p n out c' Q →
      code.wp P Q a w ∧ ∀ b, code = .loop b → LoopWp P b Q a w := by
  intro f
  induction f with
  | zero => intro code Q p c c' a w out F h; simp [runCode] at h
  | succ f ih =>
    intro code Q p c c' a w out F h hQ
    unfold runCode at h
    split at h
    · simp only [Option.some.injEq, Prod.mk.injEq] at h
      obtain ⟨rfl, rfl⟩ := h
      exact ⟨wp_skip (hQ p .normal a w (Ren.le.refl p) F .normal), fun b hb => absurd hb (by simp)⟩
    · simp only [Option.some.injEq, Prod.mk.injEq] at h
      obtain ⟨rfl, rfl⟩ := h
      exact ⟨wp_label (hQ p .normal a w (Ren.le.refl p) F .normal), fun b hb => absurd hb (by simp)⟩
    · rename_i id ops draw
      refine ⟨?_, fun b hb => absurd hb (by simp)⟩
      cases draw with
      | true => exact draw_run hm hC hcall F h hQ
      | false => exact region_run hC hcall F h hQ
    · rename_i x y
      refine ⟨?_, fun b hb => absurd hb (by simp)⟩
      apply wp_seq
      cases hx : runCode P C call n f x c with
      | none => rw [hx] at h; exact absurd h (by simp)
      | some r =>
        obtain ⟨o1, c1⟩ := r
        rw [hx] at h
        refine (ih x _ p c c1 a w o1 F hx ?_).1
        cases o1 with
        | normal =>
          refine Holds.then (fun _ q a1 w1 hle F1 => (ih y Q q c1 c' a1 w1 out F1 h (hQ.mono hle)).1) (fun e => absurd rfl e)
        | exit id =>
          simp only [Option.some.injEq, Prod.mk.injEq] at h
          obtain ⟨rfl, rfl⟩ := h
          exact Holds.then (fun e => absurd e (by simp)) (fun _ => hQ)
        | ret =>
          simp only [Option.some.injEq, Prod.mk.injEq] at h
          obtain ⟨rfl, rfl⟩ := h
          exact Holds.then (fun e => absurd e (by simp)) (fun _ => hQ)
        | panic v =>
          simp only [Option.some.injEq, Prod.mk.injEq] at h
          obtain ⟨rfl, rfl⟩ := h
          exact Holds.then (fun e => absurd e (by simp)) (fun _ => hQ)
    · rename_i x y z
      refine ⟨?_, fun b hb => absurd hb (by simp)⟩
      split at h
      · rename_i b hb
        have h1 := ev_rel F.rel F.tmps hb
        cases hv : a.eval x with
        | bool b2 =>
          rw [hv] at h1
          cases h1
          refine wp_cond hv ?_
          cases b with
          | true => exact (ih y Q p c c' a w out F h hQ).1
          | false => exact (ih z Q p c c' a w out F h hQ).1
        | _ => rw [hv] at h1; cases h1
      · exact absurd h (by simp)
    · rename_i id x
      refine ⟨?_, fun b hb => absurd hb (by simp)⟩
      apply wp_block
      cases hx : runCode P C call n f x c with
      | none => rw [hx] at h; exact absurd h (by simp)
      | some r =>
        obtain ⟨o1, c1⟩ := r
        rw [hx] at h
        refine (ih x _ p c c1 a w o1 F hx ?_).1
        intro q e a1 w1 hle F1 hxr
        cases hxr with
        | normal =>
          simp only [Option.some.injEq, Prod.mk.injEq] at h
          obtain ⟨rfl, rfl⟩ := h
          exact hQ q .normal a1 w1 hle F1 .normal
        | exit i =>
          simp only at h
          cases hb : Nat.beq i id with
          | true =>
            rw [hb] at h
            simp only [cond_true, Option.some.injEq, Prod.mk.injEq] at h
            obtain ⟨rfl, rfl⟩ := h
            simp only [Exit.inBlock]
            rw [if_pos (Nat.eq_of_beq_eq_true hb)]
            exact hQ q .normal a1 w1 hle F1 .normal
          | false =>
            rw [hb] at h
            simp only [cond_false, Option.some.injEq, Prod.mk.injEq] at h
            obtain ⟨rfl, rfl⟩ := h
            simp only [Exit.inBlock]
            rw [if_neg (Nat.ne_of_beq_eq_false hb)]
            exact hQ q (.exit i) a1 w1 hle F1 (.exit i)
        | ret =>
          simp only [Option.some.injEq, Prod.mk.injEq] at h
          obtain ⟨rfl, rfl⟩ := h
          exact hQ q .ret a1 w1 hle F1 .ret
        | panic v v' hv =>
          simp only [Option.some.injEq, Prod.mk.injEq] at h
          obtain ⟨rfl, rfl⟩ := h
          exact hQ q _ a1 w1 hle F1 (.panic v v' hv)
    · rename_i x
      have hl : LoopWp P x Q a w := by
        apply loop_unroll
        cases hx : runCode P C call n f x c with
        | none => rw [hx] at h; exact absurd h (by simp)
        | some r =>
          obtain ⟨o1, c1⟩ := r
          rw [hx] at h
          refine (ih x _ p c c1 a w o1 F hx ?_).1
          cases o1 with
          | normal =>
            refine Holds.then (fun _ q a1 w1 hle F1 => (ih (.loop x) Q q c1 c' a1 w1 out F1 h (hQ.mono hle)).2 x rfl) (fun e => absurd rfl e)
          | exit id =>
            simp only [Option.some.injEq, Prod.mk.injEq] at h
            obtain ⟨rfl, rfl⟩ := h
            exact Holds.then (fun e => absurd e (by simp)) (fun _ => hQ)
          | ret =>
            simp only [Option.some.injEq, Prod.mk.injEq] at h
            obtain ⟨rfl, rfl⟩ := h
            exact Holds.then (fun e => absurd e (by simp)) (fun _ => hQ)
          | panic v =>
            simp only [Option.some.injEq, Prod.mk.injEq] at h
            obtain ⟨rfl, rfl⟩ := h
            exact Holds.then (fun e => absurd e (by simp)) (fun _ => hQ)
      exact ⟨loop_of hl, fun b hb => by injection hb with hb; subst hb; exact hl⟩
    · simp only [Option.some.injEq, Prod.mk.injEq] at h
      obtain ⟨rfl, rfl⟩ := h
      exact ⟨wp_exit (hQ p _ a w (Ren.le.refl p) F (.exit _)), fun b hb => absurd hb (by simp)⟩
    · simp only [Option.some.injEq, Prod.mk.injEq] at h
      obtain ⟨rfl, rfl⟩ := h
      exact ⟨wp_ret (hQ p _ a w (Ren.le.refl p) F .ret), fun b hb => absurd hb (by simp)⟩
    · exact absurd h (by simp)

/-! ### a function's results -/
def resL (P : Program) (t : Trie Value) (s : St) : List ResultVar → Option (List Value)
  | [] => some []
  | .tmp i :: l => match resL P t s l with
    | some r => some ((match t.get i with | some v => v | none => undef) :: r)
    | none => none
  | .cell i ty :: l => match loadA P s ty (match t.get i with | some v => v | none => undef) with
    | some v => match resL P t s l with
      | some r => some (v :: r)
      | none => none
    | none => none
def resA (P : Program) (fn : Func) (t : Trie Value) (s : St) : Option Value :=
  match resL P t s fn.results.toList with
  | some [v] => some v
  | some vs => some (.tuple vs.toArray)
  | none => none

def resOne (a : Array Value) : ResultVar → Sem Value
  | .tmp t => pure (a.getD t undef)
  | .cell b ty => do loadVar ty (← asAddr (a.getD b undef))
theorem results_eq (fn : Func) (a : Array Value) : results fn a = (do let vs ← fn.results.mapM (resOne a); pure (if h : vs.size = 1 then vs[0] else .tuple vs)) := rfl

theorem mapM_run {P : Program} {w : World} {f : ResultVar → Sem Value} : ∀ {l : List ResultVar} {vs : List Value}, vs.length = l.length → (∀ (i : Nat) x v, l[i]? = some x → vs[i]? = some v → (f x).run P w = .ok v w) → (l.mapM f).run P w = .ok vs w
  | [], [], _, _ => rfl
  | [], _ :: _, h, _ => by simp at h
  | _ :: _, [], h, _ => by simp at h
  | x :: l, v :: vs, h, hh => by
    rw [List.mapM_cons]
    have h1 := hh 0 x v rfl rfl
    have h2 := mapM_run (l := l) (vs := vs) (by simpa using h) (fun i x v hx hv => hh (i + 1) x v (by rw [List.getElem?_cons_succ]; exact hx) (by rw [List.getElem?_cons_succ]; exact hv))
    simp only [Sem.run_bind, h1, h2, Result.andThen, Sem.run_pure]

theorem resL_run {P : Program} {w0 : Base} {w : World} {p : Ren} {s : St} (R : Rel w0 p s w) {n : Nat} {t : Trie Value} {a : Array Value} (T : TRel p n t a) : ∀ {l : List ResultVar} {vs : List Value}, resL P t s l = some vs →
    ∃ vs', LRel p vs vs' ∧ vs'.length = l.length ∧ ∀ (i : Nat) (x : ResultVar) (v : Value), l[i]? = some x → vs'[i]? = some v →
      (resOne a x).run P w = .ok v w
  | [], vs, h => by
    simp only [resL, Option.some.injEq] at h
    subst h
    exact ⟨[], .nil, rfl, fun i x v hx => by simp at hx⟩
  | .tmp i :: l, vs, h => by
    unfold resL at h
    split at h
    · rename_i r hr
      injection h with h
      subst h
      obtain ⟨vs', h1, h2, h3⟩ := resL_run R T hr
      have := T.get i
      refine ⟨a.getD i undef :: vs', .cons _ _ _ _ ?_ h1, by simp [h2], fun j x v hx hv => ?_⟩
      · cases hi : t.get i with
        | none => rw [hi] at this; exact this
        | some v => rw [hi] at this; exact this
      · cases j with
        | zero =>
          simp only [List.getElem?_cons_zero, Option.some.injEq] at hx hv
          subst hx
          subst hv
          rfl
        | succ j =>
          rw [List.getElem?_cons_succ] at hx hv
          exact h3 j x v hx hv
    · exact absurd h (by simp)
  | .cell i ty :: l, vs, h => by
    unfold resL at h
    split at h
    · rename_i u hu
      split at h
      · rename_i r hr
        injection h with h
        subst h
        obtain ⟨vs', h1, h2, h3⟩ := resL_run R T hr
        have hti : VRel p (match t.get i with | some v => v | none => undef) (a.getD i undef) := by
          have := T.get i
          cases hi : t.get i with
          | none => rw [hi] at this; exact this
          | some v => rw [hi] at this; exact this
        obtain ⟨u', g1, g2⟩ := loadA_run R hti hu
        refine ⟨u' :: vs', .cons _ _ _ _ g2 h1, by simp [h2], fun j x v hx hv => ?_⟩
        cases j with
        | zero =>
          simp only [List.getElem?_cons_zero, Option.some.injEq] at hx hv
          subst hx
          subst hv
          unfold resOne
          cases hp : a.getD i undef with
          | pointer ad =>
            rw [hp] at g1
            cases ad with
            | none =>
              rw [hp] at hti
              exfalso
              unfold loadA at hu
              split at hu
              · rename_i b o heq
                rw [heq] at hti
                cases hti
              · exact absurd hu (by simp)
            | some ad =>
              simp only [Instr.loadAt, Instr.sureAddr, Sem.run_bind, Sem.run_pure, Result.andThen] at g1
              simp only [asAddr, Sem.run_bind, Sem.run_pure, Result.andThen, hp]
              exact g1
          | _ =>
            rw [hp] at hti
            exfalso
            unfold loadA at hu
            split at hu
            · rename_i b o heq
              rw [heq] at hti
              cases hti
            · exact absurd hu (by simp)
        | succ j =>
          rw [List.getElem?_cons_succ] at hx hv
          exact h3 j x v hx hv
      · exact absurd h (by simp)
    · exact absurd h (by simp)

theorem resA_run {P : Program} {w0 : Base} {w : World} {p : Ren} {s : St} (R : Rel w0 p s w) {n : Nat} {t : Trie Value} {a : Array Value} (T : TRel p n t a) {fn : Func} {v : Value} (h : resA P fn t s = some v) :
    ∃ v', (results fn a).run P w = .ok v' w ∧ VRel p v v' := by
  have key : ∀ vs, resL P t s fn.results.toList = some vs → ∃ vs' : List Value, LRel p vs vs' ∧ (results fn a).run P w = .ok (if h : vs'.toArray.size = 1 then vs'.toArray[0] else .tuple vs'.toArray) w := by
    intro vs hvs
    obtain ⟨vs', h1, h2, h3⟩ := resL_run R T hvs
    refine ⟨vs', h1, ?_⟩
    have hmm := mapM_run (P := P) (w := w) (l := fn.results.toList) (vs := vs') h2 h3
    rw [results_eq, Array.mapM_eq_mapM_toList]
    simp only [Sem.run_bind, Result.andThen, map_eq_pure_bind, Sem.run_pure, hmm]
  unfold resA at h
  split at h
  · rename_i u hu
    injection h with h
    subst h
    obtain ⟨vs', h1, h2⟩ := key _ hu
    cases h1 with
    | cons _ v' _ l' hv hl =>
      cases hl
      exact ⟨v', by simpa using h2, hv⟩
  · rename_i vs hne hvs
    injection h with h
    subst h
    obtain ⟨vs', h1, h2⟩ := key _ hvs
    have hlen := h1.length
    have hn1 : vs'.length ≠ 1 := by
      intro e1
      rw [e1] at hlen
      cases vs with
      | nil => simp at hlen
      | cons x xs => cases xs with
        | nil => exact hne x rfl
        | cons y ys => simp at hlen
    refine ⟨.tuple vs'.toArray, ?_, .tuple _ _ (by simpa using h1)⟩
    rw [h2, dif_neg (by simpa using hn1)]
  · exact absurd h (by simp)

end Go.Den
