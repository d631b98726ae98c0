/- A verified abstract interpreter, part I: deferred calls, recover, functions; the theorem. -/
import Derived.Test.YtogidacejbjljaaGreatDoorDenH
import Derived.Recover
set_option linter.unusedVariables false
set_option linter.unusedSimpArgs false
namespace Go.Den
open Go.RowKit

inductive DMode where
  | ret
  | pan (v : Value) (recd : Bool)
inductive MRel (q : Ren) : DMode → FrameMode → Prop where
  | ret : MRel q .ret .returning
  | pan (v v' : Value) (b : Bool) : VRel q v v' → MRel q (.pan v b) (.panicking [{ v := v', recovered := b }])
theorem MRel.mono {p q : Ren} (h : p.le q) {m : DMode} {u : FrameMode} (r : MRel p m u) : MRel q m u := by
  cases r with
  | ret => exact .ret
  | pan v v' b hv => exact .pan v v' b (hv.mono h)

def isRec (o : Op) : Bool := match o with | .call c => (match c.callee with | .builtin .recover => true | _ => false) | _ => false
def recV (m : DMode) : Value := match m with | .pan v false => v | _ => .nilIface
def recM (m : DMode) : DMode := match m with | .pan v false => .pan v true | m => m

theorem isRec_run {P : Program} {o : Oper} (h : isRec o.op = true) (r : Operand → Value) (w : World) : (execOp r o).run P w = .ok .recover w := by
  unfold isRec at h
  split at h
  · rename_i c ho
    split at h
    · rename_i hc
      simp only [execOp, ho, resolve, hc, Sem.run_bind, Sem.run_pure, Result.andThen, invoke, builtin]
    · exact absurd h (by simp)
  · exact absurd h (by simp)

theorem recoverD_rel {q : Ren} {m : DMode} {u : FrameMode} (h : MRel q m u) (c₀ : Frame) (cs : List Frame) :
    ∃ u', MRel q (recM m) u' ∧ ((recoverD ({ c₀ with mode := u } :: cs) = none ∧ u' = u ∧ recV m = .nilIface) ∨ ∃ v', recoverD ({ c₀ with mode := u } :: cs) = some (v', { c₀ with mode := u' } :: cs) ∧ VRel q (recV m) v') := by
  cases h with
  | ret => exact ⟨.returning, .ret, .inl ⟨rfl, rfl, rfl⟩⟩
  | pan v v' b hv =>
    cases b with
    | false => exact ⟨_, .pan v v' true hv, .inr ⟨v', rfl, hv⟩⟩
    | true => exact ⟨_, .pan v v' true hv, .inl ⟨rfl, rfl, rfl⟩⟩

def runOpsS (P : Program) (C : Cfg) (call : CallFn) (n : Nat) (ops : Array Oper) : List Oper → Cfr → DMode → Option (Out × Cfr × DMode)
  | [], c, m => some (.normal, c, m)
  | o :: l, c, m => bif isRec o.op && wantA ops c.t o then
      match putT n c.t o.dst (recV m) with
      | some t => runOpsS P C call n ops l { t, s := c.s, ds := c.ds } (recM m)
      | none => none
    else match stepA P C call n ops o c with
      | some (.normal, c) => runOpsS P C call n ops l c m
      | some (out, c) => some (out, c, m)
      | none => none

abbrev QS := Exit → Act → List Frame → World → Prop
def HoldsS (w0 : Base) (p : Ren) (n : Nat) (c₀ : Frame) (cs : List Frame) (o : Out) (c : Cfr) (m : DMode) (Q : QS) : Prop :=
  ∀ q e a w u, p.le q → FRel w0 q n c a w → XRel q o e → MRel q m u → Q e a ({ c₀ with mode := u } :: cs) w
theorem HoldsS.mono {w0 : Base} {p q : Ren} (h : p.le q) {n : Nat} {c₀ : Frame} {cs : List Frame} {o : Out} {c : Cfr} {m : DMode} {Q : QS} (k : HoldsS w0 p n c₀ cs o c m Q) : HoldsS w0 q n c₀ cs o c m Q :=
  fun r e a w u hr => k r e a w u (h.trans hr)

theorem runOpsS_run {P : Program} {C : Cfg} (hC : CfgOk P C) {call : CallFn} (hcall : CallsOk P call) {w0 : Base} {n : Nat} {c₀ : Frame} {cs : List Frame} {ops : Array Oper} {Q : QS} :
    ∀ (l : List Oper) (k : Nat), (∀ j, l[j]? = ops[k + j]?) → ∀ (p : Ren) (c c' : Cfr) (m m' : DMode) (a : Act) (w : World) (u : FrameMode) (out : Out), FRel w0 p n c a w → MRel p m u → runOpsS P C call n ops l c m = some (out, c', m') → HoldsS w0 p n c₀ cs out c' m' Q →
      wpOpsS P ops Q (List.range' k l.length) a ({ c₀ with mode := u } :: cs) w := by
  intro l
  induction l with
  | nil =>
    intro k _ p c c' m m' a w u out F M h hQ
    simp only [runOpsS, Option.some.injEq, Prod.mk.injEq] at h
    obtain ⟨rfl, rfl, rfl⟩ := h
    exact hQ p .normal a w u (Ren.le.refl p) F .normal M
  | cons o l ih =>
    intro k hk p c c' m m' a w u out F M h hQ
    have hi : ops[k]? = some o := by have := hk 0; simpa using this.symm
    have hk' : ∀ j, l[j]? = ops[k + 1 + j]? := fun j => by have := hk (j + 1); rw [List.getElem?_cons_succ] at this; rw [this]; congr 1; omega
    rw [List.length_cons, List.range'_succ]
    simp only [wpOpsS, hi]
    unfold runOpsS at h
    cases hrw : (isRec o.op && wantA ops c.t o) with
    | true =>
      rw [hrw] at h
      simp only [cond_true] at h
      rw [Bool.and_eq_true] at hrw
      rw [wantA_eq F.tmps, hrw.2]
      simp only [if_true, isRec_run hrw.1]
      split at h
      · rename_i t ht
        obtain ⟨u', hM', hcase⟩ := recoverD_rel M c₀ cs
        rcases hcase with ⟨hn, rfl, hv⟩ | ⟨v', hs, hv⟩
        · rw [hn]
          simp only
          exact ih (k + 1) hk' p { t := t, s := c.s, ds := c.ds } c' (recM m) m' _ w _ out ⟨F.rel, putT_rel F.tmps (v := recV m) (by rw [hv]; exact .nilIface) ht, by rw [put_defers]; exact F.defers⟩ hM' h hQ
        · rw [hs]
          simp only
          exact ih (k + 1) hk' p { t := t, s := c.s, ds := c.ds } c' (recM m) m' _ w _ out ⟨F.rel, putT_rel F.tmps hv ht, by rw [put_defers]; exact F.defers⟩ hM' h hQ
      · exact absurd h (by simp)
    | false =>
      rw [hrw] at h
      simp only [cond_false] at h
      have conv : ∀ {K : Act → World → Prop} {Q2 : Exit → Act → World → Prop}, (if Region.wanted o (yielded ops a.tmps) then o.wp P a w K Q2 else K (a.put o.dst undef) w) →
          (∀ a' w', K a' w' → wpOpsS P ops Q (List.range' (k + 1) l.length) a' ({ c₀ with mode := u } :: cs) w') → (∀ e a' w', Q2 e a' w' → Q e a' ({ c₀ with mode := u } :: cs) w') →
          (if Region.wanted o (yielded ops a.tmps) then
            match (execOp a.eval o).run P w with
            | .ok .recover w' =>
              match recoverD ({ c₀ with mode := u } :: cs) with
              | some (v, cs') => wpOpsS P ops Q (List.range' (k + 1) l.length) (a.put o.dst v) cs' w'
              | none => wpOpsS P ops Q (List.range' (k + 1) l.length) (a.put o.dst .nilIface) ({ c₀ with mode := u } :: cs) w'
            | r => o.upon P a (fun a' w' => wpOpsS P ops Q (List.range' (k + 1) l.length) a' ({ c₀ with mode := u } :: cs) w') (fun e a' w' => Q e a' ({ c₀ with mode := u } :: cs) w') r
          else wpOpsS P ops Q (List.range' (k + 1) l.length) (a.put o.dst undef) ({ c₀ with mode := u } :: cs) w) := by
        intro K Q2 h1 hK hQ2
        by_cases hw : Region.wanted o (yielded ops a.tmps) = true
        · rw [if_pos hw] at h1 ⊢
          unfold Oper.wp at h1
          have mono : ∀ r, o.upon P a K Q2 r → o.upon P a (fun a' w' => wpOpsS P ops Q (List.range' (k + 1) l.length) a' ({ c₀ with mode := u } :: cs) w') (fun e a' w' => Q e a' ({ c₀ with mode := u } :: cs) w') r := by
            intro r hr
            cases r with
            | ok nx w' =>
              cases nx <;> simp only [Oper.upon] at hr ⊢ <;>
                first
                  | exact hK _ _ hr
                  | exact Calls.mono hr (fun e w'' he => by
                      cases e with
                      | returned v => exact hK _ _ he
                      | panicked ch => exact hQ2 _ _ _ he
                      | outgrown => obtain ⟨a0, w0, hq⟩ := he; exact ⟨a0, w0, hQ2 _ _ _ hq⟩)
                  | exact Rows.mono hr (fun _ _ he => hK _ _ he)
            | halt x w' => cases x <;> simp only [Oper.upon] at hr ⊢ <;> exact hQ2 _ _ _ hr
          generalize hrun : (execOp a.eval o).run P w = r at h1 ⊢
          split
          · simp only [Oper.upon] at h1
          · exact mono _ h1
        · rw [if_neg hw] at h1 ⊢
          exact hK _ _ h1
      cases hst : stepA P C call n ops o c with
      | none => rw [hst] at h; exact absurd h (by simp)
      | some r =>
        obtain ⟨o1, c1⟩ := r
        rw [hst] at h
        cases o1 with
        | normal =>
          simp only at h
          refine conv (K := fun a' w' => ∃ q, p.le q ∧ FRel w0 q n c1 a' w') (Q2 := fun _ _ _ => False) (stepA_run2 hC hcall F hst (fun _ q a' w' hle F' => ⟨q, hle, F'⟩) (fun e => absurd rfl e)) ?_ (fun _ _ _ hf => hf.elim)
          rintro a' w' ⟨q, hle, F'⟩
          exact ih (k + 1) hk' q c1 c' m m' a' w' u out F' (M.mono hle) h (hQ.mono hle)
        | exit id =>
          simp only [Option.some.injEq, Prod.mk.injEq] at h
          obtain ⟨rfl, rfl, rfl⟩ := h
          exact conv (K := fun _ _ => False) (Q2 := fun e a' w' => Q e a' ({ c₀ with mode := u } :: cs) w') (stepA_run2 hC hcall F hst (fun e => absurd e (by simp)) (fun _ q e a' w' hle F' hx => hQ q e a' w' u hle F' hx (M.mono hle))) (fun _ _ hf => hf.elim) (fun _ _ _ hq => hq)
        | ret =>
          simp only [Option.some.injEq, Prod.mk.injEq] at h
          obtain ⟨rfl, rfl, rfl⟩ := h
          exact conv (K := fun _ _ => False) (Q2 := fun e a' w' => Q e a' ({ c₀ with mode := u } :: cs) w') (stepA_run2 hC hcall F hst (fun e => absurd e (by simp)) (fun _ q e a' w' hle F' hx => hQ q e a' w' u hle F' hx (M.mono hle))) (fun _ _ hf => hf.elim) (fun _ _ _ hq => hq)
        | panic v =>
          simp only [Option.some.injEq, Prod.mk.injEq] at h
          obtain ⟨rfl, rfl, rfl⟩ := h
          exact conv (K := fun _ _ => False) (Q2 := fun e a' w' => Q e a' ({ c₀ with mode := u } :: cs) w') (stepA_run2 hC hcall F hst (fun e => absurd e (by simp)) (fun _ q e a' w' hle F' hx => hQ q e a' w' u hle F' hx (M.mono hle))) (fun _ _ hf => hf.elim) (fun _ _ _ hq => hq)

def runS (P : Program) (C : Cfg) (call : CallFn) (n : Nat) : Nat → Code → Cfr → DMode → Option (Out × Cfr × DMode)
  | 0, _, _, _ => none
  | f + 1, code, c, m => match code with
    | .region _ ops false => runOpsS P C call n ops ops.toList c m
    | .seq x y => match runS P C call n f x c m with
      | some (.normal, c', m') => runS P C call n f y c' m'
      | r => r
    | .cond x y z => match ev c.t c.s x with
      | some (.bool b) => bif b then runS P C call n f y c m else runS P C call n f z c m
      | _ => none
    | code => match runCode P C call n f code c with
      | some (o, c') => some (o, c', m)
      | none => none

theorem runS_run {P : Program} (hm : P.follows .mixedOrders = true) {C : Cfg} (hC : CfgOk P C) {call : CallFn} (hcall : CallsOk P call) {w0 : Base} {n : Nat} {c₀ : Frame} {cs : List Frame} :
    ∀ (f : Nat) (code : Code) (Q : QS) (p : Ren) (c c' : Cfr) (m m' : DMode) (a : Act) (w : World) (u : FrameMode) (out : Out), FRel w0 p n c a w → MRel p m u → runS P C call n f code c m = some (out, c', m') → HoldsS w0 p n c₀ cs out c' m' Q →
      code.wpS P Q a ({ c₀ with mode := u } :: cs) w := by
  intro f
  induction f with
  | zero => intro code Q p c c' m m' a w u out F M h; simp [runS] at h
  | succ f ih =>
    intro code Q p c c' m m' a w u out F M h hQ
    unfold runS at h
    split at h
    · rename_i id ops
      apply wpS_region
      have := runOpsS_run hC hcall (c₀ := c₀) (cs := cs) ops.toList 0 (fun j => by simp) p c c' m m' a w u out F M h hQ
      rw [Array.length_toList] at this
      rw [List.range_eq_range']
      exact this
    · rename_i x y
      apply wpS_seq
      cases hx : runS P C call n f x c m with
      | none => rw [hx] at h; exact absurd h (by simp)
      | some r =>
        obtain ⟨o1, c1, m1⟩ := r
        rw [hx] at h
        refine ih x _ p c c1 m m1 a w u o1 F M hx ?_
        cases o1 with
        | normal =>
          intro q e a1 w1 u1 hle F1 hxr M1
          cases hxr
          exact ih y Q q c1 c' m1 m' a1 w1 u1 out F1 M1 h (hQ.mono hle)
        | exit id =>
          simp only [Option.some.injEq, Prod.mk.injEq] at h
          obtain ⟨rfl, rfl, rfl⟩ := h
          intro q e a1 w1 u1 hle F1 hxr M1
          have := hQ q e a1 w1 u1 hle F1 hxr M1
          cases hxr
          exact this
        | ret =>
          simp only [Option.some.injEq, Prod.mk.injEq] at h
          obtain ⟨rfl, rfl, rfl⟩ := h
          intro q e a1 w1 u1 hle F1 hxr M1
          have := hQ q e a1 w1 u1 hle F1 hxr M1
          cases hxr
          exact this
        | panic v =>
          simp only [Option.some.injEq, Prod.mk.injEq] at h
          obtain ⟨rfl, rfl, rfl⟩ := h
          intro q e a1 w1 u1 hle F1 hxr M1
          have := hQ q e a1 w1 u1 hle F1 hxr M1
          cases hxr
          exact this
    · rename_i x y z
      split at h
      · rename_i b hb
        have h1 := ev_rel F.rel F.tmps hb
        cases hv : a.eval x with
        | bool b2 =>
          rw [hv] at h1
          cases h1
          refine wpS_cond hv ?_
          cases b with
          | true => exact ih y Q p c c' m m' a w u out F M h hQ
          | false => exact ih z Q p c c' m m' a w u out F M h hQ
        | _ => rw [hv] at h1; cases h1
      · exact absurd h (by simp)
    · split at h
      · rename_i o1 c1 hc
        simp only [Option.some.injEq, Prod.mk.injEq] at h
        obtain ⟨rfl, rfl, rfl⟩ := h
        apply wpS_of_wp
        exact (runCode_run hm hC hcall f _ _ p c c1 a w o1 F hc (fun q e a1 w1 hle F1 hxr => hQ q e a1 w1 u hle F1 hxr (M.mono hle))).1
      · exact absurd h (by simp)

/-! ### functions -/
def initT (args : Array Value) : Trie Value := Trie.nil.putL 0 args.toList
theorem initT_rel {p : Ren} {args args' : Array Value} (h : LRel p args.toList args'.toList) (k : Nat) :
    TRel p (args.size + (k - args.size)) (initT args) (args' ++ Array.replicate (k - args'.size) undef) := by
  have hlen : args.size = args'.size := by have := h.length; simpa using this
  refine ⟨by simp [hlen], fun i => ?_⟩
  unfold initT
  rw [Trie.get_putL, Trie.get_nil, Array.getD_eq_getD_getElem?]
  by_cases hi : i < args.size
  · rw [if_pos (by simp; exact hi)]
    have hv : args.toList[i - 0]? = some args[i] := by simp [hi]
    rw [hv]
    obtain ⟨v', h1, h2⟩ := h.get i args[i] (by simp [hi])
    rw [Array.getElem?_append_left (by omega), ← Array.getElem?_toList, h1]
    exact h2
  · rw [if_neg (by simp; omega)]
    rw [Array.getElem?_append_right (by omega), Array.getElem?_replicate]
    split <;> exact undef_rel p

def settleA (m : DMode) : DMode := match m with | .pan _ true => .ret | m => m
theorem settle_rel {q : Ren} {m : DMode} {u : FrameMode} (h : MRel q m u) : MRel q (settleA m) (settle u) := by
  cases h with
  | ret => exact .ret
  | pan v v' b hv =>
    cases b with
    | true => exact .ret
    | false => exact .pan v v' false hv

/-- A deferred call: its world, and the mode of the frame below. -/
def runDef (P : Program) (C : Cfg) (call : CallFn) (fuel : Nat) (f : FuncId) (args : Array Value) (s : St) (m : DMode) : Option (St × DMode) :=
  match P.funcs[f]? with
  | some fn => match fn.body with
    | some code => match runS P C call (args.size + (fn.ntmps - args.size)) fuel code { t := initT args, s, ds := [] } m with
      | some (.normal, c, m') => (match c.ds with | [] => (match resA P fn c.t c.s with | some _ => some (c.s, m') | none => none) | _ => none)
      | some (.ret, c, m') => (match c.ds with | [] => (match resA P fn c.t c.s with | some _ => some (c.s, m') | none => none) | _ => none)
      | _ => none
    | none => none
  | none => none

theorem runDef_run {P : Program} (hm : P.follows .mixedOrders = true) {C : Cfg} (hC : CfgOk P C) {call : CallFn} (hcall : CallsOk P call) {fuel : Nat} {f : FuncId} {args args' : Array Value} {s s' : St} {m m' : DMode} (h : runDef P C call fuel f args s m = some (s', m'))
    {w0 : Base} {w : World} {p : Ren} (R : Rel w0 p s w) (ha : LRel p args.toList args'.toList) {u : FrameMode} (M : MRel p m u) :
    CallsD P f args' u w fun e u' w' => ∃ q v, p.le q ∧ Rel w0 q s' w' ∧ MRel q m' u' ∧ e = .returned v := by
  unfold runDef at h
  split at h
  · rename_i fn hf
    split at h
    · rename_i code hb
      have hlen : args.size = args'.size := by have := ha.length; simpa using this
      have fin : ∀ (out : Out) (c : Cfr) (m1 : DMode), (out = .normal ∨ out = .ret) → runS P C call (args.size + (fn.ntmps - args.size)) fuel code { t := initT args, s, ds := [] } m = some (out, c, m1) →
          (match c.ds with | [] => (match resA P fn c.t c.s with | some _ => some (c.s, m1) | none => none) | _ => none) = some (s', m') →
          CallsD P f args' u w fun e u' w' => ∃ q v, p.le q ∧ Rel w0 q s' w' ∧ MRel q m' u' ∧ e = .returned v := by
        intro out c m1 hout hrun hend
        refine callsD_of_wpS hf hb fun c₀ cs hu => ?_
        have hc : ({ c₀ with mode := u } : Frame) = c₀ := by subst hu; rfl
        have hF : FRel w0 p (args.size + (fn.ntmps - args.size)) { t := initT args, s, ds := [] } { tmps := args' ++ Array.replicate (fn.ntmps - args'.size) undef, defers := [] } w := ⟨R, initT_rel ha fn.ntmps, .nil⟩
        have := runS_run hm hC hcall (c₀ := c₀) (cs := cs) fuel code (bodyPostS P fn c₀ cs fun e u' w' => ∃ q v, p.le q ∧ Rel w0 q s' w' ∧ MRel q m' u' ∧ e = .returned v) p _ c m m1 _ w u out hF M hrun ?_
        · rw [hc] at this; exact this
        · intro q e a1 w1 u1 hle F1 hxr M1
          split at hend
          · rename_i hds
            split at hend
            · rename_i v hv
              simp only [Option.some.injEq, Prod.mk.injEq] at hend
              obtain ⟨rfl, rfl⟩ := hend
              obtain ⟨v', g1, g2⟩ := resA_run F1.rel F1.tmps hv
              have hd : a1.defers = [] := by
                have := F1.defers
                rw [hds] at this
                cases hh : a1.defers with
                | nil => rfl
                | cons d l => rw [hh] at this; cases this
              rcases hout with rfl | rfl
              · cases hxr
                exact ⟨hd, u1, rfl, v', g1, q, v', hle, F1.rel, M1, rfl⟩
              · cases hxr
                exact ⟨hd, u1, rfl, v', g1, q, v', hle, F1.rel, M1, rfl⟩
            · exact absurd hend (by simp)
          · exact absurd hend (by simp)
      split at h
      · rename_i c m1 hrun
        exact fin .normal c m1 (.inl rfl) hrun h
      · rename_i c m1 hrun
        exact fin .ret c m1 (.inr rfl) hrun h
      · exact absurd h (by simp)
    · exact absurd h (by simp)
  · exact absurd h (by simp)

def runDs (P : Program) (C : Cfg) (call : CallFn) (fuel : Nat) : List ADef → DMode → St → Option (DMode × St)
  | [], m, s => some (m, s)
  | d :: l, m, s => match runDef P C call fuel d.f (d.args ++ d.cap) s m with
    | some (s', m') => runDs P C call fuel l (settleA m') s'
    | none => none

theorem runDs_run {P : Program} (hm : P.follows .mixedOrders = true) {C : Cfg} (hC : CfgOk P C) {call : CallFn} (hcall : CallsOk P call) {fuel : Nat} {fn : Func} {tmps : Array Value} {Rr : Ending → World → Prop} {w0 : Base} :
    ∀ (l : List ADef) (m m' : DMode) (s s' : St), runDs P C call fuel l m s = some (m', s') → ∀ (p : Ren) (l' : List Deferred) (u : FrameMode) (w : World), Rel w0 p s w → DRel p l l' → MRel p m u →
      (∀ q u' w', p.le q → Rel w0 q s' w' → MRel q m' u' → Leaves P fn tmps Rr [] u' w') → Leaves P fn tmps Rr l' u w := by
  intro l
  induction l with
  | nil =>
    intro m m' s s' h p l' u w R D M hend
    simp only [runDs, Option.some.injEq, Prod.mk.injEq] at h
    obtain ⟨rfl, rfl⟩ := h
    cases D
    exact hend p u w (Ren.le.refl p) R M
  | cons d l ih =>
    intro m m' s s' h p l' u w R D M hend
    unfold runDs at h
    split at h
    · rename_i s1 m1 hd
      cases D with
      | cons _ args cap _ l2 h1 h2 h3 =>
        unfold Leaves
        have hfn : ∃ fn2 code, P.funcs[d.f]? = some fn2 ∧ fn2.body = some code := by
          unfold runDef at hd
          split at hd
          · rename_i fn2 hf
            split at hd
            · rename_i code hb; exact ⟨fn2, code, hf, hb⟩
            · exact absurd hd (by simp)
          · exact absurd hd (by simp)
        obtain ⟨fn2, code, hf, hb⟩ := hfn
        refine ⟨by cases M <;> simp, .func d.f, cap, d.f, args ++ cap, rfl, ?_, ?_⟩
        · simp only [invoke]
          exact callFunc_enter hf (hC.noGo d.f fn2 hf) hb _ w
        · have hl : LRel p (d.args ++ d.cap).toList (args ++ cap).toList := by simpa using h1.append h2
          refine (runDef_run hm hC hcall hd R hl M).mono ?_
          rintro e u' w' ⟨q, v, hle, R', M', rfl⟩
          exact ih _ m' s1 s' h q l2 (settle u') w' R' (h3.mono hle) (settle_rel M') (fun r u2 w2 hr => hend r u2 w2 (hle.trans hr))
    · exact absurd h (by simp)

def endFn (P : Program) (C : Cfg) (call : CallFn) (fuel : Nat) (fn : Func) (c : Cfr) (m : DMode) : Option (CRes × St) :=
  match runDs P C call fuel c.ds m c.s with
  | some (.ret, s) => (match resA P fn c.t s with | some v => some (.ret v, s) | none => none)
  | some (.pan v false, s) => some (.panic v, s)
  | _ => none

def runFn (P : Program) (C : Cfg) : Nat → CallFn
  | 0 => fun _ _ _ => none
  | fuel + 1 => fun f args s =>
    match P.funcs[f]? with
    | some fn => match fn.body with
      | some code => match runCode P C (runFn P C fuel) (args.size + (fn.ntmps - args.size)) fuel code { t := initT args, s, ds := [] } with
        | some (.normal, c) => endFn P C (runFn P C fuel) fuel fn c .ret
        | some (.ret, c) => endFn P C (runFn P C fuel) fuel fn c .ret
        | some (.panic v, c) => endFn P C (runFn P C fuel) fuel fn c (.pan v false)
        | _ => none
      | none => none
    | none => none

theorem endFn_run {P : Program} (hm : P.follows .mixedOrders = true) {C : Cfg} (hC : CfgOk P C) {call : CallFn} (hcall : CallsOk P call) {fuel n : Nat} {fn : Func} {c : Cfr} {m : DMode} {r : CRes} {s' : St} (h : endFn P C call fuel fn c m = some (r, s'))
    {w0 : Base} {w : World} {p0 p : Ren} (hp : p0.le p) {a : Act} (F : FRel w0 p n c a w) {u : FrameMode} (M : MRel p m u) :
    Leaves P fn a.tmps (fun e w' => ∃ q, p0.le q ∧ Rel w0 q s' w' ∧ CRel q r e) a.defers u w := by
  unfold endFn at h
  split at h
  · rename_i s hd
    split at h
    · rename_i v hv
      simp only [Option.some.injEq, Prod.mk.injEq] at h
      obtain ⟨rfl, rfl⟩ := h
      refine runDs_run hm hC hcall c.ds m .ret c.s s hd p a.defers u w F.rel F.defers M ?_
      intro q u' w' hle R' M'
      cases M'
      obtain ⟨v', g1, g2⟩ := resA_run R' (F.tmps.mono hle) hv
      exact ⟨v', g1, q, hp.trans hle, R', .ret v v' g2⟩
    · exact absurd h (by simp)
  · rename_i v s hd
    simp only [Option.some.injEq, Prod.mk.injEq] at h
    obtain ⟨rfl, rfl⟩ := h
    refine runDs_run hm hC hcall c.ds m (.pan v false) c.s s hd p a.defers u w F.rel F.defers M ?_
    intro q u' w' hle R' M'
    cases M' with
    | pan _ v' _ hv => exact ⟨q, hp.trans hle, R', .panic v v' hv⟩
  · exact absurd h (by simp)

theorem runFn_ok {P : Program} (hm : P.follows .mixedOrders = true) {C : Cfg} (hC : CfgOk P C) : ∀ fuel, CallsOk P (runFn P C fuel) := by
  intro fuel
  induction fuel with
  | zero => intro f args s r s' h; simp [runFn] at h
  | succ fuel ih =>
    intro f args s r s' h w0 w p args' R ha
    unfold runFn at h
    split at h
    · rename_i fn hf
      split at h
      · rename_i code hb
        have hF : FRel w0 p (args.size + (fn.ntmps - args.size)) { t := initT args, s, ds := [] } { tmps := args' ++ Array.replicate (fn.ntmps - args'.size) undef, defers := [] } w := ⟨R, initT_rel ha fn.ntmps, .nil⟩
        refine calls_of_wp_defers hf hb ?_
        split at h
        · rename_i c hrun
          refine (runCode_run hm hC ih fuel code _ p _ c _ w .normal hF hrun ?_).1
          intro q e a1 w1 hle F1 hxr
          cases hxr
          exact endFn_run hm hC ih h hle F1 .ret
        · rename_i c hrun
          refine (runCode_run hm hC ih fuel code _ p _ c _ w .ret hF hrun ?_).1
          intro q e a1 w1 hle F1 hxr
          cases hxr
          exact endFn_run hm hC ih h hle F1 .ret
        · rename_i v c hrun
          refine (runCode_run hm hC ih fuel code _ p _ c _ w (.panic v) hF hrun ?_).1
          intro q e a1 w1 hle F1 hxr
          cases hxr with
          | panic _ v' hv => exact endFn_run hm hC ih h hle F1 (.pan v v' false hv)
        · exact absurd h (by simp)
      · exact absurd h (by simp)
    · exact absurd h (by simp)

end Go.Den
