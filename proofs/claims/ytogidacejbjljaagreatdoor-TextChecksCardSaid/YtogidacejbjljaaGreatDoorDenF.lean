/- A verified abstract interpreter, part F: regions in the text's order. -/
import Derived.Test.YtogidacejbjljaaGreatDoorDenE
set_option linter.unusedVariables false
set_option linter.unusedSimpArgs false
namespace Go.Den
open Go.RowKit

inductive Out where
  | normal
  | exit (id : Nat)
  | ret
  | panic (v : Value)

/-- A deferred call: the function, its arguments, what it captured. -/
structure ADef where
  f : FuncId
  args : Array Value
  cap : Array Value

inductive DRel (p : Ren) : List ADef → List Deferred → Prop where
  | nil : DRel p [] []
  | cons (d : ADef) (args cap : Array Value) (l : List ADef) (l' : List Deferred) : LRel p d.args.toList args.toList → LRel p d.cap.toList cap.toList → DRel p l l' →
      DRel p (d :: l) ({ target := .fn (.func d.f) cap, args := args } :: l')
theorem DRel.mono {p q : Ren} (h : p.le q) : ∀ {l : List ADef} {l' : List Deferred}, DRel p l l' → DRel q l l'
  | _, _, .nil => .nil
  | _, _, .cons d args cap l l' h1 h2 h3 => .cons d args cap l l' (h1.mono h) (h2.mono h) (h3.mono h)

structure Cfr where
  t : Trie Value
  s : St
  ds : List ADef

inductive CRes where
  | ret (v : Value)
  | panic (v : Value)
inductive CRel (q : Ren) : CRes → Ending → Prop where
  | ret (v v' : Value) : VRel q v v' → CRel q (.ret v) (.returned v')
  | panic (v v' : Value) : VRel q v v' → CRel q (.panic v) (.panicked [{ v := v', recovered := false }])

abbrev CallFn := FuncId → Array Value → St → Option (CRes × St)
def CallsOk (P : Program) (call : CallFn) : Prop :=
  ∀ f args s r s', call f args s = some (r, s') → ∀ (w0 : Base) (w : World) (p : Ren) (args' : Array Value), Rel w0 p s w → LRel p args.toList args'.toList →
    Calls P f args' w fun e w' => ∃ q, p.le q ∧ Rel w0 q s' w' ∧ CRel q r e

inductive XRel (q : Ren) : Out → Exit → Prop where
  | normal : XRel q .normal .normal
  | exit (id : Nat) : XRel q (.exit id) (.exit id)
  | ret : XRel q .ret .ret
  | panic (v v' : Value) : VRel q v v' → XRel q (.panic v) (.panic [{ v := v', recovered := false }])

structure FRel (w0 : Base) (q : Ren) (n : Nat) (c : Cfr) (a : Act) (w : World) : Prop where
  rel : Rel w0 q c.s w
  tmps : TRel q n c.t a.tmps
  defers : DRel q c.ds a.defers

/-- What a continuation must take. -/
def Holds (w0 : Base) (p : Ren) (n : Nat) (o : Out) (c : Cfr) (Q : Exit → Act → World → Prop) : Prop :=
  ∀ q e a w, p.le q → FRel w0 q n c a w → XRel q o e → Q e a w
theorem Holds.mono {w0 : Base} {p q : Ren} (h : p.le q) {n : Nat} {o : Out} {c : Cfr} {Q : Exit → Act → World → Prop} (k : Holds w0 p n o c Q) : Holds w0 q n o c Q :=
  fun r e a w hr => k r e a w (h.trans hr)

def putT (n : Nat) (t : Trie Value) (d : Option Tmp) (v : Value) : Option (Trie Value) :=
  match d with
  | none => some t
  | some d => bif Nat.blt d n then some (t.put d (some v)) else none
theorem putT_rel {p : Ren} {n : Nat} {t t' : Trie Value} {a : Act} (T : TRel p n t a.tmps) {d : Option Tmp} {v v' : Value} (hv : VRel p v v') (h : putT n t d v = some t') : TRel p n t' (a.put d v').tmps := by
  cases d with
  | none => simp only [putT, Option.some.injEq] at h; subst h; exact T
  | some d =>
    simp only [putT] at h
    cases hb : Nat.blt d n with
    | false => rw [hb] at h; exact absurd h (by simp)
    | true =>
      rw [hb] at h
      simp only [cond_true, Option.some.injEq] at h
      subst h
      exact T.put (blt_lt hb) hv

def yieldA (ops : Array Oper) (t : Trie Value) (j : Nat) : Option Bool :=
  match ops[j]? with
  | some o => match o.dst with
    | some d => match t.get d with
      | some (.bool b) => some b
      | _ => none
    | none => none
  | none => none
theorem yieldA_eq {p : Ren} {n : Nat} {t : Trie Value} {a : Array Value} (T : TRel p n t a) (ops : Array Oper) (j : Nat) : yielded ops a j = yieldA ops t j := by
  unfold yielded yieldA
  cases ops[j]? with
  | none => rfl
  | some o =>
    simp only [Option.bind_some]
    cases o.dst with
    | none => rfl
    | some d =>
      simp only [Option.bind_some]
      have := T.get d
      rw [Array.getD_eq_getD_getElem?] at this
      cases hd : a[d]? with
      | none =>
        rw [hd] at this
        cases ht : t.get d with
        | none => rfl
        | some v =>
          rw [ht] at this
          simp only [Option.getD_some, Option.getD_none, undef] at this
          cases this
          rfl
      | some v' =>
        rw [hd] at this
        cases ht : t.get d with
        | none =>
          rw [ht] at this
          simp only [Option.getD_some, Option.getD_none, undef] at this
          cases this
          rfl
        | some v =>
          rw [ht] at this
          simp only [Option.getD_some] at this
          cases this <;> rfl

def wantA (ops : Array Oper) (t : Trie Value) (o : Oper) : Bool :=
  match o.guard with
  | none => true
  | some (j, want) => match yieldA ops t j with
    | some b => (b && want) || (!b && !want)
    | none => false
theorem wantA_eq {p : Ren} {n : Nat} {t : Trie Value} {a : Array Value} (T : TRel p n t a) (ops : Array Oper) (o : Oper) : Region.wanted o (yielded ops a) = wantA ops t o := by
  unfold Region.wanted wantA
  cases o.guard with
  | none => rfl
  | some g =>
    obtain ⟨j, want⟩ := g
    simp only [yieldA_eq T]
    cases yieldA ops t j with
    | none => rfl
    | some b => cases b <;> cases want <;> rfl

/-- One operation. -/
def stepA (P : Program) (C : Cfg) (call : CallFn) (n : Nat) (ops : Array Oper) (o : Oper) (c : Cfr) : Option (Out × Cfr) :=
  bif wantA ops c.t o then
    match opA P C (ev c.t c.s) c.s o with
    | some (.val v, s) => match putT n c.t o.dst v with
      | some t => some (.normal, { t, s, ds := c.ds })
      | none => none
    | some (.call f args, s) => match call f args s with
      | some (.ret v, s) => match putT n c.t o.dst v with
        | some t => some (.normal, { t, s, ds := c.ds })
        | none => none
      | some (.panic v, s) => some (.panic v, { t := c.t, s, ds := c.ds })
      | none => none
    | some (.defer f args cap, s) => match putT n c.t o.dst undef with
      | some t => some (.normal, { t, s, ds := ⟨f, args, cap⟩ :: c.ds })
      | none => none
    | some (.panic v, s) => some (.panic v, { t := c.t, s, ds := c.ds })
    | none => none
  else match putT n c.t o.dst undef with
    | some t => some (.normal, { t, s := c.s, ds := c.ds })
    | none => none

theorem put_defers (a : Act) (d : Option Tmp) (v : Value) : (a.put d v).defers = a.defers := by cases d <;> rfl

theorem stepA_run2 {P : Program} {C : Cfg} (hC : CfgOk P C) {call : CallFn} (hcall : CallsOk P call) {w0 : Base} {w : World} {p : Ren} {n : Nat} {c c' : Cfr} {a : Act} (F : FRel w0 p n c a w) {ops : Array Oper} {o : Oper}
    {out : Out} (h : stepA P C call n ops o c = some (out, c')) {K : Act → World → Prop} {Q : Exit → Act → World → Prop}
    (hK : out = .normal → ∀ q a' w', p.le q → FRel w0 q n c' a' w' → K a' w') (hQ : out ≠ .normal → Holds w0 p n out c' Q) : (if Region.wanted o (yielded ops a.tmps) then o.wp P a w K Q else K (a.put o.dst undef) w) := by
  unfold stepA at h
  rw [wantA_eq F.tmps]
  cases hw : wantA ops c.t o with
  | false =>
    rw [hw] at h
    simp only [cond_false] at h
    simp only [Bool.false_eq_true, if_false]
    split at h
    · rename_i t ht
      simp only [Option.some.injEq, Prod.mk.injEq] at h
      obtain ⟨rfl, rfl⟩ := h
      exact hK rfl p _ w (Ren.le.refl p) ⟨F.rel, putT_rel F.tmps (undef_rel p) ht, by rw [put_defers]; exact F.defers⟩
    · exact absurd h (by simp)
  | true =>
    rw [hw] at h
    simp only [cond_true] at h
    simp only [if_true]
    unfold Oper.wp
    split at h
    · rename_i v s hop
      obtain ⟨q, w', hle, R', hr⟩ := opA_run hC F.rel (F.tmps.ev F.rel) hop
      split at h
      · rename_i t ht
        simp only [Option.some.injEq, Prod.mk.injEq] at h
        obtain ⟨rfl, rfl⟩ := h
        rcases hr with ⟨v', h1, h2⟩ | ⟨rfl, h1⟩
        · rw [h1, Oper.upon_value]
          exact hK rfl q _ w' hle ⟨R', putT_rel (F.tmps.mono hle) h2 ht, by rw [put_defers]; exact F.defers.mono hle⟩
        · rw [h1, Oper.upon_skip]
          exact hK rfl q _ w' hle ⟨R', putT_rel (F.tmps.mono hle) (undef_rel q) ht, by rw [put_defers]; exact F.defers.mono hle⟩
      · exact absurd h (by simp)
    · rename_i f args s hop
      obtain ⟨q, w', hle, R', args', h1, h2⟩ := opA_run hC F.rel (F.tmps.ev F.rel) hop
      rw [h1, Oper.upon_enter]
      split at h
      · rename_i v s2 hcl
        split at h
        · rename_i t ht
          simp only [Option.some.injEq, Prod.mk.injEq] at h
          obtain ⟨rfl, rfl⟩ := h
          refine (hcall f args s _ s2 hcl w0 w' q args' R' h2).mono ?_
          rintro e w'' ⟨r, hle2, R2, hcr⟩
          cases hcr with
          | ret _ v' hv => exact hK rfl r _ w'' (hle.trans hle2) ⟨R2, putT_rel (F.tmps.mono (hle.trans hle2)) hv ht, by rw [put_defers]; exact F.defers.mono (hle.trans hle2)⟩
        · exact absurd h (by simp)
      · rename_i v s2 hcl
        simp only [Option.some.injEq, Prod.mk.injEq] at h
        obtain ⟨rfl, rfl⟩ := h
        refine (hcall f args s _ s2 hcl w0 w' q args' R' h2).mono ?_
        rintro e w'' ⟨r, hle2, R2, hcr⟩
        cases hcr with
        | panic _ v' hv => exact hQ (by simp) r _ _ w'' (hle.trans hle2) ⟨R2, F.tmps.mono (hle.trans hle2), F.defers.mono (hle.trans hle2)⟩ (.panic _ _ hv)
      · exact absurd h (by simp)
    · rename_i f args cap s hop
      obtain ⟨q, w', hle, R', args', cap', h1, h2, h3⟩ := opA_run hC F.rel (F.tmps.ev F.rel) hop
      rw [h1, Oper.upon_defer]
      split at h
      · rename_i t ht
        simp only [Option.some.injEq, Prod.mk.injEq] at h
        obtain ⟨rfl, rfl⟩ := h
        refine hK rfl q _ w' hle ⟨R', putT_rel (a := { a with defers := _ :: a.defers }) (F.tmps.mono hle) (undef_rel q) ht, ?_⟩
        rw [put_defers]
        exact .cons ⟨f, args, cap⟩ _ _ _ _ h2 h3 (F.defers.mono hle)
      · exact absurd h (by simp)
    · rename_i v s hop
      obtain ⟨q, w', hle, R', v', h1, h2⟩ := opA_run hC F.rel (F.tmps.ev F.rel) hop
      simp only [Option.some.injEq, Prod.mk.injEq] at h
      obtain ⟨rfl, rfl⟩ := h
      rw [h1, Oper.upon_panic]
      exact hQ (by simp) q _ a w' hle ⟨R', F.tmps.mono hle, F.defers.mono hle⟩ (.panic _ _ h2)
    · exact absurd h (by simp)

theorem stepA_run {P : Program} {C : Cfg} (hC : CfgOk P C) {call : CallFn} (hcall : CallsOk P call) {w0 : Base} {w : World} {p : Ren} {n : Nat} {c c' : Cfr} {a : Act} (F : FRel w0 p n c a w) {ops : Array Oper} {i : Nat} {o : Oper} (hi : ops[i]? = some o)
    {out : Out} (h : stepA P C call n ops o c = some (out, c')) {K : Act → World → Prop} {Q : Exit → Act → World → Prop}
    (hK : out = .normal → ∀ q a' w', p.le q → FRel w0 q n c' a' w' → K a' w') (hQ : out ≠ .normal → Holds w0 p n out c' Q) : wpOp P ops Q i K a w := by
  have := stepA_run2 hC hcall F h hK hQ
  unfold wpOp
  simp only [hi]
  split
  · rename_i hw; rw [if_pos hw] at this; exact .inl this
  · rename_i hw; rw [if_neg hw] at this; exact this

/-- The operations of a region, in the text's order. -/
def runOps (P : Program) (C : Cfg) (call : CallFn) (n : Nat) (ops : Array Oper) : List Oper → Cfr → Option (Out × Cfr)
  | [], c => some (.normal, c)
  | o :: l, c => match stepA P C call n ops o c with
    | some (.normal, c) => runOps P C call n ops l c
    | r => r

theorem runOps_run {P : Program} {C : Cfg} (hC : CfgOk P C) {call : CallFn} (hcall : CallsOk P call) {w0 : Base} {n : Nat} {ops : Array Oper} {Q : Exit → Act → World → Prop} :
    ∀ (l : List Oper) (k : Nat), (∀ j, l[j]? = ops[k + j]?) → ∀ (p : Ren) (c c' : Cfr) (a : Act) (w : World) (out : Out), FRel w0 p n c a w → runOps P C call n ops l c = some (out, c') → Holds w0 p n out c' Q →
      wpOps P ops Q (List.range' k l.length) a w := by
  intro l
  induction l with
  | nil =>
    intro k _ p c c' a w out F h hQ
    simp only [runOps, Option.some.injEq, Prod.mk.injEq] at h
    obtain ⟨rfl, rfl⟩ := h
    exact hQ p .normal a w (Ren.le.refl p) F .normal
  | cons o l ih =>
    intro k hk p c c' a w out F h hQ
    have hi : ops[k]? = some o := by have := hk 0; simpa using this.symm
    have hk' : ∀ j, l[j]? = ops[k + 1 + j]? := fun j => by have := hk (j + 1); rw [List.getElem?_cons_succ] at this; rw [this]; congr 1; omega
    rw [List.length_cons, List.range'_succ, wpOps_cons]
    unfold runOps at h
    cases hst : stepA P C call n ops o c with
    | none => rw [hst] at h; exact absurd h (by simp)
    | some r =>
      obtain ⟨o1, c1⟩ := r
      rw [hst] at h
      cases o1 with
      | normal =>
        simp only at h
        exact stepA_run hC hcall F hi hst (fun _ q a' w' hle F' => ih (k + 1) hk' q c1 c' a' w' out F' h (hQ.mono hle)) (fun e => absurd rfl e)
      | exit id =>
        simp only [Option.some.injEq, Prod.mk.injEq] at h
        obtain ⟨rfl, rfl⟩ := h
        exact stepA_run hC hcall F hi hst (fun e => absurd e (by simp)) (fun _ => hQ)
      | ret =>
        simp only [Option.some.injEq, Prod.mk.injEq] at h
        obtain ⟨rfl, rfl⟩ := h
        exact stepA_run hC hcall F hi hst (fun e => absurd e (by simp)) (fun _ => hQ)
      | panic v =>
        simp only [Option.some.injEq, Prod.mk.injEq] at h
        obtain ⟨rfl, rfl⟩ := h
        exact stepA_run hC hcall F hi hst (fun e => absurd e (by simp)) (fun _ => hQ)

theorem region_run {P : Program} {C : Cfg} (hC : CfgOk P C) {call : CallFn} (hcall : CallsOk P call) {w0 : Base} {w : World} {n : Nat} {ops : Array Oper} {Q : Exit → Act → World → Prop} {p : Ren} {c c' : Cfr} {a : Act} {out : Out} {id : Nat}
    (F : FRel w0 p n c a w) (h : runOps P C call n ops ops.toList c = some (out, c')) (hQ : Holds w0 p n out c' Q) : (Code.region id ops false).wp P Q a w := by
  apply wp_region
  have := runOps_run hC hcall ops.toList 0 (fun j => by simp) p c c' a w out F h hQ
  rw [Array.length_toList] at this
  rw [List.range_eq_range']
  exact this

end Go.Den
