/- A verified abstract interpreter, part G2: whatever order a region draws, its end is the one of the text's order. -/
import Derived.Test.YtogidacejbjljaaGreatDoorDenG
set_option linter.unusedVariables false
set_option linter.unusedSimpArgs false
namespace Go.Den
open Go.RowKit

def allIdx {α : Type} (f : Nat → α → Bool) : Nat → List α → Bool
  | _, [] => true
  | i, x :: l => f i x && allIdx f (i + 1) l
theorem allIdx_spec {α : Type} {f : Nat → α → Bool} : ∀ {l : List α} {k : Nat}, allIdx f k l = true → ∀ (j : Nat) (x : α), l[j]? = some x → f (k + j) x = true
  | [], k, _, j, x, hx => by simp at hx
  | y :: l, k, h, j, x, hx => by
    simp only [allIdx, Bool.and_eq_true] at h
    cases j with
    | zero => simp at hx; subst hx; simpa using h.1
    | succ j =>
      rw [List.getElem?_cons_succ] at hx
      have := allIdx_spec h.2 j x hx
      rw [show k + (j + 1) = k + 1 + j from by omega]
      exact this

def sameDst (a b : Option Tmp) : Bool := match a, b with | some x, some y => Nat.beq x y | _, _ => false
def inLooks (ops : Array Oper) (d : Option Tmp) (o : Oper) : Bool := match d with | some x => hasT x (looks ops o) | none => false
def edgesLt (i : Nat) (l : List Edge) : Bool := l.all fun e => !(Region.binds .any e) || Nat.blt e.on i
/-- What is asked of a region's text. -/
def drawStatic (ops : Array Oper) (B : List Nat) : Bool :=
  allIdx (fun i o => edgesLt i o.after.toList && Nat.beq (B.getD i 0) (befOf B o.after.toList) &&
    allIdx (fun j o2 => Nat.beq i j || (!(sameDst o.dst o2.dst) && (!(inLooks ops o2.dst o) || (B.getD i 0).testBit j || (B.getD j 0).testBit i))) 0 ops.toList) 0 ops.toList

def effIdx : Nat → List Rec → List Nat
  | _, [] => []
  | i, r :: l => bif r.eff then i :: effIdx (i + 1) l else effIdx (i + 1) l
def stAt (rs : List Rec) (sf : St) (i : Nat) : St := match rs[i]? with | some r => r.s | none => sf
def compat (B : List Nat) (effs : List Nat) (i e : Nat) : Bool := effs.all fun x => bif Nat.blt x e then !((B.getD x 0).testBit i) else !((B.getD i 0).testBit x)
def isNext (effs : List Nat) (i e : Nat) : Bool := Nat.blt i e && effs.all fun x => Nat.ble x i || Nat.ble e x
def isAlloc (o : Oper) : Bool := match o.op with | .alloc _ => (match o.dst with | some _ => true | none => false) | _ => false
def strictAt (B : List Nat) (effs : List Nat) (i : Nat) : Bool := effs.all fun x => Nat.ble i x || (B.getD i 0).testBit x
/-- What hangs on an operation hangs on all the writing ones ahead of it. -/
def looseAt (B : List Nat) (effs : List Nat) (i : Nat) : Bool := B.all fun b => !(b.testBit i) || effs.all fun x => Nat.ble i x || b.testBit x
def firstLoose (B : List Nat) (effs : List Nat) : List Nat → Nat
  | [] => 0
  | i :: l => bif strictAt B effs i then firstLoose B effs l else i
def drawDynF (P : Program) (ops : Array Oper) (B : List Nat) (rs : List Rec) (sf : St) (fl : Nat) : Bool :=
  allIdx (fun i r =>
    bif r.eff then strictAt B (effIdx 0 rs) i || (Nat.beq i fl && isAlloc r.o && looseAt B (effIdx 0 rs) i)
    else !r.want || (effIdx 0 rs ++ [rs.length]).all fun e => isNext (effIdx 0 rs) i e || !(compat B (effIdx 0 rs) i e) ||
      (match pureA P (evR ops r.o r.t (stAt rs sf e)) (stAt rs sf e) r.o with | some v => eqV v r.v | none => false)) 0 rs
/-- What is asked of a run. -/
def drawDyn (P : Program) (ops : Array Oper) (B : List Nat) (rs : List Rec) (sf : St) : Bool :=
  drawDynF P ops B rs sf (firstLoose B (effIdx 0 rs) (effIdx 0 rs))

def runDraw (P : Program) (C : Cfg) (call : CallFn) (n : Nat) (ops : Array Oper) (c : Cfr) : Option (Out × Cfr) :=
  bif drawStatic ops (befs ops.toList []) then
    match canon P C call n ops ops.toList c.t c.s with
    | some (rs, t, s) => bif drawDyn P ops (befs ops.toList []) rs s then some (.normal, { t, s, ds := c.ds }) else none
    | none => none
  else none

/-! ### the recorded run -/
theorem canon_spec {P : Program} {C : Cfg} {call : CallFn} {n : Nat} {ops : Array Oper} : ∀ {l : List Oper} {t : Trie Value} {s : St} {rs : List Rec} {tf : Trie Value} {sf : St}, canon P C call n ops l t s = some (rs, tf, sf) →
    rs.length = l.length ∧ stAt rs sf 0 = s ∧
    (∀ (j : Nat) (r : Rec), rs[j]? = some r → l[j]? = some r.o ∧ recOne P C call ops r.o r.t r.s = some r ∧ (∃ t', putT n r.t r.o.dst r.v = some t') ∧ stAt rs sf (j + 1) = r.s') ∧
    (∀ (j : Nat) (r : Rec), rs[j]? = some r → ∀ x, ((∀ (i : Nat) (ri : Rec), i < j → rs[i]? = some ri → ri.o.dst ≠ some x) → r.t.get x = t.get x) ∧
      (∀ (i : Nat) (ri : Rec), i < j → rs[i]? = some ri → ri.o.dst = some x → (∀ (i2 : Nat) (r2 : Rec), i < i2 → rs[i2]? = some r2 → r2.o.dst ≠ some x) → r.t.get x = some ri.v)) ∧
    (∀ x, ((∀ (i : Nat) (ri : Rec), rs[i]? = some ri → ri.o.dst ≠ some x) → tf.get x = t.get x) ∧
      (∀ (i : Nat) (ri : Rec), rs[i]? = some ri → ri.o.dst = some x → (∀ (i2 : Nat) (r2 : Rec), i < i2 → rs[i2]? = some r2 → r2.o.dst ≠ some x) → tf.get x = some ri.v)) := by
  intro l
  induction l with
  | nil =>
    intro t s rs tf sf h
    simp only [canon, Option.some.injEq, Prod.mk.injEq] at h
    obtain ⟨rfl, rfl, rfl⟩ := h
    refine ⟨rfl, rfl, fun j r hr => ?_, fun j r hr => ?_, fun x => ⟨fun _ => rfl, fun i ri hi => ?_⟩⟩
    · simp at hr
    · simp at hr
    · simp at hi
  | cons o l ih =>
    intro t s rs tf sf h
    unfold canon at h
    split at h
    · exact absurd h (by simp)
    · rename_i r0 hr0
      split at h
      · exact absurd h (by simp)
      · rename_i t' ht'
        split at h
        · exact absurd h (by simp)
        · rename_i rs' tf' sf' hc
          simp only [Option.some.injEq, Prod.mk.injEq] at h
          obtain ⟨rfl, rfl, rfl⟩ := h
          obtain ⟨h1, h2, h3, h4, h5⟩ := ih hc
          have hro : r0.o = o ∧ r0.t = t ∧ r0.s = s := by
            unfold recOne at hr0
            cases hw : wantA ops t o with
            | false =>
              rw [hw] at hr0
              simp only [cond_false, Option.some.injEq] at hr0
              subst hr0
              exact ⟨rfl, rfl, rfl⟩
            | true =>
              rw [hw] at hr0
              simp only [cond_true] at hr0
              split at hr0
              · simp only [Option.some.injEq] at hr0
                subst hr0
                exact ⟨rfl, rfl, rfl⟩
              · split at hr0
                · simp only [Option.some.injEq] at hr0
                  subst hr0
                  exact ⟨rfl, rfl, rfl⟩
                · exact absurd hr0 (by simp)
          obtain ⟨e1, e2, e3⟩ := hro
          have hput : ∀ x, (o.dst ≠ some x → t'.get x = t.get x) ∧ (o.dst = some x → t'.get x = some r0.v) := by
            intro x
            cases hd : o.dst with
            | none => rw [hd] at ht'; simp only [putT, Option.some.injEq] at ht'; subst ht'; exact ⟨fun _ => rfl, fun e => absurd e (by simp)⟩
            | some d =>
              rw [hd] at ht'
              simp only [putT] at ht'
              cases hb : Nat.blt d n with
              | false => rw [hb] at ht'; exact absurd ht' (by simp)
              | true =>
                rw [hb] at ht'
                simp only [cond_true, Option.some.injEq] at ht'
                subst ht'
                refine ⟨fun e => Trie.get_put_ne _ _ (fun e2 => e (by rw [e2])), fun e => ?_⟩
                injection e with e
                subst e
                exact Trie.get_put_same _ _ _
          refine ⟨by simp [h1], by simp [stAt, e3], ?_, ?_, ?_⟩
          · intro j r hr
            cases j with
            | zero =>
              simp at hr
              subst hr
              refine ⟨by simp [e1], by rw [e1, e2, e3]; exact hr0, ⟨t', by rw [e1, e2]; exact ht'⟩, ?_⟩
              have : stAt (r0 :: rs') sf' (0 + 1) = stAt rs' sf' 0 := by simp [stAt]
              rw [this, h2]
            | succ j =>
              rw [List.getElem?_cons_succ] at hr
              obtain ⟨g1, g2, g3, g4⟩ := h3 j r hr
              refine ⟨by rw [List.getElem?_cons_succ]; exact g1, g2, g3, ?_⟩
              have : stAt (r0 :: rs') sf' (j + 1 + 1) = stAt rs' sf' (j + 1) := by simp [stAt]
              rw [this, g4]
          · intro j r hr x
            cases j with
            | zero =>
              simp at hr
              subst hr
              exact ⟨fun _ => by rw [e2], fun i ri hi => by omega⟩
            | succ j =>
              rw [List.getElem?_cons_succ] at hr
              obtain ⟨g1, g2⟩ := h4 j r hr x
              refine ⟨fun hno => ?_, fun i ri hi hri hd hlast => ?_⟩
              · rw [g1 fun i ri hi hri => hno (i + 1) ri (by omega) (by rw [List.getElem?_cons_succ]; exact hri)]
                exact (hput x).1 (by have := hno 0 r0 (by omega) rfl; rw [e1] at this; exact this)
              · cases i with
                | zero =>
                  simp at hri
                  subst hri
                  rw [g1 fun i2 r2 hi2 hr2 => hlast (i2 + 1) r2 (by omega) (by rw [List.getElem?_cons_succ]; exact hr2)]
                  exact (hput x).2 (by rw [← e1]; exact hd)
                | succ i =>
                  rw [List.getElem?_cons_succ] at hri
                  exact g2 i ri (by omega) hri hd fun i2 r2 hi2 hr2 => hlast (i2 + 1) r2 (by omega) (by rw [List.getElem?_cons_succ]; exact hr2)
          · intro x
            obtain ⟨g1, g2⟩ := h5 x
            refine ⟨fun hno => ?_, fun i ri hri hd hlast => ?_⟩
            · rw [g1 fun i ri hri => hno (i + 1) ri (by rw [List.getElem?_cons_succ]; exact hri)]
              exact (hput x).1 (by have := hno 0 r0 rfl; rw [e1] at this; exact this)
            · cases i with
              | zero =>
                simp at hri
                subst hri
                rw [g1 fun i2 r2 hr2 => hlast (i2 + 1) r2 (by omega) (by rw [List.getElem?_cons_succ]; exact hr2)]
                exact (hput x).2 (by rw [← e1]; exact hd)
              | succ i =>
                rw [List.getElem?_cons_succ] at hri
                exact g2 i ri hri hd fun i2 r2 hi2 hr2 => hlast (i2 + 1) r2 (by omega) (by rw [List.getElem?_cons_succ]; exact hr2)

/-! ### bits -/
theorem befOf_bit {B : List Nat} : ∀ {l : List Edge} {j : Nat}, (befOf B l).testBit j = true → ∃ e ∈ l, Region.binds .any e = true ∧ (j = e.on ∨ (B.getD e.on 0).testBit j = true)
  | [], j, h => by simp [befOf] at h
  | e :: l, j, h => by
    unfold befOf at h
    cases hb : Region.binds .any e with
    | false =>
      rw [hb] at h
      simp only [cond_false] at h
      obtain ⟨e2, h1, h2⟩ := befOf_bit h
      exact ⟨e2, List.mem_cons_of_mem _ h1, h2⟩
    | true =>
      rw [hb] at h
      simp only [cond_true, Nat.testBit_or, Bool.or_eq_true] at h
      rcases h with (h | h) | h
      · refine ⟨e, List.mem_cons_self, hb, .inl ?_⟩
        rw [Nat.testBit_two_pow] at h
        simpa using (of_decide_eq_true h).symm
      · exact ⟨e, List.mem_cons_self, hb, .inr h⟩
      · obtain ⟨e2, h1, h2⟩ := befOf_bit h
        exact ⟨e2, List.mem_cons_of_mem _ h1, h2⟩

structure StaticOk (ops : Array Oper) (B : List Nat) : Prop where
  lt : ∀ (i : Nat) (o : Oper), ops[i]? = some o → ∀ e ∈ o.after, Region.binds .any e = true → e.on < i
  bef : ∀ (i : Nat) (o : Oper), ops[i]? = some o → B.getD i 0 = befOf B o.after.toList
  dst : ∀ (i j : Nat) (o o2 : Oper) (x : Tmp), ops[i]? = some o → ops[j]? = some o2 → o.dst = some x → o2.dst = some x → i = j
  looks : ∀ (i j : Nat) (o o2 : Oper) (x : Tmp), ops[i]? = some o → ops[j]? = some o2 → o2.dst = some x → x ∈ looks ops o → i = j ∨ (B.getD i 0).testBit j = true ∨ (B.getD j 0).testBit i = true

theorem drawStatic_ok {ops : Array Oper} {B : List Nat} (h : drawStatic ops B = true) : StaticOk ops B := by
  have h0 : ∀ (i : Nat) (o : Oper), ops[i]? = some o → (edgesLt i o.after.toList && Nat.beq (B.getD i 0) (befOf B o.after.toList) &&
    allIdx (fun j o2 => Nat.beq i j || (!(sameDst o.dst o2.dst) && (!(inLooks ops o2.dst o) || (B.getD i 0).testBit j || (B.getD j 0).testBit i))) 0 ops.toList) = true := by
    intro i o ho
    have := allIdx_spec h i o (by rw [Array.getElem?_toList]; exact ho)
    rwa [Nat.zero_add] at this
  have h2 : ∀ (i j : Nat) (o o2 : Oper), ops[i]? = some o → ops[j]? = some o2 → (Nat.beq i j || (!(sameDst o.dst o2.dst) && (!(inLooks ops o2.dst o) || (B.getD i 0).testBit j || (B.getD j 0).testBit i))) = true := by
    intro i j o o2 ho ho2
    have := h0 i o ho
    simp only [Bool.and_eq_true] at this
    have := allIdx_spec this.2 j o2 (by rw [Array.getElem?_toList]; exact ho2)
    rwa [Nat.zero_add] at this
  refine ⟨fun i o ho e he hb => ?_, fun i o ho => ?_, fun i j o o2 x ho ho2 hd hd2 => ?_, fun i j o o2 x ho ho2 hd hl => ?_⟩
  · have := h0 i o ho
    simp only [Bool.and_eq_true] at this
    have := List.all_eq_true.1 this.1.1 e (by simpa using he)
    rw [hb] at this
    simp only [Bool.not_true, Bool.false_or] at this
    exact blt_lt this
  · have := h0 i o ho
    simp only [Bool.and_eq_true] at this
    exact Nat.eq_of_beq_eq_true this.1.2
  · have := h2 i j o o2 ho ho2
    rw [Bool.or_eq_true] at this
    rcases this with h | h
    · exact Nat.eq_of_beq_eq_true h
    · rw [Bool.and_eq_true, hd, hd2] at h
      simp [sameDst] at h
  · have := h2 i j o o2 ho ho2
    rw [Bool.or_eq_true] at this
    rcases this with h | h
    · exact .inl (Nat.eq_of_beq_eq_true h)
    · rw [Bool.and_eq_true, hd] at h
      have h3 := h.2
      simp only [inLooks, hasT_mem.2 hl, Bool.not_true, Bool.false_or, Bool.or_eq_true] at h3
      exact .inr h3

/-- A listed operation's predecessors are listed. -/
def Closed (ops : Array Oper) (lst : Nat → Bool) : Prop := ∀ (i : Nat) (o : Oper), ops[i]? = some o → lst i = true → ∀ e ∈ o.after, Region.binds .any e = true → lst e.on = true
def Free (ops : Array Oper) (lst : Nat → Bool) (i : Nat) : Prop := ∀ o, ops[i]? = some o → ∀ e ∈ o.after, Region.binds .any e = true → lst e.on = true

theorem bit_listed {ops : Array Oper} {B : List Nat} (S : StaticOk ops B) {lst : Nat → Bool} (hc : Closed ops lst) : ∀ (i j : Nat), i < ops.size → Free ops lst i → (B.getD i 0).testBit j = true → lst j = true ∧ j < i := by
  intro i
  induction i using Nat.strongRecOn with
  | _ i ih =>
    intro j hi hf hb
    have ho : ops[i]? = some ops[i] := by simp [hi]
    rw [S.bef i _ ho] at hb
    obtain ⟨e, he, hbd, hj⟩ := befOf_bit hb
    have he' : e ∈ ops[i].after := by simpa using he
    have hlt := S.lt i _ ho e he' hbd
    have hon := hf _ ho e he' hbd
    rcases hj with rfl | hj
    · exact ⟨hon, hlt⟩
    · have := ih e.on hlt j (by omega) (fun o2 ho2 => hc e.on o2 ho2 hon) hj
      exact ⟨this.1, by omega⟩

end Go.Den
