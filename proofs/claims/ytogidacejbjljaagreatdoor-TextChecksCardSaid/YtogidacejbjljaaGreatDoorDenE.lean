/- A verified abstract interpreter, part E: the operations together. -/
import Derived.Test.YtogidacejbjljaaGreatDoorDenD
set_option linter.unusedVariables false
set_option linter.unusedSimpArgs false
namespace Go.Den
open Go.RowKit

def val? (s : St) (v : Option Value) : Option (AR × St) := match v with | some v => some (.val v, s) | none => none
def vals? (v : Option (Value × St)) : Option (AR × St) := match v with | some (v, s) => some (.val v, s) | none => none

def lookM (t : TypeId) (n : String) : List (TypeId × String × FuncId) → Option FuncId
  | [] => none
  | (t2, n2, f) :: l => bif Nat.beq t t2 && n == n2 then some f else lookM t n l

def builtinP (P : Program) (b : Builtin) (ts : Array TypeId) (args : List Value) : Option Value :=
  match b with
  | .len => match ts[0]?, args with
    | some t, [.slice _ n _] => (match P.underlying t with | some (.slice _) => some (goInt n) | _ => none)
    | _, _ => none
  | .cap => match ts[0]?, args with
    | some t, [.slice _ _ c] => (match P.underlying t with | some (.slice _) => bif Nat.blt c U then some (goInt c) else none | _ => none)
    | _, _ => none
  | .unsafeSliceData => match args with
    | [x] => sliceDataA x
    | _ => none
  | _ => none

def builtinA (P : Program) (s : St) (b : Builtin) (ts : Array TypeId) (args : List Value) : Option (Value × St) :=
  match b with
  | .append => match ts.toList, args with
    | [t, t2], [.slice base n c, x] => appendA P s t t2 base n c x
    | _, _ => none
  | .copy => match ts[0]?, args with
    | some t, [d, x] => copyA P s t d x
    | _, _ => none
  | .unsafeString => match ts.toList, args with
    | [pt, _], [x, n] => stringA P s pt x n
    | _, _ => none
  | _ => none

def specP (P : Program) (e : Ev) (s : St) (op : Op) : Option Value :=
  match op with
  | .pick c a b => match e c, e a, e b with
    | some (.bool c), some a, some b => some (bif c then a else b)
    | _, _, _ => none
  | .build ty parts => match evP e parts.toList with
    | some ps => (match buildA P ty ps with | some v => some v | none => none)
    | none => none
  | .nilCheck x => match e x with
    | some (.pointer (some a)) => some (.pointer (some a))
    | some (.func (.func f) x c) => some (.func (.func f) x c)
    | some (.iface t v) => some (.iface t v)
    | _ => none
  | .binOp .eql ty x y _ => match e x, e y with
    | some x, some y => (match eqA P ty x y with | some b => some (.bool b) | none => none)
    | _, _ => none
  | .binOp .neq ty x y _ => match e x, e y with
    | some x, some y => (match eqA P ty x y with | some b => some (.bool (!b)) | none => none)
    | _, _ => none
  | .makeInterface ty x => match e x with
    | some x => (match ifaceA P ty x with | some v => some v | none => none)
    | none => none
  | .slice ty x lo hi mx => match e x, evO e lo, evO e hi, evO e mx with
    | some x, some lo, some hi, some mx => (match sliceA P ty x lo hi mx with | some v => some v | none => none)
    | _, _, _, _ => none
  | .field ty x f => match e x with
    | some x => (match fieldA P ty x f with | some v => some v | none => none)
    | none => none
  | .index ty x i => match e x, e i with
    | some x, some i => (match indexA P ty x i with | some v => some v | none => none)
    | _, _ => none
  | .typeAssert x xt ty ok => match e x with
    | some x => (match assertA P x xt ty ok with | some v => some v | none => none)
    | none => none
  | .extract x i => match e x with
    | some (.tuple vs) => (match vs.toList[i]? with | some v => some v | none => none)
    | _ => none
  | _ => none

def pureA (P : Program) (e : Ev) (s : St) (o : Oper) : Option Value :=
  match o.op with
  | .move x => e x
  | .assign x => e x
  | .load ty x => match e x with
    | some x => loadA P s ty x
    | none => none
  | .fieldAddr ty x f => match e x with
    | some x => fieldAtA P ty x f
    | none => none
  | .indexAddr ty x i => match e x, e i with
    | some x, some i => indexAtA P ty x i
    | _, _ => none
  | .makeFunc fn x c => match evL e x.toList, evL e c.toList with
    | some x, some c => some (.func fn x.toArray c.toArray)
    | _, _ => none
  | .store .. => none
  | .alloc .. => none
  | .box .. => none
  | .buildSlice .. => none
  | .makeSlice .. => none
  | .range .. => none
  | .next .. => none
  | .panic .. => none
  | .defer .. => none
  | .convert .. => genA P e o
  | .call c => match c.callee with
    | .value f => match e f with
      | some (.func (.func g) _ _) => match P.funcs[g]? with
        | some fn => match fn.body with
          | some _ => none
          | none => genA P e o
        | none => none
      | _ => none
    | .invoke .. => none
    | .builtin b => match genA P e o with
      | some v => some v
      | none => match evL e c.args.toList with
        | some args => builtinP P b c.argTypes args
        | none => none
  | _ => match genA P e o with
    | some v => some v
    | none => specP P e s o.op

def callA (P : Program) (C : Cfg) (s : St) (f : FuncId) (args : List Value) : Option (AR × St) :=
  match P.funcs[f]? with
  | some fn => match fn.body with
    | some _ => some (.call f args.toArray, s)
    | none => vals? (externA P C s f args)
  | none => none

def effA (P : Program) (C : Cfg) (e : Ev) (s : St) (o : Oper) : Option (AR × St) :=
  match o.op with
  | .store ty x y => match e x, e y with
    | some x, some y => (match storeA P s ty x y with | some s' => some (.val undef, s') | none => none)
    | _, _ => none
  | .alloc ty => vals? (allocA P s ty)
  | .box ty x => match e x with
    | some x => vals? (some (boxA s ty x))
    | none => none
  | .buildSlice ty n parts => match evP e parts.toList with
    | some ps => vals? (buildSliceA P s ty n ps)
    | none => none
  | .makeSlice ty l c => match e l, e c with
    | some l, some c => vals? (makeSliceA P s ty l c)
    | _, _ => none
  | .range ty x => match e x with
    | some x => vals? (rangeA P s ty x)
    | none => none
  | .next x true => match e x with
    | some x => vals? (nextA s x)
    | none => none
  | .panic x => match e x with
    | some (.iface ty v) => some (.panic (.iface ty v), s)
    | _ => none
  | .convert src dst x => match e x with
    | some x => vals? (convA P s src dst x)
    | none => none
  | .call c => match c.callee with
    | .value f => match e f with
      | some (.func (.func g) x cap) => match evL e c.args.toList with
        | some args => callA P C s g (x.toList ++ args ++ cap.toList)
        | none => none
      | _ => none
    | .invoke r m => match e r with
      | some (.iface ty (.pointer (some a))) => match lookM ty m C.meths with
        | some g => match P.funcs[g]? with
          | some fn => match fn.body with
            | some _ => match evL e c.args.toList with
              | some args => some (.call g (.pointer (some a) :: args).toArray, s)
              | none => none
            | none => none
          | none => none
        | none => none
      | _ => none
    | .builtin b => match evL e c.args.toList with
        | some args => vals? (builtinA P s b c.argTypes args)
        | none => none
  | .defer c => match c.callee with
    | .value f => match e f with
      | some (.func (.func g) x cap) => match evL e c.args.toList with
        | some args => some (.defer g (x.toList ++ args).toArray cap, s)
        | none => none
      | _ => none
    | _ => none
  | _ => none

def opA (P : Program) (C : Cfg) (e : Ev) (s : St) (o : Oper) : Option (AR × St) :=
  match pureA P e s o with
  | some v => some (.val v, s)
  | none => effA P C e s o

def ARRel (P : Program) (q : Ren) (r : Operand → Value) (o : Oper) (w w' : World) : AR → Prop
  | .val v => (∃ v', (execOp r o).run P w = .ok (.value v') w' ∧ VRel q v v') ∨ (v = undef ∧ (execOp r o).run P w = .ok .skip w')
  | .call f args => ∃ args', (execOp r o).run P w = .ok (.enter f args') w' ∧ LRel q args.toList args'.toList
  | .defer f args cap => ∃ args' cap', (execOp r o).run P w = .ok (.defer { target := .fn (.func f) cap', args := args' }) w' ∧ LRel q args.toList args'.toList ∧ LRel q cap.toList cap'.toList
  | .panic v => ∃ v', (execOp r o).run P w = .halt (.panic v') w' ∧ VRel q v v'

theorem lookM_mem {t : TypeId} {n : String} {f : FuncId} : ∀ {l : List (TypeId × String × FuncId)}, lookM t n l = some f → (t, n, f) ∈ l
  | [], h => by simp [lookM] at h
  | (t2, n2, g) :: l, h => by
    unfold lookM at h
    cases hb : (Nat.beq t t2 && n == n2) with
    | true =>
      rw [hb] at h
      simp only [cond_true, Option.some.injEq] at h
      rw [Bool.and_eq_true] at hb
      have h1 := Nat.eq_of_beq_eq_true hb.1
      have h2 : n = n2 := by simpa using hb.2
      subst h1 h2 h
      exact List.mem_cons_self
    | false =>
      rw [hb] at h
      simp only [cond_false] at h
      exact List.mem_cons_of_mem _ (lookM_mem h)

theorem callFunc_enter {P : Program} {f : FuncId} {fn : Func} (hf : P.funcs[f]? = some fn) (hn : (fn.name == "runtime.NumGoroutine") = false) {c : Code} (hb : fn.body = some c) (args : Array Value) (w : World) :
    (callFunc f args).run P w = .ok (.enter f args) w := by
  simp only [callFunc, program, Sem.run_bind, Sem.run, Result.andThen, hf, hn, hb]
  rfl

inductive EqShape : Value → Value → Prop where
  | ptr (a b : Option Addr) : EqShape (.pointer a) (.pointer b)
  | slc (a b : Option Addr) (n c m d : Nat) : EqShape (.slice a n c) (.slice b m d)
  | fn1 (f : Fn) (x y : Array Value) : EqShape (.func f x y) .nilFunc
  | fn2 (f : Fn) (x y : Array Value) : EqShape .nilFunc (.func f x y)
  | if1 (t : TypeId) (v : Value) : EqShape .nilIface (.iface t v)
  | if2 (t : TypeId) (v : Value) : EqShape (.iface t v) .nilIface
theorem eqA_shape {P : Program} {t : TypeId} {x y : Value} {b : Bool} (h : eqA P t x y = some b) : EqShape x y := by
  unfold eqA at h
  split at h
  · split at h
    · split at h
      · exact .ptr _ _
      · exact absurd h (by simp)
    · split at h
      · exact .ptr _ _
      · exact .ptr _ _
      · exact absurd h (by simp)
    · exact absurd h (by simp)
  · split at h
    · split at h
      · exact .slc _ _ _ _ _ _
      · exact absurd h (by simp)
    · split at h
      · exact .slc _ _ _ _ _ _
      · exact absurd h (by simp)
    · exact absurd h (by simp)
  · split at h
    · split at h
      · exact .fn1 _ _ _
      · exact absurd h (by simp)
    · split at h
      · exact .fn2 _ _ _
      · exact absurd h (by simp)
    · exact absurd h (by simp)
  · split at h
    · split at h
      · exact .if1 _ _
      · exact absurd h (by simp)
    · split at h
      · exact .if2 _ _
      · exact absurd h (by simp)
    · exact absurd h (by simp)
  · exact absurd h (by simp)
theorem EqShape.rel {p : Ren} {x y x' y' : Value} (h : EqShape x y) (hx : VRel p x x') (hy : VRel p y y') : EqShape x' y' := by
  cases h with
  | ptr a b =>
    obtain ⟨a', rfl, _⟩ := hx.isNone
    obtain ⟨b', rfl, _⟩ := hy.isNone
    exact .ptr _ _
  | slc a b n c m d =>
    obtain ⟨a', n', c', rfl, _⟩ := hx.isNoneS
    obtain ⟨b', m', d', rfl, _⟩ := hy.isNoneS
    exact .slc _ _ _ _ _ _
  | fn1 f x y => cases hx; cases hy; exact .fn1 _ _ _
  | fn2 f x y => cases hx; cases hy; exact .fn2 _ _ _
  | if1 t v => cases hx; cases hy; exact .if1 _ _
  | if2 t v => cases hx; cases hy; exact .if2 _ _
theorem run_eql_shape {P : Program} {x y : Value} (h : EqShape x y) {t : TypeId} (ox oy : Operand) {b : Bool} {w : World} (he : (Op.equal t x y).run P w = .ok b w) :
    ((do eqGuard .eql t ox oy x y; binOp .eql t x y) : Sem Value).run P w = .ok (.bool b) w ∧ ((do eqGuard .neq t ox oy x y; binOp .neq t x y) : Sem Value).run P w = .ok (.bool (!b)) w := by
  have hg : ∀ op, eqGuard op t ox oy x y = pure () := by
    intro op
    unfold eqGuard
    cases h <;> cases op <;> rfl
  have h1 : binOp .eql t x y = (do pure (.bool (← Op.equal t x y))) := by cases h <;> rfl
  have h2 : binOp .neq t x y = (do pure (.bool (!(← Op.equal t x y)))) := by cases h <;> rfl
  rw [hg, hg, h1, h2]
  simp only [Sem.run_bind, Sem.run_pure, Result.andThen, he]
  exact ⟨trivial, trivial⟩

section
variable {P : Program} {C : Cfg} {w0 : Base} {w : World} {p : Ren} {s s' : St} {e : Ev} {r0 : Operand → Value}

theorem val?_some {v : Option Value} {r : AR} (h : val? s v = some (r, s')) : ∃ u, v = some u ∧ r = .val u ∧ s' = s := by
  cases v with
  | none => exact absurd h (by simp [val?])
  | some u => simp only [val?, Option.some.injEq, Prod.mk.injEq] at h; exact ⟨u, rfl, h.1.symm, h.2.symm⟩
theorem vals?_some {v : Option (Value × St)} {r : AR} (h : vals? v = some (r, s')) : ∃ u, v = some (u, s') ∧ r = .val u := by
  cases v with
  | none => exact absurd h (by simp [vals?])
  | some u => obtain ⟨u, s2⟩ := u; simp only [vals?, Option.some.injEq, Prod.mk.injEq] at h; exact ⟨u, by rw [h.2], h.1.symm⟩

theorem callA_run (hC : CfgOk P C) (R : Rel w0 p s w) {o : Oper} {f : FuncId} {args : List Value} {args' : List Value} {r : AR} (ha : LRel p args args') (h : callA P C s f args = some (r, s'))
    (hx : ∀ w1, (execOp r0 o).run P w1 = (callFunc f args'.toArray).run P w1) :
    ∃ q w', p.le q ∧ Rel w0 q s' w' ∧ ARRel P q r0 o w w' r := by
  unfold callA at h
  split at h
  · rename_i fn hf
    split at h
    · rename_i c hb
      simp only [Option.some.injEq, Prod.mk.injEq] at h
      obtain ⟨rfl, rfl⟩ := h
      refine ⟨p, w, Ren.le.refl p, R, args'.toArray, ?_, by simpa using ha⟩
      rw [hx]
      exact callFunc_enter hf (hC.noGo f fn hf) hb _ w
    · obtain ⟨u, hu, rfl⟩ := vals?_some h
      obtain ⟨v', w', h1, h2, h3⟩ := externA_run hC R ha hu
      exact ⟨p, w', Ren.le.refl p, h3, .inl ⟨v', by rw [hx]; exact h1, h2⟩⟩
  · exact absurd h (by simp)

theorem builtinA_run (R : Rel w0 p s w) {b : Builtin} {ts : Array TypeId} {ty : TypeId} {cs : Array Bool} {args args' : List Value} {v : Value} (ha : LRel p args args') (h : builtinA P s b ts args = some (v, s')) :
    ∃ q v' w', p.le q ∧ (builtin b ts ty cs args'.toArray).run P w = .ok (.value v') w' ∧ VRel q v v' ∧ Rel w0 q s' w' := by
  unfold builtinA at h
  split at h
  · split at h
    · rename_i t1 t2 base m c x hts
      cases ha with
      | cons _ v1 _ l1 hv1 hl1 =>
        cases hl1 with
        | cons _ x' _ l2 hx hl2 =>
          cases hl2
          obtain ⟨q, v', w', h1, h2, h3, h4⟩ := appendA_run (P := P) (ty := ty) R hv1 hx h
          refine ⟨q, v', w', h1, ?_, h3, h4⟩
          have e : ts = #[t1, t2] := Array.toList_inj.1 hts
          subst e
          simp only [builtin, Sem.run_bind, Sem.run_pure]
          have e2 : [v1, x'].toArray = #[v1, x'] := rfl
          rw [e2, h2]
          rfl
    · exact absurd h (by simp)
  · split at h
    · rename_i t1 d x ht
      cases ha with
      | cons _ v1 _ l1 hv1 hl1 =>
        cases hl1 with
        | cons _ x' _ l2 hx hl2 =>
          cases hl2
          obtain ⟨v', w', h1, h2, h3⟩ := copyA_run (P := P) (ty := ty) R hv1 hx h ht
          refine ⟨p, v', w', Ren.le.refl p, ?_, h2, h3⟩
          simp only [builtin, Sem.run_bind, Sem.run_pure]
          have e2 : [v1, x'].toArray = #[v1, x'] := rfl
          rw [e2, h1]
          rfl
    · exact absurd h (by simp)
  · split at h
    · rename_i pt it x m hts
      cases ha with
      | cons _ v1 _ l1 hv1 hl1 =>
        cases hl1 with
        | cons _ x' _ l2 hx hl2 =>
          cases hl2
          have e : ts = #[pt, it] := Array.toList_inj.1 hts
          subst e
          obtain ⟨v', w', h1, h2, h3⟩ := stringA_run (P := P) (it := it) (ty := ty) R hv1 hx h
          refine ⟨p, v', w', Ren.le.refl p, ?_, h2, h3⟩
          simp only [builtin, Sem.run_bind, Sem.run_pure]
          have e2 : [v1, x'].toArray = #[v1, x'] := rfl
          rw [e2, h1]
          rfl
    · exact absurd h (by simp)
  · exact absurd h (by simp)

theorem builtinP_run {b : Builtin} {ts : Array TypeId} {ty : TypeId} {cs : Array Bool} {args args' : List Value} {v : Value} (ha : LRel p args args') (h : builtinP P b ts args = some v) (w : World) :
    ∃ v', (builtin b ts ty cs args'.toArray).run P w = .ok (.value v') w ∧ VRel p v v' := by
  unfold builtinP at h
  split at h
  · split at h
    · rename_i t1 a1 m c ht
      split at h
      · rename_i e hu
        simp only [Option.some.injEq] at h
        subst h
        cases ha with
        | cons _ v1 _ l1 hv1 hl1 =>
          cases hl1
          refine ⟨goInt m, ?_, .int _ _⟩
          have hlen : ∃ a2 c2, v1 = .slice a2 m c2 := by
            rcases hv1.slice_inv with ⟨_, e⟩ | ⟨_, x', _, c', _, _, e, _⟩
            · exact ⟨_, _, e⟩
            · exact ⟨_, _, e⟩
          obtain ⟨a2, c2, rfl⟩ := hlen
          simp [builtin, Builtin.len_, ht, Sem.run_bind, run_underlying hu, Result.andThen]
      · exact absurd h (by simp)
    · exact absurd h (by simp)
  · split at h
    · rename_i t1 a1 m c ht
      split at h
      · rename_i e hu
        cases hcu : Nat.blt c U with
        | false => rw [hcu] at h; exact absurd h (by simp)
        | true =>
          rw [hcu] at h
          simp only [cond_true, Option.some.injEq] at h
          subst h
          cases ha with
          | cons _ v1 _ l1 hv1 hl1 =>
            cases hl1
            refine ⟨goInt c, ?_, .int _ _⟩
            have hlen : ∃ a2 n2, v1 = .slice a2 n2 c := by
              rcases hv1.slice_inv with ⟨_, e⟩ | ⟨_, x', _, c', _, _, e, hc, _⟩
              · exact ⟨_, _, e⟩
              · rw [(cap_exact hc hcu).1] at e; exact ⟨_, _, e⟩
            obtain ⟨a2, n2, rfl⟩ := hlen
            simp [builtin, Builtin.cap_, ht, Sem.run_bind, run_underlying hu, Result.andThen]
      · exact absurd h (by simp)
    · exact absurd h (by simp)
  · split at h
    · rename_i x
      cases ha with
      | cons _ v1 _ l1 hv1 hl1 =>
        cases hl1
        obtain ⟨v', h1, h2⟩ := sliceDataA_run (P := P) (ts := ts) (ty := ty) hv1 h w
        refine ⟨v', ?_, h2⟩
        simp only [builtin, Sem.run_bind, Sem.run_pure]
        have e2 : [v1].toArray = #[v1] := rfl
        rw [e2, h1]
        rfl
    · exact absurd h (by simp)
  · exact absurd h (by simp)

theorem specP_run (R : Rel w0 p s w) (T : ERel p e r0) {o : Oper} {v : Value} (h : specP P e s o.op = some v) :
    ∃ v', (execOp r0 o).run P w = .ok (.value v') w ∧ VRel p v v' := by
  unfold specP at h
  split at h
  · rename_i c x y ho
    split at h
    · rename_i cb xv yv hc hx hy
      simp only [Option.some.injEq] at h
      subst h
      have h1 := T _ _ hc
      have h2 := T _ _ hx
      have h3 := T _ _ hy
      refine ⟨if cb = true then r0 x else r0 y, ?_, ?_⟩
      · cases hcb : r0 c with
        | bool b2 =>
          rw [hcb] at h1
          cases h1
          simp [execOp, ho, hcb, asBool, Sem.run_bind, Result.andThen]
        | _ => rw [hcb] at h1; cases h1
      · cases cb with
        | true => exact h2
        | false => exact h3
    · exact absurd h (by simp)
  · rename_i ty parts ho
    split at h
    · rename_i ps hps
      split at h
      · rename_i u hu
        simp only [Option.some.injEq] at h
        subst h
        obtain ⟨v', h1, h2⟩ := buildA_run (evP_rel T hps) hu w
        refine ⟨v', ?_, h2⟩
        have e : (parts.map fun x => (x.1, r0 x.2)) = (List.map (fun x => (x.1, r0 x.2)) parts.toList).toArray := by
          apply Array.toList_inj.1
          simp
        simp only [execOp, ho]
        rw [e]
        simp only [Sem.run_bind, h1, Result.andThen, Sem.run_pure]
      · exact absurd h (by simp)
    · exact absurd h (by simp)
  · rename_i x ho
    split at h
    · rename_i ad hx
      simp only [Option.some.injEq] at h
      subst h
      have h1 := T _ _ hx
      refine ⟨r0 x, ?_, h1⟩
      rcases h1.ptr_inv with ⟨e, _⟩ | ⟨_, x', _, _, _, e⟩
      · exact absurd e (by simp)
      · simp only [execOp, ho, e]; rfl
    · rename_i f xs cs hx
      simp only [Option.some.injEq] at h
      subst h
      have h1 := T _ _ hx
      refine ⟨r0 x, ?_, h1⟩
      cases hv : r0 x with
      | func fn y z =>
        rw [hv] at h1
        cases h1
        simp only [execOp, ho, hv]; rfl
      | _ => rw [hv] at h1; cases h1
    · rename_i t1 v1 hx
      simp only [Option.some.injEq] at h
      subst h
      have h1 := T _ _ hx
      refine ⟨r0 x, ?_, h1⟩
      cases hv : r0 x with
      | iface t2 v2 => simp only [execOp, ho, hv]; rfl
      | _ => rw [hv] at h1; cases h1
    · exact absurd h (by simp)
  · rename_i ty x y yt ho
    split at h
    · rename_i xv yv hx hy
      split at h
      · rename_i b hb
        simp only [Option.some.injEq] at h
        subst h
        have h1 := T _ _ hx
        have h2 := T _ _ hy
        have h3 := eqA_run h1 h2 hb w
        refine ⟨.bool b, ?_, .bool b⟩
        have h4 := (run_eql_shape ((eqA_shape hb).rel h1 h2) x y h3).1
        simp only [execOp, ho]
        rw [Sem.run_bind, h4]
        rfl
      · exact absurd h (by simp)
    · exact absurd h (by simp)
  · rename_i ty x y yt ho
    split at h
    · rename_i xv yv hx hy
      split at h
      · rename_i b hb
        simp only [Option.some.injEq] at h
        subst h
        have h1 := T _ _ hx
        have h2 := T _ _ hy
        have h3 := eqA_run h1 h2 hb w
        refine ⟨.bool (!b), ?_, .bool (!b)⟩
        have h4 := (run_eql_shape ((eqA_shape hb).rel h1 h2) x y h3).2
        simp only [execOp, ho]
        rw [Sem.run_bind, h4]
        rfl
      · exact absurd h (by simp)
    · exact absurd h (by simp)
  · rename_i ty x ho
    split at h
    · rename_i xv hx
      split at h
      · rename_i u hu
        simp only [Option.some.injEq] at h
        subst h
        obtain ⟨v', h1, h2⟩ := ifaceA_run (T _ _ hx) hu w
        exact ⟨v', by simp only [execOp, ho, Sem.run_bind, h1, Result.andThen, Sem.run_pure], h2⟩
      · exact absurd h (by simp)
    · exact absurd h (by simp)
  · rename_i ty x lo hi mx ho
    split at h
    · rename_i xv lov hiv mxv hx hlo hhi hmx
      split at h
      · rename_i u hu
        simp only [Option.some.injEq] at h
        subst h
        obtain ⟨v', h1, h2⟩ := sliceA_run (T _ _ hx) (evO_rel T hlo) (evO_rel T hhi) (evO_rel T hmx) hu w
        exact ⟨v', by simp only [execOp, ho, Sem.run_bind, h1, Result.andThen, Sem.run_pure], h2⟩
      · exact absurd h (by simp)
    · exact absurd h (by simp)
  · rename_i ty x f ho
    split at h
    · rename_i xv hx
      split at h
      · rename_i u hu
        simp only [Option.some.injEq] at h
        subst h
        obtain ⟨v', h1, h2⟩ := fieldA_run (T _ _ hx) hu w
        exact ⟨v', by simp only [execOp, ho, Sem.run_bind, h1, Result.andThen, Sem.run_pure], h2⟩
      · exact absurd h (by simp)
    · exact absurd h (by simp)
  · rename_i ty x i ho
    split at h
    · rename_i xv iv hx hi
      split at h
      · rename_i u hu
        simp only [Option.some.injEq] at h
        subst h
        obtain ⟨v', h1, h2⟩ := indexA_run (T _ _ hx) (T _ _ hi) hu w
        exact ⟨v', by simp only [execOp, ho, Sem.run_bind, h1, Result.andThen, Sem.run_pure], h2⟩
      · exact absurd h (by simp)
    · exact absurd h (by simp)
  · rename_i x xt ty ok ho
    split at h
    · rename_i xv hx
      split at h
      · rename_i u hu
        simp only [Option.some.injEq] at h
        subst h
        obtain ⟨v', h1, h2⟩ := assertA_run (T _ _ hx) hu w
        exact ⟨v', by simp only [execOp, ho, Sem.run_bind, h1, Result.andThen, Sem.run_pure], h2⟩
      · exact absurd h (by simp)
    · exact absurd h (by simp)
  · rename_i x i ho
    split at h
    · rename_i vs hx
      split at h
      · rename_i u hu
        simp only [Option.some.injEq] at h
        subst h
        have h1 := T _ _ hx
        cases hv : r0 x with
        | tuple vs' =>
          rw [hv] at h1
          cases h1 with
          | tuple _ _ hl =>
            obtain ⟨v', g1, g2⟩ := hl.get _ _ hu
            refine ⟨v', ?_, g2⟩
            have g3 : vs'[i]? = some v' := by rw [← Array.getElem?_toList]; exact g1
            simp only [execOp, ho, hv, Instr.extract, g3, Sem.run_bind, Sem.run_pure, Result.andThen]
        | _ => rw [hv] at h1; cases h1
      · exact absurd h (by simp)
    · exact absurd h (by simp)
  · exact absurd h (by simp)


theorem pureA_run (R : Rel w0 p s w) (T : ERel p e r0) {o : Oper} {v : Value} (h : pureA P e s o = some v) :
    ∃ v', (execOp r0 o).run P w = .ok (.value v') w ∧ VRel p v v' := by
  have gen : ∀ u, genA P e o = some u → ∃ v', (execOp r0 o).run P w = .ok (.value v') w ∧ VRel p u v' := fun u hg => ⟨u, genA_run T hg⟩
  unfold pureA at h
  split at h
  · rename_i x ho
    exact ⟨r0 x, by simp only [execOp, ho]; rfl, T _ _ h⟩
  · rename_i x ho
    exact ⟨r0 x, by simp only [execOp, ho]; rfl, T _ _ h⟩
  · rename_i ty x ho
    split at h
    · rename_i xv hx
      obtain ⟨v', h1, h2⟩ := loadA_run R (T _ _ hx) h
      exact ⟨v', by simp only [execOp, ho, Sem.run_bind, h1, Result.andThen, Sem.run_pure], h2⟩
    · exact absurd h (by simp)
  · rename_i ty x f ho
    split at h
    · rename_i xv hx
      obtain ⟨v', h1, h2⟩ := fieldAtA_run (T _ _ hx) h w
      exact ⟨v', by simp only [execOp, ho, Sem.run_bind, h1, Result.andThen, Sem.run_pure], h2⟩
    · exact absurd h (by simp)
  · rename_i ty x i ho
    split at h
    · rename_i xv iv hx hi
      obtain ⟨v', h1, h2⟩ := indexAtA_run (T _ _ hx) (T _ _ hi) h w
      exact ⟨v', by simp only [execOp, ho, Sem.run_bind, h1, Result.andThen, Sem.run_pure], h2⟩
    · exact absurd h (by simp)
  · rename_i fn x c ho
    split at h
    · rename_i xv cv hx hc
      injection h with h
      subst h
      refine ⟨.func fn (x.map r0) (c.map r0), ?_, .func _ _ _ _ _ ?_ ?_⟩
      · simp only [execOp, ho, Instr.makeFunc, Sem.run_bind, Result.andThen, Sem.run_pure]
      · simpa using evL_rel T hx
      · simpa using evL_rel T hc
    · exact absurd h (by simp)
  · exact absurd h (by simp)
  · exact absurd h (by simp)
  · exact absurd h (by simp)
  · exact absurd h (by simp)
  · exact absurd h (by simp)
  · exact absurd h (by simp)
  · exact absurd h (by simp)
  · exact absurd h (by simp)
  · exact absurd h (by simp)
  · exact gen v h
  · rename_i c ho
    split at h
    · split at h
      · split at h
        · split at h
          · exact absurd h (by simp)
          · exact gen v h
        · exact absurd h (by simp)
      · exact absurd h (by simp)
    · exact absurd h (by simp)
    · rename_i b hcal
      split at h
      · rename_i u hg
        injection h with h
        subst h
        exact gen _ hg
      · split at h
        · rename_i args hargs
          obtain ⟨v', h2, h3⟩ := builtinP_run (ty := o.type) (cs := c.args.map fun | .const _ => true | _ => false) (evL_rel T hargs) h w
          refine ⟨v', ?_, h3⟩
          have e : c.args.map r0 = (c.args.toList.map r0).toArray := by
            apply Array.toList_inj.1
            simp
          simp only [execOp, ho, resolve, hcal, Sem.run_bind, Sem.run_pure, Result.andThen, invoke]
          rw [e]
          exact h2
        · exact absurd h (by simp)
  · split at h
    · rename_i u hg
      injection h with h
      subst h
      exact gen _ hg
    · exact specP_run R T h

theorem effA_run (hC : CfgOk P C) (R : Rel w0 p s w) (T : ERel p e r0) {o : Oper} {r : AR} (h : effA P C e s o = some (r, s')) :
    ∃ q w', p.le q ∧ Rel w0 q s' w' ∧ ARRel P q r0 o w w' r := by
  unfold effA at h
  split at h
  · rename_i ty x y ho
    split at h
    · rename_i xv yv hx hy
      split at h
      · rename_i s2 hs
        simp only [Option.some.injEq, Prod.mk.injEq] at h
        obtain ⟨rfl, rfl⟩ := h
        obtain ⟨w', h1, h2⟩ := storeA_run R (T _ _ hx) (T _ _ hy) hs
        exact ⟨p, w', Ren.le.refl p, h2, .inr ⟨rfl, by simp only [execOp, ho, Sem.run_bind, h1, Result.andThen, Sem.run_pure]⟩⟩
      · exact absurd h (by simp)
    · exact absurd h (by simp)
  · rename_i ty ho
    obtain ⟨u, hu, rfl⟩ := vals?_some h
    obtain ⟨q, v', w', h1, h2, h3, h4⟩ := allocA_run R hu
    exact ⟨q, w', h1, h4, .inl ⟨v', by simp only [execOp, ho, Sem.run_bind, h2, Result.andThen, Sem.run_pure], h3⟩⟩
  · rename_i ty x ho
    split at h
    · rename_i xv hx
      obtain ⟨u, hu, rfl⟩ := vals?_some h
      obtain ⟨q, v', w', h1, h2, h3, h4⟩ := boxA_run (P := P) R ty (T _ _ hx)
      injection hu with hu
      rw [hu] at h3 h4
      exact ⟨q, w', h1, h4, .inl ⟨v', by simp only [execOp, ho, Sem.run_bind, h2, Result.andThen, Sem.run_pure], h3⟩⟩
    · exact absurd h (by simp)
  · rename_i ty m parts ho
    split at h
    · rename_i ps hps
      obtain ⟨u, hu, rfl⟩ := vals?_some h
      obtain ⟨q, v', w', h1, h2, h3, h4⟩ := buildSliceA_run R (evP_rel T hps) hu
      refine ⟨q, w', h1, h4, .inl ⟨v', ?_, h3⟩⟩
      have e : (parts.map fun x => (x.1, r0 x.2)) = (List.map (fun x => (x.1, r0 x.2)) parts.toList).toArray := by
        apply Array.toList_inj.1
        simp
      simp only [execOp, ho]
      rw [e]
      simp only [Sem.run_bind, h2, Result.andThen, Sem.run_pure]
    · exact absurd h (by simp)
  · rename_i ty l c ho
    split at h
    · rename_i lv cv hl hc
      obtain ⟨u, hu, rfl⟩ := vals?_some h
      obtain ⟨q, v', w', h1, h2, h3, h4⟩ := makeSliceA_run R (T _ _ hl) (T _ _ hc) hu
      exact ⟨q, w', h1, h4, .inl ⟨v', by simp only [execOp, ho, Sem.run_bind, h2, Result.andThen, Sem.run_pure], h3⟩⟩
    · exact absurd h (by simp)
  · rename_i ty x ho
    split at h
    · rename_i xv hx
      obtain ⟨u, hu, rfl⟩ := vals?_some h
      obtain ⟨q, v', w', h1, h2, h3, h4⟩ := rangeA_run R (T _ _ hx) hu
      exact ⟨q, w', h1, h4, .inl ⟨v', by simp only [execOp, ho, Sem.run_bind, h2, Result.andThen, Sem.run_pure], h3⟩⟩
    · exact absurd h (by simp)
  · rename_i x ho
    split at h
    · rename_i xv hx
      obtain ⟨u, hu, rfl⟩ := vals?_some h
      obtain ⟨v', w', h2, h3, h4⟩ := nextA_run (P := P) (ty := o.type) R (T _ _ hx) hu
      exact ⟨p, w', Ren.le.refl p, h4, .inl ⟨v', by simp only [execOp, ho, Sem.run_bind, h2, Result.andThen, Sem.run_pure], h3⟩⟩
    · exact absurd h (by simp)
  · rename_i x ho
    split at h
    · rename_i ty v hx
      simp only [Option.some.injEq, Prod.mk.injEq] at h
      obtain ⟨rfl, rfl⟩ := h
      have h1 := T _ _ hx
      refine ⟨p, w, Ren.le.refl p, R, r0 x, ?_, h1⟩
      cases hv : r0 x with
      | iface t2 v2 => simp only [execOp, ho, hv, Instr.panic, goPanic, Sem.run_bind]; rfl
      | _ => rw [hv] at h1; cases h1
    · exact absurd h (by simp)
  · rename_i src dst x ho
    split at h
    · rename_i xv hx
      obtain ⟨u, hu, rfl⟩ := vals?_some h
      obtain ⟨q, v', w', h1, h2, h3, h4⟩ := convA_run R (T _ _ hx) hu
      exact ⟨q, w', h1, h4, .inl ⟨v', by simp only [execOp, ho, Sem.run_bind, h2, Result.andThen, Sem.run_pure], h3⟩⟩
    · exact absurd h (by simp)
  · rename_i c ho
    split at h
    · rename_i f hcal
      split at h
      · rename_i g xs cap hf
        split at h
        · rename_i args hargs
          have h1 := T _ _ hf
          have h2 := evL_rel T hargs
          cases hv : r0 f with
          | func fn ys zs =>
            rw [hv] at h1
            cases h1 with
            | func _ _ _ _ _ hxs hcs =>
              refine callA_run hC R (args' := ys.toList ++ c.args.toList.map r0 ++ zs.toList) ((hxs.append h2).append hcs) h ?_
              intro w1
              simp only [execOp, ho, resolve, hcal, hv, Deferred.ofValue, Sem.run_bind, Sem.run_pure, Result.andThen, invoke]
              congr 2
              apply Array.toList_inj.1
              simp
          | _ => rw [hv] at h1; cases h1
        · exact absurd h (by simp)
      · exact absurd h (by simp)
    · rename_i rc m hcal
      split at h
      · rename_i ty ad hr
        split at h
        · rename_i g hm
          split at h
          · rename_i fn hf
            split at h
            · rename_i body hb
              split at h
              · rename_i args hargs
                simp only [Option.some.injEq, Prod.mk.injEq] at h
                obtain ⟨rfl, rfl⟩ := h
                have h1 := T _ _ hr
                have h2 := evL_rel T hargs
                cases hv : r0 rc with
                | iface ty2 v2 =>
                  rw [hv] at h1
                  cases h1 with
                  | iface _ _ _ hp =>
                    rcases hp.ptr_inv with ⟨e, _⟩ | ⟨ad0, ad', y, e, har, rfl⟩
                    · exact absurd e (by simp)
                    · injection e with e
                      subst e
                      refine ⟨p, w, Ren.le.refl p, R, (.pointer (some ad') :: c.args.toList.map r0).toArray, ?_, by simpa using LRel.cons _ _ _ _ hp h2⟩
                      have hmm := hC.meths ty m g (lookM_mem hm) ad' w
                      have hcall := callFunc_enter hf (hC.noGo g fn hf) hb (.pointer (some ad') :: c.args.toList.map r0).toArray w
                      have e1 : (#[Value.pointer (some ad')] ++ (#[Value.iface ty (.pointer (some ad'))] ++ c.args.map r0).extract 1 (#[Value.iface ty (.pointer (some ad'))] ++ c.args.map r0).size) = (.pointer (some ad') :: c.args.toList.map r0).toArray := by
                        apply Array.toList_inj.1
                        simp
                        exact List.take_of_length_le (by simp)
                      have e0 : (#[Value.iface ty (.pointer (some ad'))] ++ c.args.map r0)[0]? = some (.iface ty (.pointer (some ad'))) := by
                        rw [← Array.getElem?_toList]; simp
                      simp only [execOp, ho, resolve, hcal, hv, Sem.run_bind, Sem.run_pure, Result.andThen, invoke, e0, callMethod, program, Sem.run, hmm, e1, hcall]
                | _ => rw [hv] at h1; cases h1
              · exact absurd h (by simp)
            · exact absurd h (by simp)
          · exact absurd h (by simp)
        · exact absurd h (by simp)
      · exact absurd h (by simp)
    · rename_i b hcal
      split at h
      · rename_i args hargs
        obtain ⟨u, hu, rfl⟩ := vals?_some h
        obtain ⟨q, v', w', h1, h2, h3, h4⟩ := builtinA_run (ty := o.type) (cs := c.args.map fun | .const _ => true | _ => false) R (evL_rel T hargs) hu
        refine ⟨q, w', h1, h4, .inl ⟨v', ?_, h3⟩⟩
        have e : c.args.map r0 = (c.args.toList.map r0).toArray := by
          apply Array.toList_inj.1
          simp
        simp only [execOp, ho, resolve, hcal, Sem.run_bind, Sem.run_pure, Result.andThen, invoke]
        rw [e]
        exact h2
      · exact absurd h (by simp)
  · rename_i c ho
    split at h
    · rename_i f hcal
      split at h
      · rename_i g xs cap hf
        split at h
        · rename_i args hargs
          simp only [Option.some.injEq, Prod.mk.injEq] at h
          obtain ⟨rfl, rfl⟩ := h
          have h1 := T _ _ hf
          have h2 := evL_rel T hargs
          cases hv : r0 f with
          | func fn ys zs =>
            rw [hv] at h1
            cases h1 with
            | func _ _ _ _ _ hxs hcs =>
              refine ⟨p, w, Ren.le.refl p, R, ys ++ c.args.map r0, zs, ?_, by simpa using hxs.append h2, hcs⟩
              simp only [execOp, ho, resolve, hcal, hv, Deferred.ofValue, Sem.run_bind, Sem.run_pure, Result.andThen]
          | _ => rw [hv] at h1; cases h1
        · exact absurd h (by simp)
      · exact absurd h (by simp)
    · exact absurd h (by simp)
  · exact absurd h (by simp)

theorem opA_run (hC : CfgOk P C) (R : Rel w0 p s w) (T : ERel p e r0) {o : Oper} {r : AR} (h : opA P C e s o = some (r, s')) :
    ∃ q w', p.le q ∧ Rel w0 q s' w' ∧ ARRel P q r0 o w w' r := by
  unfold opA at h
  split at h
  · rename_i v hv
    simp only [Option.some.injEq, Prod.mk.injEq] at h
    obtain ⟨rfl, rfl⟩ := h
    obtain ⟨v', h1, h2⟩ := pureA_run R T hv
    exact ⟨p, w, Ren.le.refl p, R, .inl ⟨v', h1, h2⟩⟩
  · exact effA_run hC R T h
end

end Go.Den
