/- A verified abstract interpreter, part D: one operation. -/
import Derived.Test.YtogidacejbjljaaGreatDoorDenC7
import Derived.Laws.LoneSync
set_option linter.unusedVariables false
set_option linter.unusedSimpArgs false
namespace Go.Den
open Go.RowKit

/-- What the interpreter is told of the functions without a body, and of methods. -/
structure Cfg where
  same : List FuncId
  nop : List FuncId
  ld : List (FuncId × IntKind)
  st : List FuncId
  cas : List (FuncId × IntKind)
  add : List (FuncId × IntKind)
  meths : List (TypeId × String × FuncId)

structure CfgOk (P : Program) (C : Cfg) : Prop where
  noGo : ∀ (f : FuncId) (fn : Func), P.funcs[f]? = some fn → (fn.name == "runtime.NumGoroutine") = false
  same : ∀ f, f ∈ C.same → ∀ x w, (callFunc f #[x]).run P w = .ok (.value x) w
  nop : ∀ f, f ∈ C.nop → ∀ a w, (callFunc f #[.pointer (some a)]).run P w = .ok (.value undef) w
  ld : ∀ f k, (f, k) ∈ C.ld → ∀ a x (w : World), w.cell? a = some (.int k x) → (callFunc f #[.pointer (some a)]).run P w = .ok (.value (.int k x)) w
  st : ∀ f, f ∈ C.st → ∀ a k y u (w : World), w.cell? a = some u → w.frozen? a = false → (callFunc f #[.pointer (some a), .int k y]).run P w = .ok (.value undef) (w.setCell a (.int k y))
  casHit : ∀ f k, (f, k) ∈ C.cas → ∀ a x y (w : World), w.cell? a = some (.int k x) → w.frozen? a = false → (callFunc f #[.pointer (some a), .int k x, .int k y]).run P w = .ok (.value (.bool true)) (w.setCell a (.int k y))
  casMiss : ∀ f k, (f, k) ∈ C.cas → ∀ a x o y (w : World), w.cell? a = some (.int k x) → w.frozen? a = false → ¬ x = o → (callFunc f #[.pointer (some a), .int k o, .int k y]).run P w = .ok (.value (.bool false)) w
  add : ∀ f k, (f, k) ∈ C.add → ∀ a x y s (w : World), w.cell? a = some (.int k x) → w.frozen? a = false → (Op.intArith .add k x y).run P w = .ok (.int k s) w →
    (callFunc f #[.pointer (some a), .int k y]).run P w = .ok (.value (.int k s)) (w.setCell a (.int k s))
  meths : ∀ t n f, (t, n, f) ∈ C.meths → ∀ a w, (method (P.types.size + Made.depth) t (.pointer (some a)) n).run P w = .ok (f, .pointer (some a)) w

inductive AR where
  | val (v : Value)
  | call (f : FuncId) (args : Array Value)
  | defer (f : FuncId) (args cap : Array Value)
  | panic (v : Value)

/-- The temporaries. -/
structure TRel (p : Ren) (n : Nat) (t : Trie Value) (a : Array Value) : Prop where
  size : a.size = n
  get : ∀ i, VRel p ((t.get i).getD undef) (a.getD i undef)

theorem TRel.mono {p q : Ren} (h : p.le q) {n : Nat} {t : Trie Value} {a : Array Value} (r : TRel p n t a) : TRel q n t a := ⟨r.size, fun i => (r.get i).mono h⟩
theorem undef_rel (p : Ren) : VRel p undef undef := .tuple _ _ .nil

theorem TRel.put {p : Ren} {n : Nat} {t : Trie Value} {a : Array Value} (r : TRel p n t a) {d : Nat} (hd : d < n) {v v' : Value} (hv : VRel p v v') : TRel p n (t.put d (some v)) (a.setIfInBounds d v') := by
  refine ⟨by simp [r.size], fun i => ?_⟩
  rw [Trie.get_put]
  by_cases e : i = d
  · subst e
    rw [if_pos rfl]
    have : i < a.size := by rw [r.size]; exact hd
    simp [this]
    exact hv
  · rw [if_neg e]
    have : (a.setIfInBounds d v').getD i undef = a.getD i undef := by
      rw [Array.getD_eq_getD_getElem?, Array.getD_eq_getD_getElem?, Array.getElem?_setIfInBounds_ne (Ne.symm e)]
    rw [this]
    exact r.get i

def ev (t : Trie Value) (s : St) (x : Operand) : Option Value :=
  match x with
  | .tmp i => some (match t.get i with | some v => v | none => undef)
  | .const v => bif flat v then some v else none
  | .global g => match s.heap.get g with
    | some (.blk k) => bif Nat.beq k.mode 2 then some (ptrA g) else none
    | _ => none
  | .func f => some (.func (.func f) #[] #[])

theorem ev_rel {w0 : Base} {w : World} {p : Ren} {s : St} (R : Rel w0 p s w) {n : Nat} {t : Trie Value} {a : Act} (T : TRel p n t a.tmps) {x : Operand} {v : Value} (h : ev t s x = some v) : VRel p v (a.eval x) := by
  unfold ev at h
  cases x with
  | tmp i =>
    simp only [Option.some.injEq] at h
    subst h
    have := T.get i
    simp only [Act.eval]
    cases hi : t.get i with
    | none => rw [hi] at this; exact this
    | some v => rw [hi] at this; exact this
  | const v0 =>
    simp only at h
    cases hf : flat v0 with
    | false => rw [hf] at h; exact absurd h (by simp)
    | true =>
      rw [hf] at h
      simp only [cond_true, Option.some.injEq] at h
      subst h
      exact flat_rel p hf
  | global g =>
    simp only at h
    split at h
    · rename_i k hk
      cases hb : Nat.beq k.mode 2 with
      | false => rw [hb] at h; exact absurd h (by simp)
      | true =>
        rw [hb] at h
        simp only [cond_true, Option.some.injEq] at h
        subst h
        obtain ⟨bn, cn, hp, hor⟩ := R.obj g _ hk
        have := (hor.2.1 (Nat.eq_of_beq_eq_true hb)).1
        subst this
        exact .ptr _ _ _ _ hp
    · exact absurd h (by simp)
  | func f =>
    simp only [Option.some.injEq] at h
    subst h
    exact .func _ _ _ _ _ .nil .nil

abbrev Ev := Operand → Option Value
def ERel (p : Ren) (e : Ev) (r : Operand → Value) : Prop := ∀ x v, e x = some v → VRel p v (r x)
theorem TRel.ev {w0 : Base} {w : World} {p : Ren} {s : St} {n : Nat} {t : Trie Value} {a : Act} (T : TRel p n t a.tmps) (R : Rel w0 p s w) : ERel p (ev t s) a.eval := fun _ _ h => ev_rel R T h

def evL (e : Ev) : List Operand → Option (List Value)
  | [] => some []
  | x :: l => match e x with
    | none => none
    | some v => match evL e l with
      | none => none
      | some r => some (v :: r)
theorem evL_rel {p : Ren} {e : Ev} {r0 : Operand → Value} (T : ERel p e r0) : ∀ {l : List Operand} {r : List Value}, evL e l = some r → LRel p r (l.map r0)
  | [], r, h => by simp only [evL, Option.some.injEq] at h; subst h; exact .nil
  | x :: l, r, h => by
    unfold evL at h
    split at h
    · exact absurd h (by simp)
    · rename_i v hv
      split at h
      · exact absurd h (by simp)
      · rename_i r' hr
        injection h with h
        subst h
        exact .cons _ _ _ _ (T _ _ hv) (evL_rel T hr)
def evP (e : Ev) : List (Nat × Operand) → Option (List (Nat × Value))
  | [] => some []
  | (i, x) :: l => match e x with
    | none => none
    | some v => match evP e l with
      | none => none
      | some r => some ((i, v) :: r)
theorem evP_rel {p : Ren} {e : Ev} {r0 : Operand → Value} (T : ERel p e r0) : ∀ {l : List (Nat × Operand)} {r : List (Nat × Value)}, evP e l = some r → PRel p r (l.map fun x => (x.1, r0 x.2))
  | [], r, h => by simp only [evP, Option.some.injEq] at h; subst h; exact .nil
  | (i, x) :: l, r, h => by
    unfold evP at h
    split at h
    · exact absurd h (by simp)
    · rename_i v hv
      split at h
      · exact absurd h (by simp)
      · rename_i r' hr
        injection h with h
        subst h
        exact .cons _ _ _ _ _ (T _ _ hv) (evP_rel T hr)
def evO (e : Ev) : Option Operand → Option (Option Value)
  | none => some none
  | some x => match e x with
    | some v => some (some v)
    | none => none
theorem evO_rel {p : Ren} {e : Ev} {r0 : Operand → Value} (T : ERel p e r0) {x : Option Operand} {r : Option Value} (h : evO e x = some r) : ORelV p r (x.map r0) := by
  cases x with
  | none => simp only [evO, Option.some.injEq] at h; subst h; exact .none
  | some x =>
    simp only [evO] at h
    split at h
    · rename_i v hv
      injection h with h
      subst h
      exact .some _ _ (T _ _ hv)
    · exact absurd h (by simp)

/-! ### operations whose operands hold no address, and which ask the program alone -/
def flatAll (e : Ev) : List Operand → Bool
  | [] => true
  | x :: l => (match e x with | some v => flat v | none => false) && flatAll e l
theorem flatAll_spec {p : Ren} {e : Ev} {r0 : Operand → Value} (T : ERel p e r0) : ∀ {l : List Operand}, flatAll e l = true → ∀ x ∈ l, (e x).getD undef = r0 x
  | [], _, x, hx => by simp at hx
  | y :: l, h, x, hx => by
    simp only [flatAll, Bool.and_eq_true] at h
    rcases List.mem_cons.1 hx with q | q
    · subst q
      cases hv : e x with
      | none => rw [hv] at h; simp at h
      | some v =>
        rw [hv] at h
        exact (flat_eq h.1 (T _ _ hv)).symm
    · exact flatAll_spec T h.2 x q
def noSel (o : Op) : Bool := match o with | .select .. => false | _ => true
def genA (P : Program) (e : Ev) (o : Oper) : Option Value :=
  bif noSel o.op && flatAll e o.op.operands.toList then
    match semP P (execOp (fun x => (e x).getD undef) o) with
    | some (.value v) => bif flat v then some v else none
    | _ => none
  else none
theorem genA_run {P : Program} {w : World} {p : Ren} {e : Ev} {r0 : Operand → Value} (T : ERel p e r0) {o : Oper} {v : Value} (h : genA P e o = some v) :
    (execOp r0 o).run P w = .ok (.value v) w ∧ VRel p v v := by
  unfold genA at h
  cases hc : (noSel o.op && flatAll e o.op.operands.toList) with
  | false => rw [hc] at h; exact absurd h (by simp)
  | true =>
    rw [hc] at h
    simp only [cond_true] at h
    rw [Bool.and_eq_true] at hc
    split at h
    · rename_i u hu
      cases hf : flat u with
      | false => rw [hf] at h; exact absurd h (by simp)
      | true =>
        rw [hf] at h
        simp only [cond_true, Option.some.injEq] at h
        subst h
        have hcong := execOp_congr (ρ := fun x => (e x).getD undef) (ρ' := r0) o (fun cs b q => by rw [q] at hc; simp [noSel] at hc) (fun x hx => flatAll_spec T hc.2 x (by simpa using hx))
        rw [← hcong]
        exact ⟨semP_run hu w, flat_rel p hf⟩
    · exact absurd h (by simp)

/-! ### one cell stored -/
theorem Rel.setCell1 {w0 : Base} {w : World} {p : Ren} {s : St} (R : Rel w0 p s w) {b b' y o : Nat} {k : Blk} (hk : s.heap.get b = some (.blk k)) (hb : p b = some (b', y)) {v v' : Value} (hv : VRel p v v') (ho : storeOk k o 1 [v] = true) :
    (∃ u, w.cell? ⟨b', o, none⟩ = some u) ∧ w.frozen? ⟨b', o, none⟩ = false ∧ Rel w0 p { s with heap := s.heap.put b (some (.blk (k.putL o [v]))) } (w.setCell ⟨b', o, none⟩ v') := by
  obtain ⟨h1, h2, h3, h4, h5⟩ := storeOk_spec ho
  obtain ⟨bn, cn, c, fr, hp, hh, r⟩ := R.blk hk
  rw [hb] at hp
  injection hp with hp
  injection hp with hp hp2
  subst hp
  subst hp2
  have hlt : o < c.size := by have := r.2.2.1; omega
  have hnf : ¬ (fr.1 ≤ o ∧ o < fr.2) := fun q => by have := r.2.1.1 o q.1 q.2 hlt; omega
  refine ⟨⟨c[o], by rw [cell_of_row _ _ _ _ _ _ hh]; simp [hlt]⟩, ?_, ?_⟩
  · rw [frozen_at _ _ _ _ _ fr.1 fr.2 hh]
    simp
    omega
  · refine R.wrote hk hb h5 r (.cons _ _ _ _ hv .nil) (by simpa using h3) (c' := c.setIfInBounds o v') ⟨rfl, rfl, rfl, by simp [World.setCell], fun j hj => heap_setCell_other _ _ _ _ hj, heap_setCell_at _ _ _ _ _ _ _ hh⟩ (by simp) ?_
    intro j
    by_cases e : j = o
    · subst e
      rw [if_pos (by simp)]
      simp [hlt]
    · rw [if_neg (by simp; omega), Array.getElem?_setIfInBounds_ne (Ne.symm e)]

/-! ### functions without a body -/
def findK (f : FuncId) : List (FuncId × IntKind) → Option IntKind
  | [] => none
  | (g, k) :: l => bif Nat.beq f g then some k else findK f l
theorem findK_mem {f : FuncId} {k : IntKind} : ∀ {l : List (FuncId × IntKind)}, findK f l = some k → (f, k) ∈ l
  | [], h => by simp [findK] at h
  | (g, k2) :: l, h => by
    unfold findK at h
    cases hb : Nat.beq f g with
    | true =>
      rw [hb] at h
      simp only [cond_true, Option.some.injEq] at h
      subst h
      have := Nat.eq_of_beq_eq_true hb
      subst this
      exact List.mem_cons_self
    | false =>
      rw [hb] at h
      simp only [cond_false] at h
      exact List.mem_cons_of_mem _ (findK_mem h)
def hasF (f : FuncId) : List FuncId → Bool
  | [] => false
  | g :: l => Nat.beq f g || hasF f l
theorem hasF_mem {f : FuncId} : ∀ {l : List FuncId}, hasF f l = true → f ∈ l
  | [], h => by simp [hasF] at h
  | g :: l, h => by
    simp only [hasF, Bool.or_eq_true] at h
    rcases h with h | h
    · rw [Nat.eq_of_beq_eq_true h]; exact List.mem_cons_self
    · exact List.mem_cons_of_mem _ (hasF_mem h)

def cellA (s : St) (x : Value) : Option (Nat × Nat × Blk × Value) :=
  match x with
  | .pointer (some ⟨b, o, none⟩) => match s.heap.get b with
    | some (.blk k) => bif Nat.blt o k.n then (match k.cells.get o with | some v => some (b, o, k, v) | none => none) else none
    | _ => none
  | _ => none
theorem cellA_spec {w0 : Base} {w : World} {p : Ren} {s : St} (R : Rel w0 p s w) {x x' v : Value} {b o : Nat} {k : Blk} (hx : VRel p x x') (h : cellA s x = some (b, o, k, v)) :
    ∃ b' y v', s.heap.get b = some (.blk k) ∧ p b = some (b', y) ∧ x' = .pointer (some ⟨b', o, none⟩) ∧ w.cell? ⟨b', o, none⟩ = some v' ∧ VRel p v v' := by
  unfold cellA at h
  split at h
  · rename_i b0 o0
    split at h
    · rename_i k0 hk
      cases hlt : Nat.blt o0 k0.n with
      | false => rw [hlt] at h; exact absurd h (by simp)
      | true =>
        rw [hlt] at h
        simp only [cond_true] at h
        split at h
        · rename_i v0 hv0
          simp only [Option.some.injEq, Prod.mk.injEq] at h
          obtain ⟨rfl, rfl, rfl, rfl⟩ := h
          cases hx with
          | ptr _ b' y _ hb =>
            obtain ⟨bn, cn, c, fr, hp, hh, r⟩ := R.blk hk
            rw [hb] at hp
            injection hp with hp
            injection hp with hp hp2
            subst hp
            obtain ⟨v', h1, h2⟩ := r.2.2.2.2.2 _ _ hv0 (blt_lt hlt)
            exact ⟨b', y, v', hk, hb, rfl, by rw [cell_of_row _ _ _ _ _ _ hh]; exact h1, h2⟩
        · exact absurd h (by simp)
    · exact absurd h (by simp)
  · exact absurd h (by simp)

def putCell (s : St) (b o : Nat) (k : Blk) (v : Value) : Option St :=
  bif storeOk k o 1 [v] then some { s with heap := s.heap.put b (some (.blk (k.putL o [v]))) } else none

def externA (P : Program) (C : Cfg) (s : St) (f : FuncId) (args : List Value) : Option (Value × St) :=
  match args with
  | [x] =>
    bif hasF f C.same then some (x, s)
    else bif hasF f C.nop then (match x with | .pointer (some _) => some (undef, s) | _ => none)
    else match findK f C.ld with
      | some k => match cellA s x with
        | some (_, _, _, .int k2 n) => bif k == k2 then some (.int k2 n, s) else none
        | _ => none
      | none => none
  | [x, .int ky y] =>
    match findK f C.add with
    | some k => match cellA s x with
      | some (b, o, kb, .int k2 n) => bif k == k2 && k == ky then
          match semP P (Op.intArith .add k n y) with
          | some (.int k3 z) => bif k == k3 then (match putCell s b o kb (.int k z) with | some s' => some (.int k z, s') | none => none) else none
          | _ => none
        else none
      | _ => none
    | none => bif hasF f C.st then
        match cellA s x with
        | some (b, o, kb, _) => (match putCell s b o kb (.int ky y) with | some s' => some (undef, s') | none => none)
        | _ => none
      else none
  | [x, .int ko o0, .int ky y] =>
    match findK f C.cas with
    | some k => match cellA s x with
      | some (b, o, kb, .int k2 n) => bif k == k2 && k == ky && k == ko then
          (match putCell s b o kb (.int k y) with
          | some s' => bif decide (n = o0) then some (.bool true, s') else some (.bool false, s)
          | none => none)
        else none
      | _ => none
    | none => none
  | _ => none

theorem putCell_spec {w0 : Base} {w : World} {p : Ren} {s s' : St} (R : Rel w0 p s w) {b o b' y : Nat} {k : Blk} {v v' : Value} (hk : s.heap.get b = some (.blk k)) (hb : p b = some (b', y)) (hv : VRel p v v') (h : putCell s b o k v = some s') :
    w.frozen? ⟨b', o, none⟩ = false ∧ Rel w0 p s' (w.setCell ⟨b', o, none⟩ v') := by
  unfold putCell at h
  cases hc : storeOk k o 1 [v] with
  | false => rw [hc] at h; exact absurd h (by simp)
  | true =>
    rw [hc] at h
    simp only [cond_true, Option.some.injEq] at h
    subst h
    obtain ⟨_, h2, h3⟩ := R.setCell1 hk hb hv hc
    exact ⟨h2, h3⟩

theorem kind_eq {a b : IntKind} (h : (a == b) = true) : a = b := by simpa using h

theorem externA_run {P : Program} {C : Cfg} (hC : CfgOk P C) {w0 : Base} {w : World} {p : Ren} {s s' : St} (R : Rel w0 p s w) {f : FuncId} {args : List Value} {args' : List Value} {v : Value} (ha : LRel p args args') (h : externA P C s f args = some (v, s')) :
    ∃ v' w', (callFunc f args'.toArray).run P w = .ok (.value v') w' ∧ VRel p v v' ∧ Rel w0 p s' w' := by
  unfold externA at h
  split at h
  · rename_i x
    cases ha with
    | cons _ x' _ l' hx hl =>
      cases hl
      cases hs : hasF f C.same with
      | true =>
        rw [hs] at h
        simp only [cond_true, Option.some.injEq, Prod.mk.injEq] at h
        obtain ⟨rfl, rfl⟩ := h
        exact ⟨x', w, hC.same f (hasF_mem hs) x' w, hx, R⟩
      | false =>
        rw [hs] at h
        simp only [cond_false] at h
        cases hnp : hasF f C.nop with
        | true =>
          rw [hnp] at h
          simp only [cond_true] at h
          split at h
          · simp only [Option.some.injEq, Prod.mk.injEq] at h
            obtain ⟨rfl, rfl⟩ := h
            rcases hx.ptr_inv with ⟨e, _⟩ | ⟨_, a', _, _, _, rfl⟩
            · exact absurd e (by simp)
            · exact ⟨undef, w, hC.nop f (hasF_mem hnp) a' w, undef_rel p, R⟩
          · exact absurd h (by simp)
        | false =>
        rw [hnp] at h
        simp only [cond_false] at h
        split at h
        · rename_i k hk
          split at h
          · rename_i b o kb k2 n hc
            cases hkk : (k == k2) with
            | false => rw [hkk] at h; exact absurd h (by simp)
            | true =>
              rw [hkk] at h
              simp only [cond_true, Option.some.injEq, Prod.mk.injEq] at h
              obtain ⟨rfl, rfl⟩ := h
              have := kind_eq hkk
              subst this
              obtain ⟨b', y, v', h1, h2, rfl, h4, h5⟩ := cellA_spec R hx hc
              cases h5
              exact ⟨_, w, hC.ld f k (findK_mem hk) _ n w h4, .int _ _, R⟩
          · exact absurd h (by simp)
        · exact absurd h (by simp)
  · rename_i x ky y
    cases ha with
    | cons _ x' _ l' hx hl =>
      cases hl with
      | cons _ y' _ l2 hy hl2 =>
        cases hl2
        cases hy
        split at h
        · rename_i k hk
          split at h
          · rename_i b o kb k2 n hc
            cases hkk : (k == k2 && k == ky) with
            | false => rw [hkk] at h; exact absurd h (by simp)
            | true =>
              rw [hkk] at h
              simp only [cond_true] at h
              rw [Bool.and_eq_true] at hkk
              have e1 := kind_eq hkk.1
              have e2 := kind_eq hkk.2
              subst e1
              subst e2
              split at h
              · rename_i k3 z hz
                cases hk3 : (k == k3) with
                | false => rw [hk3] at h; exact absurd h (by simp)
                | true =>
                  rw [hk3] at h
                  simp only [cond_true] at h
                  have := kind_eq hk3
                  subst this
                  split at h
                  · rename_i s2 hp
                    simp only [Option.some.injEq, Prod.mk.injEq] at h
                    obtain ⟨rfl, rfl⟩ := h
                    obtain ⟨b', y1, v', h1, h2, rfl, h4, h5⟩ := cellA_spec R hx hc
                    cases h5
                    obtain ⟨g1, g2⟩ := putCell_spec R h1 h2 (.int k z) hp
                    exact ⟨_, _, hC.add f k (findK_mem hk) _ n y z w h4 g1 (semP_run hz w), .int _ _, g2⟩
                  · exact absurd h (by simp)
              · exact absurd h (by simp)
          · exact absurd h (by simp)
        · cases hs : hasF f C.st with
          | false => rw [hs] at h; exact absurd h (by simp)
          | true =>
            rw [hs] at h
            simp only [cond_true] at h
            split at h
            · rename_i b o kb u hc
              split at h
              · rename_i s2 hp
                simp only [Option.some.injEq, Prod.mk.injEq] at h
                obtain ⟨rfl, rfl⟩ := h
                obtain ⟨b', y1, v', h1, h2, rfl, h4, h5⟩ := cellA_spec R hx hc
                obtain ⟨g1, g2⟩ := putCell_spec R h1 h2 (.int ky y) hp
                exact ⟨_, _, hC.st f (hasF_mem hs) _ ky y _ w h4 g1, undef_rel p, g2⟩
              · exact absurd h (by simp)
            · exact absurd h (by simp)
  · rename_i x ko o0 ky y
    cases ha with
    | cons _ x' _ l' hx hl =>
      cases hl with
      | cons _ y' _ l2 hy hl2 =>
        cases hl2 with
        | cons _ z' _ l3 hz hl3 =>
          cases hl3
          cases hy
          cases hz
          split at h
          · rename_i k hk
            split at h
            · rename_i b o kb k2 n hc
              cases hkk : (k == k2 && k == ky && k == ko) with
              | false => rw [hkk] at h; exact absurd h (by simp)
              | true =>
                rw [hkk] at h
                simp only [cond_true] at h
                rw [Bool.and_eq_true, Bool.and_eq_true] at hkk
                have e1 := kind_eq hkk.1.1
                have e2 := kind_eq hkk.1.2
                have e3 := kind_eq hkk.2
                subst e1
                subst e2
                subst e3
                split at h
                · rename_i s2 hp
                  obtain ⟨b', y1, v', h1, h2, rfl, h4, h5⟩ := cellA_spec R hx hc
                  cases h5
                  obtain ⟨g1, g2⟩ := putCell_spec R h1 h2 (.int k y) hp
                  by_cases e : n = o0
                  · rw [decide_eq_true e] at h
                    simp only [cond_true, Option.some.injEq, Prod.mk.injEq] at h
                    obtain ⟨rfl, rfl⟩ := h
                    subst e
                    exact ⟨_, _, hC.casHit f k (findK_mem hk) _ n y w h4 g1, .bool true, g2⟩
                  · rw [decide_eq_false e] at h
                    simp only [cond_false, Option.some.injEq, Prod.mk.injEq] at h
                    obtain ⟨rfl, rfl⟩ := h
                    exact ⟨_, w, hC.casMiss f k (findK_mem hk) _ n o0 y w h4 g1 e, .bool false, R⟩
                · exact absurd h (by simp)
            · exact absurd h (by simp)
          · exact absurd h (by simp)
  · exact absurd h (by simp)

end Go.Den
