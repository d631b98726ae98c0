/- Lemmas on the way to the card of TextBehind, joined from: DenG3 DenH DenI DenTextC. Conditions: as each lemma says. -/
import Derived.Test.YtogidacejbjljaaGreatDoorZTextBehindd
import Derived.Recover
import Derived.Test.YtogidacejbjljaaGreatDoorChecked
import Derived.KernelRfl
import Derived.Laws.LoneSync
section
/- A verified abstract interpreter, part G3: the theorem on regions that draw. -/
set_option linter.unusedVariables false
set_option linter.unusedSimpArgs false
namespace Go.Den
open Go.RowKit

theorem effIdx_mem : ∀ {rs : List Rec} {k i : Nat}, i ∈ effIdx k rs ↔ ∃ j r, rs[j]? = some r ∧ r.eff = true ∧ i = k + j
 | [], k, i => by simp [effIdx]
 | r :: rs, k, i => by
  unfold effIdx
  cases he : r.eff with
  | true =>
   simp only [cond_true, List.mem_cons, effIdx_mem (rs := rs)]
   constructor
   ·rintro (rfl | ⟨j, r2, h1, h2, rfl⟩)
    ·exact ⟨0, r, by simp, he, by omega⟩
    ·exact ⟨j + 1, r2, by rw [List.getElem?_cons_succ]; exact h1, h2, by omega⟩
   ·rintro ⟨j, r2, h1, h2, rfl⟩
    cases j with
    | zero => exact .inl (by omega)
    | succ j => rw [List.getElem?_cons_succ] at h1; exact .inr ⟨j, r2, h1, h2, by omega⟩
  | false =>
   simp only [cond_false, effIdx_mem (rs := rs)]
   constructor
   ·rintro ⟨j, r2, h1, h2, rfl⟩
    exact ⟨j + 1, r2, by rw [List.getElem?_cons_succ]; exact h1, h2, by omega⟩
   ·rintro ⟨j, r2, h1, h2, rfl⟩
    cases j with
    | zero => simp at h1; subst h1; rw [he] at h2; exact absurd h2 (by simp)
    | succ j => rw [List.getElem?_cons_succ] at h1; exact ⟨j, r2, h1, h2, by omega⟩

def isEff (rs : List Rec) (i : Nat) : Prop := ∃ r, rs[i]? = some r ∧ r.eff = true
theorem effIdx0 {rs : List Rec} {i : Nat} : i ∈ effIdx 0 rs ↔ isEff rs i := by
 rw [effIdx_mem]
 constructor
 ·rintro ⟨j, r, h1, h2, rfl⟩; exact ⟨r, by rw [Nat.zero_add]; exact h1, h2⟩
 ·rintro ⟨r, h1, h2⟩; exact ⟨i, r, h1, h2, by omega⟩
instance (rs : List Rec) (i : Nat) : Decidable (isEff rs i) :=
 match h : rs[i]? with
 | none => isFalse (fun ⟨r, h1, _⟩ => by rw [h] at h1; exact absurd h1 (by simp))
 | some r => if he : r.eff = true then isTrue ⟨r, h, he⟩ else isFalse (fun ⟨r2, h1, h2⟩ => by rw [h] at h1; injection h1 with h1; subst h1; exact he h2)

/-- The next writing operation from a place on. -/
theorem next_eff (rs : List Rec) : ∀ (d i : Nat), i + d = rs.length → ∃ e, i ≤ e ∧ e ≤ rs.length ∧ (e = rs.length ∨ isEff rs e) ∧ ∀ x, isEff rs x → i ≤ x → e ≤ x
 | 0, i, h => ⟨i, Nat.le_refl _, by omega, .inl (by omega), fun x _ hx => hx⟩
 | d + 1, i, h => by
  by_cases he : isEff rs i
  ·exact ⟨i, Nat.le_refl _, by omega, .inr he, fun x _ hx => hx⟩
  ·obtain ⟨e, h1, h2, h3, h4⟩ := next_eff rs d (i + 1) (by omega)
   refine ⟨e, by omega, h2, h3, fun x hx hix => ?_⟩
   have : x ≠ i := fun q => he (q ▸ hx)
   exact h4 x hx (by omega)

theorem chain_st {rs : List Rec} {sf : St} (hn : ∀ (j : Nat) (r : Rec), rs[j]? = some r → stAt rs sf (j + 1) = r.s') (hp : ∀ (j : Nat) (r : Rec), rs[j]? = some r → r.eff = false → r.s' = r.s) :
  ∀ (d i : Nat), i + d ≤ rs.length → (∀ x, isEff rs x → i ≤ x → i + d ≤ x) → stAt rs sf (i + d) = stAt rs sf i
 | 0, i, _, _ => rfl
 | d + 1, i, h, hx => by
  have hlt : i < rs.length := by omega
  have hr : rs[i]? = some rs[i] := by simp [hlt]
  have hne : rs[i].eff = false := by
   cases he : rs[i].eff with
   | false => rfl
   | true => have := hx i ⟨_, hr, he⟩ (Nat.le_refl _); omega
  have h1 := hn i _ hr
  rw [hp i _ hr hne] at h1
  have h2 : stAt rs sf i = rs[i].s := by simp [stAt, hr]
  have := chain_st hn hp d (i + 1) (by omega) (fun x hxe hix => by have := hx x hxe (by omega); omega)
  rw [show i + (d + 1) = i + 1 + d from by omega, this, h1, h2]

/-- A new variable that a region made ahead of its place in the text. -/
structure Flo where
 f : Nat
 d : Tmp
 bn : Nat
 x : Obj
def baseF (w0 : Base) : Option Flo → Base
 | none => w0
 | some φ => w0.ext φ.bn φ.x
def viewF (a : Array Value) : Option Flo → Array Value
 | none => a
 | some φ => a.setIfInBounds φ.d undef
def isF (m : Option Flo) (j : Nat) : Prop := ∃ φ, m = some φ ∧ j = φ.f

structure OkF (w0 : Base) (B : List Nat) (rs : List Rec) (fl : Nat) (φ : Flo) (lst : Nat → Bool) (a : Act) : Prop where
 fl : φ.f = fl
 lst : lst φ.f = true
 at_ : a.tmps[φ.d]? = some (.pointer (some ⟨φ.bn, 0, none⟩))
 new : w0.new φ.bn
 rec_ : ∃ r ty z, rs[φ.f]? = some r ∧ r.eff = true ∧ r.o.dst = some φ.d ∧ flat1 z = true ∧ φ.x = .cells z.cells ty ∧ r.v = ptrA r.s.next ∧ r.s' = r.s.add (.blk (blkOf ty z.cells.toList 0 0))
 loose : ∀ j x, isEff rs x → x < φ.f → (B.getD j 0).testBit φ.f = true → (B.getD j 0).testBit x = true

def Body (w0 : Base) (B : List Nat) (fl n : Nat) (t0 : Trie Value) (rs : List Rec) (sf : St) (strict : Prop) (q : Ren) (lst : Nat → Bool) (a : Act) (w : World) : Prop :=
 ∃ (m : Option Flo) (tL : Trie Value) (e : Nat), TRel q n tL (viewF a.tmps m) ∧
  (∀ (j : Nat) (r : Rec) (x : Tmp), rs[j]? = some r → r.o.dst = some x → lst j = true → ¬ isF m j → tL.get x = some r.v) ∧
  (∀ x, (∀ (j : Nat) (r : Rec), rs[j]? = some r → r.o.dst = some x → lst j = false) → tL.get x = t0.get x) ∧
  e ≤ rs.length ∧ (e = rs.length ∨ isEff rs e) ∧ (∀ x, isEff rs x → x < e → lst x = true) ∧ (∀ x, isEff rs x → e ≤ x → ¬ isF m x → lst x = false) ∧
  Rel (baseF w0 m) q (stAt rs sf e) w ∧ ∀ φ, m = some φ → OkF w0 B rs fl φ lst a ∧ e ≤ φ.f ∧ (strict → e ≠ φ.f)

structure Inv (w0 : Base) (ops : Array Oper) (B : List Nat) (fl n : Nat) (t0 : Trie Value) (ds : List Deferred) (rs : List Rec) (sf : St) (p q : Ren) (lst : Nat → Bool) (a : Act) (w : World) : Prop where
 le : p.le q
 closed : Closed ops lst
 body : Body w0 B fl n t0 rs sf True q lst a w
 defers : a.defers = ds

theorem set_back {a : Array Value} {d : Nat} {v : Value} (h : a[d]? = some v) (u : Value) : (a.setIfInBounds d u).setIfInBounds d v = a := by
 apply Array.ext_getElem?
 intro i
 rw [Array.getElem?_setIfInBounds]
 by_cases e : d = i
 ·subst e
  have h2 := (Array.getElem?_eq_some_iff.1 h).1
  rw [if_pos rfl, h]
  simp [h2]
 ·rw [if_neg e, Array.getElem?_setIfInBounds_ne e]

theorem body_strict {w0 : Base} {B : List Nat} {fl n : Nat} {t0 : Trie Value} {rs : List Rec} {sf : St} (hnext : ∀ (j : Nat) (r : Rec), rs[j]? = some r → stAt rs sf (j + 1) = r.s') (hpure : ∀ (j : Nat) (r : Rec), rs[j]? = some r → r.eff = false → r.s' = r.s)
  (hdd : ∀ (i j : Nat) (ri rj : Rec) (x : Tmp), rs[i]? = some ri → rs[j]? = some rj → ri.o.dst = some x → rj.o.dst = some x → i = j)
  {q : Ren} {lst : Nat → Bool} {a : Act} {w : World} (b : Body w0 B fl n t0 rs sf False q lst a w) : ∃ q', q.le q' ∧ Body w0 B fl n t0 rs sf True q' lst a w := by
 obtain ⟨m, tL, e, hT, hl1, hl2, he1, he2, he3, he4, hR, hF⟩ := b
 cases m with
 | none => exact ⟨q, Ren.le.refl q, none, tL, e, hT, hl1, hl2, he1, he2, he3, he4, hR, fun φ h => absurd h (by simp)⟩
 | some φ =>
  obtain ⟨F, hle, _⟩ := hF φ rfl
  by_cases hef : e = φ.f
  ·obtain ⟨r, ty, z, hr, heff, hd, hz, hx, hv, hs'⟩ := F.rec_
   have hst : stAt rs sf e = r.s := by rw [hef]; simp [stAt, hr]
   rw [hst] at hR
   have hlt : φ.f < rs.length := (List.getElem?_eq_some_iff.1 hr).1
   have hfr := hR.fresh _ (Nat.le_refl _)
   have hle2 : q.le (q.ext r.s.next (φ.bn, 0)) := Ren.le_ext hfr.2
   have hR2 : Rel w0 (q.ext r.s.next (φ.bn, 0)) (r.s.add (.blk (blkOf ty z.cells.toList 0 0))) w := by
    refine Rel.adopt hR F.new (own_blk (b := blkOf ty z.cells.toList 0 0) (show (0 : Nat) ≠ 2 by decide)) ?_
    rw [hx]
    refine ⟨⟨z.cells, ty, (0, 0), rfl, BRel.of_list (by simp) (fun _ => by simp) (fun h => absurd h (show ¬ (0 : Nat) = 1 by decide)) fun i v h => ?_⟩, fun h => absurd h (show ¬ (0 : Nat) = 2 by decide), fun _ => F.new⟩
    obtain ⟨v', h1, h2⟩ := (flat1_rel (q.ext r.s.next (φ.bn, 0)) hz).cells.get i v h
    exact ⟨v', by rw [← Array.getElem?_toList]; exact h1, h2⟩
   obtain ⟨e2, k1, k2, k3, k4⟩ := next_eff rs (rs.length - (e + 1)) (e + 1) (by omega)
   have hst2 : stAt rs sf e2 = r.s' := by
    have hch := chain_st hnext hpure (e2 - (e + 1)) (e + 1) (by omega) (fun x hx hix => by have := k4 x hx hix; omega)
    rw [show e + 1 + (e2 - (e + 1)) = e2 from by omega] at hch
    rw [hch, hef, hnext φ.f r hr]
   have hdn : φ.d < n := by
    have h1 := (Array.getElem?_eq_some_iff.1 F.at_).1
    have h2 := hT.size
    simp only [viewF, Array.size_setIfInBounds] at h2
    rw [← h2]; exact h1
   have hxd : ∀ (j : Nat) (rj : Rec) (x : Tmp), rs[j]? = some rj → rj.o.dst = some x → j ≠ φ.f → x ≠ φ.d := fun j rj x hj hdj hne h => hne (hdd j φ.f rj r x hj hr hdj (by rw [hd, h]))
   refine ⟨_, hle2, none, tL.put φ.d (some r.v), e2, ?_, fun j rj x hrj hdj hlj _ => ?_, fun x hno => ?_, k2, k3, fun x hx hxe => ?_, fun x hx hxe _ => ?_, ?_, fun φ h => absurd h (by simp)⟩
   ·have h3 := (hT.mono hle2).put hdn (v := r.v) (v' := .pointer (some ⟨φ.bn, 0, none⟩)) (by rw [hv]; exact .ptr _ _ _ _ (Ren.ext_same _ _ _))
    simp only [viewF] at h3 ⊢
    rw [set_back F.at_] at h3
    exact h3
   ·by_cases hjf : j = φ.f
    ·subst hjf
     rw [hr] at hrj
     injection hrj with hrj
     subst hrj
     rw [hd] at hdj
     injection hdj with hdj
     subst hdj
     exact Trie.get_put_same _ _ _
    ·rw [Trie.get_put_ne _ _ (hxd j rj x hrj hdj hjf)]
     exact hl1 j rj x hrj hdj hlj (fun ⟨ψ, h1, h2⟩ => by injection h1 with h1; subst h1; exact hjf h2)
   ·have hne : x ≠ φ.d := by
     intro h
     have := hno φ.f r hr (by rw [hd, h])
     rw [F.lst] at this
     exact absurd this (by simp)
    rw [Trie.get_put_ne _ _ hne]
    exact hl2 x hno
   ·rcases Nat.lt_trichotomy x e with h | h | h
    ·exact he3 x hx h
    ·rw [h, hef]; exact F.lst
    ·have := k4 x hx (by omega); omega
   ·exact he4 x hx (by omega) (fun ⟨ψ, h1, h2⟩ => by injection h1 with h1; subst h1; omega)
   ·rw [hst2, hs']; exact hR2
  ·exact ⟨q, Ren.le.refl q, some φ, tL, e, hT, hl1, hl2, he1, he2, he3, he4, hR, fun ψ h => by injection h with h; subst h; exact ⟨F, hle, fun _ => hef⟩⟩

theorem ERel.sub {p : Ren} {ops : Array Oper} {o : Oper} {t : Trie Value} {s : St} {r : Operand → Value} (h : ERel p (ev t s) r) : ERel p (evR ops o t s) r := by
 intro x v hx
 unfold evR at hx
 cases x with
 | tmp i =>
  simp only at hx
  cases hb : hasT i (looks ops o) with
  | false => rw [hb] at hx; exact absurd hx (by simp)
  | true => rw [hb] at hx; exact h _ _ hx
 | _ => exact h _ _ hx
theorem evR_congr {ops : Array Oper} {o : Oper} {t t' : Trie Value} {s : St} (h : ∀ x, x ∈ looks ops o → t.get x = t'.get x) : evR ops o t s = evR ops o t' s := by
 funext x
 unfold evR
 cases x with
 | tmp i =>
  simp only
  cases hb : hasT i (looks ops o) with
  | false => rfl
  | true => simp only [cond_true, ev, h i (hasT_mem.1 hb)]
 | _ => rfl
theorem wantA_congr {ops : Array Oper} {o : Oper} {t t' : Trie Value} (h : ∀ x, x ∈ looks ops o → t.get x = t'.get x) : wantA ops t o = wantA ops t' o := by
 unfold wantA
 cases hg : o.guard with
 | none => rfl
 | some g =>
  obtain ⟨j, want⟩ := g
  have : yieldA ops t j = yieldA ops t' j := by
   unfold yieldA
   cases hj : ops[j]? with
   | none => rfl
   | some o2 =>
    simp only
    cases hd : o2.dst with
    | none => rfl
    | some d =>
     simp only
     have hm : d ∈ looks ops o := by
      unfold looks
      rw [hg]
      simp only [hj, hd]
      simp
     rw [h d hm]
  simp only [this]

theorem bit_lt {ops : Array Oper} {B : List Nat} (S : StaticOk ops B) {i j : Nat} (h : (B.getD j 0).testBit i = true) (hj : j < ops.size) : i < j :=
 (bit_listed (lst := fun _ => true) S (fun _ _ _ _ _ _ _ => rfl) j i hj (fun _ _ _ _ _ => rfl) h).2

theorem viewF_getD {a : Array Value} {m : Option Flo} {i : Tmp} (h : ∀ φ, m = some φ → i ≠ φ.d) : (viewF a m)[i]? = a[i]? := by
 cases m with
 | none => rfl
 | some φ => simp only [viewF]; rw [Array.getElem?_setIfInBounds_ne (Ne.symm (h φ rfl))]
theorem ERel.view {w0 : Base} {w : World} {p : Ren} {s : St} {n : Nat} {tL : Trie Value} {a : Act} {m : Option Flo} {ops : Array Oper} {o : Oper} (hT : TRel p n tL (viewF a.tmps m)) (R : Rel w0 p s w) (h : ∀ φ, m = some φ → φ.d ∉ looks ops o) :
  ERel p (evR ops o tL s) a.eval := by
 have h1 : ERel p (ev tL s) ({ tmps := viewF a.tmps m, defers := a.defers } : Act).eval := TRel.ev (a := { tmps := viewF a.tmps m, defers := a.defers }) hT R
 have h2 := ERel.sub (ops := ops) (o := o) h1
 intro x v hx
 have h3 := h2 x v hx
 cases x with
 | tmp i =>
  have hm : i ∈ looks ops o := by
   unfold evR at hx
   simp only at hx
   cases hb : hasT i (looks ops o) with
   | false => rw [hb] at hx; exact absurd hx (by simp)
   | true => exact hasT_mem.1 hb
  have : (viewF a.tmps m)[i]? = a.tmps[i]? := viewF_getD fun φ hφ e => h φ hφ (e ▸ hm)
  simp only [Act.eval] at h3 ⊢
  rw [Array.getD_eq_getD_getElem?] at h3 ⊢
  rw [← this]
  exact h3
 | _ => exact h3
theorem wanted_view {p : Ren} {n : Nat} {tL : Trie Value} {a : Array Value} {m : Option Flo} {ops : Array Oper} {o : Oper} (hT : TRel p n tL (viewF a m)) (h : ∀ φ, m = some φ → φ.d ∉ looks ops o) :
  Region.wanted o (yielded ops a) = wantA ops tL o := by
 rw [← wantA_eq hT]
 unfold Region.wanted
 cases hg : o.guard with
 | none => rfl
 | some g =>
  obtain ⟨j, want⟩ := g
  have : yielded ops a j = yielded ops (viewF a m) j := by
   unfold yielded
   cases hj : ops[j]? with
   | none => rfl
   | some o2 =>
    simp only [Option.bind_some]
    cases hd : o2.dst with
    | none => rfl
    | some d =>
     simp only [Option.bind_some]
     have hm : d ∈ looks ops o := by
      unfold looks
      rw [hg]
      simp only [hj, hd]
      simp
     have e : (viewF a m)[d]? = a[d]? := viewF_getD fun φ hφ e => h φ hφ (e ▸ hm)
     rw [e]
  simp only [this]

theorem wpAny_draw {P : Program} {C : Cfg} (hC : CfgOk P C) {call : CallFn} (hcall : CallsOk P call) {w0 : Base} {p : Ren} {n : Nat} {ops : Array Oper} {B : List Nat} (S : StaticOk ops B) {t0 : Trie Value} {s0 : St} {ds : List Deferred} {rs : List Rec} {tf : Trie Value} {sf : St}
  (hcan : canon P C call n ops ops.toList t0 s0 = some (rs, tf, sf)) {fl : Nat} (hdyn : drawDynF P ops B rs sf fl = true) {Q : Exit → Act → World → Prop}
  (hQ : ∀ q a w, p.le q → TRel q n tf a.tmps → Rel w0 q sf w → a.defers = ds → Q .normal a w) :
  ∀ (fuel : Nat) (listed : Array Bool) (q : Ren) (a : Act) (w : World), listed.size = ops.size → listed.toList.countP (fun b => !b) = fuel →
   Inv w0 ops B fl n t0 ds rs sf p q (fun j => listed.getD j false) a w → wpAny P .any ops Q fuel listed a w := by
 obtain ⟨c1, c2, c3, c4, c5⟩ := canon_spec hcan
 have hlen : rs.length = ops.size := by rw [c1, Array.length_toList]
 have hro : ∀ (j : Nat) (r : Rec), rs[j]? = some r → ops[j]? = some r.o := fun j r hr => by rw [← Array.getElem?_toList]; exact (c3 j r hr).1
 have hpure : ∀ (j : Nat) (r : Rec), rs[j]? = some r → r.eff = false → r.s' = r.s := by
  intro j r hr he
  have := (c3 j r hr).2.1
  unfold recOne at this
  cases hw : wantA ops r.t r.o with
  | false => rw [hw] at this; simp only [cond_false, Option.some.injEq] at this; rw [← this]
  | true =>
   rw [hw] at this
   simp only [cond_true] at this
   split at this
   ·simp only [Option.some.injEq] at this; rw [← this]
   ·split at this
    ·simp only [Option.some.injEq] at this; rw [← this] at he; simp at he
    ·exact absurd this (by simp)
 have hnext : ∀ (j : Nat) (r : Rec), rs[j]? = some r → stAt rs sf (j + 1) = r.s' := fun j r hr => (c3 j r hr).2.2.2
 have hdd : ∀ (i j : Nat) (ri rj : Rec) (x : Tmp), rs[i]? = some ri → rs[j]? = some rj → ri.o.dst = some x → rj.o.dst = some x → i = j :=
  fun i j ri rj x hi hj hx hy => S.dst i j ri.o rj.o x (hro i ri hi) (hro j rj hj) hx hy
 -- all is listed: the end
 have hend : ∀ (listed : Array Bool) (q : Ren) (a : Act) (w : World), (∀ j, j < ops.size → listed.getD j false = true) → Inv w0 ops B fl n t0 ds rs sf p q (fun j => listed.getD j false) a w → Q .normal a w := by
  intro listed q a w hall I
  obtain ⟨m, tL, e, hT, hl1, hl2, he1, he2, he3, he4, hR, hFl⟩ := I.body
  have hl1 : ∀ (j : Nat) (r : Rec) (x : Tmp), rs[j]? = some r → r.o.dst = some x → listed.getD j false = true → ¬ isF m j → tL.get x = some r.v := hl1
  have hl2 : ∀ x, (∀ (j : Nat) (r : Rec), rs[j]? = some r → r.o.dst = some x → listed.getD j false = false) → tL.get x = t0.get x := hl2
  have he3 : ∀ x, isEff rs x → x < e → listed.getD x false = true := he3
  have he4 : ∀ x, isEff rs x → e ≤ x → ¬ isF m x → listed.getD x false = false := he4
  have hee : e = rs.length := by
   rcases he2 with h | h
   ·exact h
   ·have := he4 e h (Nat.le_refl _) (fun ⟨φ, g1, g2⟩ => (hFl φ g1).2.2 trivial g2)
    obtain ⟨r, hr, _⟩ := h
    have hlt : e < rs.length := (List.getElem?_eq_some_iff.1 hr).1
    rw [hall e (by omega)] at this
    exact absurd this (by simp)
  subst hee
  have hst : stAt rs sf rs.length = sf := by simp [stAt]
  rw [hst] at hR
  have hm : m = none := by
   cases m with
   | none => rfl
   | some φ =>
    obtain ⟨F, g1, g2⟩ := hFl φ rfl
    obtain ⟨r, _, _, hr, _⟩ := F.rec_
    have := (List.getElem?_eq_some_iff.1 hr).1
    omega
  subst hm
  refine hQ q a w I.le ⟨hT.size, fun i => ?_⟩ hR I.defers
  have : tf.get i = tL.get i := by
   by_cases hex : ∃ (j : Nat) (r : Rec), rs[j]? = some r ∧ r.o.dst = some i
   ·obtain ⟨j, r, hr, hd⟩ := hex
    have hj : j < rs.length := (List.getElem?_eq_some_iff.1 hr).1
    rw [hl1 j r i hr hd (hall j (by omega)) (fun ⟨φ, g1, _⟩ => absurd g1 (by simp))]
    exact (c5 i).2 j r hr hd fun i2 r2 hi2 hr2 hd2 => by have := hdd j i2 r r2 i hr hr2 hd hd2; omega
   ·rw [(c5 i).1 fun j r hr hd => hex ⟨j, r, hr, hd⟩]
    exact (hl2 i fun j r hr hd => absurd ⟨j, r, hr, hd⟩ hex).symm
  rw [this]
  exact hT.get i
 have hready : ∀ (listed : Array Bool), listed.size = ops.size → Region.ready .any ops listed = [] → ∀ j, j < ops.size → listed.getD j false = true := by
  intro listed hs hnil j
  induction j using Nat.strongRecOn with
  | _ j ih =>
   intro hj
   cases hb : listed.getD j false with
   | true => rfl
   | false =>
    have hm : j ∈ Region.ready .any ops listed := by
     rw [mem_ready]
     refine ⟨?_, ops[j], by simp [hj], fun e he hbd => ?_⟩
     ·rw [Array.getD_eq_getD_getElem?] at hb ⊢
      have : listed[j]? = some listed[j] := by simp [hs, hj]
      rw [this] at hb ⊢
      exact hb
     ·have hlt := S.lt j ops[j] (by simp [hj]) e he hbd
      exact ih e.on hlt (by omega)
    rw [hnil] at hm
    exact absurd hm (by simp)
 intro fuel
 induction fuel with
 | zero =>
  intro listed q a w hs hcount I
  have hall : ∀ j, j < ops.size → listed.getD j false = true := by
   intro j hj
   have := List.countP_eq_zero.1 hcount listed[j] (by simp)
   rw [Array.getD_eq_getD_getElem?]
   have h2 : listed[j]? = some listed[j] := by simp [hs, hj]
   rw [h2]
   simpa using this
  refine ⟨?_, hend listed q a w hall I⟩
  cases hr : Region.ready .any ops listed with
  | nil => rfl
  | cons i l =>
   have hm : i ∈ Region.ready .any ops listed := by rw [hr]; exact List.mem_cons_self
   rw [mem_ready] at hm
   obtain ⟨h1, o, ho, _⟩ := hm
   have hi : i < ops.size := (Array.getElem?_eq_some_iff.1 ho).1
   have := hall i hi
   rw [Array.getD_eq_getD_getElem?] at this h1
   have h2 : listed[i]? = some listed[i] := by simp [hs, hi]
   rw [h2] at this h1
   rw [Option.getD_some] at this h1
   rw [this] at h1
   exact absurd h1 (by simp)
 | succ fuel ih =>
  intro listed q a w hs hcount I
  refine ⟨fun hnil => hend listed q a w (hready listed hs hnil) I, fun i hi => ?_⟩
  rw [mem_ready] at hi
  obtain ⟨hunl, o, ho, hfree⟩ := hi
  have hisz : i < ops.size := (Array.getElem?_eq_some_iff.1 ho).1
  have hunl' : listed.getD i false = false := by
   rw [Array.getD_eq_getD_getElem?] at hunl ⊢
   have : listed[i]? = some listed[i] := by simp [hs, hisz]
   rw [this] at hunl ⊢
   exact hunl
  obtain ⟨r, hr⟩ : ∃ r, rs[i]? = some r := ⟨rs[i], by simp [hlen, hisz]⟩
  have hor : r.o = o := by have := hro i r hr; rw [ho] at this; injection this with this; exact this.symm
  subst hor
  have hF : Free ops (fun j => listed.getD j false) i := fun o2 ho2 e he hb => by rw [ho] at ho2; injection ho2 with ho2; subst ho2; exact hfree e he hb
  obtain ⟨m, tL, e, hT, hl1, hl2, he1, he2, he3, he4, hR, hFl⟩ := I.body
  have hl1 : ∀ (j : Nat) (r : Rec) (x : Tmp), rs[j]? = some r → r.o.dst = some x → listed.getD j false = true → ¬ isF m j → tL.get x = some r.v := hl1
  have hl2 : ∀ x, (∀ (j : Nat) (r : Rec), rs[j]? = some r → r.o.dst = some x → listed.getD j false = false) → tL.get x = t0.get x := hl2
  have he3 : ∀ x, isEff rs x → x < e → listed.getD x false = true := he3
  have he4 : ∀ x, isEff rs x → e ≤ x → ¬ isF m x → listed.getD x false = false := he4
  have hbits := fun j h => bit_listed S I.closed i j hisz hF h
  have hbits2 : ∀ j, j < ops.size → listed.getD j false = true → (B.getD j 0).testBit i = false := by
   intro j hj hl
   cases hb : (B.getD j 0).testBit i with
   | false => rfl
   | true =>
    have := (bit_listed S I.closed j i hj (fun o2 ho2 => I.closed j o2 ho2 hl) hb).1
    rw [hunl'] at this
    exact absurd this (by simp)
  have heF : ¬ isF m e := fun ⟨φ, g1, g2⟩ => (hFl φ g1).2.2 trivial g2
  have hefl : ∀ φ, m = some φ → isEff rs e ∧ e < φ.f ∧ φ.f ≠ i ∧ (B.getD i 0).testBit φ.f = false ∧ φ.d ∉ looks ops r.o ∧ r.o.dst ≠ some φ.d := by
   intro φ hφ
   obtain ⟨F, g1, g2⟩ := hFl φ hφ
   have hlt : e < φ.f := by have := g2 trivial; omega
   obtain ⟨rf, _, _, hrf, _, hdf, _⟩ := F.rec_
   have hfl := (List.getElem?_eq_some_iff.1 hrf).1
   have hie : isEff rs e := by
    rcases he2 with h | h
    ·omega
    ·exact h
   have hfi : φ.f ≠ i := fun h => by have h1 : listed.getD φ.f false = true := F.lst; rw [h, hunl'] at h1; exact absurd h1 (by simp)
   have hb0 : (B.getD i 0).testBit φ.f = false := by
    cases hb : (B.getD i 0).testBit φ.f with
    | false => rfl
    | true =>
     have h1 := (hbits e (F.loose i e hie hlt hb)).1
     rw [he4 e hie (Nat.le_refl _) heF] at h1
     exact absurd h1 (by simp)
   refine ⟨hie, hlt, hfi, hb0, fun hx => ?_, fun hd => hfi (hdd φ.f i rf r φ.d hrf hr hdf hd)⟩
   rcases S.looks i φ.f r.o rf.o φ.d ho (hro φ.f rf hrf) hdf hx with h | h | h
   ·exact hfi h.symm
   ·rw [hb0] at h; exact absurd h (by simp)
   ·have h1 := hbits2 φ.f (by omega) F.lst
    rw [h] at h1
    exact absurd h1 (by simp)
  have hnF : ∀ j, (B.getD i 0).testBit j = true → ¬ isF m j := fun j hj ⟨φ, g1, g2⟩ => by
   have := (hefl φ g1).2.2.2.1
   rw [g2, this] at hj
   exact absurd hj (by simp)
  have hiF : ¬ isF m i := fun ⟨φ, g1, g2⟩ => (hefl φ g1).2.2.1 g2.symm
  -- the temporaries that it looks at are as in the text's order
  have hagree : ∀ x, x ∈ looks ops r.o → tL.get x = r.t.get x := by
   intro x hx
   obtain ⟨g1, g2⟩ := c4 i r hr x
   by_cases hex : ∃ (j : Nat) (rj : Rec), rs[j]? = some rj ∧ rj.o.dst = some x
   ·obtain ⟨j, rj, hrj, hd⟩ := hex
    have hj : j < rs.length := (List.getElem?_eq_some_iff.1 hrj).1
    rcases S.looks i j r.o rj.o x ho (hro j rj hrj) hd hx with h | h | h
    ·subst h
     rw [hl2 x fun j2 r2 hr2 hd2 => by rw [hdd j2 i r2 rj x hr2 hrj hd2 hd]; exact hunl']
     exact (g1 fun i2 r2 hi2 hr2 hd2 => by have := hdd i2 i r2 rj x hr2 hrj hd2 hd; omega).symm
    ·obtain ⟨k1, k2⟩ := hbits j h
     rw [hl1 j rj x hrj hd k1 (hnF j h)]
     exact (g2 j rj k2 hrj hd fun i2 r2 hi2 hr2 hd2 => by have := hdd i2 j r2 rj x hr2 hrj hd2 hd; omega).symm
    ·have hjl : listed.getD j false = false := by
      cases hb : listed.getD j false with
      | false => rfl
      | true => have := hbits2 j (by omega) hb; rw [h] at this; exact absurd this (by simp)
     rw [hl2 x fun j2 r2 hr2 hd2 => by rw [hdd j2 j r2 rj x hr2 hrj hd2 hd]; exact hjl]
     refine (g1 fun i2 r2 hi2 hr2 hd2 => ?_).symm
     have e1 := hdd i2 j r2 rj x hr2 hrj hd2 hd
     subst e1
     -- j < i and i before j: not so
     have := bit_lt S h (by omega)
     omega
   ·rw [hl2 x fun j r2 hr2 hd2 => absurd ⟨j, r2, hr2, hd2⟩ hex]
    exact (g1 fun i2 r2 hi2 hr2 hd2 => hex ⟨i2, r2, hr2, hd2⟩).symm
  have hrec := (c3 i r hr).2.1
  have hset_i : (listed.setIfInBounds i true).getD i false = true := by
   rw [Array.getD_eq_getD_getElem?]
   have : (listed.setIfInBounds i true)[i]? = some true := by rw [Array.getElem?_setIfInBounds_self_of_lt (by omega)]
   rw [this]; rfl
  have hset_ne : ∀ j, j ≠ i → (listed.setIfInBounds i true).getD j false = listed.getD j false := by
   intro j hj
   rw [Array.getD_eq_getD_getElem?, Array.getD_eq_getD_getElem?, Array.getElem?_setIfInBounds_ne (Ne.symm hj)]
  -- what follows behind the operation
  have hgo0 : ∀ (q2 : Ren) (v' : Value) (w2 : World), q.le q2 → Body w0 B fl n t0 rs sf False q2 (fun j => (listed.setIfInBounds i true).getD j false) (a.put r.o.dst v') w2 →
    wpAny P .any ops Q fuel (listed.setIfInBounds i true) (a.put r.o.dst v') w2 := by
   intro q2 v' w2 hle2 hb
   obtain ⟨q3, hle3, hbs⟩ := body_strict hnext hpure hdd hb
   refine ih _ q3 _ w2 (by simp [hs]) ?_ ⟨(I.le.trans hle2).trans hle3, ?_, hbs, by rw [put_defers]; exact I.defers⟩
   ·rw [Array.toList_setIfInBounds]
    have hil : i < listed.toList.length := by rw [Array.length_toList]; omega
    rw [List.countP_set hil]
    have hli : listed.toList[i] = false := by
     have : listed.getD i false = listed.toList[i] := by
      rw [Array.getD_eq_getD_getElem?]
      have h2 : listed[i]? = some listed[i] := by simp [hs, hisz]
      rw [h2]; rfl
     rw [← this]; exact hunl'
    rw [hli, hcount]
    simp
   ·intro j o2 ho2 hl e3 he3 hb3
    show (listed.setIfInBounds i true).getD e3.on false = true
    by_cases hji : j = i
    ·subst hji
     have := hF o2 ho2 e3 he3 hb3
     have hne : e3.on ≠ j := by
      have := S.lt j o2 ho2 e3 he3 hb3
      omega
     rw [hset_ne _ hne]
     exact this
    ·have hl' : (listed.setIfInBounds i true).getD j false = true := hl
     rw [hset_ne _ hji] at hl'
     have := I.closed j o2 ho2 hl' e3 he3 hb3
     by_cases hei : e3.on = i
     ·rw [hei]; exact hset_i
     ·rw [hset_ne _ hei]; exact this
  have hl1' : ∀ (tL' : Trie Value), (∀ x, r.o.dst = some x → tL'.get x = some r.v) → (∀ x, r.o.dst ≠ some x → tL'.get x = tL.get x) →
    (∀ (j : Nat) (rj : Rec) (x : Tmp), rs[j]? = some rj → rj.o.dst = some x → (listed.setIfInBounds i true).getD j false = true → ¬ isF m j → tL'.get x = some rj.v) := by
   intro tL' g1 g2 j rj x hrj hdj hlj hnf
   by_cases hji : j = i
   ·subst hji
    rw [hr] at hrj
    injection hrj with hrj
    subst hrj
    exact g1 x hdj
   ·rw [hset_ne _ hji] at hlj
    rw [g2 x (fun q3 => hji (hdd j i rj r x hrj hr hdj q3))]
    exact hl1 j rj x hrj hdj hlj hnf
  have hl2' : ∀ (tL' : Trie Value), (∀ x, r.o.dst ≠ some x → tL'.get x = tL.get x) →
    (∀ x, (∀ (j : Nat) (rj : Rec), rs[j]? = some rj → rj.o.dst = some x → (listed.setIfInBounds i true).getD j false = false) → tL'.get x = t0.get x) := by
   intro tL' g2 x hno
   rw [g2 x (fun q3 => by have := hno i r hr q3; rw [hset_i] at this; exact absurd this (by simp))]
   refine hl2 x fun j rj hrj hdj => ?_
   have := hno j rj hrj hdj
   by_cases hji : j = i
   ·subst hji; exact hunl'
   ·rw [hset_ne _ hji] at this; exact this
  have hputs : ∃ tL' : Trie Value, (∀ x, r.o.dst = some x → tL'.get x = some r.v) ∧ (∀ x, r.o.dst ≠ some x → tL'.get x = tL.get x) ∧
    ∀ (q2 : Ren) (v' : Value), q.le q2 → VRel q2 r.v v' → TRel q2 n tL' (viewF (a.put r.o.dst v').tmps m) := by
   obtain ⟨t', ht'⟩ := (c3 i r hr).2.2.1
   cases hd : r.o.dst with
   | none => exact ⟨tL, fun x hx => absurd hx (by simp), fun x _ => rfl, fun q2 v' hle2 hv => hT.mono hle2⟩
   | some d =>
    rw [hd] at ht'
    simp only [putT] at ht'
    have hdn : Nat.blt d n = true := by
     cases hb : Nat.blt d n with
     | true => rfl
     | false => rw [hb] at ht'; exact absurd ht' (by simp)
    refine ⟨tL.put d (some r.v), fun x hx => by injection hx with hx; subst hx; exact Trie.get_put_same _ _ _, fun x hx => Trie.get_put_ne _ _ (fun q3 => hx (by rw [q3])), fun q2 v' hle2 hv => ?_⟩
    have h3 := (hT.mono hle2).put (blt_lt hdn) hv
    cases m with
    | none => exact h3
    | some φ =>
     have hne : d ≠ φ.d := fun q3 => (hefl φ rfl).2.2.2.2.2 (by rw [hd, q3])
     simp only [viewF] at h3 ⊢
     rw [Array.setIfInBounds_comm _ _ (Ne.symm hne)] at h3
     exact h3
  have hgo : ∀ (q2 : Ren) (v' : Value) (w2 : World) (e2 : Nat), q.le q2 → VRel q2 r.v v' → e2 ≤ rs.length → (e2 = rs.length ∨ isEff rs e2) →
    (∀ x, isEff rs x → x < e2 → (listed.setIfInBounds i true).getD x false = true) → (∀ x, isEff rs x → e2 ≤ x → ¬ isF m x → (listed.setIfInBounds i true).getD x false = false) → Rel (baseF w0 m) q2 (stAt rs sf e2) w2 →
    (∀ φ, m = some φ → e2 ≤ φ.f) → wpAny P .any ops Q fuel (listed.setIfInBounds i true) (a.put r.o.dst v') w2 := by
   intro q2 v' w2 e2 hle2 hv hm1 hm2 hm3 hm4 hR2 hm5
   obtain ⟨tL', g1, g2, g3⟩ := hputs
   refine hgo0 q2 v' w2 hle2 ⟨m, tL', e2, g3 q2 v' hle2 hv, hl1' tL' g1 g2, hl2' tL' g2, hm1, hm2, hm3, hm4, hR2, fun φ hφ => ⟨?_, hm5 φ hφ, fun h => h.elim⟩⟩
   obtain ⟨k1, k2, k3, k4, k5, k6⟩ := hefl φ hφ
   obtain ⟨F, _⟩ := hFl φ hφ
   refine ⟨F.fl, by show (listed.setIfInBounds i true).getD φ.f false = true; rw [hset_ne _ k3]; exact F.lst, ?_, F.new, F.rec_, F.loose⟩
   cases hd : r.o.dst with
   | none => exact F.at_
   | some d =>
    have hne : d ≠ φ.d := fun q3 => k6 (by rw [hd, q3])
    show (a.tmps.setIfInBounds d v')[φ.d]? = _
    rw [Array.getElem?_setIfInBounds_ne hne]
    exact F.at_
  have hdi := allIdx_spec hdyn i r hr
  rw [Nat.zero_add] at hdi
  unfold wpOp
  simp only [ho]
  rw [wanted_view hT (fun φ hφ => (hefl φ hφ).2.2.2.2.1), wantA_congr hagree]
  unfold recOne at hrec
  cases hw : wantA ops r.t r.o with
  | false =>
   rw [hw] at hrec
   simp only [cond_false, Option.some.injEq] at hrec
   simp only [Bool.false_eq_true, if_false]
   have hv0 : r.v = undef := by rw [← hrec]
   have heff : r.eff = false := by rw [← hrec]
   have hnote : ¬ isEff rs i := fun ⟨r2, h1, h2⟩ => by rw [hr] at h1; injection h1 with h1; subst h1; rw [heff] at h2; exact absurd h2 (by simp)
   refine hgo q undef w e (Ren.le.refl q) (by rw [hv0]; exact undef_rel q) he1 he2 (fun x hx hxe => ?_) (fun x hx hxe hnf => ?_) hR (fun φ hφ => (hFl φ hφ).2.1)
   ·have : x ≠ i := fun q3 => hnote (q3 ▸ hx)
    rw [hset_ne x this]; exact he3 x hx hxe
   ·have : x ≠ i := fun q3 => hnote (q3 ▸ hx)
    rw [hset_ne x this]; exact he4 x hx hxe hnf
  | true =>
   rw [hw] at hrec
   simp only [cond_true] at hrec
   simp only [if_true]
   refine .inl ?_
   unfold Oper.wp
   split at hrec
   ·rename_i v hpv
    simp only [Option.some.injEq] at hrec
    have hv0 : r.v = v := by rw [← hrec]
    have heff : r.eff = false := by rw [← hrec]
    have hwant : r.want = true := by rw [← hrec]
    have hnote : ¬ isEff rs i := fun ⟨r2, h1, h2⟩ => by rw [hr] at h1; injection h1 with h1; subst h1; rw [heff] at h2; exact absurd h2 (by simp)
    rw [heff, hwant] at hdi
    simp only [cond_false, Bool.not_true, Bool.false_or] at hdi
    have hcand := List.all_eq_true.1 hdi e (by
     rcases he2 with h | h
     ·rw [h]; exact List.mem_append_right _ List.mem_cons_self
     ·exact List.mem_append_left _ (effIdx0.2 h))
    have hcompat : compat B (effIdx 0 rs) i e = true := by
     unfold compat
     rw [List.all_eq_true]
     intro x hx
     have hx' := effIdx0.1 hx
     have hxl : x < rs.length := by obtain ⟨r2, h1, _⟩ := hx'; exact (List.getElem?_eq_some_iff.1 h1).1
     cases hb : Nat.blt x e with
     | true =>
      simp only [cond_true]
      rw [hbits2 x (by omega) (he3 x hx' (blt_lt hb))]
      rfl
     | false =>
      simp only [cond_false]
      have hge := blt_not hb
      cases hbt : (B.getD i 0).testBit x with
      | false => rfl
      | true =>
       have hun := he4 x hx' (by omega) (hnF x hbt)
       have := (hbits x hbt).1
       rw [hun] at this
       exact absurd this (by simp)
    have hval : pureA P (evR ops r.o r.t (stAt rs sf e)) (stAt rs sf e) r.o = some r.v := by
     rw [hcompat] at hcand
     simp only [Bool.not_true, Bool.or_false, Bool.or_eq_true] at hcand
     rcases hcand with h | h
     ·unfold isNext at h
      rw [Bool.and_eq_true] at h
      have h1 := blt_lt h.1
      have hch := chain_st hnext hpure (e - i) i (by omega) (fun x hx hix => by
       have := List.all_eq_true.1 h.2 x (effIdx0.2 hx)
       rw [Bool.or_eq_true] at this
       have hxi : x ≠ i := fun q3 => hnote (q3 ▸ hx)
       rcases this with h3 | h3
       ·have := Nat.le_of_ble_eq_true h3; omega
       ·have := Nat.le_of_ble_eq_true h3; omega)
      rw [show i + (e - i) = e from by omega] at hch
      have hsi : stAt rs sf i = r.s := by simp [stAt, hr]
      rw [hch, hsi, hpv, hv0]
     ·split at h
      ·rename_i v2 hv2
       rw [hv2, eqV_eq h]
      ·exact absurd h (by simp)
    rw [← evR_congr hagree] at hval
    obtain ⟨v', h1, h2⟩ := pureA_run (r0 := a.eval) hR (ERel.view hT hR (fun φ hφ => (hefl φ hφ).2.2.2.2.1)) hval
    rw [h1, Oper.upon_value]
    refine hgo q v' w e (Ren.le.refl q) h2 he1 he2 (fun x hx hxe => ?_) (fun x hx hxe hnf => ?_) hR (fun φ hφ => (hFl φ hφ).2.1)
    ·have : x ≠ i := fun q3 => hnote (q3 ▸ hx)
     rw [hset_ne x this]; exact he3 x hx hxe
    ·have : x ≠ i := fun q3 => hnote (q3 ▸ hx)
     rw [hset_ne x this]; exact he4 x hx hxe hnf
   ·split at hrec
    ·rename_i v s' hev
     simp only [Option.some.injEq] at hrec
     have hv0 : r.v = v := by rw [← hrec]
     have heff : r.eff = true := by rw [← hrec]
     have hs' : r.s' = s' := by rw [← hrec]
     have hie : isEff rs i := ⟨r, hr, heff⟩
     rw [heff] at hdi
     simp only [cond_true] at hdi
     have hile : e ≤ i := by
      rcases Nat.lt_or_ge i e with h | h
      ·have := he3 i hie h
       rw [hunl'] at this
       exact absurd this (by simp)
      ·exact h
     by_cases hei : e = i
     case neg =>
      -- a new variable ahead of its place
      have hlt : e < i := by omega
      have hilen : i < rs.length := (List.getElem?_eq_some_iff.1 hr).1
      have hee : isEff rs e := by
       rcases he2 with h | h
       ·omega
       ·exact h
      rw [Bool.or_eq_true] at hdi
      rcases hdi with hdi | hdi
      ·have := List.all_eq_true.1 hdi e (effIdx0.2 hee)
       rw [Bool.or_eq_true] at this
       rcases this with h3 | h3
       ·have := Nat.le_of_ble_eq_true h3; omega
       ·have h4 := (hbits e h3).1
        have h5 := he4 e hee (Nat.le_refl _) heF
        rw [h5] at h4
        exact absurd h4 (by simp)
      ·rw [Bool.and_eq_true, Bool.and_eq_true] at hdi
       obtain ⟨⟨hd1, hd2⟩, hd3⟩ := hdi
       have hfl := Nat.eq_of_beq_eq_true hd1
       have hmn : m = none := by
        cases m with
        | none => rfl
        | some φ => exact absurd ((hFl φ rfl).1.fl.trans hfl.symm) (hefl φ rfl).2.2.1
       subst hmn
       unfold isAlloc at hd2
       split at hd2
       case h_2 => exact absurd hd2 (by simp)
       rename_i ty hty
       split at hd2
       case h_2 => exact absurd hd2 (by simp)
       rename_i d hd
       have hal : allocA P r.s ty = some (r.v, r.s') := by
        unfold evalE at hev
        have he : effA P C (evR ops r.o r.t r.s) r.s r.o = vals? (allocA P r.s ty) := by
         unfold effA
         rw [hty]
        rw [he] at hev
        cases hal : allocA P r.s ty with
        | none => rw [hal] at hev; exact absurd hev (by simp [vals?])
        | some u =>
         rw [hal] at hev
         simp only [vals?, Option.some.injEq, Prod.mk.injEq] at hev
         rw [hv0, hs', ← hev.1, ← hev.2]
       unfold allocA at hal
       split at hal
       case h_2 => exact absurd hal (by simp)
       rename_i ti hti
       split at hal
       case h_2 => exact absurd hal (by simp)
       rename_i z hz
       cases hfz : flat1 z with
       | false => rw [hfz] at hal; exact absurd hal (by simp)
       | true =>
        rw [hfz] at hal
        simp only [cond_true, Option.some.injEq, Prod.mk.injEq] at hal
        obtain ⟨g1, g2⟩ := hal
        have hrun : (execOp a.eval r.o).run P w = .ok (.value (.pointer (some ⟨w.heap.size, 0, none⟩))) (w.alloc (.cells z.cells ty)) := by
         have h1 := (Rel.newVar hR (P := P) ty (flat1_rel q hfz)).1
         simp only [execOp, hty, Sem.run_bind, Instr.alloc, run_zeroValue hti hz, h1, Result.andThen, Sem.run_pure]
        rw [hrun, Oper.upon_value]
        have hdn : d < n := by
         obtain ⟨t', ht'⟩ := (c3 i r hr).2.2.1
         rw [hd] at ht'
         simp only [putT] at ht'
         cases hb : Nat.blt d n with
         | true => exact blt_lt hb
         | false => rw [hb] at ht'; exact absurd ht' (by simp)
        have hasz : a.tmps.size = n := hT.size
        refine hgo0 q _ _ (Ren.le.refl q) ⟨some ⟨i, d, w.heap.size, .cells z.cells ty⟩, tL.put d (some undef), e, ?_, fun j rj x hrj hdj hlj hnf => ?_, fun x hno => ?_, he1, he2, fun x hx hxe => ?_, fun x hx hxe hnf => ?_, hR.frame _, fun φ hφ => ⟨?_, ?_, fun h => h.elim⟩⟩
        ·have h3 := hT.put hdn (undef_rel q)
         have h4 : viewF (a.put r.o.dst (.pointer (some ⟨w.heap.size, 0, none⟩))).tmps (some ⟨i, d, w.heap.size, .cells z.cells ty⟩) = a.tmps.setIfInBounds d undef := by
          rw [hd]
          show (a.tmps.setIfInBounds d _).setIfInBounds d undef = _
          rw [Array.setIfInBounds_setIfInBounds]
         rw [h4]
         exact h3
        ·have hji : j ≠ i := fun h => hnf ⟨_, rfl, h⟩
         have hlj : (listed.setIfInBounds i true).getD j false = true := hlj
         rw [hset_ne _ hji] at hlj
         rw [Trie.get_put_ne _ _ (fun q3 => hji (hdd j i rj r x hrj hr hdj (by rw [hd, q3])))]
         exact hl1 j rj x hrj hdj hlj (fun ⟨φ, k1, _⟩ => absurd k1 (by simp))
        ·have hne : x ≠ d := fun q3 => by have : (listed.setIfInBounds i true).getD i false = false := hno i r hr (by rw [hd, q3]); rw [hset_i] at this; exact absurd this (by simp)
         rw [Trie.get_put_ne _ _ hne]
         refine hl2 x fun j rj hrj hdj => ?_
         have : (listed.setIfInBounds i true).getD j false = false := hno j rj hrj hdj
         by_cases hji : j = i
         ·subst hji; exact hunl'
         ·rw [hset_ne _ hji] at this; exact this
        ·have hxi : x ≠ i := by omega
         show (listed.setIfInBounds i true).getD x false = true
         rw [hset_ne x hxi]
         exact he3 x hx hxe
        ·have hxi : x ≠ i := fun h => hnf ⟨_, rfl, h⟩
         show (listed.setIfInBounds i true).getD x false = false
         rw [hset_ne x hxi]
         exact he4 x hx hxe (fun ⟨φ, k1, _⟩ => absurd k1 (by simp))
        ·injection hφ with hφ
         subst hφ
         refine ⟨hfl, hset_i, ?_, hR.newAt, ⟨r, ty, z, hr, heff, hd, hfz, rfl, g1.symm, g2.symm⟩, fun j x hx hxi hb => ?_⟩
         ·rw [hd]
          show (a.tmps.setIfInBounds d _)[d]? = _
          rw [Array.getElem?_setIfInBounds_self_of_lt (by rw [hasz]; exact hdn)]
         ·unfold looseAt at hd3
          have hjB : (B.getD j 0) ∈ B := by
           by_cases hj : j < B.length
           ·rw [List.getD_eq_getElem?_getD, List.getElem?_eq_getElem hj]; exact List.getElem_mem hj
           ·rw [List.getD_eq_getElem?_getD, List.getElem?_eq_none (by omega)] at hb
            simp at hb
          have h3 := List.all_eq_true.1 hd3 _ hjB
          have hb' : (B.getD j 0).testBit i = true := hb
          rw [hb'] at h3
          simp only [Bool.not_true, Bool.false_or] at h3
          have h4 := List.all_eq_true.1 h3 x (effIdx0.2 hx)
          rw [Bool.or_eq_true] at h4
          rcases h4 with h4 | h4
          ·have := Nat.le_of_ble_eq_true h4
           have hxi : x < i := hxi
           omega
          ·exact h4
        ·injection hφ with hφ
         subst hφ
         exact Nat.le_of_lt hlt
     case pos =>
      subst hei
      have hsi : stAt rs sf e = r.s := by simp [stAt, hr]
      rw [hsi] at hR
      rw [← evR_congr hagree] at hev
      obtain ⟨e2, k1, k2, k3, k4⟩ := next_eff rs (rs.length - (e + 1)) (e + 1) (by omega)
      have hst2 : stAt rs sf e2 = s' := by
       have hch := chain_st hnext hpure (e2 - (e + 1)) (e + 1) (by omega) (fun x hx hix => by have := k4 x hx hix; omega)
       rw [show e + 1 + (e2 - (e + 1)) = e2 from by omega] at hch
       rw [hch, hnext e r hr, hs']
      have fin : ∀ (q2 : Ren) (v' : Value) (w2 : World), q.le q2 → VRel q2 v v' → Rel (baseF w0 m) q2 s' w2 → wpAny P .any ops Q fuel (listed.setIfInBounds e true) (a.put r.o.dst v') w2 := by
       intro q2 v' w2 hle2 hv hR2
       refine hgo q2 v' w2 e2 hle2 (by rw [hv0]; exact hv) k2 k3 (fun x hx hxe => ?_) (fun x hx hxe hnf => ?_) (by rw [hst2]; exact hR2) (fun φ hφ => ?_)
       ·by_cases hxi : x = e
        ·rw [hxi]; exact hset_i
        ·rw [hset_ne x hxi]
         refine he3 x hx ?_
         rcases Nat.lt_or_ge x (e + 1) with h | h
         ·omega
         ·have := k4 x hx h; omega
       ·rw [hset_ne x (by omega)]
        exact he4 x hx (by omega) hnf
       ·obtain ⟨j1, j2, _⟩ := hefl φ hφ
        obtain ⟨rf, _, _, hrf, hef, _⟩ := (hFl φ hφ).1.rec_
        exact k4 φ.f ⟨rf, hrf, hef⟩ (by omega)
      unfold evalE at hev
      split at hev
      ·rename_i v2 s2 hop
       simp only [Option.some.injEq, Prod.mk.injEq] at hev
       obtain ⟨rfl, rfl⟩ := hev
       obtain ⟨q2, w2, hle2, hR2, har⟩ := effA_run (r0 := a.eval) hC hR (ERel.view hT hR (fun φ hφ => (hefl φ hφ).2.2.2.2.1)) hop
       rcases har with ⟨v', h1, h2⟩ | ⟨rfl, h1⟩
       ·rw [h1, Oper.upon_value]; exact fin q2 v' w2 hle2 h2 hR2
       ·rw [h1, Oper.upon_skip]; exact fin q2 undef w2 hle2 (undef_rel q2) hR2
      ·rename_i f args s1 hop
       obtain ⟨q2, w2, hle2, hR2, args', h1, h2⟩ := effA_run (r0 := a.eval) hC hR (ERel.view hT hR (fun φ hφ => (hefl φ hφ).2.2.2.2.1)) hop
       rw [h1, Oper.upon_enter]
       split at hev
       ·rename_i v2 s2 hcl
        simp only [Option.some.injEq, Prod.mk.injEq] at hev
        obtain ⟨rfl, rfl⟩ := hev
        refine (hcall f args s1 _ s2 hcl (baseF w0 m) w2 q2 args' hR2 h2).mono ?_
        rintro en w3 ⟨q3, hle3, hR3, hcr⟩
        cases hcr with
        | ret _ v' hv => exact fin q3 v' w3 (hle2.trans hle3) hv hR3
       ·exact absurd hev (by simp)
      ·exact absurd hev (by simp)
    ·exact absurd hrec (by simp)

end Go.Den
end
section
/- A verified abstract interpreter, part H: code, calls. -/
set_option linter.unusedVariables false
set_option linter.unusedSimpArgs false
namespace Go.Den
open Go.RowKit

theorem draw_run {P : Program} (hm : P.follows .mixedOrders = true) {C : Cfg} (hC : CfgOk P C) {call : CallFn} (hcall : CallsOk P call) {w0 : Base} {w : World} {n : Nat} {ops : Array Oper} {Q : Exit → Act → World → Prop} {p : Ren} {c c' : Cfr} {a : Act} {out : Out} {id : Nat}
  (F : FRel w0 p n c a w) (h : runDraw P C call n ops c = some (out, c')) (hQ : Holds w0 p n out c' Q) : (Code.region id ops true).wp P Q a w := by
 unfold runDraw at h
 cases hs : drawStatic ops (befs ops.toList []) with
 | false => rw [hs] at h; exact absurd h (by simp)
 | true =>
  rw [hs] at h
  simp only [cond_true] at h
  split at h
  ·rename_i rs t s hcan
   cases hd : drawDyn P ops (befs ops.toList []) rs s with
   | false => rw [hd] at h; exact absurd h (by simp)
   | true =>
    rw [hd] at h
    simp only [cond_true, Option.some.injEq, Prod.mk.injEq] at h
    obtain ⟨rfl, rfl⟩ := h
    apply wp_region_any hm
    have S := drawStatic_ok hs
    obtain ⟨c1, c2, c3, c4, c5⟩ := canon_spec hcan
    refine wpAny_draw hC hcall S hcan hd (p := p) (w0 := w0) (ds := a.defers) ?_ ops.size _ p a _ (by simp) ?_ ?_
    ·intro q a' w' hle hT hR hds
     exact hQ q .normal a' w' hle ⟨hR, hT, by rw [hds]; exact F.defers.mono hle⟩ .normal
    ·rw [Array.toList_replicate, List.countP_replicate]
     simp
    ·have hlst : ∀ j, (Array.replicate ops.size false).getD j false = false := by
      intro j
      rw [Array.getD_eq_getD_getElem?, Array.getElem?_replicate]
      split <;> rfl
     refine ⟨Ren.le.refl p, fun i o ho hl => ?_, ?_, rfl⟩
     ·simp only [hlst] at hl; exact absurd hl (by simp)
     ·obtain ⟨e, k1, k2, k3, k4⟩ := next_eff rs rs.length 0 (by omega)
      refine ⟨none, c.t, e, F.tmps, fun j r x _ _ hl => ?_, fun x _ => rfl, k2, k3, fun x hx hxe => ?_, fun x hx hxe _ => hlst x, ?_, fun φ h => absurd h (by simp)⟩
      ·have hl : (Array.replicate ops.size false).getD j false = true := hl
       rw [hlst] at hl; exact absurd hl (by simp)
      ·have := k4 x hx (by omega); omega
      ·have hnext : ∀ (j : Nat) (r : Rec), rs[j]? = some r → stAt rs s (j + 1) = r.s' := fun j r hr => (c3 j r hr).2.2.2
       have hpure : ∀ (j : Nat) (r : Rec), rs[j]? = some r → r.eff = false → r.s' = r.s := by
        intro j r hr he
        have := (c3 j r hr).2.1
        unfold recOne at this
        cases hw : wantA ops r.t r.o with
        | false => rw [hw] at this; simp only [cond_false, Option.some.injEq] at this; rw [← this]
        | true =>
         rw [hw] at this
         simp only [cond_true] at this
         split at this
         ·simp only [Option.some.injEq] at this; rw [← this]
         ·split at this
          ·simp only [Option.some.injEq] at this; rw [← this] at he; simp at he
          ·exact absurd this (by simp)
       have hch := chain_st hnext hpure e 0 (by omega) (fun x hx _ => by have := k4 x hx (by omega); omega)
       rw [Nat.zero_add] at hch
       rw [hch, c2]
       exact F.rel.drew
  ·exact absurd h (by simp)

/-! ### code -/
def runCode (P : Program) (C : Cfg) (call : CallFn) (n : Nat) : Nat → Code → Cfr → Option (Out × Cfr)
 | 0, _, _ => none
 | f + 1, code, c => match code with
  | .skip => some (.normal, c)
  | .label _ => some (.normal, c)
  | .region _ ops draw => bif draw then runDraw P C call n ops c else runOps P C call n ops ops.toList c
  | .seq x y => match runCode P C call n f x c with
   | some (.normal, c') => runCode P C call n f y c'
   | r => r
  | .cond x y z => match ev c.t c.s x with
   | some (.bool b) => bif b then runCode P C call n f y c else runCode P C call n f z c
   | _ => none
  | .block id x => match runCode P C call n f x c with
   | some (.exit i, c') => bif Nat.beq i id then some (.normal, c') else some (.exit i, c')
   | r => r
  | .loop x => match runCode P C call n f x c with
   | some (.normal, c') => runCode P C call n f (.loop x) c'
   | r => r
  | .exit id => some (.exit id, c)
  | .ret => some (.ret, c)
  | _ => none

def LoopWp (P : Program) (c : Code) (Q : Exit → Act → World → Prop) (a : Act) (w : World) : Prop :=
 ∀ (b : Frame) (k : List Item) (cs : List Frame), ∃ e a' w', Q e a' w' ∧ Arrives P (lone (b.at a (.code c :: .inLoop c :: k)) cs w) b k cs e a' w'
theorem loop_of {P : Program} {c : Code} {Q : Exit → Act → World → Prop} {a : Act} {w : World} (h : LoopWp P c Q a w) : (Code.loop c).wp P Q a w :=
 fun b k cs => let ⟨e, a', w', q, r⟩ := h b k cs; ⟨e, a', w', q, .of_steps (.one step_loop) r⟩
theorem loop_unroll {P : Program} {c : Code} {Q : Exit → Act → World → Prop} {a : Act} {w : World} (h : c.wp P (Exit.then (LoopWp P c Q) Q) a w) : LoopWp P c Q a w := by
 intro b k cs
 obtain ⟨e, a₁, w₁, hq, harr⟩ := h b (.inLoop c :: k) cs
 cases e with
 | normal =>
  obtain ⟨e₂, a₂, w₂, hq₂, harr₂⟩ := hq b k cs
  exact ⟨e₂, a₂, w₂, hq₂, .of_steps (Steps.trans harr (.one step_inLoop)) harr₂⟩
 | exit id => exact ⟨_, a₁, w₁, hq, .pass (x := .inLoop c) rfl (fun _ _ => .inl (by simp)) harr⟩
 | goto l => exact ⟨_, a₁, w₁, hq, .pass (x := .inLoop c) rfl (fun _ _ => .inl (by simp)) harr⟩
 | ret => exact ⟨_, a₁, w₁, hq, .pass (x := .inLoop c) rfl (fun _ _ => .inl (by simp)) harr⟩
 | panic ch => exact ⟨_, a₁, w₁, hq, .pass (x := .inLoop c) rfl (fun _ _ => .inl (by simp)) harr⟩
 | outgrown => exact ⟨_, a₁, w₁, hq, .pass (x := .inLoop c) rfl (fun _ _ => .inl (by simp)) harr⟩

/-- A continuation in two arms: behind a normal end, and else. -/
theorem Holds.then {w0 : Base} {p : Ren} {n : Nat} {o : Out} {c : Cfr} {K : Act → World → Prop} {Q : Exit → Act → World → Prop}
  (h1 : o = .normal → ∀ q a w, p.le q → FRel w0 q n c a w → K a w) (h2 : o ≠ .normal → Holds w0 p n o c Q) : Holds w0 p n o c (Exit.then K Q) := by
 intro q e a w hle hF hx
 cases hx with
 | normal => exact h1 rfl q a w hle hF
 | exit id => exact h2 (by simp) q _ a w hle hF (.exit id)
 | ret => exact h2 (by simp) q _ a w hle hF .ret
 | panic v v' hv => exact h2 (by simp) q _ a w hle hF (.panic v v' hv)

theorem runCode_run {P : Program} (hm : P.follows .mixedOrders = true) {C : Cfg} (hC : CfgOk P C) {call : CallFn} (hcall : CallsOk P call) {w0 : Base} {n : Nat} :
  ∀ (f : Nat) (code : Code) (Q : Exit → Act → World → Prop) (p : Ren) (c c' : Cfr) (a : Act) (w : World) (out : Out), FRel w0 p n c a w → runCode P C call n f code c = some (out, c') → Holds w0 p n out c' Q →
   code.wp P Q a w ∧ ∀ b, code = .loop b → LoopWp P b Q a w := by
 intro f
 induction f with
 | zero => intro code Q p c c' a w out F h; simp [runCode] at h
 | succ f ih =>
  intro code Q p c c' a w out F h hQ
  unfold runCode at h
  split at h
  ·simp only [Option.some.injEq, Prod.mk.injEq] at h
   obtain ⟨rfl, rfl⟩ := h
   exact ⟨wp_skip (hQ p .normal a w (Ren.le.refl p) F .normal), fun b hb => absurd hb (by simp)⟩
  ·simp only [Option.some.injEq, Prod.mk.injEq] at h
   obtain ⟨rfl, rfl⟩ := h
   exact ⟨wp_label (hQ p .normal a w (Ren.le.refl p) F .normal), fun b hb => absurd hb (by simp)⟩
  ·rename_i id ops draw
   refine ⟨?_, fun b hb => absurd hb (by simp)⟩
   cases draw with
   | true => exact draw_run hm hC hcall F h hQ
   | false => exact region_run hC hcall F h hQ
  ·rename_i x y
   refine ⟨?_, fun b hb => absurd hb (by simp)⟩
   apply wp_seq
   cases hx : runCode P C call n f x c with
   | none => rw [hx] at h; exact absurd h (by simp)
   | some r =>
    obtain ⟨o1, c1⟩ := r
    rw [hx] at h
    refine (ih x _ p c c1 a w o1 F hx ?_).1
    cases o1 with
    | normal =>
     refine Holds.then (fun _ q a1 w1 hle F1 => (ih y Q q c1 c' a1 w1 out F1 h (hQ.mono hle)).1) (fun e => absurd rfl e)
    | exit id =>
     simp only [Option.some.injEq, Prod.mk.injEq] at h
     obtain ⟨rfl, rfl⟩ := h
     exact Holds.then (fun e => absurd e (by simp)) (fun _ => hQ)
    | ret =>
     simp only [Option.some.injEq, Prod.mk.injEq] at h
     obtain ⟨rfl, rfl⟩ := h
     exact Holds.then (fun e => absurd e (by simp)) (fun _ => hQ)
    | panic v =>
     simp only [Option.some.injEq, Prod.mk.injEq] at h
     obtain ⟨rfl, rfl⟩ := h
     exact Holds.then (fun e => absurd e (by simp)) (fun _ => hQ)
  ·rename_i x y z
   refine ⟨?_, fun b hb => absurd hb (by simp)⟩
   split at h
   ·rename_i b hb
    have h1 := ev_rel F.rel F.tmps hb
    cases hv : a.eval x with
    | bool b2 =>
     rw [hv] at h1
     cases h1
     refine wp_cond hv ?_
     cases b with
     | true => exact (ih y Q p c c' a w out F h hQ).1
     | false => exact (ih z Q p c c' a w out F h hQ).1
    | _ => rw [hv] at h1; cases h1
   ·exact absurd h (by simp)
  ·rename_i id x
   refine ⟨?_, fun b hb => absurd hb (by simp)⟩
   apply wp_block
   cases hx : runCode P C call n f x c with
   | none => rw [hx] at h; exact absurd h (by simp)
   | some r =>
    obtain ⟨o1, c1⟩ := r
    rw [hx] at h
    refine (ih x _ p c c1 a w o1 F hx ?_).1
    intro q e a1 w1 hle F1 hxr
    cases hxr with
    | normal =>
     simp only [Option.some.injEq, Prod.mk.injEq] at h
     obtain ⟨rfl, rfl⟩ := h
     exact hQ q .normal a1 w1 hle F1 .normal
    | exit i =>
     simp only at h
     cases hb : Nat.beq i id with
     | true =>
      rw [hb] at h
      simp only [cond_true, Option.some.injEq, Prod.mk.injEq] at h
      obtain ⟨rfl, rfl⟩ := h
      simp only [Exit.inBlock]
      rw [if_pos (Nat.eq_of_beq_eq_true hb)]
      exact hQ q .normal a1 w1 hle F1 .normal
     | false =>
      rw [hb] at h
      simp only [cond_false, Option.some.injEq, Prod.mk.injEq] at h
      obtain ⟨rfl, rfl⟩ := h
      simp only [Exit.inBlock]
      rw [if_neg (Nat.ne_of_beq_eq_false hb)]
      exact hQ q (.exit i) a1 w1 hle F1 (.exit i)
    | ret =>
     simp only [Option.some.injEq, Prod.mk.injEq] at h
     obtain ⟨rfl, rfl⟩ := h
     exact hQ q .ret a1 w1 hle F1 .ret
    | panic v v' hv =>
     simp only [Option.some.injEq, Prod.mk.injEq] at h
     obtain ⟨rfl, rfl⟩ := h
     exact hQ q _ a1 w1 hle F1 (.panic v v' hv)
  ·rename_i x
   have hl : LoopWp P x Q a w := by
    apply loop_unroll
    cases hx : runCode P C call n f x c with
    | none => rw [hx] at h; exact absurd h (by simp)
    | some r =>
     obtain ⟨o1, c1⟩ := r
     rw [hx] at h
     refine (ih x _ p c c1 a w o1 F hx ?_).1
     cases o1 with
     | normal =>
      refine Holds.then (fun _ q a1 w1 hle F1 => (ih (.loop x) Q q c1 c' a1 w1 out F1 h (hQ.mono hle)).2 x rfl) (fun e => absurd rfl e)
     | exit id =>
      simp only [Option.some.injEq, Prod.mk.injEq] at h
      obtain ⟨rfl, rfl⟩ := h
      exact Holds.then (fun e => absurd e (by simp)) (fun _ => hQ)
     | ret =>
      simp only [Option.some.injEq, Prod.mk.injEq] at h
      obtain ⟨rfl, rfl⟩ := h
      exact Holds.then (fun e => absurd e (by simp)) (fun _ => hQ)
     | panic v =>
      simp only [Option.some.injEq, Prod.mk.injEq] at h
      obtain ⟨rfl, rfl⟩ := h
      exact Holds.then (fun e => absurd e (by simp)) (fun _ => hQ)
   exact ⟨loop_of hl, fun b hb => by injection hb with hb; subst hb; exact hl⟩
  ·simp only [Option.some.injEq, Prod.mk.injEq] at h
   obtain ⟨rfl, rfl⟩ := h
   exact ⟨wp_exit (hQ p _ a w (Ren.le.refl p) F (.exit _)), fun b hb => absurd hb (by simp)⟩
  ·simp only [Option.some.injEq, Prod.mk.injEq] at h
   obtain ⟨rfl, rfl⟩ := h
   exact ⟨wp_ret (hQ p _ a w (Ren.le.refl p) F .ret), fun b hb => absurd hb (by simp)⟩
  ·exact absurd h (by simp)

/-! ### a function's results -/
def resL (P : Program) (t : Trie Value) (s : St) : List ResultVar → Option (List Value)
 | [] => some []
 | .tmp i :: l => match resL P t s l with
  | some r => some ((match t.get i with | some v => v | none => undef) :: r)
  | none => none
 | .cell i ty :: l => match loadA P s ty (match t.get i with | some v => v | none => undef) with
  | some v => match resL P t s l with
   | some r => some (v :: r)
   | none => none
  | none => none
def resA (P : Program) (fn : Func) (t : Trie Value) (s : St) : Option Value :=
 match resL P t s fn.results.toList with
 | some [v] => some v
 | some vs => some (.tuple vs.toArray)
 | none => none

def resOne (a : Array Value) : ResultVar → Sem Value
 | .tmp t => pure (a.getD t undef)
 | .cell b ty => do loadVar ty (← asAddr (a.getD b undef))
theorem results_eq (fn : Func) (a : Array Value) : results fn a = (do let vs ← fn.results.mapM (resOne a); pure (if h : vs.size = 1 then vs[0] else .tuple vs)) := rfl

theorem mapM_run {P : Program} {w : World} {f : ResultVar → Sem Value} : ∀ {l : List ResultVar} {vs : List Value}, vs.length = l.length → (∀ (i : Nat) x v, l[i]? = some x → vs[i]? = some v → (f x).run P w = .ok v w) → (l.mapM f).run P w = .ok vs w
 | [], [], _, _ => rfl
 | [], _ :: _, h, _ => by simp at h
 | _ :: _, [], h, _ => by simp at h
 | x :: l, v :: vs, h, hh => by
  rw [List.mapM_cons]
  have h1 := hh 0 x v rfl rfl
  have h2 := mapM_run (l := l) (vs := vs) (by simpa using h) (fun i x v hx hv => hh (i + 1) x v (by rw [List.getElem?_cons_succ]; exact hx) (by rw [List.getElem?_cons_succ]; exact hv))
  simp only [Sem.run_bind, h1, h2, Result.andThen, Sem.run_pure]

theorem resL_run {P : Program} {w0 : Base} {w : World} {p : Ren} {s : St} (R : Rel w0 p s w) {n : Nat} {t : Trie Value} {a : Array Value} (T : TRel p n t a) : ∀ {l : List ResultVar} {vs : List Value}, resL P t s l = some vs →
  ∃ vs', LRel p vs vs' ∧ vs'.length = l.length ∧ ∀ (i : Nat) (x : ResultVar) (v : Value), l[i]? = some x → vs'[i]? = some v →
   (resOne a x).run P w = .ok v w
 | [], vs, h => by
  simp only [resL, Option.some.injEq] at h
  subst h
  exact ⟨[], .nil, rfl, fun i x v hx => by simp at hx⟩
 | .tmp i :: l, vs, h => by
  unfold resL at h
  split at h
  ·rename_i r hr
   injection h with h
   subst h
   obtain ⟨vs', h1, h2, h3⟩ := resL_run R T hr
   have := T.get i
   refine ⟨a.getD i undef :: vs', .cons _ _ _ _ ?_ h1, by simp [h2], fun j x v hx hv => ?_⟩
   ·cases hi : t.get i with
    | none => rw [hi] at this; exact this
    | some v => rw [hi] at this; exact this
   ·cases j with
    | zero =>
     simp only [List.getElem?_cons_zero, Option.some.injEq] at hx hv
     subst hx
     subst hv
     rfl
    | succ j =>
     rw [List.getElem?_cons_succ] at hx hv
     exact h3 j x v hx hv
  ·exact absurd h (by simp)
 | .cell i ty :: l, vs, h => by
  unfold resL at h
  split at h
  ·rename_i u hu
   split at h
   ·rename_i r hr
    injection h with h
    subst h
    obtain ⟨vs', h1, h2, h3⟩ := resL_run R T hr
    have hti : VRel p (match t.get i with | some v => v | none => undef) (a.getD i undef) := by
     have := T.get i
     cases hi : t.get i with
     | none => rw [hi] at this; exact this
     | some v => rw [hi] at this; exact this
    obtain ⟨u', g1, g2⟩ := loadA_run R hti hu
    refine ⟨u' :: vs', .cons _ _ _ _ g2 h1, by simp [h2], fun j x v hx hv => ?_⟩
    cases j with
    | zero =>
     simp only [List.getElem?_cons_zero, Option.some.injEq] at hx hv
     subst hx
     subst hv
     unfold resOne
     cases hp : a.getD i undef with
     | pointer ad =>
      rw [hp] at g1
      cases ad with
      | none =>
       rw [hp] at hti
       exfalso
       unfold loadA at hu
       split at hu
       ·rename_i b o heq
        rw [heq] at hti
        cases hti
       ·exact absurd hu (by simp)
      | some ad =>
       simp only [Instr.loadAt, Instr.sureAddr, Sem.run_bind, Sem.run_pure, Result.andThen] at g1
       simp only [asAddr, Sem.run_bind, Sem.run_pure, Result.andThen, hp]
       exact g1
     | _ =>
      rw [hp] at hti
      exfalso
      unfold loadA at hu
      split at hu
      ·rename_i b o heq
       rw [heq] at hti
       cases hti
      ·exact absurd hu (by simp)
    | succ j =>
     rw [List.getElem?_cons_succ] at hx hv
     exact h3 j x v hx hv
   ·exact absurd h (by simp)
  ·exact absurd h (by simp)

theorem resA_run {P : Program} {w0 : Base} {w : World} {p : Ren} {s : St} (R : Rel w0 p s w) {n : Nat} {t : Trie Value} {a : Array Value} (T : TRel p n t a) {fn : Func} {v : Value} (h : resA P fn t s = some v) :
  ∃ v', (results fn a).run P w = .ok v' w ∧ VRel p v v' := by
 have key : ∀ vs, resL P t s fn.results.toList = some vs → ∃ vs' : List Value, LRel p vs vs' ∧ (results fn a).run P w = .ok (if h : vs'.toArray.size = 1 then vs'.toArray[0] else .tuple vs'.toArray) w := by
  intro vs hvs
  obtain ⟨vs', h1, h2, h3⟩ := resL_run R T hvs
  refine ⟨vs', h1, ?_⟩
  have hmm := mapM_run (P := P) (w := w) (l := fn.results.toList) (vs := vs') h2 h3
  rw [results_eq, Array.mapM_eq_mapM_toList]
  simp only [Sem.run_bind, Result.andThen, map_eq_pure_bind, Sem.run_pure, hmm]
 unfold resA at h
 split at h
 ·rename_i u hu
  injection h with h
  subst h
  obtain ⟨vs', h1, h2⟩ := key _ hu
  cases h1 with
  | cons _ v' _ l' hv hl =>
   cases hl
   exact ⟨v', by simpa using h2, hv⟩
 ·rename_i vs hne hvs
  injection h with h
  subst h
  obtain ⟨vs', h1, h2⟩ := key _ hvs
  have hlen := h1.length
  have hn1 : vs'.length ≠ 1 := by
   intro e1
   rw [e1] at hlen
   cases vs with
   | nil => simp at hlen
   | cons x xs => cases xs with
    | nil => exact hne x rfl
    | cons y ys => simp at hlen
  refine ⟨.tuple vs'.toArray, ?_, .tuple _ _ (by simpa using h1)⟩
  rw [h2, dif_neg (by simpa using hn1)]
 ·exact absurd h (by simp)

end Go.Den
end
section
/- A verified abstract interpreter, part I: deferred calls, recover, functions; the theorem. -/
set_option linter.unusedVariables false
set_option linter.unusedSimpArgs false
namespace Go.Den
open Go.RowKit

inductive DMode where
 | ret
 | pan (v : Value) (recd : Bool)
inductive MRel (q : Ren) : DMode → FrameMode → Prop where
 | ret : MRel q .ret .returning
 | pan (v v' : Value) (b : Bool) : VRel q v v' → MRel q (.pan v b) (.panicking [{ v := v', recovered := b }])
theorem MRel.mono {p q : Ren} (h : p.le q) {m : DMode} {u : FrameMode} (r : MRel p m u) : MRel q m u := by
 cases r with
 | ret => exact .ret
 | pan v v' b hv => exact .pan v v' b (hv.mono h)

def isRec (o : Op) : Bool := match o with | .call c => (match c.callee with | .builtin .recover => true | _ => false) | _ => false
def recV (m : DMode) : Value := match m with | .pan v false => v | _ => .nilIface
def recM (m : DMode) : DMode := match m with | .pan v false => .pan v true | m => m

theorem isRec_run {P : Program} {o : Oper} (h : isRec o.op = true) (r : Operand → Value) (w : World) : (execOp r o).run P w = .ok .recover w := by
 unfold isRec at h
 split at h
 ·rename_i c ho
  split at h
  ·rename_i hc
   simp only [execOp, ho, resolve, hc, Sem.run_bind, Sem.run_pure, Result.andThen, invoke, builtin]
  ·exact absurd h (by simp)
 ·exact absurd h (by simp)

theorem recoverD_rel {q : Ren} {m : DMode} {u : FrameMode} (h : MRel q m u) (c₀ : Frame) (cs : List Frame) :
  ∃ u', MRel q (recM m) u' ∧ ((recoverD ({ c₀ with mode := u } :: cs) = none ∧ u' = u ∧ recV m = .nilIface) ∨ ∃ v', recoverD ({ c₀ with mode := u } :: cs) = some (v', { c₀ with mode := u' } :: cs) ∧ VRel q (recV m) v') := by
 cases h with
 | ret => exact ⟨.returning, .ret, .inl ⟨rfl, rfl, rfl⟩⟩
 | pan v v' b hv =>
  cases b with
  | false => exact ⟨_, .pan v v' true hv, .inr ⟨v', rfl, hv⟩⟩
  | true => exact ⟨_, .pan v v' true hv, .inl ⟨rfl, rfl, rfl⟩⟩

def runOpsS (P : Program) (C : Cfg) (call : CallFn) (n : Nat) (ops : Array Oper) : List Oper → Cfr → DMode → Option (Out × Cfr × DMode)
 | [], c, m => some (.normal, c, m)
 | o :: l, c, m => bif isRec o.op && wantA ops c.t o then
   match putT n c.t o.dst (recV m) with
   | some t => runOpsS P C call n ops l { t, s := c.s, ds := c.ds } (recM m)
   | none => none
  else match stepA P C call n ops o c with
   | some (.normal, c) => runOpsS P C call n ops l c m
   | some (out, c) => some (out, c, m)
   | none => none

abbrev QS := Exit → Act → List Frame → World → Prop
def HoldsS (w0 : Base) (p : Ren) (n : Nat) (c₀ : Frame) (cs : List Frame) (o : Out) (c : Cfr) (m : DMode) (Q : QS) : Prop :=
 ∀ q e a w u, p.le q → FRel w0 q n c a w → XRel q o e → MRel q m u → Q e a ({ c₀ with mode := u } :: cs) w
theorem HoldsS.mono {w0 : Base} {p q : Ren} (h : p.le q) {n : Nat} {c₀ : Frame} {cs : List Frame} {o : Out} {c : Cfr} {m : DMode} {Q : QS} (k : HoldsS w0 p n c₀ cs o c m Q) : HoldsS w0 q n c₀ cs o c m Q :=
 fun r e a w u hr => k r e a w u (h.trans hr)

theorem runOpsS_run {P : Program} {C : Cfg} (hC : CfgOk P C) {call : CallFn} (hcall : CallsOk P call) {w0 : Base} {n : Nat} {c₀ : Frame} {cs : List Frame} {ops : Array Oper} {Q : QS} :
  ∀ (l : List Oper) (k : Nat), (∀ j, l[j]? = ops[k + j]?) → ∀ (p : Ren) (c c' : Cfr) (m m' : DMode) (a : Act) (w : World) (u : FrameMode) (out : Out), FRel w0 p n c a w → MRel p m u → runOpsS P C call n ops l c m = some (out, c', m') → HoldsS w0 p n c₀ cs out c' m' Q →
   wpOpsS P ops Q (List.range' k l.length) a ({ c₀ with mode := u } :: cs) w := by
 intro l
 induction l with
 | nil =>
  intro k _ p c c' m m' a w u out F M h hQ
  simp only [runOpsS, Option.some.injEq, Prod.mk.injEq] at h
  obtain ⟨rfl, rfl, rfl⟩ := h
  exact hQ p .normal a w u (Ren.le.refl p) F .normal M
 | cons o l ih =>
  intro k hk p c c' m m' a w u out F M h hQ
  have hi : ops[k]? = some o := by have := hk 0; simpa using this.symm
  have hk' : ∀ j, l[j]? = ops[k + 1 + j]? := fun j => by have := hk (j + 1); rw [List.getElem?_cons_succ] at this; rw [this]; congr 1; omega
  rw [List.length_cons, List.range'_succ]
  simp only [wpOpsS, hi]
  unfold runOpsS at h
  cases hrw : (isRec o.op && wantA ops c.t o) with
  | true =>
   rw [hrw] at h
   simp only [cond_true] at h
   rw [Bool.and_eq_true] at hrw
   rw [wantA_eq F.tmps, hrw.2]
   simp only [if_true, isRec_run hrw.1]
   split at h
   ·rename_i t ht
    obtain ⟨u', hM', hcase⟩ := recoverD_rel M c₀ cs
    rcases hcase with ⟨hn, rfl, hv⟩ | ⟨v', hs, hv⟩
    ·rw [hn]
     simp only
     exact ih (k + 1) hk' p { t := t, s := c.s, ds := c.ds } c' (recM m) m' _ w _ out ⟨F.rel, putT_rel F.tmps (v := recV m) (by rw [hv]; exact .nilIface) ht, by rw [put_defers]; exact F.defers⟩ hM' h hQ
    ·rw [hs]
     simp only
     exact ih (k + 1) hk' p { t := t, s := c.s, ds := c.ds } c' (recM m) m' _ w _ out ⟨F.rel, putT_rel F.tmps hv ht, by rw [put_defers]; exact F.defers⟩ hM' h hQ
   ·exact absurd h (by simp)
  | false =>
   rw [hrw] at h
   simp only [cond_false] at h
   have conv : ∀ {K : Act → World → Prop} {Q2 : Exit → Act → World → Prop}, (if Region.wanted o (yielded ops a.tmps) then o.wp P a w K Q2 else K (a.put o.dst undef) w) →
     (∀ a' w', K a' w' → wpOpsS P ops Q (List.range' (k + 1) l.length) a' ({ c₀ with mode := u } :: cs) w') → (∀ e a' w', Q2 e a' w' → Q e a' ({ c₀ with mode := u } :: cs) w') →
     (if Region.wanted o (yielded ops a.tmps) then
      match (execOp a.eval o).run P w with
      | .ok .recover w' =>
       match recoverD ({ c₀ with mode := u } :: cs) with
       | some (v, cs') => wpOpsS P ops Q (List.range' (k + 1) l.length) (a.put o.dst v) cs' w'
       | none => wpOpsS P ops Q (List.range' (k + 1) l.length) (a.put o.dst .nilIface) ({ c₀ with mode := u } :: cs) w'
      | r => o.upon P a (fun a' w' => wpOpsS P ops Q (List.range' (k + 1) l.length) a' ({ c₀ with mode := u } :: cs) w') (fun e a' w' => Q e a' ({ c₀ with mode := u } :: cs) w') r
     else wpOpsS P ops Q (List.range' (k + 1) l.length) (a.put o.dst undef) ({ c₀ with mode := u } :: cs) w) := by
    intro K Q2 h1 hK hQ2
    by_cases hw : Region.wanted o (yielded ops a.tmps) = true
    ·rw [if_pos hw] at h1 ⊢
     unfold Oper.wp at h1
     have mono : ∀ r, o.upon P a K Q2 r → o.upon P a (fun a' w' => wpOpsS P ops Q (List.range' (k + 1) l.length) a' ({ c₀ with mode := u } :: cs) w') (fun e a' w' => Q e a' ({ c₀ with mode := u } :: cs) w') r := by
      intro r hr
      cases r with
      | ok nx w' =>
       cases nx <;> simp only [Oper.upon] at hr ⊢ <;>
        first
         | exact hK _ _ hr
         | exact Calls.mono hr (fun e w'' he => by
           cases e with
           | returned v => exact hK _ _ he
           | panicked ch => exact hQ2 _ _ _ he
           | outgrown => obtain ⟨a0, w0, hq⟩ := he; exact ⟨a0, w0, hQ2 _ _ _ hq⟩)
         | exact Rows.mono hr (fun _ _ he => hK _ _ he)
      | halt x w' => cases x <;> simp only [Oper.upon] at hr ⊢ <;> exact hQ2 _ _ _ hr
     generalize hrun : (execOp a.eval o).run P w = r at h1 ⊢
     split
     ·simp only [Oper.upon] at h1
     ·exact mono _ h1
    ·rw [if_neg hw] at h1 ⊢
     exact hK _ _ h1
   cases hst : stepA P C call n ops o c with
   | none => rw [hst] at h; exact absurd h (by simp)
   | some r =>
    obtain ⟨o1, c1⟩ := r
    rw [hst] at h
    cases o1 with
    | normal =>
     simp only at h
     refine conv (K := fun a' w' => ∃ q, p.le q ∧ FRel w0 q n c1 a' w') (Q2 := fun _ _ _ => False) (stepA_run2 hC hcall F hst (fun _ q a' w' hle F' => ⟨q, hle, F'⟩) (fun e => absurd rfl e)) ?_ (fun _ _ _ hf => hf.elim)
     rintro a' w' ⟨q, hle, F'⟩
     exact ih (k + 1) hk' q c1 c' m m' a' w' u out F' (M.mono hle) h (hQ.mono hle)
    | exit id =>
     simp only [Option.some.injEq, Prod.mk.injEq] at h
     obtain ⟨rfl, rfl, rfl⟩ := h
     exact conv (K := fun _ _ => False) (Q2 := fun e a' w' => Q e a' ({ c₀ with mode := u } :: cs) w') (stepA_run2 hC hcall F hst (fun e => absurd e (by simp)) (fun _ q e a' w' hle F' hx => hQ q e a' w' u hle F' hx (M.mono hle))) (fun _ _ hf => hf.elim) (fun _ _ _ hq => hq)
    | ret =>
     simp only [Option.some.injEq, Prod.mk.injEq] at h
     obtain ⟨rfl, rfl, rfl⟩ := h
     exact conv (K := fun _ _ => False) (Q2 := fun e a' w' => Q e a' ({ c₀ with mode := u } :: cs) w') (stepA_run2 hC hcall F hst (fun e => absurd e (by simp)) (fun _ q e a' w' hle F' hx => hQ q e a' w' u hle F' hx (M.mono hle))) (fun _ _ hf => hf.elim) (fun _ _ _ hq => hq)
    | panic v =>
     simp only [Option.some.injEq, Prod.mk.injEq] at h
     obtain ⟨rfl, rfl, rfl⟩ := h
     exact conv (K := fun _ _ => False) (Q2 := fun e a' w' => Q e a' ({ c₀ with mode := u } :: cs) w') (stepA_run2 hC hcall F hst (fun e => absurd e (by simp)) (fun _ q e a' w' hle F' hx => hQ q e a' w' u hle F' hx (M.mono hle))) (fun _ _ hf => hf.elim) (fun _ _ _ hq => hq)

def runS (P : Program) (C : Cfg) (call : CallFn) (n : Nat) : Nat → Code → Cfr → DMode → Option (Out × Cfr × DMode)
 | 0, _, _, _ => none
 | f + 1, code, c, m => match code with
  | .region _ ops false => runOpsS P C call n ops ops.toList c m
  | .seq x y => match runS P C call n f x c m with
   | some (.normal, c', m') => runS P C call n f y c' m'
   | r => r
  | .cond x y z => match ev c.t c.s x with
   | some (.bool b) => bif b then runS P C call n f y c m else runS P C call n f z c m
   | _ => none
  | code => match runCode P C call n f code c with
   | some (o, c') => some (o, c', m)
   | none => none

theorem runS_run {P : Program} (hm : P.follows .mixedOrders = true) {C : Cfg} (hC : CfgOk P C) {call : CallFn} (hcall : CallsOk P call) {w0 : Base} {n : Nat} {c₀ : Frame} {cs : List Frame} :
  ∀ (f : Nat) (code : Code) (Q : QS) (p : Ren) (c c' : Cfr) (m m' : DMode) (a : Act) (w : World) (u : FrameMode) (out : Out), FRel w0 p n c a w → MRel p m u → runS P C call n f code c m = some (out, c', m') → HoldsS w0 p n c₀ cs out c' m' Q →
   code.wpS P Q a ({ c₀ with mode := u } :: cs) w := by
 intro f
 induction f with
 | zero => intro code Q p c c' m m' a w u out F M h; simp [runS] at h
 | succ f ih =>
  intro code Q p c c' m m' a w u out F M h hQ
  unfold runS at h
  split at h
  ·rename_i id ops
   apply wpS_region
   have := runOpsS_run hC hcall (c₀ := c₀) (cs := cs) ops.toList 0 (fun j => by simp) p c c' m m' a w u out F M h hQ
   rw [Array.length_toList] at this
   rw [List.range_eq_range']
   exact this
  ·rename_i x y
   apply wpS_seq
   cases hx : runS P C call n f x c m with
   | none => rw [hx] at h; exact absurd h (by simp)
   | some r =>
    obtain ⟨o1, c1, m1⟩ := r
    rw [hx] at h
    refine ih x _ p c c1 m m1 a w u o1 F M hx ?_
    cases o1 with
    | normal =>
     intro q e a1 w1 u1 hle F1 hxr M1
     cases hxr
     exact ih y Q q c1 c' m1 m' a1 w1 u1 out F1 M1 h (hQ.mono hle)
    | exit id =>
     simp only [Option.some.injEq, Prod.mk.injEq] at h
     obtain ⟨rfl, rfl, rfl⟩ := h
     intro q e a1 w1 u1 hle F1 hxr M1
     have := hQ q e a1 w1 u1 hle F1 hxr M1
     cases hxr
     exact this
    | ret =>
     simp only [Option.some.injEq, Prod.mk.injEq] at h
     obtain ⟨rfl, rfl, rfl⟩ := h
     intro q e a1 w1 u1 hle F1 hxr M1
     have := hQ q e a1 w1 u1 hle F1 hxr M1
     cases hxr
     exact this
    | panic v =>
     simp only [Option.some.injEq, Prod.mk.injEq] at h
     obtain ⟨rfl, rfl, rfl⟩ := h
     intro q e a1 w1 u1 hle F1 hxr M1
     have := hQ q e a1 w1 u1 hle F1 hxr M1
     cases hxr
     exact this
  ·rename_i x y z
   split at h
   ·rename_i b hb
    have h1 := ev_rel F.rel F.tmps hb
    cases hv : a.eval x with
    | bool b2 =>
     rw [hv] at h1
     cases h1
     refine wpS_cond hv ?_
     cases b with
     | true => exact ih y Q p c c' m m' a w u out F M h hQ
     | false => exact ih z Q p c c' m m' a w u out F M h hQ
    | _ => rw [hv] at h1; cases h1
   ·exact absurd h (by simp)
  ·split at h
   ·rename_i o1 c1 hc
    simp only [Option.some.injEq, Prod.mk.injEq] at h
    obtain ⟨rfl, rfl, rfl⟩ := h
    apply wpS_of_wp
    exact (runCode_run hm hC hcall f _ _ p c c1 a w o1 F hc (fun q e a1 w1 hle F1 hxr => hQ q e a1 w1 u hle F1 hxr (M.mono hle))).1
   ·exact absurd h (by simp)

/-! ### functions -/
def initT (args : Array Value) : Trie Value := Trie.nil.putL 0 args.toList
theorem initT_rel {p : Ren} {args args' : Array Value} (h : LRel p args.toList args'.toList) (k : Nat) :
  TRel p (args.size + (k - args.size)) (initT args) (args' ++ Array.replicate (k - args'.size) undef) := by
 have hlen : args.size = args'.size := by have := h.length; simpa using this
 refine ⟨by simp [hlen], fun i => ?_⟩
 unfold initT
 rw [Trie.get_putL, Trie.get_nil, Array.getD_eq_getD_getElem?]
 by_cases hi : i < args.size
 ·rw [if_pos (by simp; exact hi)]
  have hv : args.toList[i - 0]? = some args[i] := by simp [hi]
  rw [hv]
  obtain ⟨v', h1, h2⟩ := h.get i args[i] (by simp [hi])
  rw [Array.getElem?_append_left (by omega), ← Array.getElem?_toList, h1]
  exact h2
 ·rw [if_neg (by simp; omega)]
  rw [Array.getElem?_append_right (by omega), Array.getElem?_replicate]
  split <;> exact undef_rel p

def settleA (m : DMode) : DMode := match m with | .pan _ true => .ret | m => m
theorem settle_rel {q : Ren} {m : DMode} {u : FrameMode} (h : MRel q m u) : MRel q (settleA m) (settle u) := by
 cases h with
 | ret => exact .ret
 | pan v v' b hv =>
  cases b with
  | true => exact .ret
  | false => exact .pan v v' false hv

/-- A deferred call: its world, and the mode of the frame below. -/
def runDef (P : Program) (C : Cfg) (call : CallFn) (fuel : Nat) (f : FuncId) (args : Array Value) (s : St) (m : DMode) : Option (St × DMode) :=
 match P.funcs[f]? with
 | some fn => match fn.body with
  | some code => match runS P C call (args.size + (fn.ntmps - args.size)) fuel code { t := initT args, s, ds := [] } m with
   | some (.normal, c, m') => (match c.ds with | [] => (match resA P fn c.t c.s with | some _ => some (c.s, m') | none => none) | _ => none)
   | some (.ret, c, m') => (match c.ds with | [] => (match resA P fn c.t c.s with | some _ => some (c.s, m') | none => none) | _ => none)
   | _ => none
  | none => none
 | none => none

theorem runDef_run {P : Program} (hm : P.follows .mixedOrders = true) {C : Cfg} (hC : CfgOk P C) {call : CallFn} (hcall : CallsOk P call) {fuel : Nat} {f : FuncId} {args args' : Array Value} {s s' : St} {m m' : DMode} (h : runDef P C call fuel f args s m = some (s', m'))
  {w0 : Base} {w : World} {p : Ren} (R : Rel w0 p s w) (ha : LRel p args.toList args'.toList) {u : FrameMode} (M : MRel p m u) :
  CallsD P f args' u w fun e u' w' => ∃ q v, p.le q ∧ Rel w0 q s' w' ∧ MRel q m' u' ∧ e = .returned v := by
 unfold runDef at h
 split at h
 ·rename_i fn hf
  split at h
  ·rename_i code hb
   have hlen : args.size = args'.size := by have := ha.length; simpa using this
   have fin : ∀ (out : Out) (c : Cfr) (m1 : DMode), (out = .normal ∨ out = .ret) → runS P C call (args.size + (fn.ntmps - args.size)) fuel code { t := initT args, s, ds := [] } m = some (out, c, m1) →
     (match c.ds with | [] => (match resA P fn c.t c.s with | some _ => some (c.s, m1) | none => none) | _ => none) = some (s', m') →
     CallsD P f args' u w fun e u' w' => ∃ q v, p.le q ∧ Rel w0 q s' w' ∧ MRel q m' u' ∧ e = .returned v := by
    intro out c m1 hout hrun hend
    refine callsD_of_wpS hf hb fun c₀ cs hu => ?_
    have hc : ({ c₀ with mode := u } : Frame) = c₀ := by subst hu; rfl
    have hF : FRel w0 p (args.size + (fn.ntmps - args.size)) { t := initT args, s, ds := [] } { tmps := args' ++ Array.replicate (fn.ntmps - args'.size) undef, defers := [] } w := ⟨R, initT_rel ha fn.ntmps, .nil⟩
    have := runS_run hm hC hcall (c₀ := c₀) (cs := cs) fuel code (bodyPostS P fn c₀ cs fun e u' w' => ∃ q v, p.le q ∧ Rel w0 q s' w' ∧ MRel q m' u' ∧ e = .returned v) p _ c m m1 _ w u out hF M hrun ?_
    ·rw [hc] at this; exact this
    ·intro q e a1 w1 u1 hle F1 hxr M1
     split at hend
     ·rename_i hds
      split at hend
      ·rename_i v hv
       simp only [Option.some.injEq, Prod.mk.injEq] at hend
       obtain ⟨rfl, rfl⟩ := hend
       obtain ⟨v', g1, g2⟩ := resA_run F1.rel F1.tmps hv
       have hd : a1.defers = [] := by
        have := F1.defers
        rw [hds] at this
        cases hh : a1.defers with
        | nil => rfl
        | cons d l => rw [hh] at this; cases this
       rcases hout with rfl | rfl
       ·cases hxr
        exact ⟨hd, u1, rfl, v', g1, q, v', hle, F1.rel, M1, rfl⟩
       ·cases hxr
        exact ⟨hd, u1, rfl, v', g1, q, v', hle, F1.rel, M1, rfl⟩
      ·exact absurd hend (by simp)
     ·exact absurd hend (by simp)
   split at h
   ·rename_i c m1 hrun
    exact fin .normal c m1 (.inl rfl) hrun h
   ·rename_i c m1 hrun
    exact fin .ret c m1 (.inr rfl) hrun h
   ·exact absurd h (by simp)
  ·exact absurd h (by simp)
 ·exact absurd h (by simp)

def runDs (P : Program) (C : Cfg) (call : CallFn) (fuel : Nat) : List ADef → DMode → St → Option (DMode × St)
 | [], m, s => some (m, s)
 | d :: l, m, s => match runDef P C call fuel d.f (d.args ++ d.cap) s m with
  | some (s', m') => runDs P C call fuel l (settleA m') s'
  | none => none

theorem runDs_run {P : Program} (hm : P.follows .mixedOrders = true) {C : Cfg} (hC : CfgOk P C) {call : CallFn} (hcall : CallsOk P call) {fuel : Nat} {fn : Func} {tmps : Array Value} {Rr : Ending → World → Prop} {w0 : Base} :
  ∀ (l : List ADef) (m m' : DMode) (s s' : St), runDs P C call fuel l m s = some (m', s') → ∀ (p : Ren) (l' : List Deferred) (u : FrameMode) (w : World), Rel w0 p s w → DRel p l l' → MRel p m u →
   (∀ q u' w', p.le q → Rel w0 q s' w' → MRel q m' u' → Leaves P fn tmps Rr [] u' w') → Leaves P fn tmps Rr l' u w := by
 intro l
 induction l with
 | nil =>
  intro m m' s s' h p l' u w R D M hend
  simp only [runDs, Option.some.injEq, Prod.mk.injEq] at h
  obtain ⟨rfl, rfl⟩ := h
  cases D
  exact hend p u w (Ren.le.refl p) R M
 | cons d l ih =>
  intro m m' s s' h p l' u w R D M hend
  unfold runDs at h
  split at h
  ·rename_i s1 m1 hd
   cases D with
   | cons _ args cap _ l2 h1 h2 h3 =>
    unfold Leaves
    have hfn : ∃ fn2 code, P.funcs[d.f]? = some fn2 ∧ fn2.body = some code := by
     unfold runDef at hd
     split at hd
     ·rename_i fn2 hf
      split at hd
      ·rename_i code hb; exact ⟨fn2, code, hf, hb⟩
      ·exact absurd hd (by simp)
     ·exact absurd hd (by simp)
    obtain ⟨fn2, code, hf, hb⟩ := hfn
    refine ⟨by cases M <;> simp, .func d.f, cap, d.f, args ++ cap, rfl, ?_, ?_⟩
    ·simp only [invoke]
     exact callFunc_enter hf (hC.noGo d.f fn2 hf) hb _ w
    ·have hl : LRel p (d.args ++ d.cap).toList (args ++ cap).toList := by simpa using h1.append h2
     refine (runDef_run hm hC hcall hd R hl M).mono ?_
     rintro e u' w' ⟨q, v, hle, R', M', rfl⟩
     exact ih _ m' s1 s' h q l2 (settle u') w' R' (h3.mono hle) (settle_rel M') (fun r u2 w2 hr => hend r u2 w2 (hle.trans hr))
  ·exact absurd h (by simp)

def endFn (P : Program) (C : Cfg) (call : CallFn) (fuel : Nat) (fn : Func) (c : Cfr) (m : DMode) : Option (CRes × St) :=
 match runDs P C call fuel c.ds m c.s with
 | some (.ret, s) => (match resA P fn c.t s with | some v => some (.ret v, s) | none => none)
 | some (.pan v false, s) => some (.panic v, s)
 | _ => none

def runFn (P : Program) (C : Cfg) : Nat → CallFn
 | 0 => fun _ _ _ => none
 | fuel + 1 => fun f args s =>
  match P.funcs[f]? with
  | some fn => match fn.body with
   | some code => match runCode P C (runFn P C fuel) (args.size + (fn.ntmps - args.size)) fuel code { t := initT args, s, ds := [] } with
    | some (.normal, c) => endFn P C (runFn P C fuel) fuel fn c .ret
    | some (.ret, c) => endFn P C (runFn P C fuel) fuel fn c .ret
    | some (.panic v, c) => endFn P C (runFn P C fuel) fuel fn c (.pan v false)
    | _ => none
   | none => none
  | none => none

theorem endFn_run {P : Program} (hm : P.follows .mixedOrders = true) {C : Cfg} (hC : CfgOk P C) {call : CallFn} (hcall : CallsOk P call) {fuel n : Nat} {fn : Func} {c : Cfr} {m : DMode} {r : CRes} {s' : St} (h : endFn P C call fuel fn c m = some (r, s'))
  {w0 : Base} {w : World} {p0 p : Ren} (hp : p0.le p) {a : Act} (F : FRel w0 p n c a w) {u : FrameMode} (M : MRel p m u) :
  Leaves P fn a.tmps (fun e w' => ∃ q, p0.le q ∧ Rel w0 q s' w' ∧ CRel q r e) a.defers u w := by
 unfold endFn at h
 split at h
 ·rename_i s hd
  split at h
  ·rename_i v hv
   simp only [Option.some.injEq, Prod.mk.injEq] at h
   obtain ⟨rfl, rfl⟩ := h
   refine runDs_run hm hC hcall c.ds m .ret c.s s hd p a.defers u w F.rel F.defers M ?_
   intro q u' w' hle R' M'
   cases M'
   obtain ⟨v', g1, g2⟩ := resA_run R' (F.tmps.mono hle) hv
   exact ⟨v', g1, q, hp.trans hle, R', .ret v v' g2⟩
  ·exact absurd h (by simp)
 ·rename_i v s hd
  simp only [Option.some.injEq, Prod.mk.injEq] at h
  obtain ⟨rfl, rfl⟩ := h
  refine runDs_run hm hC hcall c.ds m (.pan v false) c.s s hd p a.defers u w F.rel F.defers M ?_
  intro q u' w' hle R' M'
  cases M' with
  | pan _ v' _ hv => exact ⟨q, hp.trans hle, R', .panic v v' hv⟩
 ·exact absurd h (by simp)

theorem runFn_ok {P : Program} (hm : P.follows .mixedOrders = true) {C : Cfg} (hC : CfgOk P C) : ∀ fuel, CallsOk P (runFn P C fuel) := by
 intro fuel
 induction fuel with
 | zero => intro f args s r s' h; simp [runFn] at h
 | succ fuel ih =>
  intro f args s r s' h w0 w p args' R ha
  unfold runFn at h
  split at h
  ·rename_i fn hf
   split at h
   ·rename_i code hb
    have hF : FRel w0 p (args.size + (fn.ntmps - args.size)) { t := initT args, s, ds := [] } { tmps := args' ++ Array.replicate (fn.ntmps - args'.size) undef, defers := [] } w := ⟨R, initT_rel ha fn.ntmps, .nil⟩
    refine calls_of_wp_defers hf hb ?_
    split at h
    ·rename_i c hrun
     refine (runCode_run hm hC ih fuel code _ p _ c _ w .normal hF hrun ?_).1
     intro q e a1 w1 hle F1 hxr
     cases hxr
     exact endFn_run hm hC ih h hle F1 .ret
    ·rename_i c hrun
     refine (runCode_run hm hC ih fuel code _ p _ c _ w .ret hF hrun ?_).1
     intro q e a1 w1 hle F1 hxr
     cases hxr
     exact endFn_run hm hC ih h hle F1 .ret
    ·rename_i v c hrun
     refine (runCode_run hm hC ih fuel code _ p _ c _ w (.panic v) hF hrun ?_).1
     intro q e a1 w1 hle F1 hxr
     cases hxr with
     | panic _ v' hv => exact endFn_run hm hC ih h hle F1 (.pan v v' false hv)
    ·exact absurd h (by simp)
   ·exact absurd h (by simp)
  ·exact absurd h (by simp)

end Go.Den
end
section
/- The abstract interpreter set up for the program's text part: the calls that it knows, each held by a law. -/
set_option linter.unusedVariables false
set_option linter.unusedSimpArgs false
namespace Go.Proofs.YtogidacejbjljaaGreatDoor
open Go Go.Den

noncomputable def denC : Cfg := ⟨[128], [207, 209], [(176, .u32)], [196], [(205, .i32)], [(210, .i32)],
 [(228, "Replace", 238), (230, "Replace", 244), (234, "Replace", 248), (238, "Replace", 250)]⟩

theorem all_names : Tryz.prog.funcs.toList.all (fun fn => !(fn.name == "runtime.NumGoroutine")) = true := by kernel_rfl

theorem denC_ok : CfgOk Tryz.prog denC where
 noGo f fn h := by
  have h1 := List.all_eq_true.1 all_names fn (Array.mem_toList_iff.2 (Array.mem_of_getElem? h))
  simpa using h1
 same f hf x w := by
  simp only [denC, List.mem_cons, List.mem_nil_iff, or_false] at hf
  subst hf
  rw [run_callFunc_extern (e := Extern.AbiNoEscape.same) Tryz.func128 (by kernel_rfl) (by kernel_rfl) (by kernel_rfl) (by kernel_rfl)]
  rfl
 nop f hf a w := by
  simp only [denC, List.mem_cons, List.mem_nil_iff, or_false] at hf
  rcases hf with rfl | rfl
  ·exact run_call_marked Tryz.func207 (by kernel_rfl) (by kernel_rfl) (by kernel_rfl) .acquire (by kernel_rfl) a w
  ·exact run_call_marked Tryz.func209 (by kernel_rfl) (by kernel_rfl) (by kernel_rfl) .releaseMerge (by kernel_rfl) a w
 ld f k hf a x w hc := by
  simp only [denC, List.mem_cons, List.mem_nil_iff, or_false, Prod.mk.injEq] at hf
  obtain ⟨rfl, rfl⟩ := hf
  exact run_call_load Tryz.func176 (by kernel_rfl) (by kernel_rfl) (by kernel_rfl) .u32 (by kernel_rfl) hc
 st f hf a k y u w hc hz := by
  simp only [denC, List.mem_cons, List.mem_nil_iff, or_false] at hf
  subst hf
  exact run_call_store Tryz.func196 (by kernel_rfl) (by kernel_rfl) (by kernel_rfl) (by kernel_rfl) hc hz
 casHit f k hf a x y w hc hz := by
  simp only [denC, List.mem_cons, List.mem_nil_iff, or_false, Prod.mk.injEq] at hf
  obtain ⟨rfl, rfl⟩ := hf
  exact run_call_cas_hit Tryz.func205 (by kernel_rfl) (by kernel_rfl) (by kernel_rfl) .i32 (by kernel_rfl) hc hz
 casMiss f k hf a x o y w hc hz hne := by
  simp only [denC, List.mem_cons, List.mem_nil_iff, or_false, Prod.mk.injEq] at hf
  obtain ⟨rfl, rfl⟩ := hf
  exact run_call_cas_miss Tryz.func205 (by kernel_rfl) (by kernel_rfl) (by kernel_rfl) .i32 (by kernel_rfl) hc hz hne
 add f k hf a x y s w hc hz hs := by
  simp only [denC, List.mem_cons, List.mem_nil_iff, or_false, Prod.mk.injEq] at hf
  obtain ⟨rfl, rfl⟩ := hf
  exact run_call_add Tryz.func210 (by kernel_rfl) (by kernel_rfl) (by kernel_rfl) .i32 (by kernel_rfl) hc hz hs
 meths t n f hf a w := by
  simp only [denC, List.mem_cons, List.mem_nil_iff, or_false, Prod.mk.injEq] at hf
  rcases hf with ⟨rfl, rfl, rfl⟩ | ⟨rfl, rfl, rfl⟩ | ⟨rfl, rfl, rfl⟩ | ⟨rfl, rfl, rfl⟩
  ·kernel_rfl
  ·kernel_rfl
  ·kernel_rfl
  ·kernel_rfl

end Go.Proofs.YtogidacejbjljaaGreatDoor
end
