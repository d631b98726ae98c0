/- A verified abstract interpreter, part B: the abstract memory against a world; reading, writing, new blocks. -/
import Derived.Test.YtogidacejbjljaaGreatDoorDenA
set_option linter.unusedVariables false
set_option linter.unusedSimpArgs false
namespace Go.Den
open Go.RowKit

structure Blk where
  cells : Trie Value
  n : Nat
  elem : TypeId
  esz : Nat
  hi : Nat
  mode : Nat
  mark : Bool

inductive AObj where
  | blk (b : Blk)
  | iter (s : ByteArray) (pos : Nat)

structure St where
  heap : Trie AObj
  next : Nat

def AObj.own : AObj → Bool
  | .blk b => !(Nat.beq b.mode 2)
  | .iter .. => true

def BRel (p : Ren) (cn : Nat) (b : Blk) (c : Array Value) (e : TypeId) (fr : Nat × Nat) : Prop :=
  e = b.elem ∧ ((∀ j, fr.1 ≤ j → j < fr.2 → j < c.size → j < b.hi) ∧ (b.mark = false → fr.2 ≤ b.hi)) ∧ b.n ≤ c.size ∧ (b.mode = 0 → c.size = b.n) ∧ (b.mode = 1 → c.size = cn * b.esz) ∧
    ∀ i v, b.cells.get i = some v → i < b.n → ∃ v', c[i]? = some v' ∧ VRel p v v'

/-- What stays: the world that a run began with, and blocks that the run leaves alone. -/
structure Base where
  w : World
  g : Nat → Option Obj
def Base.new (w0 : Base) (bn : Nat) : Prop := w0.w.heap.size ≤ bn ∧ w0.g bn = none
def Base.ext (w0 : Base) (bn : Nat) (x : Obj) : Base := { w := w0.w, g := fun k => if k = bn then some x else w0.g k }

def ORel (w0 : Base) (p : Ren) (id bn cn : Nat) (o : AObj) (x : Option Obj) : Prop :=
  match o with
  | .blk b => (∃ c e fr, x = some (.cells c e fr) ∧ BRel p cn b c e fr) ∧ (b.mode = 2 → bn = id ∧ id < w0.w.heap.size) ∧ (b.mode ≠ 2 → w0.new bn)
  | .iter s pos => x = some (.stringIter s pos) ∧ w0.new bn

theorem BRel.mono {p q : Ren} (h : p.le q) {cn : Nat} {b : Blk} {c : Array Value} {e : TypeId} {fr : Nat × Nat} (r : BRel p cn b c e fr) : BRel q cn b c e fr :=
  ⟨r.1, r.2.1, r.2.2.1, r.2.2.2.1, r.2.2.2.2.1, fun i v hv hi => let ⟨v', h1, h2⟩ := r.2.2.2.2.2 i v hv hi; ⟨v', h1, h2.mono h⟩⟩
theorem ORel.mono {w0 : Base} {p q : Ren} (h : p.le q) {id bn cn : Nat} {o : AObj} {x : Option Obj} (r : ORel w0 p id bn cn o x) : ORel w0 q id bn cn o x := by
  cases o with
  | blk b => obtain ⟨⟨c, e, fr, hx, hb⟩, r2⟩ := r; exact ⟨⟨c, e, fr, hx, hb.mono h⟩, r2⟩
  | iter s pos => exact r

theorem ORel.ge {w0 : Base} {p : Ren} {id bn cn : Nat} {o : AObj} {x : Option Obj} (r : ORel w0 p id bn cn o x) (ho : o.own = true) : w0.new bn := by
  cases o with
  | blk b => exact r.2.2 (by intro e; simp [AObj.own, e] at ho)
  | iter s pos => exact r.2
theorem ORel.lt {w0 : Base} {p : Ren} {id bn cn : Nat} {o : AObj} {x : Option Obj} (r : ORel w0 p id bn cn o x) (ho : o.own = false) : bn = id ∧ id < w0.w.heap.size := by
  cases o with
  | blk b => exact r.2.1 (by simpa [AObj.own] using ho)
  | iter s pos => simp [AObj.own] at ho

structure Rel (w0 : Base) (p : Ren) (s : St) (w : World) : Prop where
  below : Below w0.w.heap.size w0.w w
  keep : ∀ k x, w0.g k = some x → w.heap[k]? = some x
  obj : ∀ id o, s.heap.get id = some o → ∃ bn cn, p id = some (bn, cn) ∧ ORel w0 p id bn cn o (w.heap[bn]?)
  inj : ∀ i j x y bn c d, s.heap.get i = some x → s.heap.get j = some y → x.own = true → y.own = true → p i = some (bn, c) → p j = some (bn, d) → i = j
  fresh : ∀ id, s.next ≤ id → s.heap.get id = none ∧ p id = none

theorem Rel.blk {w0 : Base} {w : World} {p : Ren} {s : St} (h : Rel w0 p s w) {id : Nat} {b : Blk} (hb : s.heap.get id = some (.blk b)) :
    ∃ bn cn c fr, p id = some (bn, cn) ∧ w.heap[bn]? = some (.cells c b.elem fr) ∧ BRel p cn b c b.elem fr := by
  obtain ⟨bn, cn, hp, ⟨c, e, fr, hx, hr⟩, _⟩ := h.obj id _ hb
  obtain ⟨rfl, hrest⟩ := hr
  exact ⟨bn, cn, c, fr, hp, hx, rfl, hrest⟩

theorem Rel.drew {w0 : Base} {w : World} {p : Ren} {s : St} (h : Rel w0 p s w) : Rel w0 p s w.drew :=
  ⟨h.below.drew, h.keep, h.obj, h.inj, h.fresh⟩
theorem Rel.drewN {w0 : Base} {w : World} {p : Ren} {s : St} (h : Rel w0 p s w) (n : Nat) : Rel w0 p s { w with drawn := n } :=
  ⟨⟨h.below.os, h.below.tape, h.below.output, h.below.size, h.below.block⟩, h.keep, h.obj, h.inj, h.fresh⟩

theorem Rel.newAt {w0 : Base} {w : World} {p : Ren} {s : St} (h : Rel w0 p s w) : w0.new w.heap.size := by
  refine ⟨h.below.size, ?_⟩
  cases hg : w0.g w.heap.size with
  | none => rfl
  | some x =>
    have := (Array.getElem?_eq_some_iff.1 (h.keep _ _ hg)).1
    omega

/-- One own block turned. -/
theorem Rel.update {w0 : Base} {w : World} {p : Ren} {s : St} (h : Rel w0 p s w) {id bn cn : Nat} {o o' : AObj} (ho : s.heap.get id = some o) (hown : o.own = true) (hp : p id = some (bn, cn))
    {w' : World} (hos : w'.os = w.os) (htape : w'.tape = w.tape) (hout : w'.output = w.output) (hs : w.heap.size ≤ w'.heap.size)
    (hk : ∀ k, k ≠ bn → k < w.heap.size → w'.heap[k]? = w.heap[k]?) (hr : ORel w0 p id bn cn o' (w'.heap[bn]?)) (hown' : o'.own = true) :
    Rel w0 p { s with heap := s.heap.put id (some o') } w' := by
  have hge : w0.new bn := by
    obtain ⟨b, d, hb, hor⟩ := h.obj id o ho
    have : b = bn := by rw [hp] at hb; injection hb with e; injection e with e; exact e.symm
    subst this
    exact hor.ge hown
  have hlt : ∀ i x b d, s.heap.get i = some x → p i = some (b, d) → b < w.heap.size := by
    intro i x b d hi hpi
    obtain ⟨b', d', hb', hor⟩ := h.obj i x hi
    have : b' = b := by rw [hpi] at hb'; injection hb' with e; injection e with e; exact e.symm
    subst this
    cases x with
    | blk k => obtain ⟨⟨c, e, fr, hx, _⟩, _⟩ := hor; exact (Array.getElem?_eq_some_iff.1 hx).1
    | iter st ps => exact (Array.getElem?_eq_some_iff.1 hor.1).1
  have hkeep : ∀ k x, w0.g k = some x → w'.heap[k]? = some x := fun k x hkx => by
    have h1 := h.keep k x hkx
    have hne : k ≠ bn := fun e => by rw [e, hge.2] at hkx; exact absurd hkx (by simp)
    rw [hk k hne (Array.getElem?_eq_some_iff.1 h1).1]
    exact h1
  refine ⟨h.below.trans ⟨hos, htape, hout, hs, fun k hkk => hk k (by have := hge.1; omega) (by have := h.below.size; omega)⟩, hkeep, ?_, ?_, ?_⟩
  · intro i x hi
    rw [Trie.get_put] at hi
    by_cases e : i = id
    · subst e
      rw [if_pos rfl] at hi
      injection hi with hi
      subst hi
      exact ⟨bn, cn, hp, hr⟩
    · rw [if_neg e] at hi
      obtain ⟨b, d, hb, hor⟩ := h.obj i x hi
      have hne : b ≠ bn := by
        intro e2
        subst e2
        cases hx : x.own with
        | true => exact e (h.inj i id x o b d cn hi ho hx hown hb hp)
        | false => have := hor.lt hx; have := hge.1; omega
      exact ⟨b, d, hb, by rw [hk b hne (hlt i x b d hi hb)]; exact hor⟩
  · intro i j x y b d1 d2 hi hj hx hy hpi hpj
    rw [Trie.get_put] at hi hj
    by_cases ei : i = id <;> by_cases ej : j = id
    · rw [ei, ej]
    · rw [if_neg ej] at hj
      subst ei
      exact h.inj _ _ o y b _ _ ho hj hown hy hpi hpj
    · rw [if_neg ei] at hi
      subst ej
      exact h.inj _ _ x o b _ _ hi ho hx hown hpi hpj
    · rw [if_neg ei] at hi
      rw [if_neg ej] at hj
      exact h.inj _ _ x y b _ _ hi hj hx hy hpi hpj
  · intro i hi
    obtain ⟨h1, h2⟩ := h.fresh i hi
    refine ⟨?_, h2⟩
    rw [Trie.get_put]
    have : i ≠ id := by intro e; subst e; rw [ho] at h1; exact absurd h1 (by simp)
    rw [if_neg this]
    exact h1

/-- A block is forgotten. -/
theorem Rel.kill {w0 : Base} {w : World} {p : Ren} {s : St} (h : Rel w0 p s w) (id : Nat) : Rel w0 p { s with heap := s.heap.put id none } w := by
  have sub : ∀ i x, (s.heap.put id none).get i = some x → s.heap.get i = some x := by
    intro i x hi
    rw [Trie.get_put] at hi
    by_cases e : i = id
    · rw [if_pos e] at hi; exact absurd hi (by simp)
    · rw [if_neg e] at hi; exact hi
  refine ⟨h.below, h.keep, fun i x hi => h.obj i x (sub i x hi), fun i j x y b d1 d2 hi hj => h.inj i j x y b d1 d2 (sub i x hi) (sub j y hj), fun i hi => ?_⟩
  obtain ⟨h1, h2⟩ := h.fresh i hi
  refine ⟨?_, h2⟩
  rw [Trie.get_put]
  split
  · rfl
  · exact h1

def Ren.ext (p : Ren) (i : Nat) (b : Nat × Nat) : Ren := fun j => if j = i then some b else p j
theorem Ren.le_ext {p : Ren} {i : Nat} {b : Nat × Nat} (h : p i = none) : p.le (p.ext i b) := by
  intro j c hj
  unfold Ren.ext
  by_cases e : j = i
  · subst e; rw [h] at hj; exact absurd hj (by simp)
  · rw [if_neg e]; exact hj
theorem Ren.ext_same (p : Ren) (i : Nat) (b : Nat × Nat) : (p.ext i b) i = some b := by simp [Ren.ext]
theorem Ren.ext_ne (p : Ren) {i j : Nat} (b : Nat × Nat) (h : j ≠ i) : (p.ext i b) j = p j := by simp [Ren.ext, h]

def St.add (s : St) (o : AObj) : St := { heap := s.heap.put s.next (some o), next := s.next + 1 }

/-- A new object, at a block that no live own object has. -/
theorem Rel.add {w0 : Base} {w : World} {p : Ren} {s : St} (h : Rel w0 p s w) {bn cn : Nat} {o : AObj} (hown : o.own = true)
    (hno : ∀ i x, s.heap.get i = some x → x.own = true → ∀ d, p i ≠ some (bn, d))
    {w' : World} (hos : w'.os = w.os) (htape : w'.tape = w.tape) (hout : w'.output = w.output) (hs : w.heap.size ≤ w'.heap.size)
    (hge : w0.new bn) (hk : ∀ k, k ≠ bn → k < w.heap.size → w'.heap[k]? = w.heap[k]?) (hr : ORel w0 (p.ext s.next (bn, cn)) s.next bn cn o (w'.heap[bn]?)) :
    Rel w0 (p.ext s.next (bn, cn)) (s.add o) w' := by
  have hle : p.le (p.ext s.next (bn, cn)) := Ren.le_ext (h.fresh _ (Nat.le_refl _)).2
  have hlt : ∀ i x b d, s.heap.get i = some x → p i = some (b, d) → b < w.heap.size := by
    intro i x b d hi hpi
    obtain ⟨b', d', hb', hor⟩ := h.obj i x hi
    have : b' = b := by rw [hpi] at hb'; injection hb' with e; injection e with e; exact e.symm
    subst this
    cases x with
    | blk k => obtain ⟨⟨c, e, fr, hx, _⟩, _⟩ := hor; exact (Array.getElem?_eq_some_iff.1 hx).1
    | iter st ps => exact (Array.getElem?_eq_some_iff.1 hor.1).1
  have hne : ∀ i x, s.heap.get i = some x → i ≠ s.next := by
    intro i x hi e
    have := (h.fresh i (by omega)).1
    rw [hi] at this
    exact absurd this (by simp)
  have hkeep : ∀ k x, w0.g k = some x → w'.heap[k]? = some x := fun k x hkx => by
    have h1 := h.keep k x hkx
    have hne : k ≠ bn := fun e => by rw [e, hge.2] at hkx; exact absurd hkx (by simp)
    rw [hk k hne (Array.getElem?_eq_some_iff.1 h1).1]
    exact h1
  refine ⟨h.below.trans ⟨hos, htape, hout, hs, fun k hkk => hk k (by have := hge.1; omega) (by have := h.below.size; omega)⟩, hkeep, ?_, ?_, ?_⟩
  · intro i x hi
    simp only [St.add] at hi
    rw [Trie.get_put] at hi
    by_cases e : i = s.next
    · rw [if_pos e] at hi
      injection hi with hi
      subst hi
      subst e
      exact ⟨bn, cn, Ren.ext_same _ _ _, hr⟩
    · rw [if_neg e] at hi
      obtain ⟨b, d, hb, hor⟩ := h.obj i x hi
      have hbn : b ≠ bn := by
        intro e2
        subst e2
        cases hx : x.own with
        | true => exact hno i x hi hx d hb
        | false => have := hor.lt hx; have := hge.1; omega
      exact ⟨b, d, hle _ _ hb, by rw [hk b hbn (hlt i x b d hi hb)]; exact hor.mono hle⟩
  · intro i j x y b d1 d2 hi hj hx hy hpi hpj
    simp only [St.add] at hi hj
    rw [Trie.get_put] at hi hj
    by_cases ei : i = s.next <;> by_cases ej : j = s.next
    · rw [ei, ej]
    · rw [if_neg ej] at hj
      rw [ei, Ren.ext_same] at hpi
      rw [Ren.ext_ne _ _ ej] at hpj
      injection hpi with hpi
      injection hpi with hpi
      subst hpi
      exact absurd hpj (hno j y hj hy _)
    · rw [if_neg ei] at hi
      rw [ej, Ren.ext_same] at hpj
      rw [Ren.ext_ne _ _ ei] at hpi
      injection hpj with hpj
      injection hpj with hpj
      subst hpj
      exact absurd hpi (hno i x hi hx _)
    · rw [if_neg ei] at hi
      rw [if_neg ej] at hj
      rw [Ren.ext_ne _ _ ei] at hpi
      rw [Ren.ext_ne _ _ ej] at hpj
      exact h.inj _ _ x y b _ _ hi hj hx hy hpi hpj
  · intro i hi
    simp only [St.add] at hi
    obtain ⟨h1, h2⟩ := h.fresh i (by omega)
    have : i ≠ s.next := by omega
    refine ⟨?_, by rw [Ren.ext_ne _ _ this]; exact h2⟩
    simp only [St.add]
    rw [Trie.get_put, if_neg this]
    exact h1

/-- A new block of the world. -/
theorem Rel.alloc {w0 : Base} {w : World} {p : Ren} {s : St} (h : Rel w0 p s w) {cn : Nat} {o : AObj} {x : Obj} (hown : o.own = true)
    (hr : ORel w0 (p.ext s.next (w.heap.size, cn)) s.next w.heap.size cn o (some x)) :
    Rel w0 (p.ext s.next (w.heap.size, cn)) (s.add o) (w.alloc x) := by
  refine h.add (bn := w.heap.size) hown ?_ rfl rfl rfl (by simp) h.newAt (fun k _ hlt => by rw [World.alloc, Array.getElem?_push, if_neg (by omega)]) (by rw [World.alloc, Array.getElem?_push, if_pos rfl]; exact hr)
  intro i y hi hy d hp
  obtain ⟨b, d', hb, hor⟩ := h.obj i y hi
  rw [hp] at hb
  injection hb with hb
  injection hb with hb
  subst hb
  cases y with
  | blk k =>
    obtain ⟨⟨c, e, fr, hx, _⟩, _⟩ := hor
    have := (Array.getElem?_eq_some_iff.1 hx).1
    omega
  | iter st ps =>
    have := (Array.getElem?_eq_some_iff.1 hor.1).1
    omega

/-! ### Frames -/
theorem Base.new_of_ext {w0 : Base} {bn k : Nat} {x : Obj} (h : (w0.ext bn x).new k) : w0.new k ∧ k ≠ bn := by
  obtain ⟨h1, h2⟩ := h
  simp only [Base.ext] at h1 h2
  by_cases e : k = bn
  · rw [if_pos e] at h2; exact absurd h2 (by simp)
  · rw [if_neg e] at h2; exact ⟨⟨h1, h2⟩, e⟩
theorem ORel.of_ext {w0 : Base} {bk : Nat} {x0 : Obj} {p : Ren} {id bn cn : Nat} {o : AObj} {x : Option Obj} (r : ORel (w0.ext bk x0) p id bn cn o x) : ORel w0 p id bn cn o x := by
  cases o with
  | blk b => exact ⟨r.1, r.2.1, fun h => (Base.new_of_ext (r.2.2 h)).1⟩
  | iter s pos => exact ⟨r.1, (Base.new_of_ext r.2).1⟩
/-- A new block that the abstract memory does not know: a frame. -/
theorem Rel.frame {w0 : Base} {w : World} {p : Ren} {s : St} (h : Rel w0 p s w) (x : Obj) : Rel (w0.ext w.heap.size x) p s (w.alloc x) := by
  have hk : ∀ k, k < w.heap.size → (w.alloc x).heap[k]? = w.heap[k]? := fun k hlt => by rw [World.alloc, Array.getElem?_push, if_neg (by omega)]
  have hn := h.newAt
  have hup : ∀ k, k < w.heap.size → w0.new k → (w0.ext w.heap.size x).new k := fun k hlt hnk => ⟨hnk.1, by simp only [Base.ext]; rw [if_neg (by omega)]; exact hnk.2⟩
  refine ⟨h.below.trans ⟨rfl, rfl, rfl, by simp, fun k hkk => hk k (by have := hn.1; exact Nat.lt_of_lt_of_le hkk this)⟩, ?_, ?_, ?_, h.fresh⟩
  · intro k y hy
    simp only [Base.ext] at hy
    by_cases e : k = w.heap.size
    · rw [if_pos e] at hy
      rw [← hy, e, World.alloc, Array.getElem?_push, if_pos rfl]
    · rw [if_neg e] at hy
      have := h.keep k y hy
      rw [hk k (Array.getElem?_eq_some_iff.1 this).1]
      exact this
  · intro id o ho
    obtain ⟨bn, cn, hp, hr⟩ := h.obj id o ho
    refine ⟨bn, cn, hp, ?_⟩
    cases o with
    | blk b =>
      obtain ⟨⟨c, e, fr, hx, hb⟩, h2, h3⟩ := hr
      have hlt := (Array.getElem?_eq_some_iff.1 hx).1
      exact ⟨⟨c, e, fr, by rw [hk bn hlt]; exact hx, hb⟩, h2, fun hm => hup bn hlt (h3 hm)⟩
    | iter st ps =>
      have hlt := (Array.getElem?_eq_some_iff.1 hr.1).1
      exact ⟨by rw [hk bn hlt]; exact hr.1, hup bn hlt hr.2⟩
  · exact h.inj
/-- The frame becomes an object of the abstract memory. -/
theorem Rel.adopt {w0 : Base} {w : World} {p : Ren} {s : St} {bn cn : Nat} {x : Obj} {o : AObj} (h : Rel (w0.ext bn x) p s w) (hnew : w0.new bn) (hown : o.own = true)
    (hr : ORel w0 (p.ext s.next (bn, cn)) s.next bn cn o (some x)) : Rel w0 (p.ext s.next (bn, cn)) (s.add o) w := by
  have hx : w.heap[bn]? = some x := h.keep bn x (by simp [Base.ext])
  have h0 : Rel w0 p s w := by
    refine ⟨h.below, fun k y hy => h.keep k y ?_, fun id o ho => ?_, h.inj, h.fresh⟩
    · simp only [Base.ext]
      rw [if_neg (fun e => by rw [e, hnew.2] at hy; exact absurd hy (by simp))]
      exact hy
    · obtain ⟨b, c, hp, hor⟩ := h.obj id o ho
      exact ⟨b, c, hp, hor.of_ext⟩
  refine h0.add hown ?_ rfl rfl rfl (Nat.le_refl _) hnew (fun k _ _ => rfl) (by rw [hx]; exact hr)
  intro i y hi hy d hp
  obtain ⟨b, c, hb, hor⟩ := h.obj i y hi
  rw [hp] at hb
  injection hb with hb
  injection hb with hb
  subst hb
  exact (Base.new_of_ext (hor.ge hy)).2 rfl

/-! ### Computations that ask the program alone -/
def semP (P : Program) {α : Type} : Sem α → Option α
  | .pure a => some a
  | .program k => semP P (k P)
  | .mark _ k => semP P k
  | _ => none
theorem semP_run {P : Program} {α : Type} {m : Sem α} {a : α} (h : semP P m = some a) (w : World) : m.run P w = .ok a w := by
  induction m with
  | pure b => simp only [semP, Option.some.injEq] at h; subst h; rfl
  | program k ih => exact ih P h
  | mark x k ih => exact ih h
  | _ => simp [semP] at h

/-! ### Reading -/
def aggP (P : Program) (t : TypeId) : Option Bool :=
  match P.underlying t with
  | some (.struct _) | some (.array _ _) => some true
  | some _ => some false
  | none => none
theorem run_isAgg {P : Program} {t : TypeId} {b : Bool} (h : aggP P t = some b) (w : World) : (isAgg t).run P w = .ok b w := by
  unfold aggP at h
  unfold isAgg underlying
  simp only [Sem.run_bind, program, Sem.run]
  split at h <;> simp_all [Sem.run, Result.andThen]
theorem run_sizeOf {P : Program} {t : TypeId} {i : TypeInfo} (h : P.info? t = some i) (w : World) : (sizeOf t).run P w = .ok i.size w := by
  simp [sizeOf, typeInfo, program, Sem.run_bind, Sem.run, h, Result.andThen]

def loadB (P : Program) (k : Blk) (t : TypeId) (o : Nat) : Option Value :=
  match aggP P t with
  | some true => match P.info? t with
    | some i => bif Nat.ble (o + i.size) k.n then (match k.cells.getL o i.size with | some l => some (.agg l.toArray) | none => none) else none
    | none => none
  | some false => bif Nat.blt o k.n then k.cells.get o else none
  | none => none
def loadA (P : Program) (s : St) (t : TypeId) (v : Value) : Option Value :=
  match v with
  | .pointer (some ⟨b, o, none⟩) =>
    match s.heap.get b with
    | some (.blk k) => loadB P k t o
    | _ => none
  | _ => none

theorem run_load_cell {P : Program} {w : World} {a : Addr} {v : Value} (h : w.cell? a = some v) : (load a).run P w = .ok v w := by
  simp [load, Sem.run, h]
theorem Addr.add_none (b o j : Nat) : (⟨b, o, none⟩ : Addr).add j = ⟨b, o + j, none⟩ := by
  unfold Addr.add
  split
  · rename_i h; subst h; rfl
  · rfl

theorem getL_rel {p : Ren} {b : Blk} {c : Array Value} {e : TypeId} {fr : Nat × Nat} {cn : Nat} (r : BRel p cn b c e fr) {o m : Nat} {l : List Value} (hl : b.cells.getL o m = some l) (hn : o + m ≤ b.n) :
    LRel p l ((c.toList.drop o).take m) := by
  obtain ⟨hlen, hg⟩ := Trie.getL_spec _ _ _ _ hl
  refine LRel.of_get ?_ ?_
  · rw [hlen, List.length_take, List.length_drop, Array.length_toList]; have := r.2.2.1; omega
  · intro i v v' hv hv'
    have hi : i < m := by rw [← hlen]; exact (List.getElem?_eq_some_iff.1 hv).1
    rw [hg i hi] at hv
    obtain ⟨u, hu, hr⟩ := r.2.2.2.2.2 _ _ hv (by omega)
    rw [List.getElem?_take_of_lt hi, List.getElem?_drop, Array.getElem?_toList, hu] at hv'
    injection hv' with hv'
    subst hv'
    exact hr

theorem loadB_run {P : Program} {w : World} {p : Ren} {k : Blk} {c : Array Value} {bn o : Nat} {t : TypeId} {u : Value} {fr : Nat × Nat} {cn : Nat} (hh : w.heap[bn]? = some (.cells c k.elem fr))
    (r : BRel p cn k c k.elem fr) (h : loadB P k t o = some u) : ∃ u', (loadVar t ⟨bn, o, none⟩).run P w = .ok u' w ∧ VRel p u u' := by
  unfold loadB at h
  split at h
  · rename_i ha
    split at h
    · rename_i i hi
      cases hle : Nat.ble (o + i.size) k.n with
      | false => rw [hle] at h; simp at h
      | true =>
        rw [hle] at h
        simp only [cond_true] at h
        have hn := Nat.le_of_ble_eq_true hle
        split at h
        · rename_i l hl
          injection h with h
          subst h
          have hrel := getL_rel r hl hn
          refine ⟨.agg ((c.toList.drop o).take i.size).toArray, ?_, .agg _ _ (by simpa using hrel)⟩
          unfold loadVar
          simp only [Sem.run_bind, run_isAgg ha, Result.andThen, if_true, run_sizeOf hi]
          have := run_loadCells_list (P := P) (w := w) ⟨bn, o, none⟩ ((c.toList.drop o).take i.size) (by
            intro j v hj
            rw [Addr.add_none, cell_of_row _ _ _ _ _ _ hh]
            have hjlt : j < i.size := by
              have := (List.getElem?_eq_some_iff.1 hj).1
              rw [List.length_take] at this
              omega
            rw [List.getElem?_take_of_lt hjlt, List.getElem?_drop, Array.getElem?_toList] at hj
            exact hj)
          have hlen : ((c.toList.drop o).take i.size).length = i.size := by
            rw [← hrel.length]; exact (Trie.getL_spec _ _ _ _ hl).1
          rw [hlen] at this
          rw [this]
          rfl
        · exact absurd h (by simp)
    · exact absurd h (by simp)
  · rename_i ha
    cases hlt : Nat.blt o k.n with
    | false => rw [hlt] at h; simp at h
    | true =>
      rw [hlt] at h
      simp only [cond_true] at h
      have hlt' : o < k.n := Nat.le_of_ble_eq_true hlt
      obtain ⟨u', hu, hr⟩ := r.2.2.2.2.2 _ _ h hlt'
      refine ⟨u', ?_, hr⟩
      unfold loadVar
      simp only [Sem.run_bind, run_isAgg ha, Result.andThen]
      exact run_load_cell (by rw [cell_of_row _ _ _ _ _ _ hh]; exact hu)
  · exact absurd h (by simp)

theorem loadA_run {P : Program} {w0 : Base} {w : World} {p : Ren} {s : St} (R : Rel w0 p s w) {t : TypeId} {v v' u : Value} (hv : VRel p v v') (h : loadA P s t v = some u) :
    ∃ u', (Instr.loadAt t v').run P w = .ok u' w ∧ VRel p u u' := by
  unfold loadA at h
  split at h
  · rename_i b o
    split at h
    · rename_i k hk
      cases hv with
      | ptr _ b' x _ hb =>
        obtain ⟨bn, cn, c, fr, hp, hh, r⟩ := R.blk hk
        rw [hb] at hp
        injection hp with hp
        injection hp with hp
        subst hp
        obtain ⟨u', h1, h2⟩ := loadB_run hh r h
        refine ⟨u', ?_, h2⟩
        simp only [Instr.loadAt, Instr.sureAddr, Sem.run_bind, Sem.run_pure, Result.andThen]
        exact h1
    · exact absurd h (by simp)
  · exact absurd h (by simp)

/-! ### Writing -/
theorem heap_setCell_at (w : World) (g i : Nat) (cs : Array Value) (t : TypeId) (fr : Nat × Nat) (v : Value) (hg : w.heap[g]? = some (.cells cs t fr)) :
    (w.setCell ⟨g, i, none⟩ v).heap[g]? = some (.cells (cs.setIfInBounds i v) t fr) := by
  simp [World.setCell, Array.getElem?_modify, hg]
theorem frozen_at (w : World) (g j : Nat) (cs : Array Value) (t : TypeId) (lo hi : Nat) (hg : w.heap[g]? = some (.cells cs t (lo, hi))) : w.frozen? ⟨g, j, none⟩ = (decide (lo ≤ j) && decide (j < hi)) := by
  simp [World.frozen?, hg]

def oneC : Value → Bool
  | .agg _ | .tuple _ => false
  | _ => true
def oneL : List Value → Bool
  | [] => true
  | v :: l => oneC v && oneL l
theorem oneL_rel {p : Ren} {l l' : List Value} (h : oneL l = true) (r : LRel p l l') : oneL l' = true := by
  induction l generalizing l' with
  | nil => cases r; rfl
  | cons v l ih =>
    cases r with
    | cons _ v' _ l' hv hl =>
      simp only [oneL, Bool.and_eq_true] at h ⊢
      refine ⟨?_, ih h.2 hl⟩
      cases hv <;> simp_all [oneC]

structure Wrote (w w' : World) (g : Nat) (t : TypeId) (fr : Nat × Nat) (c' : Array Value) : Prop where
  os : w'.os = w.os
  tape : w'.tape = w.tape
  output : w'.output = w.output
  size : w'.heap.size = w.heap.size
  other : ∀ k, k ≠ g → w'.heap[k]? = w.heap[k]?
  at_ : w'.heap[g]? = some (.cells c' t fr)

theorem run_store_at {P : Program} (w : World) (g i : Nat) (cs : Array Value) (t : TypeId) (lo hi : Nat) (v : Value) (hg : w.heap[g]? = some (.cells cs t (lo, hi))) (hi' : i < cs.size)
    (hf : ¬ (lo ≤ i ∧ i < hi)) (hv : oneC v = true) : (store ⟨g, i, none⟩ v).run P w = .ok () (w.setCell ⟨g, i, none⟩ v) := by
  have hc : w.cell? ⟨g, i, none⟩ = some cs[i] := by rw [cell_of_row _ _ _ _ _ _ hg]; simp [hi']
  have hfz : w.frozen? ⟨g, i, none⟩ = false := by
    rw [frozen_at _ _ _ _ _ _ _ hg]
    simp; intro h2; omega
  unfold store
  cases v <;> simp_all [Sem.run, oneC]

theorem run_storeCells_w {P : Program} (g o : Nat) (t : TypeId) (lo hi : Nat) : ∀ (vs : List Value) (i : Nat) (cs : Array Value) (w : World), w.heap[g]? = some (.cells cs t (lo, hi)) →
    o + i + vs.length ≤ cs.size → (∀ j, o + i ≤ j → j < o + i + vs.length → ¬ (lo ≤ j ∧ j < hi)) → oneL vs = true →
    ∃ w' c', (storeCells ⟨g, o, none⟩ vs i).run P w = .ok () w' ∧ Wrote w w' g t (lo, hi) c' ∧ c'.size = cs.size ∧
      ∀ j, c'[j]? = if o + i ≤ j ∧ j < o + i + vs.length then vs[j - (o + i)]? else cs[j]? := by
  intro vs
  induction vs with
  | nil =>
    intro i cs w hg _ _ _
    refine ⟨w, cs, rfl, ⟨rfl, rfl, rfl, rfl, fun _ _ => rfl, hg⟩, rfl, fun j => ?_⟩
    rw [if_neg (by simp only [List.length_nil]; omega)]
  | cons v vs ih =>
    intro i cs w hg hn hf hv
    simp only [List.length_cons] at hn hf
    simp only [oneL, Bool.and_eq_true] at hv
    have hst := run_store_at (P := P) w g (o + i) cs t lo hi v hg (by omega) (hf (o + i) (by omega) (by omega)) hv.1
    obtain ⟨w', c', h1, h2, h3, h4⟩ := ih (i + 1) (cs.setIfInBounds (o + i) v) (w.setCell ⟨g, o + i, none⟩ v) (heap_setCell_at _ _ _ _ _ _ _ hg)
      (by have e : (cs.setIfInBounds (o + i) v).size = cs.size := by simp
          omega) (fun j h1 h2 => hf j (by omega) (by omega)) hv.2
    refine ⟨w', c', ?_, ⟨h2.os, h2.tape, h2.output, h2.size.trans (by simp), fun k hk => (h2.other k hk).trans (heap_setCell_other _ _ _ _ hk), h2.at_⟩, by simpa using h3, fun j => ?_⟩
    · rw [storeCells, Addr.add_none]
      simp only [Sem.run_bind, hst, Result.andThen]
      exact h1
    · rw [h4 j]
      simp only [List.length_cons]
      by_cases e : j = o + i
      · subst e
        rw [if_neg (by omega), if_pos (by omega), Nat.sub_self, List.getElem?_cons_zero, Array.getElem?_setIfInBounds_self_of_lt (by omega)]
      · by_cases h5 : o + (i + 1) ≤ j ∧ j < o + (i + 1) + vs.length
        · rw [if_pos h5, if_pos (by omega)]
          have : j - (o + i) = (j - (o + (i + 1))) + 1 := by omega
          rw [this, List.getElem?_cons_succ]
        · rw [if_neg h5, if_neg (by omega)]
          rw [Array.getElem?_setIfInBounds_ne (by omega)]

end Go.Den
