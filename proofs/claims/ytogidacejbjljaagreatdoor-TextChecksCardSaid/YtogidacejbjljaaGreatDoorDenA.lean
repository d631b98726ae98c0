/- A verified abstract interpreter, part A: the abstract memory, its relation to a world of the model. -/
import Derived.WalkKit
import Derived.Orders
set_option linter.unusedVariables false
set_option linter.unusedSimpArgs false
namespace Go.Den
open Go.RowKit

/-! ### A trie by numbers -/
inductive Trie (α : Type) where
  | nil
  | node (v : Option α) (l r : Trie α)

def Trie.get {α : Type} : Trie α → Nat → Option α
  | .nil, _ => none
  | .node v l r, k => bif Nat.beq k 0 then v else bif Nat.beq (k % 2) 1 then l.get (k / 2) else r.get (k / 2 - 1)

def Trie.val {α : Type} : Trie α → Option α
  | .nil => none
  | .node v _ _ => v
def Trie.left {α : Type} : Trie α → Trie α
  | .nil => .nil
  | .node _ l _ => l
def Trie.right {α : Type} : Trie α → Trie α
  | .nil => .nil
  | .node _ _ r => r

def Trie.putF {α : Type} (x : Option α) : Nat → Trie α → Nat → Trie α
  | 0, t, _ => t
  | f + 1, t, k =>
    bif Nat.beq k 0 then .node x t.left t.right
    else bif Nat.beq (k % 2) 1 then .node t.val (putF x f t.left (k / 2)) t.right
    else .node t.val t.left (putF x f t.right (k / 2 - 1))

def Trie.put {α : Type} (t : Trie α) (k : Nat) (x : Option α) : Trie α := Trie.putF x (k + 1) t k

theorem Trie.get_parts {α : Type} (t : Trie α) (k : Nat) :
    t.get k = bif Nat.beq k 0 then t.val else bif Nat.beq (k % 2) 1 then t.left.get (k / 2) else t.right.get (k / 2 - 1) := by
  cases t with
  | nil =>
    have hn : ∀ j, (Trie.nil : Trie α).get j = none := fun j => by unfold Trie.get; rfl
    simp only [Trie.val, Trie.left, Trie.right, hn]
    cases Nat.beq k 0 <;> cases Nat.beq (k % 2) 1 <;> rfl
  | node v l r => rw [Trie.get]; rfl

theorem Trie.get_putF {α : Type} (x : Option α) : ∀ (f : Nat) (t : Trie α) (k j : Nat), k < f →
    (Trie.putF x f t k).get j = if j = k then x else t.get j := by
  intro f
  induction f with
  | zero => intro t k j h; omega
  | succ f ih =>
    intro t k j h
    rw [Trie.get_parts t j]
    unfold Trie.putF
    cases hk : Nat.beq k 0 with
    | true =>
      have hk0 : k = 0 := Nat.eq_of_beq_eq_true hk
      subst hk0
      simp only [cond_true]
      rw [Trie.get]
      cases hj : Nat.beq j 0 with
      | true => have : j = 0 := Nat.eq_of_beq_eq_true hj; simp [this]
      | false => have : j ≠ 0 := Nat.ne_of_beq_eq_false hj; simp [this]
    | false =>
      have hk0 : k ≠ 0 := Nat.ne_of_beq_eq_false hk
      simp only [cond_false]
      cases hp : Nat.beq (k % 2) 1 with
      | true =>
        have hp1 : k % 2 = 1 := Nat.eq_of_beq_eq_true hp
        simp only [cond_true]
        rw [Trie.get]
        cases hj : Nat.beq j 0 with
        | true => have : j = 0 := Nat.eq_of_beq_eq_true hj; subst this; simp; intro hh; omega
        | false =>
          have hj0 : j ≠ 0 := Nat.ne_of_beq_eq_false hj
          simp only [cond_false]
          cases hq : Nat.beq (j % 2) 1 with
          | true =>
            have hq1 : j % 2 = 1 := Nat.eq_of_beq_eq_true hq
            simp only [cond_true]
            rw [ih _ _ _ (by omega)]
            by_cases e : j = k
            · subst e; simp
            · rw [if_neg e, if_neg (by omega)]
          | false =>
            have hq1 : j % 2 ≠ 1 := Nat.ne_of_beq_eq_false hq
            simp only [cond_false]
            rw [if_neg (by intro e; subst e; exact hq1 hp1)]
      | false =>
        have hp1 : k % 2 ≠ 1 := Nat.ne_of_beq_eq_false hp
        simp only [cond_false]
        rw [Trie.get]
        cases hj : Nat.beq j 0 with
        | true => have : j = 0 := Nat.eq_of_beq_eq_true hj; subst this; simp; intro hh; omega
        | false =>
          have hj0 : j ≠ 0 := Nat.ne_of_beq_eq_false hj
          simp only [cond_false]
          cases hq : Nat.beq (j % 2) 1 with
          | true =>
            have hq1 : j % 2 = 1 := Nat.eq_of_beq_eq_true hq
            simp only [cond_true]
            rw [if_neg (by intro e; subst e; exact hp1 hq1)]
          | false =>
            have hq1 : j % 2 ≠ 1 := Nat.ne_of_beq_eq_false hq
            simp only [cond_false]
            rw [ih _ _ _ (by omega)]
            by_cases e : j = k
            · subst e; simp
            · rw [if_neg e, if_neg (by omega)]

theorem Trie.get_put {α : Type} (t : Trie α) (k j : Nat) (x : Option α) : (t.put k x).get j = if j = k then x else t.get j :=
  Trie.get_putF x (k + 1) t k j (by omega)
theorem Trie.get_put_same {α : Type} (t : Trie α) (k : Nat) (x : Option α) : (t.put k x).get k = x := by rw [Trie.get_put, if_pos rfl]
theorem Trie.get_put_ne {α : Type} (t : Trie α) {k j : Nat} (x : Option α) (h : j ≠ k) : (t.put k x).get j = t.get j := by rw [Trie.get_put, if_neg h]
theorem Trie.get_nil {α : Type} (k : Nat) : (Trie.nil : Trie α).get k = none := by unfold Trie.get; rfl

/-- Cells laid from a place on. -/
def Trie.putL {α : Type} : Trie α → Nat → List α → Trie α
  | t, _, [] => t
  | t, k, x :: xs => Trie.putL (t.put k (some x)) (k + 1) xs

theorem Trie.get_putL {α : Type} : ∀ (xs : List α) (t : Trie α) (k j : Nat),
    (t.putL k xs).get j = if k ≤ j ∧ j < k + xs.length then xs[j - k]? else t.get j := by
  intro xs
  induction xs with
  | nil => intro t k j; simp only [Trie.putL, List.length_nil]; rw [if_neg (by omega)]
  | cons x xs ih =>
    intro t k j
    simp only [Trie.putL, List.length_cons]
    rw [ih, Trie.get_put]
    by_cases h : k + 1 ≤ j ∧ j < k + 1 + xs.length
    · rw [if_pos h, if_pos (by omega)]
      have : j - k = (j - (k + 1)) + 1 := by omega
      rw [this, List.getElem?_cons_succ]
    · rw [if_neg h]
      by_cases e : j = k
      · subst e; rw [if_pos rfl, if_pos (by omega)]; simp
      · rw [if_neg e, if_neg (by omega)]

/-- The cells from a place on, if all are there. -/
def Trie.getL {α : Type} (t : Trie α) : Nat → Nat → Option (List α)
  | _, 0 => some []
  | k, n + 1 => match t.get k with
    | none => none
    | some x => match t.getL (k + 1) n with
      | none => none
      | some xs => some (x :: xs)

theorem Trie.getL_spec {α : Type} (t : Trie α) : ∀ (n k : Nat) (xs : List α), t.getL k n = some xs → xs.length = n ∧ ∀ j, j < n → xs[j]? = t.get (k + j) := by
  intro n
  induction n with
  | zero => intro k xs h; simp [Trie.getL] at h; subst h; simp
  | succ n ih =>
    intro k xs h
    unfold Trie.getL at h
    split at h
    · exact absurd h (by simp)
    · rename_i x hx
      split at h
      · exact absurd h (by simp)
      · rename_i ys hys
        injection h with h
        subst h
        obtain ⟨hl, hg⟩ := ih _ _ hys
        refine ⟨by simp [hl], fun j hj => ?_⟩
        cases j with
        | zero => simp [hx]
        | succ j => rw [List.getElem?_cons_succ, hg j (by omega)]; congr 1; omega

/-! ### Values: the relation -/
/-- A capacity below this is exact; above it: at least so much. -/
def U : Nat := 18446744073709551616
def capRelU (u c c' : Nat) : Prop := (c < u ∧ c' = c) ∨ (u ≤ c ∧ c - u ≤ c')
def capRel (c c' : Nat) : Prop := capRelU U c c'

/-- Of a number of the abstract memory: the block, and for a slice's own row its capacity. -/
abbrev Ren := Nat → Option (Nat × Nat)
def Ren.le (p q : Ren) : Prop := ∀ i b, p i = some b → q i = some b
theorem Ren.le.refl (p : Ren) : p.le p := fun _ _ h => h
theorem Ren.le.trans {p q r : Ren} (h : p.le q) (k : q.le r) : p.le r := fun i b hi => k i b (h i b hi)

mutual
inductive VRel (p : Ren) : Value → Value → Prop where
  | bool (b : Bool) : VRel p (.bool b) (.bool b)
  | int (k : IntKind) (n : Int) : VRel p (.int k n) (.int k n)
  | float (k : FloatKind) (n : Nat) : VRel p (.float k n) (.float k n)
  | complex (k : FloatKind) (n m : Nat) : VRel p (.complex k n m) (.complex k n m)
  | string (s : ByteArray) : VRel p (.string s) (.string s)
  | ptrNil : VRel p (.pointer none) (.pointer none)
  | ptr (b b' x o : Nat) : p b = some (b', x) → VRel p (.pointer (some ⟨b, o, none⟩)) (.pointer (some ⟨b', o, none⟩))
  | sliceNil (n c : Nat) : VRel p (.slice none n c) (.slice none n c)
  | slice (b b' x o n c c' : Nat) : p b = some (b', x) → capRel c c' → (U ≤ c → o = 0 → c' = x) → VRel p (.slice (some ⟨b, o, none⟩) n c) (.slice (some ⟨b', o, none⟩) n c')
  | mapNil : VRel p (.map none) (.map none)
  | map (b b' x : Nat) : p b = some (b', x) → VRel p (.map (some b)) (.map (some b'))
  | chanNil : VRel p (.chan none) (.chan none)
  | func (fn : Fn) (x x' c c' : Array Value) : LRel p x.toList x'.toList → LRel p c.toList c'.toList → VRel p (.func fn x c) (.func fn x' c')
  | nilFunc : VRel p .nilFunc .nilFunc
  | iface (t : TypeId) (v v' : Value) : VRel p v v' → VRel p (.iface t v) (.iface t v')
  | nilIface : VRel p .nilIface .nilIface
  | agg (x x' : Array Value) : LRel p x.toList x'.toList → VRel p (.agg x) (.agg x')
  | tuple (x x' : Array Value) : LRel p x.toList x'.toList → VRel p (.tuple x) (.tuple x')
inductive LRel (p : Ren) : List Value → List Value → Prop where
  | nil : LRel p [] []
  | cons (v v' : Value) (l l' : List Value) : VRel p v v' → LRel p l l' → LRel p (v :: l) (v' :: l')
end

theorem LRel.length {p : Ren} : ∀ {l l' : List Value}, LRel p l l' → l.length = l'.length
  | _, _, .nil => rfl
  | _, _, .cons _ _ _ _ _ h => by simp [h.length]
theorem LRel.get {p : Ren} : ∀ {l l' : List Value}, LRel p l l' → ∀ (i : Nat) (v : Value), l[i]? = some v → ∃ v', l'[i]? = some v' ∧ VRel p v v'
  | _, _, .nil, i, v, h => by simp at h
  | _, _, .cons a a' l l' ha hl, 0, v, h => by
    simp at h
    subst h
    exact ⟨a', by simp, ha⟩
  | _, _, .cons a a' l l' ha hl, i + 1, v, h => by
    rw [List.getElem?_cons_succ] at h
    obtain ⟨v', h1, h2⟩ := hl.get i v h
    exact ⟨v', by rw [List.getElem?_cons_succ]; exact h1, h2⟩
theorem LRel.of_get {p : Ren} : ∀ {l l' : List Value}, l.length = l'.length → (∀ (i : Nat) (v v' : Value), l[i]? = some v → l'[i]? = some v' → VRel p v v') → LRel p l l'
  | [], [], _, _ => .nil
  | [], _ :: _, h, _ => by simp at h
  | _ :: _, [], h, _ => by simp at h
  | a :: l, a' :: l', h, hh => .cons _ _ _ _ (hh 0 a a' (by simp) (by simp)) (LRel.of_get (by simpa using h) fun i v v' h1 h2 => hh (i + 1) v v' (by simpa using h1) (by simpa using h2))
theorem LRel.append {p : Ren} : ∀ {l l' m m' : List Value}, LRel p l l' → LRel p m m' → LRel p (l ++ m) (l' ++ m')
  | _, _, _, _, .nil, h => h
  | _, _, _, _, .cons _ _ _ _ hv hl, h => .cons _ _ _ _ hv (hl.append h)

mutual
theorem VRel.mono {p q : Ren} (h : p.le q) : ∀ {v v' : Value}, VRel p v v' → VRel q v v'
  | _, _, .bool b => .bool b
  | _, _, .int k n => .int k n
  | _, _, .float k n => .float k n
  | _, _, .complex k n m => .complex k n m
  | _, _, .string s => .string s
  | _, _, .ptrNil => .ptrNil
  | _, _, .ptr b b' x o hb => .ptr b b' x o (h _ _ hb)
  | _, _, .sliceNil n c => .sliceNil n c
  | _, _, .slice b b' x o n c c' hb hc hx => .slice b b' x o n c c' (h _ _ hb) hc hx
  | _, _, .mapNil => .mapNil
  | _, _, .map b b' x hb => .map b b' x (h _ _ hb)
  | _, _, .chanNil => .chanNil
  | _, _, .func fn x x' c c' h1 h2 => .func fn x x' c c' (h1.mono h) (h2.mono h)
  | _, _, .nilFunc => .nilFunc
  | _, _, .iface t v v' hv => .iface t v v' (hv.mono h)
  | _, _, .nilIface => .nilIface
  | _, _, .agg x x' hx => .agg x x' (hx.mono h)
  | _, _, .tuple x x' hx => .tuple x x' (hx.mono h)
theorem LRel.mono {p q : Ren} (h : p.le q) : ∀ {l l' : List Value}, LRel p l l' → LRel q l l'
  | _, _, .nil => .nil
  | _, _, .cons v v' l l' hv hl => .cons v v' l l' (hv.mono h) (hl.mono h)
end

/-- Values without addresses: they are related to themselves alone. -/
def flat0 : Value → Bool
  | .bool _ | .int .. | .float .. | .complex .. | .string _ | .pointer none | .slice none _ _ | .map none | .chan none | .nilFunc | .nilIface => true
  | _ => false
def flatL (l : List Value) : Bool := match l with
  | [] => true
  | v :: l => flat0 v && flatL l
def flat1 : Value → Bool
  | .agg x | .tuple x => flatL x.toList
  | .func (.func _) x c => x.toList.isEmpty && c.toList.isEmpty
  | v => flat0 v
def flat : Value → Bool
  | .iface _ v => flat1 v
  | v => flat1 v

theorem flat0_eq {p : Ren} {v v' : Value} (h : flat0 v = true) (r : VRel p v v') : v' = v := by
  cases r <;> simp_all [flat0]
theorem flat0_rel (p : Ren) {v : Value} (h : flat0 v = true) : VRel p v v := by
  cases v with
  | pointer a => cases a with | none => exact .ptrNil | some a => simp [flat0] at h
  | slice a n c => cases a with | none => exact .sliceNil _ _ | some a => simp [flat0] at h
  | map a => cases a with | none => exact .mapNil | some a => simp [flat0] at h
  | chan a => cases a with | none => exact .chanNil | some a => simp [flat0] at h
  | _ => first | (simp [flat0] at h; done) | constructor
theorem flatL_eq {p : Ren} {l l' : List Value} (h : flatL l = true) (r : LRel p l l') : l' = l := by
  induction l generalizing l' with
  | nil => cases r; rfl
  | cons v l ih =>
    cases r with
    | cons _ v' _ l' hv hl =>
      simp only [flatL, Bool.and_eq_true] at h
      rw [flat0_eq h.1 hv, ih h.2 hl]
theorem flatL_rel (p : Ren) : ∀ {l : List Value}, flatL l = true → LRel p l l
  | [], _ => .nil
  | v :: l, h => by
    simp only [flatL, Bool.and_eq_true] at h
    exact .cons _ _ _ _ (flat0_rel p h.1) (flatL_rel p h.2)
theorem flat1_eq {p : Ren} {v v' : Value} (h : flat1 v = true) (r : VRel p v v') : v' = v := by
  cases r with
  | agg x x' hx =>
    have := flatL_eq (by simpa [flat1] using h) hx
    exact congrArg Value.agg (Array.toList_inj.1 this)
  | tuple x x' hx =>
    have := flatL_eq (by simpa [flat1] using h) hx
    exact congrArg Value.tuple (Array.toList_inj.1 this)
  | func fn x x' c c' h1 h2 =>
    cases fn with
    | func f =>
      simp only [flat1, Bool.and_eq_true, List.isEmpty_iff] at h
      rw [h.1] at h1
      rw [h.2] at h2
      have e1 : x'.toList = [] := by cases h1' : x'.toList <;> simp_all <;> cases h1
      have e2 : c'.toList = [] := by cases h2' : c'.toList <;> simp_all <;> cases h2
      rw [Array.toList_inj.1 (h.1.trans e1.symm), Array.toList_inj.1 (h.2.trans e2.symm)]
    | _ => simp [flat1, flat0] at h
  | _ => first | rfl | (simp [flat1, flat0] at h)
theorem flat1_rel (p : Ren) {v : Value} (h : flat1 v = true) : VRel p v v := by
  cases v with
  | agg x => exact .agg _ _ (flatL_rel p (by simpa [flat1] using h))
  | tuple x => exact .tuple _ _ (flatL_rel p (by simpa [flat1] using h))
  | func fn x c =>
    cases fn with
    | func f =>
      simp only [flat1, Bool.and_eq_true, List.isEmpty_iff] at h
      exact .func _ _ _ _ _ (by rw [h.1]; exact .nil) (by rw [h.2]; exact .nil)
    | _ => simp [flat1, flat0] at h
  | _ => exact flat0_rel p (by simpa [flat1] using h)
theorem flat_eq {p : Ren} {v v' : Value} (h : flat v = true) (r : VRel p v v') : v' = v := by
  cases r with
  | iface t u u' hu => rw [flat1_eq (by simpa [flat] using h) hu]
  | _ => first | rfl | exact flat1_eq (p := p) (by simpa [flat] using h) (by constructor <;> assumption)
theorem flat_rel (p : Ren) {v : Value} (h : flat v = true) : VRel p v v := by
  cases v with
  | iface t u => exact .iface _ _ _ (flat1_rel p (by simpa [flat] using h))
  | _ => exact flat1_rel p (by simpa [flat] using h)

end Go.Den
