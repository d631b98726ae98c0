/- A verified abstract interpreter, part G: regions that draw their order. -/
import Derived.Test.YtogidacejbjljaaGreatDoorDenF
set_option linter.unusedVariables false
set_option linter.unusedSimpArgs false
namespace Go.Den
open Go.RowKit

/-! ### values compared -/
def eqAd (a b : Addr) : Bool := Nat.beq a.block b.block && Nat.beq a.off b.off && (match a.spot, b.spot with | none, none => true | _, _ => false)
def eqAo : Option Addr → Option Addr → Bool
  | none, none => true
  | some a, some b => eqAd a b
  | _, _ => false
def eqK (a b : IntKind) : Bool := a == b
def eqB : List UInt8 → List UInt8 → Bool
  | [], [] => true
  | a :: l, b :: m => Nat.beq a.toNat b.toNat && eqB l m
  | _, _ => false
def eqI : Int → Int → Bool
  | .ofNat a, .ofNat b => Nat.beq a b
  | .negSucc a, .negSucc b => Nat.beq a b
  | _, _ => false
def eqV0 (a b : Value) : Bool :=
  match a with
  | .bool x => (match b with | .bool y => (x && y) || (!x && !y) | _ => false)
  | .int k x => (match b with | .int j y => eqK k j && eqI x y | _ => false)
  | .string x => (match b with | .string y => eqB x.data.toList y.data.toList | _ => false)
  | .pointer x => (match b with | .pointer y => eqAo x y | _ => false)
  | .slice x n c => (match b with | .slice y m d => eqAo x y && Nat.beq n m && Nat.beq c d | _ => false)
  | .nilFunc => (match b with | .nilFunc => true | _ => false)
  | .nilIface => (match b with | .nilIface => true | _ => false)
  | _ => false
def eqL0 : List Value → List Value → Bool
  | [], [] => true
  | a :: l, b :: m => eqV0 a b && eqL0 l m
  | _, _ => false
def eqF (a b : Fn) : Bool := match a with | .func f => (match b with | .func g => Nat.beq f g | _ => false) | _ => false
def eqV1 (a b : Value) : Bool :=
  match a with
  | .agg x => (match b with | .agg y => eqL0 x.toList y.toList | _ => false)
  | .tuple x => (match b with | .tuple y => eqL0 x.toList y.toList | _ => false)
  | .func f x c => (match b with | .func g y d => eqF f g && eqL0 x.toList y.toList && eqL0 c.toList d.toList | _ => false)
  | v => eqV0 v b
def eqV (a b : Value) : Bool :=
  match a with
  | .iface t v => (match b with | .iface u w => Nat.beq t u && eqV1 v w | _ => false)
  | v => eqV1 v b

theorem eqAo_eq {a b : Option Addr} (h : eqAo a b = true) : a = b := by
  cases a with
  | none => cases b with | none => rfl | some b => simp [eqAo] at h
  | some a =>
    cases b with
    | none => simp [eqAo] at h
    | some b =>
      obtain ⟨a1, a2, a3⟩ := a
      obtain ⟨b1, b2, b3⟩ := b
      simp only [eqAo, eqAd, Bool.and_eq_true] at h
      obtain ⟨⟨h1, h2⟩, h3⟩ := h
      have h1 := Nat.eq_of_beq_eq_true h1
      have h2 := Nat.eq_of_beq_eq_true h2
      subst h1 h2
      cases a3 <;> cases b3 <;> first | rfl | contradiction
theorem eqB_eq : ∀ {l m : List UInt8}, eqB l m = true → l = m
  | [], [], _ => rfl
  | [], _ :: _, h => by simp [eqB] at h
  | _ :: _, [], h => by simp [eqB] at h
  | a :: l, b :: m, h => by
    simp only [eqB, Bool.and_eq_true] at h
    rw [UInt8.toNat_inj.1 (Nat.eq_of_beq_eq_true h.1), eqB_eq h.2]
theorem eqI_eq {a b : Int} (h : eqI a b = true) : a = b := by
  cases a <;> cases b <;> simp only [eqI] at h <;> first | contradiction | rw [Nat.eq_of_beq_eq_true h]
theorem eqV0_eq {a b : Value} (h : eqV0 a b = true) : a = b := by
  cases a with
  | bool x => cases b <;> simp only [eqV0] at h <;> first | contradiction | (rename_i y; cases x <;> cases y <;> first | rfl | contradiction)
  | int k x =>
    cases b <;> simp only [eqV0] at h <;> first | contradiction | skip
    rw [Bool.and_eq_true] at h
    rw [kind_eq h.1, eqI_eq h.2]
  | string x =>
    cases b <;> simp only [eqV0] at h <;> first | contradiction | skip
    rename_i y
    exact congrArg Value.string (ByteArray.ext (Array.toList_inj.1 (eqB_eq h)))
  | pointer x =>
    cases b <;> simp only [eqV0] at h <;> first | contradiction | skip
    rw [eqAo_eq h]
  | slice x n c =>
    cases b <;> simp only [eqV0] at h <;> first | contradiction | skip
    rw [Bool.and_eq_true, Bool.and_eq_true] at h
    rw [eqAo_eq h.1.1, Nat.eq_of_beq_eq_true h.1.2, Nat.eq_of_beq_eq_true h.2]
  | nilFunc => cases b <;> simp only [eqV0] at h <;> first | rfl | contradiction
  | nilIface => cases b <;> simp only [eqV0] at h <;> first | rfl | contradiction
  | _ => simp [eqV0] at h
theorem eqL0_eq : ∀ {l m : List Value}, eqL0 l m = true → l = m
  | [], [], _ => rfl
  | [], _ :: _, h => by simp [eqL0] at h
  | _ :: _, [], h => by simp [eqL0] at h
  | a :: l, b :: m, h => by
    simp only [eqL0, Bool.and_eq_true] at h
    rw [eqV0_eq h.1, eqL0_eq h.2]
theorem eqV1_eq {a b : Value} (h : eqV1 a b = true) : a = b := by
  cases a with
  | agg x => cases b <;> simp only [eqV1] at h <;> first | contradiction | rw [Array.toList_inj.1 (eqL0_eq h)]
  | tuple x => cases b <;> simp only [eqV1] at h <;> first | contradiction | rw [Array.toList_inj.1 (eqL0_eq h)]
  | func f x c =>
    cases b <;> simp only [eqV1] at h <;> first | contradiction | skip
    rename_i g y d
    rw [Bool.and_eq_true, Bool.and_eq_true] at h
    have e1 : f = g := by
      cases f <;> simp only [eqF, Bool.false_and] at h <;> first | (have h0 := h.1.1; contradiction) | skip
      cases g <;> first | (have h0 := h.1.1; contradiction) | rw [Nat.eq_of_beq_eq_true h.1.1]
    rw [e1, Array.toList_inj.1 (eqL0_eq h.1.2), Array.toList_inj.1 (eqL0_eq h.2)]
  | _ => exact eqV0_eq (by simpa [eqV1] using h)
theorem eqV_eq {a b : Value} (h : eqV a b = true) : a = b := by
  cases a with
  | iface t v =>
    cases b <;> simp only [eqV] at h <;> first | contradiction | skip
    rw [Bool.and_eq_true] at h
    rw [Nat.eq_of_beq_eq_true h.1, eqV1_eq h.2]
  | _ => exact eqV1_eq (by simpa [eqV] using h)

/-! ### the run in the text's order, recorded -/
def hasT (i : Tmp) : List Tmp → Bool
  | [] => false
  | j :: l => Nat.beq i j || hasT i l
theorem hasT_mem {i : Tmp} {l : List Tmp} : hasT i l = true ↔ i ∈ l := by
  induction l with
  | nil => simp [hasT]
  | cons j l ih =>
    simp only [hasT, Bool.or_eq_true, ih, List.mem_cons]
    constructor
    · rintro (h | h)
      · exact .inl (Nat.eq_of_beq_eq_true h)
      · exact .inr h
    · rintro (h | h)
      · subst h; exact .inl (Nat.beq_refl _)
      · exact .inr h

/-- The temporaries that an operation and its guard look at. -/
def looks (ops : Array Oper) (o : Oper) : List Tmp :=
  (o.op.operands.toList.filterMap fun | .tmp t => some t | _ => none) ++
    (match o.guard with | some (j, _) => (match ops[j]? with | some g => g.dst.toList | none => []) | none => [])
def evR (ops : Array Oper) (o : Oper) (t : Trie Value) (s : St) : Ev := fun x =>
  match x with
  | .tmp i => bif hasT i (looks ops o) then ev t s x else none
  | x => ev t s x

structure Rec where
  o : Oper
  t : Trie Value
  s : St
  s' : St
  want : Bool
  eff : Bool
  v : Value

def evalE (P : Program) (C : Cfg) (call : CallFn) (e : Ev) (s : St) (o : Oper) : Option (Value × St) :=
  match effA P C e s o with
  | some (.val v, s') => some (v, s')
  | some (.call f args, s1) => match call f args s1 with
    | some (.ret v, s2) => some (v, s2)
    | _ => none
  | _ => none

def recOne (P : Program) (C : Cfg) (call : CallFn) (ops : Array Oper) (o : Oper) (t : Trie Value) (s : St) : Option Rec :=
  bif wantA ops t o then
    match pureA P (evR ops o t s) s o with
    | some v => some { o, t, s, s' := s, want := true, eff := false, v }
    | none => match evalE P C call (evR ops o t s) s o with
      | some (v, s') => some { o, t, s, s', want := true, eff := true, v }
      | none => none
  else some { o, t, s, s' := s, want := false, eff := false, v := undef }

def canon (P : Program) (C : Cfg) (call : CallFn) (n : Nat) (ops : Array Oper) : List Oper → Trie Value → St → Option (List Rec × Trie Value × St)
  | [], t, s => some ([], t, s)
  | o :: l, t, s => match recOne P C call ops o t s with
    | none => none
    | some r => match putT n t o.dst r.v with
      | none => none
      | some t' => match canon P C call n ops l t' r.s' with
        | none => none
        | some (rs, tf, sf) => some (r :: rs, tf, sf)

/-- Before each operation: which others must have come, as bits. -/
def befOf (bs : List Nat) : List Edge → Nat
  | [] => 0
  | e :: l => bif Region.binds .any e then (2 ^ e.on ||| (bs.getD e.on 0) ||| befOf bs l) else befOf bs l
def befs : List Oper → List Nat → List Nat
  | [], bs => bs
  | o :: l, bs => befs l (bs ++ [befOf bs o.after.toList])
def bit (b j : Nat) : Bool := Nat.beq (b / 2 ^ j % 2) 1

end Go.Den
