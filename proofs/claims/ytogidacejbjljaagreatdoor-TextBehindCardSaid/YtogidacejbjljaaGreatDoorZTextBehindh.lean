/- Lemmas on the way to the card of TextBehind, joined from: TDraw TRNorm TOwn BLine BKeep BFlush BBroken BRef BRows BBreak BRBreak BWSpec LSort LSpec LApart LLine LMem LOv LBlk LIdx. Conditions: as each lemma says. -/
import Derived.Still
import Derived.KernelRfl
import Derived.WalkKit
import Derived.Below
import Derived.Outline
import Derived.Test.YtogidacejbjljaaGreatDoorZTextBehindg
import Derived.ArgAppend
import Derived.Deep.Slices
import Derived.BigQuiet
import Derived.BigGuard
import Derived.Deep.QuietTactic
section
/- Regions that draw their order: one walk of the text's order serves, if the operations that touch memory wait for each other and all others yield one value in every world of a class. -/
set_option linter.unusedVariables false
set_option linter.unusedSimpArgs false
namespace Go.Mix
open Go.RowKit
section
variable {P : Program} {ops : Array Oper} {md : Region.Mode} {C : World → Prop} {E : Nat → Bool} {Q : Act → World → Prop} {L : Nat}

/-- What an operation that touches memory comes to. -/
def effUpon (P : Program) (R : Value → World → Prop) : Result Next → Prop
 | .ok (.value u) w' => R u w'
 | .ok .skip w' => R undef w'
 | .ok (.enter f args) w' => Calls P f args w' (fun e w'' => ∃ v, e = .returned v ∧ R v w'')
 | _ => False
def eff (P : Program) (o : Oper) (a : Act) (w : World) (R : Value → World → Prop) : Prop := effUpon P R ((execOp a.eval o).run P w)
theorem effUpon_mono {R R' : Value → World → Prop} (h : ∀ v w, R v w → R' v w) : ∀ {r : Result Next}, effUpon P R r → effUpon P R' r := by
 intro r hr
 cases r with
 | ok n w' =>
  cases n <;> simp only [effUpon] at hr ⊢
  case value u => exact h _ _ hr
  case skip => exact h _ _ hr
  case enter f args => exact hr.mono fun e w'' ⟨v, he, hv⟩ => ⟨v, he, h _ _ hv⟩
 | halt x w' => simp only [effUpon] at hr
theorem eff_mono {o : Oper} {a : Act} {w : World} {R R' : Value → World → Prop} (h : ∀ v w, R v w → R' v w) (hr : eff P o a w R) : eff P o a w R' := effUpon_mono h hr
theorem eff_out {o : Oper} {a : Act} {w : World} {R : Value → World → Prop} (hr : eff P o a w R) : ∃ v w', R v w' := by
 unfold eff at hr
 generalize (execOp a.eval o).run P w = r at hr
 cases r with
 | ok n w' =>
  cases n <;> simp only [effUpon] at hr
  case value u => exact ⟨_, _, hr⟩
  case skip => exact ⟨_, _, hr⟩
  case enter f args =>
   obtain ⟨e, w'', fr, ⟨v, _, hv⟩, _⟩ := hr []
   exact ⟨v, w'', hv⟩
 | halt x w' => simp only [effUpon] at hr

def mStep (P : Program) (ops : Array Oper) (C : World → Prop) (b : Bool) (o : Oper) (K : Act → World → Prop) (a : Act) (w : World) : Prop :=
 if Region.wanted o (yielded ops a.tmps) then
  (if b then eff P o a w (fun v w' => C w' ∧ K (a.put o.dst v) w') else ∃ v, (∀ w', C w' → (execOp a.eval o).run P w' = .ok (.value v) w') ∧ K (a.put o.dst v) w)
 else K (a.put o.dst undef) w
theorem mStep_mono {b : Bool} {o : Oper} {K K' : Act → World → Prop} {a : Act} {w : World} (hC : C w) (h : ∀ a w, C w → K a w → K' a w) (hs : mStep P ops C b o K a w) : mStep P ops C b o K' a w := by
 unfold mStep at *
 split
 ·rename_i hw
  rw [if_pos hw] at hs
  cases b with
  | true => exact eff_mono (fun v w' hv => ⟨hv.1, h _ _ hv.1 hv.2⟩) hs
  | false => obtain ⟨v, h1, h2⟩ := hs; exact ⟨v, h1, h _ _ hC h2⟩
 ·rename_i hw
  rw [if_neg hw] at hs
  exact h _ _ hC hs
def mOp (P : Program) (ops : Array Oper) (C : World → Prop) (E : Nat → Bool) (i : Nat) (K : Act → World → Prop) (a : Act) (w : World) : Prop :=
 match ops[i]? with
 | none => K a w
 | some o => mStep P ops C (E i) o K a w
/-- THE WALK OF THE TEXT's ORDER. -/
def wpMix (P : Program) (ops : Array Oper) (C : World → Prop) (E : Nat → Bool) (Q : Act → World → Prop) : Nat → List Oper → Act → World → Prop
 | _, [], a, w => Q a w
 | k, o :: l, a, w => mStep P ops C (E k) o (wpMix P ops C E Q (k + 1) l) a w

/-- Nothing but number L may come up. -/
def Only (md : Region.Mode) (ops : Array Oper) (L : Nat) (listed : Array Bool) : Prop := ∀ j ∈ Region.ready md ops listed, j = L
/-- Whatever order is picked, until nothing but number L may come up. -/
def wpAnyM (P : Program) (md : Region.Mode) (ops : Array Oper) (C : World → Prop) (E : Nat → Bool) (Q : Act → World → Prop) (L : Nat) : Nat → Array Bool → Act → World → Prop
 | 0, listed, a, w => Only md ops L listed ∧ Q a w
 | fuel + 1, listed, a, w => (Only md ops L listed → Q a w) ∧ ∀ i ∈ Region.ready md ops listed, i ≠ L → mOp P ops C E i (wpAnyM P md ops C E Q L fuel (listed.setIfInBounds i true)) a w

theorem wpOp_of_mOp {i : Nat} {a : Act} {w : World} {K K' : Act → World → Prop} {Q' : Exit → Act → World → Prop} (hC : C w) (h : ∀ a w, C w → K a w → K' a w) (hh : mOp P ops C E i K a w) : wpOp P ops Q' i K' a w := by
 unfold mOp at hh
 unfold wpOp
 split
 ·rename_i ho; simp only [ho] at hh; exact h _ _ hC hh
 ·rename_i o ho
  simp only [ho] at hh
  unfold mStep at hh
  split
  ·rename_i hw
   rw [if_pos hw] at hh
   refine .inl ?_
   unfold Oper.wp
   cases hE : E i with
   | true =>
    rw [hE] at hh
    simp only [if_true] at hh
    unfold eff at hh
    generalize (execOp a.eval o).run P w = r at hh
    cases r with
    | ok n w' =>
     cases n <;> simp only [effUpon] at hh <;> simp only [Oper.upon]
     case value u => exact h _ _ hh.1 hh.2
     case skip => exact h _ _ hh.1 hh.2
     case enter f args => exact hh.mono fun e w'' ⟨v, he, hv⟩ => by subst he; exact h _ _ hv.1 hv.2
    | halt x w' => simp only [effUpon] at hh
   | false =>
    rw [hE] at hh
    simp only [Bool.false_eq_true, if_false] at hh
    obtain ⟨v, h1, h2⟩ := hh
    rw [h1 w hC, Oper.upon_value]
    exact h _ _ hC h2
  ·rename_i hw
   rw [if_neg hw] at hh
   exact h _ _ hC hh
theorem wpOp_mono' {Q' : Exit → Act → World → Prop} {i : Nat} {K K' : Act → World → Prop} {a : Act} {w : World} (h : ∀ a w, K a w → K' a w) (hh : wpOp P ops Q' i K a w) : wpOp P ops Q' i K' a w := by
 unfold wpOp at *
 split
 ·rename_i ho; simp only [ho] at hh; exact h _ _ hh
 ·rename_i o ho
  simp only [ho] at hh
  split
  ·rename_i hw
   rw [if_pos hw] at hh
   exact hh.imp (fun h' => Oper.wp_mono h h') id
  ·rename_i hw
   rw [if_neg hw] at hh
   exact h _ _ hh
theorem mOp_mono {i : Nat} {K K' : Act → World → Prop} {a : Act} {w : World} (hC : C w) (h : ∀ a w, C w → K a w → K' a w) (hs : mOp P ops C E i K a w) : mOp P ops C E i K' a w := by
 unfold mOp at *
 split
 ·rename_i ho; simp only [ho] at hs; exact h _ _ hC hs
 ·rename_i o ho; simp only [ho] at hs; exact mStep_mono hC h hs

/-- In state a the operation yields v in every world of the class, and touches nothing; or it is passed over. -/
def Yields (P : Program) (ops : Array Oper) (C : World → Prop) (o : Oper) (v : Value) (a : Act) : Prop :=
 (Region.wanted o (yielded ops a.tmps) = true ∧ ∀ w, C w → (execOp a.eval o).run P w = .ok (.value v) w) ∨ (Region.wanted o (yielded ops a.tmps) = false ∧ v = undef)
theorem Yields.of_same {o : Oper} {v : Value} {a a' : Act} (hy : Yields P ops C o v a) (he : execOp a'.eval o = execOp a.eval o)
  (hw : Region.wanted o (yielded ops a'.tmps) = Region.wanted o (yielded ops a.tmps)) : Yields P ops C o v a' := by
 unfold Yields at *
 rw [he, hw]
 exact hy
theorem mOp_put {j : Nat} {oi oj : Oper} {v : Value} (hj : ops[j]? = some oj) (hap : oi.apart ops oj = true) (hsi : ∀ cs b, oi.op ≠ .select cs b) (hsj : ∀ cs b, oj.op ≠ .select cs b)
  {K : Act → World → Prop} {a : Act} {w : World} (hy : Yields P ops C oi v a) (h : mOp P ops C E j K (a.put oi.dst v) w) :
  mOp P ops C E j (fun a' w' => Yields P ops C oi v a' ∧ K (a'.put oi.dst v) w') a w := by
 obtain ⟨h1, h2, h3⟩ := Oper.apart_spec hap
 have keep : ∀ u, Yields P ops C oi v (a.put oj.dst u) := fun u => hy.of_same (execOp_put oi hsi a oj.dst u h3) (wanted_put oi a oj.dst u h3)
 unfold mOp at *
 simp only [hj] at *
 unfold mStep at *
 rw [wanted_put oj a oi.dst v h1] at h
 split
 ·rename_i hw
  rw [if_pos hw] at h
  cases hE : E j with
  | true =>
   rw [hE] at h
   simp only [if_true] at h ⊢
   unfold eff at h
   rw [execOp_put oj hsj a oi.dst v h1] at h
   exact eff_mono (fun u w' hu => ⟨hu.1, keep u, by rw [← Act.put_comm a v u h2]; exact hu.2⟩) h
  | false =>
   rw [hE] at h
   simp only [Bool.false_eq_true, if_false] at h ⊢
   obtain ⟨u, hu, hn⟩ := h
   exact ⟨u, fun w' hw' => by have := hu w' hw'; rwa [execOp_put oj hsj a oi.dst v h1] at this, keep u, by rw [← Act.put_comm a v u h2]; exact hn⟩
 ·rename_i hw
  rw [if_neg hw] at h
  exact ⟨keep _, by rw [← Act.put_comm a v undef h2]; exact h⟩
theorem Yields.mOp {i : Nat} {o : Oper} {v : Value} {a : Act} {w : World} (hi : ops[i]? = some o) (hE : Region.wanted o (yielded ops a.tmps) = true → E i = false) (hC : C w) (hy : Yields P ops C o v a) {K : Act → World → Prop} (h : K (a.put o.dst v) w) : mOp P ops C E i K a w := by
 unfold Mix.mOp
 simp only [hi]
 unfold mStep
 rcases hy with ⟨hw, hv⟩ | ⟨hw, rfl⟩
 ·rw [if_pos hw, hE hw]; exact ⟨v, hv, h⟩
 ·rw [if_neg (by rw [hw]; exact Bool.false_ne_true)]; exact h

/-- An operation that yields one value may be taken first. -/
theorem first_pure {i : Nat} {oi : Oper} {v : Value} (hiL : i ≠ L) (hi : ops[i]? = some oi) (hsel : ∀ (j : Nat) (o : Oper) cs b, ops[j]? = some o → o.op ≠ .select cs b) :
  ∀ (fuel : Nat) (listed : Array Bool) (a : Act) (w : World), C w → (Region.wanted oi (yielded ops a.tmps) = true → E i = false) →
   (∀ j oj, ops[j]? = some oj → j ≠ i → listed.getD j true = false → (∀ e ∈ oj.after, Region.binds md e = true → e.on ≠ i) → oi.apart ops oj = true) →
   i ∈ Region.ready md ops listed → Yields P ops C oi v a →
   wpAnyM P md ops C E Q L fuel (listed.setIfInBounds i true) (a.put oi.dst v) w → wpAnyM P md ops C E Q L (fuel + 1) listed a w := by
 intro fuel
 induction fuel with
 | zero =>
  intro listed a w hC hE _ hr hy H
  refine ⟨fun h => absurd (h i hr) hiL, fun j hj hjL => ?_⟩
  by_cases hji : j = i
  ·subst hji; exact hy.mOp hi hE hC H
  ·exact absurd (H.1 j (ready_mono hj hji)) hjL
 | succ fuel ih =>
  intro listed a w hC hE hfree hr hy H
  refine ⟨fun h => absurd (h i hr) hiL, fun j hj hjL => ?_⟩
  by_cases hji : j = i
  ·subst hji; exact hy.mOp hi hE hC H
  ·have h1 := H.2 j (ready_mono hj hji) hjL
   obtain ⟨hjun, oj, hoj, hall⟩ := mem_ready.1 hj
   have hnot : ∀ e ∈ oj.after, Region.binds md e = true → e.on ≠ i := fun e he hb heq => by
    have h1 := hall e he hb
    have h0 := (mem_ready.1 hr).1
    rw [heq] at h1
    rcases Nat.lt_or_ge i listed.size with h' | h'
    ·simp [h'] at h0 h1; rw [h0] at h1; cases h1
    ·simp [Array.getElem?_eq_none h'] at h1
   have hap := hfree j oj hoj hji hjun hnot
   have h2 := mOp_put hoj hap (fun cs b => hsel i oi cs b hi) (fun cs b => hsel j oj cs b hoj) hy h1
   have hfree' : ∀ k ok, ops[k]? = some ok → k ≠ i → (listed.setIfInBounds j true).getD k true = false →
     (∀ e ∈ ok.after, Region.binds md e = true → e.on ≠ i) → oi.apart ops ok = true := fun k ok hk hki hun hno => by
    refine hfree k ok hk hki ?_ hno
    by_cases hjk : j = k
    ·subst hjk; exact hjun
    ·rw [getD_set_ne true hjk] at hun; exact hun
   refine mOp_mono hC (K := fun a' w' => (Region.wanted oi (yielded ops a'.tmps) = true → E i = false) ∧ Yields P ops C oi v a' ∧ wpAnyM P md ops C E Q L fuel ((listed.setIfInBounds i true).setIfInBounds j true) (a'.put oi.dst v) w')
    (fun a' w' hw' h3 => ih (listed.setIfInBounds j true) a' w' hw' h3.1 hfree' (ready_mono hr (Ne.symm hji)) h3.2.1 ?_) ?_
   ·rw [Array.setIfInBounds_comm _ _ hji]
    exact h3.2.2
   ·have hwp : ∀ u, Region.wanted oi (yielded ops (a.put oj.dst u).tmps) = Region.wanted oi (yielded ops a.tmps) := fun u => wanted_put oi a oj.dst u (Oper.apart_spec hap).2.2
    unfold Mix.mOp at h2 ⊢
    simp only [hoj] at h2 ⊢
    unfold mStep at h2 ⊢
    split
    ·rename_i hw
     rw [if_pos hw] at h2
     cases hEj : E j with
     | true =>
      rw [hEj] at h2
      simp only [if_true] at h2 ⊢
      exact eff_mono (fun u w' hu => ⟨hu.1, by rw [hwp]; exact hE, hu.2⟩) h2
     | false =>
      rw [hEj] at h2
      simp only [Bool.false_eq_true, if_false] at h2 ⊢
      obtain ⟨u, hu, hn⟩ := h2
      exact ⟨u, hu, by rw [hwp]; exact hE, hn⟩
    ·rename_i hw
     rw [if_neg hw] at h2
     exact ⟨by rw [hwp]; exact hE, h2⟩

/-! ### what waits -/
def waitB (md : Region.Mode) (ops : Array Oper) (k : Nat) : Nat → Nat → Bool
 | 0, _ => false
 | f + 1, j => match ops[j]? with
  | some o => o.after.any fun e => Region.binds md e && (e.on == k || waitB md ops k f e.on)
  | none => false
def Closed (md : Region.Mode) (ops : Array Oper) (listed : Array Bool) : Prop := ∀ m o, ops[m]? = some o → listed.getD m false = true → ∀ e ∈ o.after, Region.binds md e = true → listed.getD e.on false = true
theorem getD_false {listed : Array Bool} {k : Nat} (h : listed.getD k true = false) : ¬ listed.getD k false = true := by
 intro h'
 rcases Nat.lt_or_ge k listed.size with hk | hk
 ·simp [hk] at h h'; rw [h] at h'; cases h'
 ·simp [Array.getElem?_eq_none hk] at h'
theorem waits_step' {k : Nat} {listed : Array Bool} (hc : Closed md ops listed) (hk : ¬ listed.getD k false = true) : ∀ (f j : Nat) (o : Oper), ops[j]? = some o → waitB md ops k f j = true → ¬ ∀ e ∈ o.after, Region.binds md e = true → listed.getD e.on false = true
 | 0, _, _, _, h => by simp [waitB] at h
 | f + 1, j, o, ho, h => by
  intro hall
  unfold waitB at h
  simp only [ho] at h
  obtain ⟨e, he, hb⟩ := Array.any_eq_true'.1 h
  rw [Bool.and_eq_true, Bool.or_eq_true] at hb
  have hl := hall e he hb.1
  rcases hb.2 with h1 | h1
  ·rw [beq_iff_eq] at h1
   rw [h1] at hl
   exact hk hl
  ·cases f with
   | zero => simp [waitB] at h1
   | succ f =>
    cases hm : ops[e.on]? with
    | none => unfold waitB at h1; simp [hm] at h1
    | some om => exact waits_step' hc hk (f + 1) e.on om hm h1 (hc e.on om hm hl)
/-- While k is not done, j cannot be taken. -/
def Waits (md : Region.Mode) (ops : Array Oper) (k j : Nat) : Prop := ∀ listed : Array Bool, Closed md ops listed → ¬ listed.getD k false = true → ∀ o, ops[j]? = some o → ¬ ∀ e ∈ o.after, Region.binds md e = true → listed.getD e.on false = true
theorem waits_ready {k j : Nat} {listed : Array Bool} (hc : Closed md ops listed) (hk : listed.getD k true = false) (hw : Waits md ops k j) : j ∉ Region.ready md ops listed := by
 intro hr
 obtain ⟨_, o, ho, hall⟩ := mem_ready.1 hr
 exact hw listed hc (getD_false hk) o ho hall
theorem Closed.set {listed : Array Bool} (hc : Closed md ops listed) {i : Nat} (hr : i ∈ Region.ready md ops listed) : Closed md ops (listed.setIfInBounds i true) := by
 obtain ⟨_, oi, hoi, hall⟩ := mem_ready.1 hr
 intro m o ho hm e he hb
 by_cases h : i = m
 ·subst h
  rw [hoi] at ho
  injection ho with ho
  subst ho
  exact getD_set_true (hall e he hb)
 ·rw [getD_set_ne false h] at hm
  exact getD_set_true (hc m o ho hm e he hb)

/-- An operation that touches memory may be taken first, if whatever else touches memory waits for it. -/
theorem first_eff {k : Nat} {ok : Oper} (hkL : k ≠ L) (hk : ops[k]? = some ok) (hEk : E k = true) (hsel : ∀ (j : Nat) (o : Oper) cs b, ops[j]? = some o → o.op ≠ .select cs b) :
  ∀ (fuel : Nat) (listed : Array Bool) (a : Act) (w : World), C w → Region.wanted ok (yielded ops a.tmps) = true → Closed md ops listed →
   (∀ j, j ≠ k → listed.getD j true = false → E j = true → Waits md ops k j) →
   (∀ j oj, ops[j]? = some oj → j ≠ k → listed.getD j true = false → (∀ e ∈ oj.after, Region.binds md e = true → e.on ≠ k) → ok.apart ops oj = true) →
   k ∈ Region.ready md ops listed → eff P ok a w (fun v w' => C w' ∧ wpAnyM P md ops C E Q L fuel (listed.setIfInBounds k true) (a.put ok.dst v) w') →
   wpAnyM P md ops C E Q L (fuel + 1) listed a w := by
 intro fuel
 induction fuel with
 | zero =>
  intro listed a w hC hw hcl hE hfree hr H
  refine ⟨fun h => absurd (h k hr) hkL, fun j hj hjL => ?_⟩
  by_cases hji : j = k
  ·subst hji
   unfold Mix.mOp
   simp only [hk]
   unfold mStep
   rw [if_pos hw, hEk]
   exact H
  ·obtain ⟨v, w', _, h⟩ := eff_out H
   exact absurd (h.1 j (ready_mono hj hji)) hjL
 | succ fuel ih =>
  intro listed a w hC hw hcl hE hfree hr H
  refine ⟨fun h => absurd (h k hr) hkL, fun j hj hjL => ?_⟩
  by_cases hji : j = k
  ·subst hji
   unfold Mix.mOp
   simp only [hk]
   unfold mStep
   rw [if_pos hw, hEk]
   exact H
  ·obtain ⟨hjun, oj, hoj, hall⟩ := mem_ready.1 hj
   have hkun := (mem_ready.1 hr).1
   have hEj : E j = false := by
    cases he : E j with
    | false => rfl
    | true => exact absurd hj (waits_ready hcl hkun (hE j hji hjun he))
   have hnot : ∀ e ∈ oj.after, Region.binds md e = true → e.on ≠ k := fun e he hb heq => by
    have h1 := hall e he hb
    rw [heq] at h1
    exact getD_false hkun h1
   obtain ⟨h1, h2, h3⟩ := Oper.apart_spec (hfree j oj hoj hji hjun hnot)
   have hE' : ∀ i, i ≠ k → (listed.setIfInBounds j true).getD i true = false → E i = true → Waits md ops k i := fun i hik hun he => by
    refine hE i hik ?_ he
    by_cases hjk : j = i
    ·subst hjk; exact hjun
    ·rw [getD_set_ne true hjk] at hun; exact hun
   have hfree' : ∀ i oi, ops[i]? = some oi → i ≠ k → (listed.setIfInBounds j true).getD i true = false →
     (∀ e ∈ oi.after, Region.binds md e = true → e.on ≠ k) → ok.apart ops oi = true := fun i oi hi hki hun hno => by
    refine hfree i oi hi hki ?_ hno
    by_cases hjk : j = i
    ·subst hjk; exact hjun
    ·rw [getD_set_ne true hjk] at hun; exact hun
   have hw' : ∀ u, Region.wanted ok (yielded ops (a.put oj.dst u).tmps) = true := fun u => by rw [wanted_put ok a oj.dst u h3]; exact hw
   have heff : ∀ u, (execOp (a.put oj.dst u).eval ok) = execOp a.eval ok := fun u => execOp_put ok (fun cs b => hsel k ok cs b hk) a oj.dst u h3
   have hwj : ∀ v, Region.wanted oj (yielded ops (a.put ok.dst v).tmps) = Region.wanted oj (yielded ops a.tmps) := fun v => wanted_put oj a ok.dst v h1
   have hxj : ∀ v, execOp (a.put ok.dst v).eval oj = execOp a.eval oj := fun v => execOp_put oj (fun cs b => hsel j oj cs b hoj) a ok.dst v h1
   have next : ∀ u, (∀ v w', C w' → wpAnyM P md ops C E Q L (fuel + 1) (listed.setIfInBounds k true) (a.put ok.dst v) w' → wpAnyM P md ops C E Q L fuel ((listed.setIfInBounds k true).setIfInBounds j true) ((a.put ok.dst v).put oj.dst u) w') →
     wpAnyM P md ops C E Q L (fuel + 1) (listed.setIfInBounds j true) (a.put oj.dst u) w := fun u hu => by
    refine ih (listed.setIfInBounds j true) (a.put oj.dst u) w hC (hw' u) (hcl.set hj) hE' hfree' (ready_mono hr (Ne.symm hji)) ?_
    unfold eff
    rw [heff u]
    refine eff_mono (fun v w' hv => ⟨hv.1, ?_⟩) H
    have := hu v w' hv.1 hv.2
    rw [Array.setIfInBounds_comm _ _ hji, ← Act.put_comm a v u h2]
    exact this
   obtain ⟨v0, w0, hC0, h0⟩ := eff_out H
   have hj0 := h0.2 j (ready_mono hj hji) hjL
   unfold Mix.mOp at hj0 ⊢
   simp only [hoj] at hj0 ⊢
   unfold mStep at hj0 ⊢
   rw [hwj v0] at hj0
   split
   ·rename_i hwt
    rw [if_pos hwt, hEj] at hj0
    simp only [Bool.false_eq_true, if_false] at hj0
    obtain ⟨u, hu, _⟩ := hj0
    rw [hxj v0] at hu
    rw [hEj]
    simp only [Bool.false_eq_true, if_false]
    refine ⟨u, hu, next u fun v w' hC' hv => ?_⟩
    have hj1 := hv.2 j (ready_mono hj hji) hjL
    unfold Mix.mOp at hj1
    simp only [hoj] at hj1
    unfold mStep at hj1
    rw [hwj v, if_pos hwt, hEj] at hj1
    simp only [Bool.false_eq_true, if_false] at hj1
    obtain ⟨u', hu', hn⟩ := hj1
    rw [hxj v] at hu'
    have e1 := hu w' hC'
    rw [hu' w' hC'] at e1
    injection e1 with e1
    injection e1 with e1
    rw [← e1]
    exact hn
   ·rename_i hwt
    refine next undef fun v w' hC' hv => ?_
    have hj1 := hv.2 j (ready_mono hj hji) hjL
    unfold Mix.mOp at hj1
    simp only [hoj] at hj1
    unfold mStep at hj1
    rw [hwj v, if_neg hwt] at hj1
    exact hj1

/-- Of two operations that touch memory the later one waits for the earlier one. -/
def effOk (md : Region.Mode) (ops : Array Oper) (F : Nat) : List Nat → Bool
 | k :: j :: r => Nat.blt k j && waitB md ops k F j && (ops[j]?).isSome && effOk md ops F (j :: r)
 | _ => true
theorem effOk_head {F : Nat} : ∀ (r : List Nat) (k : Nat), effOk md ops F (k :: r) = true → ∀ j ∈ r, k < j ∧ Waits md ops k j
 | [], _, _ => fun _ hj => absurd hj (by simp)
 | m :: r, k, h => by
  simp only [effOk, Bool.and_eq_true] at h
  obtain ⟨⟨⟨h1, h2⟩, h3⟩, h4⟩ := h
  have hk : k < m := Nat.le_of_ble_eq_true h1
  obtain ⟨om, hom⟩ := Option.isSome_iff_exists.1 h3
  have hw : Waits md ops k m := fun listed hc hu o ho => waits_step' hc hu F m o ho h2
  intro j hj
  rcases List.mem_cons.1 hj with rfl | hj
  ·exact ⟨hk, hw⟩
  ·obtain ⟨h5, h6⟩ := effOk_head r m h4 j hj
   refine ⟨by omega, fun listed hc hu => h6 listed hc fun hm => ?_⟩
   exact hw listed hc hu om hom (hc m om hom hm)
theorem effOk_tail {F : Nat} {k : Nat} {r : List Nat} (h : effOk md ops F (k :: r) = true) : effOk md ops F r = true := by
 cases r with
 | nil => rfl
 | cons m r => simp only [effOk, Bool.and_eq_true] at h; exact h.2
theorem effOk_spec {F : Nat} : ∀ (el : List Nat), effOk md ops F el = true → ∀ k ∈ el, ∀ j ∈ el, j ≤ k ∨ Waits md ops k j
 | [], _, _, hk => absurd hk (by simp)
 | m :: r, h, k, hk => by
  intro j hj
  rcases List.mem_cons.1 hk with rfl | hk'
  ·rcases List.mem_cons.1 hj with rfl | hj'
   ·exact .inl (Nat.le_refl _)
   ·exact .inr (effOk_head r k h j hj').2
  ·rcases List.mem_cons.1 hj with rfl | hj'
   ·exact .inl (Nat.le_of_lt (effOk_head r j h k hk').1)
   ·exact effOk_spec r (effOk_tail h) k hk' j hj'

/-- Every other operation is waited for by number L. -/
def LastWaits (md : Region.Mode) (ops : Array Oper) (L : Nat) : Prop := ∀ i, i ≠ L → i < ops.size → Waits md ops i L
theorem mix_lex {el : List Nat} {F : Nat} (hs : Region.noSelect ops = true) (hF : effOk md ops F el = true) (hEl : ∀ i, E i = true → i ∈ el) (hT : ∀ j o, ops[j]? = some o → L ≤ j → j = L) (m : Nat) :
  ∀ (l : List Oper) (k : Nat) (listed : Array Bool) (a : Act) (w : World), C w → (∀ j, j < l.length → l[j]? = ops[k + j]?) → k + l.length = L →
  Closed md ops listed → (∀ j, listed.getD j true = false → k ≤ j) → Region.lexFrom md ops (l.length + m) k listed = true → wpMix P ops C E Q k l a w → wpAnyM P md ops C E Q L l.length listed a w
 | [], k, _, _, _, _, _, hL, _, hpre, hB, h => ⟨fun j hj => by
   obtain ⟨h1, o, ho, _⟩ := mem_ready.1 hj
   exact hT j o ho (by have := hpre j h1; simp only [List.length_nil] at hL; omega), h⟩
 | o :: l, k, listed, a, w, hC, hl, hL, hcl, hpre, hB, h => by
  have h0 : ops[k]? = some o := by simpa using (hl 0 (by simp)).symm
  simp only [List.length_cons] at hL
  rw [List.length_cons, Nat.add_right_comm] at hB
  simp only [Region.lexFrom, Bool.and_eq_true] at hB
  obtain ⟨⟨hr, hf⟩, hB'⟩ := hB
  have hr' : k ∈ Region.ready md ops listed := by simpa using hr
  have hkL : k ≠ L := by omega
  have hl' : ∀ j, j < l.length → l[j]? = ops[k + 1 + j]? := fun j hj => by have := hl (j + 1) (by simp only [List.length_cons]; omega); simpa [Nat.add_assoc, Nat.add_comm 1 j] using this
  have hpre' : ∀ j, (listed.setIfInBounds k true).getD j true = false → k + 1 ≤ j := fun j hj => by
   by_cases hkj : k = j
   ·subst hkj
    rcases Nat.lt_or_ge k listed.size with h' | h'
    ·simp [h'] at hj
    ·simp [Array.getElem?_eq_none, h'] at hj
   ·rw [getD_set_ne true hkj] at hj
    have := hpre j hj
    omega
  have ih := fun a' w' hC' h' => mix_lex hs hF hEl hT m l (k + 1) (listed.setIfInBounds k true) a' w' hC' hl' (by omega) (hcl.set hr') hpre' hB' h'
  unfold wpMix mStep at h
  by_cases hw : Region.wanted o (yielded ops a.tmps) = true
  ·rw [if_pos hw] at h
   cases hE : E k with
   | true =>
    rw [hE] at h
    simp only [if_true] at h
    refine first_eff hkL h0 hE (Region.noSelect_spec hs) l.length listed a w hC hw hcl ?_ (Region.free_spec h0 hf) hr' (eff_mono (fun v w' hv => ⟨hv.1, ih _ _ hv.1 hv.2⟩) h)
    intro j hjk hun hj
    rcases effOk_spec el hF k (hEl k hE) j (hEl j hj) with h2 | h2
    ·have := hpre j hun
     omega
    ·exact h2
   | false =>
    rw [hE] at h
    simp only [Bool.false_eq_true, if_false] at h
    obtain ⟨v, hv, hn⟩ := h
    exact first_pure hkL h0 (Region.noSelect_spec hs) l.length listed a w hC (fun _ => hE) (Region.free_spec h0 hf) hr' (.inl ⟨hw, hv⟩) (ih _ _ hC hn)
  ·rw [if_neg hw] at h
   exact first_pure hkL h0 (Region.noSelect_spec hs) l.length listed a w hC (fun h' => absurd h' hw) (Region.free_spec h0 hf) hr' (.inr ⟨by simpa using hw, rfl⟩) (ih _ _ hC h)

/-- No operation stands apart. -/
theorem wpAny_of_M {Q' : Exit → Act → World → Prop} (hL : ops.size ≤ L) (hQ : ∀ a w, C w → Q a w → Q' .normal a w) : ∀ (fuel : Nat) (listed : Array Bool) (a : Act) (w : World), C w → wpAnyM P md ops C E Q L fuel listed a w → wpAny P md ops Q' fuel listed a w := by
 have hlt : ∀ listed j, j ∈ Region.ready md ops listed → j ≠ L := fun listed j hj => by
  obtain ⟨_, o, ho, _⟩ := mem_ready.1 hj
  have := (Array.getElem?_eq_some_iff.1 ho).1
  omega
 have hnil : ∀ listed, Region.ready md ops listed = [] → Only md ops L listed := fun listed h j hj => by rw [h] at hj; cases hj
 have hnil' : ∀ listed, Only md ops L listed → Region.ready md ops listed = [] := fun listed h => by
  cases hr : Region.ready md ops listed with
  | nil => rfl
  | cons j r => exact absurd (h j (by rw [hr]; simp)) (hlt listed j (by rw [hr]; simp))
 intro fuel
 induction fuel with
 | zero => exact fun listed a w hw h => ⟨hnil' _ h.1, hQ _ _ hw h.2⟩
 | succ fuel ih => exact fun listed a w hw h => ⟨fun h0 => hQ _ _ hw (h.1 (hnil _ h0)), fun i hi => wpOp_of_mOp hw (fun a' w' hw' => ih _ a' w' hw') (h.2 i hi (hlt listed i hi))⟩

theorem lex_ready : ∀ (n k : Nat) (listed : Array Bool), Region.lexFrom md ops n k listed = true → ∀ j, k ≤ j → j < k + n → ∃ o, ops[j]? = some o ∧ ∀ e ∈ o.after, Region.binds md e = true → e.on < j ∨ listed.getD e.on false = true
 | 0, k, _, _ => fun j h1 h2 => by omega
 | n + 1, k, listed, h => by
  simp only [Region.lexFrom, Bool.and_eq_true] at h
  obtain ⟨⟨hr, _⟩, hB⟩ := h
  intro j h1 h2
  by_cases hj : j = k
  ·subst hj
   obtain ⟨_, o, ho, ha⟩ := mem_ready.1 (show j ∈ Region.ready md ops listed by simpa using hr)
   exact ⟨o, ho, fun e he hb => .inr (ha e he hb)⟩
  ·obtain ⟨o, ho, ha⟩ := lex_ready n (k + 1) _ hB j (by omega) (by omega)
   refine ⟨o, ho, fun e he hb => ?_⟩
   rcases ha e he hb with h3 | h3
   ·exact .inl h3
   ·by_cases hk : k = e.on
    ·exact .inl (by omega)
    ·rw [getD_set_ne false hk] at h3
     exact .inr h3
/-- Of what is not done the first may come up. -/
theorem some_ready (hB : Region.lexFrom md ops ops.size 0 (Array.replicate ops.size false) = true) (listed : Array Bool) (hsz : listed.size = ops.size) : ∀ j, listed.getD j true = false → ∃ i, i ≤ j ∧ i ∈ Region.ready md ops listed := by
 intro j
 induction j using Nat.strongRecOn with
 | _ j ih =>
  intro hj
  have hlt : j < ops.size := by
   rcases Nat.lt_or_ge j listed.size with h | h
   ·omega
   ·simp [Array.getElem?_eq_none h] at hj
  by_cases hall : ∀ i, i < j → listed.getD i true = true
  ·obtain ⟨o, ho, ha⟩ := lex_ready _ _ _ hB j (Nat.zero_le _) (by omega)
   refine ⟨j, Nat.le_refl _, mem_ready.2 ⟨hj, o, ho, fun e he hb => ?_⟩⟩
   rcases ha e he hb with h | h
   ·have h1 := hall e.on h
    have h2 : e.on < listed.size := by omega
    simp [h2] at h1 ⊢
    exact h1
   ·simp [Array.getElem?_replicate] at h
    split at h <;> simp at h
  ·obtain ⟨i, hi⟩ := Classical.not_forall.1 hall
   obtain ⟨hij, hi⟩ := Classical.not_imp.1 hi
   obtain ⟨i', h1, h2⟩ := ih i hij (by simpa using hi)
   exact ⟨i', by omega, h2⟩

/-- One operation stands apart, the last: all others are waited for by it. -/
theorem wpAny_of_M_last {Q' : Exit → Act → World → Prop} (hL : L + 1 = ops.size) (hB : Region.lexFrom md ops ops.size 0 (Array.replicate ops.size false) = true) (hW : LastWaits md ops L)
  (hQ : ∀ a w, C w → Q a w → wpOp P ops Q' L (fun a' w' => Q' .normal a' w') a w) : ∀ (fuel : Nat) (listed : Array Bool) (a : Act) (w : World), C w → listed.size = ops.size → listed.getD L true = false → Closed md ops listed → wpAnyM P md ops C E Q L fuel listed a w → wpAny P md ops Q' (fuel + 1) listed a w := by
 have none_left : ∀ listed : Array Bool, Only md ops L listed → listed.size = ops.size → Closed md ops listed → listed.getD L true = false → Region.ready md ops (listed.setIfInBounds L true) = [] := fun listed h hsz hcl hun => by
  cases hr : Region.ready md ops (listed.setIfInBounds L true) with
  | nil => rfl
  | cons j r =>
   have hj : j ∈ Region.ready md ops (listed.setIfInBounds L true) := by rw [hr]; simp
   obtain ⟨h1, o, ho, _⟩ := mem_ready.1 hj
   have hjs := (Array.getElem?_eq_some_iff.1 ho).1
   by_cases hjL : j = L
   ·subst hjL
    simp [show j < listed.size by omega] at h1
   ·rw [getD_set_ne true (fun h => hjL h.symm)] at h1
    obtain ⟨i, hij, hi⟩ := some_ready hB listed hsz j h1
    have := h i hi
    omega
 have fin : ∀ (fuel : Nat) (listed : Array Bool) (a : Act) (w : World), C w → listed.size = ops.size → listed.getD L true = false → Closed md ops listed → Only md ops L listed → Q a w → wpAny P md ops Q' (fuel + 1) listed a w := by
  intro fuel listed a w hw hsz hun hcl ho h
  have hne : Region.ready md ops listed ≠ [] := fun h0 => by
   obtain ⟨i, _, hi⟩ := some_ready hB listed hsz L hun
   rw [h0] at hi
   cases hi
  refine ⟨fun h0 => absurd h0 hne, fun i hi => ?_⟩
  obtain rfl := ho i hi
  have hr := none_left listed ho hsz hcl hun
  have h2 := hQ a w hw h
  have h3 : (fun (a' : Act) (w' : World) => Q' .normal a' w') = fun a' w' => Q' .normal a' w' := rfl
  refine wpOp_mono' (fun a' w' h' => ?_) h2
  cases fuel with
  | zero => exact ⟨hr, h'⟩
  | succ n => exact ⟨fun _ => h', fun j hj => by rw [hr] at hj; cases hj⟩
 intro fuel
 induction fuel with
 | zero => exact fun listed a w hw hsz hun hcl h => fin 0 listed a w hw hsz hun hcl h.1 h.2
 | succ fuel ih =>
  intro listed a w hw hsz hun hcl h
  by_cases ho : Only md ops L listed
  ·exact fin _ listed a w hw hsz hun hcl ho (h.1 ho)
  ·obtain ⟨j, hj⟩ := Classical.not_forall.1 ho
   obtain ⟨hj, hjL⟩ := Classical.not_imp.1 hj
   obtain ⟨hj1, oj, hoj, _⟩ := mem_ready.1 hj
   have hLr : L ∉ Region.ready md ops listed := waits_ready hcl hj1 (hW j hjL (Array.getElem?_eq_some_iff.1 hoj).1)
   refine ⟨fun h0 => (by rw [h0] at hj; cases hj), fun i hi => ?_⟩
   have hiL : i ≠ L := fun e => hLr (e ▸ hi)
   exact wpOp_of_mOp hw (fun a' w' hw' h' => ih _ a' w' hw' (by simpa using hsz) (by rw [getD_set_ne true hiL]; exact hun) (hcl.set hi) h') (h.2 i hi hiL)

theorem closed_none (n : Nat) : Closed md ops (Array.replicate n false) := fun m o ho hm => by
 simp [Array.getElem?_replicate] at hm; split at hm <;> simp at hm
/-- All others are waited for by the last. -/
def lastOk (md : Region.Mode) (ops : Array Oper) (F L : Nat) : Bool := (List.range L).all fun i => waitB md ops i F L
/-- THE SAME, where the last operation alone turns what the others read: it is walked by itself. -/
theorem wp_region_mix_last {id : Nat} {Q' : Exit → Act → World → Prop} {a : Act} {w : World} {l : List Oper} {last : Oper} (el : List Nat) (F : Nat) (hm : P.follows .mixedOrders = true) (hB : Region.lexB .any (l ++ [last]).toArray = true)
  (hF : effOk .any (l ++ [last]).toArray F el = true) (hO : lastOk .any (l ++ [last]).toArray F l.length = true) (hC : C w.drew)
  (h : wpMix P (l ++ [last]).toArray C (fun i => el.contains i) (fun a w => C w → wpList P (l ++ [last]).toArray Q' [last] a w) 0 l a w.drew) : (Code.region id (l ++ [last]).toArray true).wp P Q' a w := by
 simp only [Region.lexB, Bool.and_eq_true] at hB
 have hsz : (l ++ [last]).toArray.size = l.length + 1 := by simp
 have hlast : (l ++ [last]).toArray[l.length]? = some last := by simp
 refine wp_region_any hm ?_
 rw [hsz]
 refine wpAny_of_M_last (C := C) (E := fun i => el.contains i) (Q := fun a w => C w → wpList P (l ++ [last]).toArray Q' [last] a w) (L := l.length) (by simp) (by simpa using hB.2) ?_ ?_ l.length _ _ _ hC (by simp) ?_ (closed_none _) ?_
 ·intro i hi his
  have h1 : i < l.length := by rw [hsz] at his; omega
  have h2 := List.all_eq_true.1 hO i (List.mem_range.2 h1)
  exact fun listed hc hu o ho => waits_step' hc hu F l.length o ho h2
 ·intro a' w' hw' h'
  have := h' hw'
  unfold wpOp
  rw [hlast]
  exact this
 ·simp [Array.getElem?_replicate]
 ·have := mix_lex (P := P) (C := C) (E := fun i => el.contains i) (Q := fun a w => C w → wpList P (l ++ [last]).toArray Q' [last] a w) (L := l.length) hB.1 hF (fun i hi => by simpa using hi)
   (fun j o ho hj => by have := (Array.getElem?_eq_some_iff.1 ho).1; rw [hsz] at this; omega) 1 l 0 (Array.replicate (l.length + 1) false) a w.drew hC
   (fun j hj => by simp [List.getElem?_append_left hj]) (by simp) (closed_none _) (fun j _ => Nat.zero_le j) (by simpa using hB.2) h
  exact this
theorem wp_region_mix_last' {id : Nat} {Q' : Exit → Act → World → Prop} {a : Act} {w : World} {l : List Oper} {last : Oper} (n : Nat) (hl : l = l.take n ++ [last]) (el : List Nat) (F : Nat) (hm : P.follows .mixedOrders = true) (hB : Region.lexB .any l.toArray = true)
  (hF : effOk .any l.toArray F el = true) (hO : lastOk .any l.toArray F (l.take n).length = true) (hC : C w.drew)
  (h : wpMix P l.toArray C (fun i => el.contains i) (fun a w => C w → wpList P l.toArray Q' [last] a w) 0 (l.take n) a w.drew) : (Code.region id l.toArray true).wp P Q' a w := by
 generalize l.take n = f at hl hO h
 subst hl
 exact wp_region_mix_last el F hm hB hF hO hC h
theorem mix_nil {k : Nat} {a : Act} {w : World} (h : Q a w) : wpMix P ops C E Q k [] a w := h
/-- One operation that yields one value in every world of the class. -/
theorem mix_pure {k : Nat} {o : Oper} {l : List Oper} {a : Act} {w : World} (hb : E k = false)
  (h : ∀ K : Act → World → Prop, (∀ a w, wpMix P ops C E Q (k + 1) l a w → K a w) →
   if Region.wanted o (yielded ops a.tmps) then ∃ v, (∀ w', C w' → (execOp a.eval o).run P w' = .ok (.value v) w') ∧ K (a.put o.dst v) w else K (a.put o.dst undef) w) : wpMix P ops C E Q k (o :: l) a w := by
 have := h (wpMix P ops C E Q (k + 1) l) (fun _ _ h => h)
 unfold wpMix mStep
 rw [hb]
 simpa using this
/-- One operation that touches memory. -/
theorem mix_eff {k : Nat} {o : Oper} {l : List Oper} {a : Act} {w : World} (hb : E k = true)
  (h : ∀ K : Act → World → Prop, (∀ a w, wpMix P ops C E Q (k + 1) l a w → K a w) →
   if Region.wanted o (yielded ops a.tmps) then effUpon P (fun v w' => C w' ∧ K (a.put o.dst v) w') ((execOp a.eval o).run P w) else K (a.put o.dst undef) w) : wpMix P ops C E Q k (o :: l) a w := by
 have := h (wpMix P ops C E Q (k + 1) l) (fun _ _ h => h)
 unfold wpMix mStep
 rw [hb]
 simpa [eff] using this
theorem effUpon_value (R : Value → World → Prop) (u : Value) (w : World) : effUpon P R (.ok (.value u) w) = R u w := rfl
theorem effUpon_enter (R : Value → World → Prop) (f : FuncId) (args : Array Value) (w : World) : effUpon P R (.ok (.enter f args) w) = Calls P f args w (fun e w'' => ∃ v, e = .returned v ∧ R v w'') := rfl
end
/-- The worlds in which all that lay in W lies unturned. -/
def Ext (W : World) : Type := { w' : World // Below W.heap.size W w' }
instance (W : World) : Nonempty (Ext W) := ⟨⟨W, Below.refl _ W⟩⟩
def Ext.w {W : World} (x : Ext W) : World := x.1
/-- The worlds in which one block lies as it lay in W. -/
def Has (W : World) (b : Nat) : Type := { w' : World // w'.heap[b]? = W.heap[b]? }
instance (W : World) (b : Nat) : Nonempty (Has W b) := ⟨⟨W, rfl⟩⟩
end Go.Mix
end
section
/- The reference's Normal. -/
set_option linter.unusedVariables false
set_option linter.unusedSimpArgs false
namespace Go.Proofs.YtogidacejbjljaaGreatDoor.PTextChecks
open Go.RowKit Go.Mix Go.Proofs.YtogidacejbjljaaGreatDoorW.PrintWords Go.Proofs.YtogidacejbjljaaGreatDoorW.PrintLast Go.Proofs.YtogidacejbjljaaGreatDoorW.PrintMore
end Go.Proofs.YtogidacejbjljaaGreatDoor.PTextChecks
end
section
/- Rows that a call owns and that begin anywhere in their block: append onto them, slices of them; and what keeps a block of one type when blocks of other types are written. -/
set_option linter.unusedVariables false
set_option linter.unusedSimpArgs false
namespace Go.Own
/-- The slice value v, of n elements, holds the cells xs, in a block of the element's type from base on. -/
def Lies (w : World) (base : Nat) (e : TypeId) (size : Nat) (v : Value) (n : Nat) (xs : List Value) : Prop :=
 xs.length = n * size ∧
 ((v = .slice none 0 0 ∧ n = 0) ∨
  ∃ g off cap cur, v = .slice (some ⟨g, off, none⟩) n cap ∧ base ≤ g ∧ w.heap[g]? = some (.cells cur e (0, 0)) ∧ n ≤ cap ∧ cap ≤ maxLen ∧ off + cap * size ≤ cur.size ∧ (cur.toList.drop off).take (n * size) = xs)
theorem Lies.of_owns {w : World} {base : Nat} {e : TypeId} {size : Nat} {v : Value} {n : Nat} {xs : List Value} (h : w.ownsRow base e size v n xs) : Lies w base e size v n xs := by
 refine ⟨h.1, ?_⟩
 rcases h.2 with hn | ⟨g, cap, cur, hv, hb, hg, h1, h2, h3, h4⟩
 ·exact .inl hn
 ·exact .inr ⟨g, 0, cap, cur, hv, hb, hg, h1, h2, by omega, by simpa using h4⟩
theorem Lies.nil (w : World) (base : Nat) (e : TypeId) (size : Nat) : Lies w base e size (.slice none 0 0) 0 [] := ⟨by simp, .inl ⟨rfl, rfl⟩⟩
section
variable {w : World} {base : Nat} {e : TypeId} {size : Nat} {v : Value} {n : Nat} {xs : List Value}
theorem Lies.lt (h : Lies w base e size v n xs) : ∀ k, v.ownBlock = some k → base ≤ k ∧ k < w.heap.size ∧ ∃ cur, w.heap[k]? = some (.cells cur e (0, 0)) := by
 intro k hk
 rcases h.2 with ⟨rfl, _⟩ | ⟨g, off, cap, cur, rfl, hb, hg, _⟩
 ·simp [Value.ownBlock] at hk
 ·simp [Value.ownBlock] at hk
  subst hk
  exact ⟨hb, (Array.getElem?_eq_some_iff.1 hg).1, cur, hg⟩
theorem Lies.keep {w' : World} (h : Lies w base e size v n xs) (hk : ∀ k, base ≤ k → v.ownBlock = some k → w'.heap[k]? = w.heap[k]?) : Lies w' base e size v n xs := by
 refine ⟨h.1, ?_⟩
 rcases h.2 with hn | ⟨g, off, cap, cur, rfl, hb, hg, rest⟩
 ·exact .inl hn
 ·exact .inr ⟨g, off, cap, cur, rfl, hb, (hk g hb rfl).trans hg, rest⟩
theorem Lies.mono {base' : Nat} (h : Lies w base e size v n xs) (hb : base' ≤ base) : Lies w base' e size v n xs := by
 refine ⟨h.1, ?_⟩
 rcases h.2 with hn | ⟨g, off, cap, cur, rfl, hg, rest⟩
 ·exact .inl hn
 ·exact .inr ⟨g, off, cap, cur, rfl, by omega, rest⟩
/-- The cells of the row. -/
theorem Lies.cell (h : Lies w base e size v n xs) (hn : 0 < n) : ∃ a c, v = .slice (some a) n c ∧ n ≤ c ∧ (∀ j u, xs[j]? = some u → w.cell? (a.add j) = some u) := by
 rcases h.2 with ⟨_, h0⟩ | ⟨g, off, cap, cur, rfl, hb, hg, hnc, hcm, hcs, ht⟩
 ·omega
 ·refine ⟨_, cap, rfl, hnc, fun j u hu => ?_⟩
  have hadd : (⟨g, off, none⟩ : Addr).add j = ⟨g, off + j, none⟩ := by unfold Addr.add; split <;> simp_all
  rw [hadd]
  rw [← ht, List.getElem?_take] at hu
  split at hu
  ·rw [List.getElem?_drop] at hu
   simpa [World.cell?, hg] using hu
  ·cases hu
theorem Lies.form (h : Lies w base e size v n xs) : ∃ A c, v = .slice A n c ∧ n ≤ c := by
 rcases h.2 with ⟨rfl, rfl⟩ | ⟨g, off, cap, cur, rfl, hb, hg, hnc, _⟩
 ·exact ⟨none, 0, rfl, Nat.le_refl _⟩
 ·exact ⟨_, cap, rfl, hnc⟩
end
theorem setCell_far (w : World) {g i k : Nat} (v : Value) (hk : k ≠ g) : (w.setCell ⟨g, i, none⟩ v).heap[k]? = w.heap[k]? := by
 simp only [World.setCell]
 rw [Array.getElem?_modify, if_neg (fun h => hk h.symm)]
theorem setCells_far {g : Nat} : ∀ (vs : List Value) (o : Nat) (w : World), (w.setCells g o vs).heap.size = w.heap.size ∧ ∀ k, k ≠ g → (w.setCells g o vs).heap[k]? = w.heap[k]?
 | [], _, _ => ⟨rfl, fun _ _ => rfl⟩
 | v :: r, o, w => by
  obtain ⟨h1, h2⟩ := setCells_far (g := g) r (o + 1) (w.setCell ⟨g, o, none⟩ v)
  unfold World.setCells
  exact ⟨h1.trans (by simp [World.setCell]), fun k hk => (h2 k hk).trans (setCell_far _ _ hk)⟩
theorem setCells_same {g : Nat} : ∀ (vs : List Value) (o : Nat) (w : World), (w.setCells g o vs).os = w.os ∧ (w.setCells g o vs).tape = w.tape ∧ (w.setCells g o vs).output = w.output
 | [], _, _ => ⟨rfl, rfl, rfl⟩
 | v :: r, o, w => setCells_same (g := g) r (o + 1) (w.setCell ⟨g, o, none⟩ v)
theorem set1 {w : World} {g i : Nat} {cs : Array Value} {t : TypeId} {v : Value} (hg : w.heap[g]? = some (.cells cs t (0, 0))) : (w.setCell ⟨g, i, none⟩ v).heap[g]? = some (.cells (cs.setIfInBounds i v) t (0, 0)) := by
 have hlt : g < w.heap.size := (Array.getElem?_eq_some_iff.1 hg).1
 simp only [World.setCell]
 simp [Array.getElem?_modify, hg]
theorem setCells_blk {g : Nat} {e : TypeId} : ∀ (vs : List Value) (o : Nat) (w : World) (cur : Array Value), w.heap[g]? = some (.cells cur e (0, 0)) → o + vs.length ≤ cur.size →
  ∃ cur', (w.setCells g o vs).heap[g]? = some (.cells cur' e (0, 0)) ∧ cur'.size = cur.size ∧ ∀ j, cur'[j]? = if o ≤ j ∧ j < o + vs.length then vs[j - o]? else cur[j]?
 | [], o, w, cur, hg, h => ⟨cur, hg, rfl, fun j => by rw [if_neg (by simp)]⟩
 | v :: r, o, w, cur, hg, h => by
  simp only [List.length_cons] at h
  obtain ⟨cur', h1, h2, h3⟩ := setCells_blk r (o + 1) (w.setCell ⟨g, o, none⟩ v) (cur.setIfInBounds o v) (set1 hg) (by simp; omega)
  refine ⟨cur', h1, by rw [h2]; simp, fun j => ?_⟩
  rw [h3 j, Array.getElem?_setIfInBounds]
  by_cases hj : j = o
  ·subst hj
   rw [if_neg (by omega), if_pos rfl, if_pos (by omega), if_pos (by simp)]
   simp
  ·by_cases h4 : o + 1 ≤ j ∧ j < o + 1 + r.length
   ·rw [if_pos h4, if_pos (by simp only [List.length_cons]; omega)]
    obtain ⟨t, rfl⟩ : ∃ t, j = o + 1 + t := ⟨j - (o + 1), by omega⟩
    rw [show o + 1 + t - (o + 1) = t by omega, show o + 1 + t - o = t + 1 by omega]
    rfl
   ·rw [if_neg h4, if_neg (fun h => hj h.symm), if_neg (by simp only [List.length_cons]; omega)]
section
variable {P : Program} (w : World)
/-- append, onto a row that begins anywhere. -/
theorem run_append (base : Nat) (t ty e : TypeId) (i : TypeInfo) (z : Value) (size bytes : Nat) (ht : P.underlying t = some (.slice e)) (hi : P.info? e = some i) (hz : i.zero = some z)
  (hsize : i.size = size) (hby : i.bytes = bytes) (hzs : z.cells.size = size) (hsz : 0 < size)
  (v : Value) (n : Nat) (xs : List Value) (hown : Lies w base e size v n xs)
  (a : Addr) (m c : Nat) (news : List Value) (hl : news.length = m * size) (hnews : ∀ j u, news[j]? = some u → w.cell? (a.add j) = some u) (h1 : ∀ u ∈ news, u.oneCell' = true)
  (h63 : n + m ≤ maxLen) (hbytes : (n + m) * bytes ≤ 140737488355328) (hbase : base ≤ w.heap.size) (hm : 0 < m) :
  ∃ v' w', (Builtin.append_ #[t, t] ty #[v, .slice (some a) m c]).run P w = .ok v' w' ∧ Lies w' base e size v' (n + m) (xs ++ news) ∧ w.grownBy w' v.ownBlock := by
 rcases hown.2 with ⟨rfl, rfl⟩ | ⟨g, off, cap, cur, rfl, hbg, hg, hnc, hcm, hcs, htake⟩
 ·have ho : w.ownsRow base e size (.slice none 0 0) 0 xs := ⟨hown.1, .inl ⟨rfl, rfl⟩⟩
  obtain ⟨v', w', hr, h2, h3, _⟩ := run_append_own (P := P) w base t ty e i z size bytes ht hi hz hsize hby hzs hsz _ _ _ ho a m c news hl hnews h1 h63 hbytes hbase
  exact ⟨v', w', hr, Lies.of_owns h2, h3⟩
 ·have hlen : (xs ++ news).length = (n + m) * size := by rw [List.length_append, hown.1, hl, Nat.add_mul]
  have hx : ∀ j, j < n * size → cur[off + j]? = xs[j]? := fun j hj => by
   rw [← htake, List.getElem?_take, if_pos hj, List.getElem?_drop]; simp
  by_cases hroom : n + m ≤ cap
  ·have hmul : (n + m) * size ≤ cap * size := Nat.mul_le_mul_right _ hroom
   rw [Nat.add_mul] at hmul
   have hfit : off + n * size + news.length ≤ cur.size := by rw [hl]; omega
   have hr := run_append_room_cells (P := P) w t ty e i ht hi g off n cap a m c news (by rw [hsize]; exact hl) hnews h1 hroom
    (fun j hj => by rw [hsize]; simp only [World.cell?, hg]; simp only [Option.isSome_iff_exists]; exact ⟨cur[off + n * size + j]'(by omega), by simp [Array.getElem?_eq_getElem (show off + n * size + j < cur.size by omega)]⟩)
    (fun j hj => by simp [World.frozen?, hg])
   rw [hsize] at hr
   obtain ⟨cur', k1, k2, k3⟩ := setCells_blk news (off + n * size) w cur hg hfit
   obtain ⟨f1, f2⟩ := setCells_far (g := g) news (off + n * size) w
   refine ⟨_, _, hr, ⟨hlen, .inr ⟨g, off, cap, cur', rfl, hbg, k1, hroom, hcm, by omega, ?_⟩⟩, ?_⟩
   ·apply List.ext_getElem?
    intro j
    rw [List.getElem?_take]
    by_cases hj : j < (n + m) * size
    ·rw [if_pos hj, List.getElem?_drop]
     rw [Nat.add_mul] at hj
     simp only [Array.getElem?_toList]
     rw [k3]
     by_cases hjn : j < n * size
     ·rw [if_neg (by omega), List.getElem?_append_left (by rw [hown.1]; exact hjn)]
      exact hx j hjn
     ·rw [if_pos (by rw [hl]; omega), List.getElem?_append_right (by rw [hown.1]; omega), hown.1]
      congr 1
      omega
    ·rw [if_neg hj, List.getElem?_eq_none (by rw [hlen]; omega)]
   ·obtain ⟨g1, g2, g3⟩ := setCells_same (g := g) news (off + n * size) w
    exact ⟨g1, g2, g3, by omega, fun k _ hk => f2 k (fun e => hk (by simp [Value.ownBlock, e]))⟩
  ·have holds : ∀ j u, xs[j]? = some u → w.cell? ((⟨g, off, none⟩ : Addr).add j) = some u := by
    intro j u hu
    have hj := (List.getElem?_eq_some_iff.1 hu).1
    rw [hown.1] at hj
    have hadd : (⟨g, off, none⟩ : Addr).add j = ⟨g, off + j, none⟩ := by unfold Addr.add; split <;> simp_all
    rw [hadd]
    simp only [World.cell?, hg, Option.isNone_none, if_true]
    simpa [hx j hj] using hu
   obtain ⟨v', w', hr, h2, h3⟩ := run_append_arg_grows (P := P) w t ty e i z size bytes ht hi hz hsize hby hzs hsz ⟨g, off, none⟩ n cap xs hown.1 holds a m c news hl hnews (by omega) h63 hbytes
   exact ⟨v', w', hr, (Lies.of_owns h2).mono hbase, h3.1, h3.2, h3.3, h3.4, fun k hk _ => h3.5 k hk (by simp)⟩
end
open Go.Mix
section
variable {P : Program} {ops : Array Oper} {C : World → Prop} {E : Nat → Bool} {Q : Act → World → Prop}
/-- append in a region that draws its order. -/
theorem mix_append {k : Nat} {o : Oper} {l : List Oper} {a : Act} {w : World} (hb : E k = true) (hgd : o.guard = none) (s x : Operand) (t : TypeId)
  (ho : o.op = .call { callee := .builtin .append, args := #[s, x], argTypes := #[t, t] })
  (base : Nat) (e : TypeId) (i : TypeInfo) (z : Value) (size bytes : Nat) (ht : P.underlying t = some (.slice e)) (hi : P.info? e = some i) (hz : i.zero = some z)
  (hsize : i.size = size) (hby : i.bytes = bytes) (hzs : z.cells.size = size) (hsz : 0 < size)
  (v : Value) (n : Nat) (xs : List Value) (hs : a.eval s = v) (hown : Lies w base e size v n xs)
  (ad : Addr) (m c : Nat) (news : List Value) (hx : a.eval x = .slice (some ad) m c) (hl : news.length = m * size) (hnews : ∀ j u, news[j]? = some u → w.cell? (ad.add j) = some u) (h1 : ∀ u ∈ news, u.oneCell' = true)
  (h63 : n + m ≤ maxLen) (hbytes : (n + m) * bytes ≤ 140737488355328) (hbase : base ≤ w.heap.size) (hm : 0 < m)
  (h : ∀ v' w', Lies w' base e size v' (n + m) (xs ++ news) → w.grownBy w' v.ownBlock → C w' ∧ wpMix P ops C E Q (k + 1) l (a.put o.dst v') w') : wpMix P ops C E Q k (o :: l) a w := by
 obtain ⟨v', w', hr, h2, h3⟩ := run_append (P := P) w base t o.type e i z size bytes ht hi hz hsize hby hzs hsz v n xs hown ad m c news hl hnews h1 h63 hbytes hbase hm
 refine mix_eff hb (fun K hK => ?_)
 have hrun : (execOp a.eval o).run P w = .ok (.value v') w' := by
  unfold execOp
  simp only [ho, resolve, invoke, builtin, Sem.run_bind, Sem.run_pure, Result.andThen_ok, List.map_toArray, List.map_cons, List.map_nil, hs, hx, hr]
 simp only [Region.wanted, hgd, if_true]
 rw [hrun, effUpon_value]
 exact ⟨(h v' w' h2 h3).1, hK _ _ (h v' w' h2 h3).2⟩
/-- append in a plain region. -/
theorem wpList_append_lies {rest : List Oper} {o : Oper} {a : Act} {Q : Exit → Act → World → Prop} {w : World} (hgd : o.guard = none) (s x : Operand) (t : TypeId)
  (ho : o.op = .call { callee := .builtin .append, args := #[s, x], argTypes := #[t, t] })
  (base : Nat) (e : TypeId) (i : TypeInfo) (z : Value) (size bytes : Nat) (ht : P.underlying t = some (.slice e)) (hi : P.info? e = some i) (hz : i.zero = some z)
  (hsize : i.size = size) (hby : i.bytes = bytes) (hzs : z.cells.size = size) (hsz : 0 < size)
  (v : Value) (n : Nat) (xs : List Value) (hs : a.eval s = v) (hown : Lies w base e size v n xs)
  (ad : Addr) (m c : Nat) (news : List Value) (hx : a.eval x = .slice (some ad) m c) (hl : news.length = m * size) (hnews : ∀ j u, news[j]? = some u → w.cell? (ad.add j) = some u) (h1 : ∀ u ∈ news, u.oneCell' = true)
  (h63 : n + m ≤ maxLen) (hbytes : (n + m) * bytes ≤ 140737488355328) (hbase : base ≤ w.heap.size) (hm : 0 < m)
  (h : ∀ v' w', Lies w' base e size v' (n + m) (xs ++ news) → w.grownBy w' v.ownBlock → wpList P ops Q rest (a.put o.dst v') w') : wpList P ops Q (o :: rest) a w := by
 obtain ⟨v', w', hr, h2, h3⟩ := run_append (P := P) w base t o.type e i z size bytes ht hi hz hsize hby hzs hsz v n xs hown ad m c news hl hnews h1 h63 hbytes hbase hm
 refine wpList_plain hgd fun _ hK => ?_
 unfold Oper.wp execOp
 simp only [ho, resolve, invoke, builtin, Sem.run_bind, Sem.run_pure, Result.andThen_ok, List.map_toArray, List.map_cons, List.map_nil, hs, hx, hr]
 exact hK _ _ (h v' w' h2 h3)
end
end Go.Own
end
section
/- text.makeLine: a line of letters. -/
set_option linter.unusedVariables false
set_option linter.unusedSimpArgs false
namespace Go.Proofs.YtogidacejbjljaaGreatDoor.PTextChecks
open Go.RowKit Go.Mix Go.Own Go.Proofs.YtogidacejbjljaaGreatDoorW.PrintWords Go.Proofs.YtogidacejbjljaaGreatDoorW.PrintLast Go.Proofs.YtogidacejbjljaaGreatDoorW.PrintMore
/-- Letters as a valid cue has them. -/
def Okl (l : List S81) : Prop := ∀ x ∈ l, (0 ≤ x.f0 ∧ x.f0 < 128) ∧ 0 ≤ x.f1.f3 ∧ x.f1.f3 ≤ 8
theorem utf8_fin : ∀ n : Fin 128, Utf8.encode (n.val : Int) = ⟨#[UInt8.ofNat n.val]⟩ := by decide +kernel
theorem utf8_chP (x : S81) (h : 0 ≤ x.f0 ∧ x.f0 < 128) : Utf8.encode x.f0 = (chP x).f0 := by
 have := utf8_fin ⟨x.f0.toNat, by omega⟩
 simp only [Int.toNat_of_nonneg h.1] at this
 exact this
theorem Okl.byt {l : List S81} (h : Okl l) : Byt l := fun x hx => by have := (h x hx).1; omega
theorem Okl.take {l : List S81} (h : Okl l) (n : Nat) : Okl (l.take n) := fun x hx => h x (List.mem_of_mem_take hx)
theorem Okl.drop {l : List S81} (h : Okl l) (n : Nat) : Okl (l.drop n) := fun x hx => h x (List.mem_of_mem_drop hx)
theorem topS_succ (l : List S81) (n : Nat) (h : n < l.length) : topS (l.take (n + 1)) = max (topS (l.take n)) (rd_T81 l (n : Int)).f1.f3 := by
 rw [List.take_succ_eq_append_getElem h, topS, List.foldl_append, show rd_T81 l (n : Int) = l[n] from by simp [rd_T81, List.getElem?_eq_getElem h]]
 rfl
theorem sumW_succ (l : List S81) (n : Nat) (h : n < l.length) : sumW (l.take (n + 1)) 0 = wrap64 (sumW (l.take n) 0 + wd (rd_T81 l (n : Int))) := by
 rw [List.take_succ_eq_append_getElem h, sumW, List.foldl_append, show rd_T81 l (n : Int) = l[n] from by simp [rd_T81, List.getElem?_eq_getElem h]]
 rfl
theorem topS_le {l : List S81} (h : Okl l) : 0 ≤ topS l ∧ topS l ≤ 8 := by
 have : ∀ (l : List S81) (m : Int), Okl l → 0 ≤ m → m ≤ 8 → 0 ≤ l.foldl (fun m x => max m x.f1.f3) m ∧ l.foldl (fun m x => max m x.f1.f3) m ≤ 8 := by
  intro l
  induction l with
  | nil => exact fun m _ h1 h2 => ⟨h1, h2⟩
  | cons x r ih =>
   intro m ho h1 h2
   have h3 := (ho x (List.mem_cons_self ..)).2
   exact ih (max m x.f1.f3) (fun y hy => ho y (List.mem_cons_of_mem _ hy)) (by omega) (by omega)
 exact this l 0 h (by omega) (by omega)
theorem wl_map (l : List S81) : wordsLen (l.map chP) = l.length := by
 induction l with
 | nil => rfl
 | cons x r ih => simp only [wordsLen, List.map_cons, List.sum_cons, List.length_cons] at ih ⊢; rw [ih]; have : (chP x).f0.size = 1 := rfl; omega
def highS (l : List S81) (sz : Int) : Int := if l.isEmpty then 4 * sz else heightS l
def MRel (l : List S81) (w : World) (h0 : Int) (n : Nat) (v : Value) (wr : World) : Prop :=
 wr.ownsRow (w.heap.size + 2) 42 6 v n (flat ((l.take n).map chP)) ∧ wr.heap[w.heap.size + 1]? = some (.cells #[v, .int .i64 (sumW (l.take n) 0), .int .i64 h0] 107 (0, 0)) ∧
  wr.heap[w.heap.size]? = some (.cells #[.slice none 0 0, .int .i64 0, .int .i64 0] 107 (0, 0)) ∧ Below w.heap.size w wr
theorem blk3 {W : World} {b : Nat} {v0 v1 v2 : Value} {t : TypeId} (h : W.heap[b]? = some (.cells #[v0, v1, v2] t (0, 0))) :
  (W.cell? ⟨b, 0, none⟩ = some v0 ∧ W.cell? ⟨b, 1, none⟩ = some v1 ∧ W.cell? ⟨b, 2, none⟩ = some v2) ∧ W.frozen? ⟨b, 0, none⟩ = false ∧ W.frozen? ⟨b, 1, none⟩ = false ∧ W.frozen? ⟨b, 2, none⟩ = false := by
 refine ⟨⟨?_, ?_, ?_⟩, ?_, ?_, ?_⟩ <;> simp [World.cell?, World.frozen?, h]
theorem Ext.atv {W : World} (x : Ext W) {a : Addr} {v : Value} (h : W.cell? a = some v) : x.w.cell? a = some v := cell_later x.2 h
theorem blk6 {W : World} {b : Nat} {v0 v1 v2 v3 v4 v5 : Value} {t : TypeId} (h : W.heap[b]? = some (.cells #[v0, v1, v2, v3, v4, v5] t (0, 0))) :
  W.cell? ⟨b, 0, none⟩ = some v0 ∧ W.cell? ⟨b, 1, none⟩ = some v1 ∧ W.cell? ⟨b, 2, none⟩ = some v2 ∧ W.cell? ⟨b, 3, none⟩ = some v3 ∧ W.cell? ⟨b, 4, none⟩ = some v4 ∧ W.cell? ⟨b, 5, none⟩ = some v5 := by
 refine ⟨?_, ?_, ?_, ?_, ?_, ?_⟩ <;> simp [World.cell?, h]
theorem newcell2 (W : World) (o : Obj) (cs : Array Value) (t i : Nat) (u : Value) (h : cs[i]? = some u) : ((W.alloc o).alloc (.cells cs t)).cell? ⟨W.heap.size + 1, i, none⟩ = some u := by
 rw [cell_of_row _ _ i cs t (0, 0) (two_new W o (.cells cs t)).2.1]
 exact h
set_option maxHeartbeats 4000000 in
set_option maxRecDepth 100000 in
theorem makeLine_calls (A : Option Addr) (cap : Nat) (l : List S81) (sz : Int) (w : World) (hr : Kd.C k81 w A l.length l) (hl : l.length ≤ 1000000) (hb : Okl l) (hsz : 0 ≤ sz ∧ sz ≤ 8) :
  Calls Tryz.prog 107 #[.slice A l.length cap, .int .i64 sz] w fun e w' => ∃ A' c', e = .returned (.agg #[.slice A' (piecesS l).length c', .int .i64 (sumW l 0), .int .i64 (highS l sz)]) ∧
   Kd.R k42 42 w' w.heap.size (fun _ => True) (.slice A' (piecesS l).length c') (piecesS l) ∧ Below w.heap.size w w' := by
 obtain ⟨i0, hi, hii⟩ := Option.map_eq_some_iff.1 infoPiece
 simp only [Prod.mk.injEq] at hii
 obtain ⟨hz0, hz1, hz2⟩ := hii
 have wrs : IntKind.i64.wrap (4 * sz) = 4 * sz := IntWalk.i64_in _ (by omega)
 go_enter Tryz.func107, Tryz.ntmps107
 go_wp2
 go_loopw [6, 14] (fun t i wr => ∃ (n : Nat) (v : Value), n ≤ l.length ∧ t = .int .i64 (topS (l.take n)) ∧ i = .int .i64 n ∧ MRel l w (4 * sz) n v wr) (fun _ i wr => l.length - (intOf i).toNat)
 case atStart =>
  refine ⟨0, .slice none 0 0, by omega, rfl, rfl, ⟨rfl, .inl ⟨rfl, rfl⟩⟩, (two_new w _ _).2.1, (two_new w _ _).1, ((Below.refl _ w).alloc (Nat.le_refl _) _).alloc (by simp) _⟩
 case round =>
  obtain ⟨n, v, hn, rfl, rfl, hown, hx1, hx0, hbw⟩ := hrel
  by_cases hlt : n < l.length
  ·have hr3 := Kd.C_below hr hbw
   obtain ⟨ad, rfl, d0, d1, d2, d3, d4, d5⟩ := at_T81 hr3 (n : Int) (by omega) (by omega)
   obtain ⟨x, hx⟩ : ∃ x, rd_T81 l (n : Int) = x := ⟨_, rfl⟩
   rw [hx] at d0 d1 d2 d3 d4 d5
   have hxb := hb x (by rw [← hx]; exact rd81_mem l n hlt)
   have hmap : (l.take (n + 1)).map chP = (l.take n).map chP ++ [chP x] := by
    rw [List.take_succ_eq_append_getElem hlt, List.map_append, ← hx, show rd_T81 l (n : Int) = l[n] from by simp [rd_T81, List.getElem?_eq_getElem hlt]]; rfl
   have htop := topS_succ l n hlt
   have hsum := sumW_succ l n hlt
   rw [hx] at htop hsum
   have htb := topS_le (hb.take n)
   obtain ⟨A1, c1, rfl, hA1⟩ := (Lies.of_owns hown).form
   have hlt1 := hown.lt
   generalize topS (l.take n) = top at htop htb
   generalize sumW (l.take n) 0 = sum at hsum hx1
   obtain ⟨⟨x0, x1, x2⟩, y0, y1, y2⟩ := blk3 hx1
   have hutf := utf8_chP x hxb.1
   have cW := fun X => twide_calls x (by omega) X
   simp only [Int.toNat_natCast] at d0 d1 d2 d3 d4 d5
   have x0' := fun o => Lib.cell?_alloc_some o x0
   have x0'' := fun o o' => Lib.cell?_alloc_some o' (Lib.cell?_alloc_some o x0)
   have HM := Lib.hid hmap
   have HT := Lib.hid htop
   have HS := Lib.hid hsum
   have HO := Lib.hid hown
   have HX0 := Lib.hid hx0
   have HX1 := Lib.hid hx1
   clear hmap htop hsum hx hown hx0 hx1
   go_wp2_with (at_builtin; refine wpList_append_own _ rfl _ _ 23 rfl (w.heap.size + 2) 42 i0 _ 6 40 Tryz.underlying23 hi hz0 hz1 hz2 rfl (by decide) _ n _ rfl ((HO.out.alloc _).alloc _) ⟨wr.heap.size + 1, 0, none⟩ 1 1 (enc (chP x)) rfl ?qc1 ?qc2 ?qc3 ?qc4 ?qc5 ?qc6 ?_)
   case qc1 => rfl
   case qc2 => intro j u hj; rw [add0]; rcases enc_cases hj with ⟨rfl, rfl⟩ | ⟨rfl, rfl⟩ | ⟨rfl, rfl⟩ | ⟨rfl, rfl⟩ | ⟨rfl, rfl⟩ | ⟨rfl, rfl⟩ <;> exact newcell2 wr _ _ 42 _ _ rfl
   case qc3 => intro u hu; simp only [enc, List.mem_cons, List.mem_nil_iff, or_false] at hu; rcases hu with rfl | rfl | rfl | rfl | rfl | rfl <;> rfl
   case qc4 => unfold maxLen; omega
   case qc5 => omega
   case qc6 => have := hbw.size; have := (Array.getElem?_eq_some_iff.1 HX1.out).1; simp; omega
   intro v' W1 hown1 hgrow hnil
   obtain ⟨hc0, hp0, hs0⟩ := two_new wr (Obj.cells #[.int .u8 x.f0, .bool x.f1.f0, .bool x.f1.f1, .bool x.f1.f2, .int .i64 x.f1.f3, .int .i64 x.f1.f4] 151) (Obj.cells #[.string (chP x).f0, .bool x.f1.f0, .bool x.f1.f1, .bool x.f1.f2, .int .i64 x.f1.f3, .int .i64 x.f1.f4] 42)
   have hxs := (Array.getElem?_eq_some_iff.1 HX1.out).1
   have hkk : ∀ k, k < wr.heap.size → k < w.heap.size + 2 → W1.heap[k]? = wr.heap[k]? := fun k h1 h2 =>
    (hgrow.block k (by omega) (fun e => by have := (hlt1 k e.symm).1; omega)).trans ((((Below.refl wr.heap.size wr).alloc (Nat.le_refl _) _).alloc (by simp) _).block k h1)
   have g1 : W1.heap[w.heap.size + 1]? = _ := (hkk _ hxs (by omega)).trans HX1.out
   have g0 : W1.heap[w.heap.size]? = _ := (hkk _ (by omega) (by omega)).trans HX0.out
   have gc : W1.heap[wr.heap.size]? = _ := (hgrow.block wr.heap.size (by omega) (fun e => by have := (hlt1 _ e.symm).2; omega)).trans hc0
   have hb1 : Below w.heap.size w W1 := ((hbw.alloc (by have := hbw.size; omega) _).alloc (by have := hbw.size; simp; omega) _).grown hgrow (by have := hbw.size; simp; omega) (fun k hk => by have := (hlt1 k hk).1; omega)
   have gs := hgrow.size
   rw [hs0] at gs
   clear hgrow hnil hkk hc0 hp0 d0 d1 d2 d3 d4 d5 x0 x1 x2 y0 y1 y2 x0' x0''
   obtain ⟨⟨x0, x1, x2⟩, y0, y1, y2⟩ := blk3 g1
   obtain ⟨A2, c2, rfl, hA2⟩ := (Lies.of_owns hown1).form
   have HO1 := Lib.hid hown1
   have hlt2 := hown1.lt
   clear hown1
   have key : ∀ X, X = W1.setCell ⟨w.heap.size + 1, 0, none⟩ (.slice A2 (n + 1) c2) → X.heap[w.heap.size + 1]? = some (.cells #[.slice A2 (n + 1) c2, .int .i64 sum, .int .i64 (4 * sz)] 107 (0, 0)) ∧ X.heap[w.heap.size]? = W1.heap[w.heap.size]? ∧
     X.heap[wr.heap.size]? = W1.heap[wr.heap.size]? ∧ X.ownsRow (w.heap.size + 2) 42 6 (.slice A2 (n + 1) c2) (n + 1) (flat (List.take n (List.map chP l)) ++ enc (chP x)) ∧ Below w.heap.size w X ∧ X.heap.size = W1.heap.size := by
    rintro X rfl
    refine ⟨heap_set (i := 0) g1, setCell_far _ _ (by omega), setCell_far _ _ (by omega), ?_, hb1.setCell (p := ⟨w.heap.size + 1, 0, none⟩) (Nat.le_succ _) _, by simp [World.setCell]⟩
    exact HO1.out.kept (row := some (w.heap.size + 1)) ⟨rfl, rfl, rfl, by simp [World.setCell], fun k _ hk => setCell_far _ _ (fun e => hk (by rw [e]))⟩ (.inr fun e => by have := (hlt2 _ e).1; omega)
   go_wp2
   obtain ⟨q1, q0, qc, qo, qb, qz⟩ := key _ rfl
   rw [g0] at q0
   rw [gc] at qc
   generalize W1.setCell ⟨w.heap.size + 1, 0, none⟩ (.slice A2 (n + 1) c2) = W2 at q1 q0 qc qo qb qz
   clear key g1 g0 gc hb1 x0 x1 x2 y0 y1 y2 hlt1
   have e1 := fun z : Ext W2 => z.atv (blk3 q1).1.2.1
   obtain ⟨k0, k1, k2, k3, k4, k5⟩ := blk6 qc
   have f0 := fun z : Ext W2 => z.atv k0
   have f1 := fun z : Ext W2 => z.atv k1
   have f2 := fun z : Ext W2 => z.atv k2
   have f3 := fun z : Ext W2 => z.atv k3
   have f4 := fun z : Ext W2 => z.atv k4
   have f5 := fun z : Ext W2 => z.atv k5
   refine wp_region_mix_last' (C := fun w' => ∃ z : Ext W2, w' = z.w) 9 rfl [6] 2 (by kernel_rfl) (by kernel_rfl) (by kernel_rfl) (by kernel_rfl) ⟨⟨W2.drew, (Below.refl _ W2).drew⟩, rfl⟩ ?_
   refine mix_pure rfl (fun K hK => ?_)
   go_simp
   refine hK _ _ ?_
   clear hK K
   refine mix_pure rfl (fun K hK => ?_)
   go_simp
   refine hK _ _ ?_
   clear hK K
   refine mix_pure rfl (fun K hK => ?_)
   go_simp
   refine hK _ _ ?_
   clear hK K
   refine mix_pure rfl (fun K hK => ?_)
   go_simp
   refine hK _ _ ?_
   clear hK K
   refine mix_pure rfl (fun K hK => ?_)
   go_simp
   refine hK _ _ ?_
   clear hK K
   refine mix_pure rfl (fun K hK => ?_)
   go_simp
   refine hK _ _ ?_
   clear hK K
   refine mix_eff rfl (fun K hK => ?_)
   go_simp
   simp only [effUpon_enter]
   refine (cW _).mono ?_
   rintro e W3 ⟨rfl, hb3⟩
   refine ⟨_, rfl, ⟨⟨W3, (Below.refl _ W2).drew.trans hb3⟩, rfl⟩, hK _ _ ?_⟩
   clear hK K
   refine mix_pure rfl (fun K hK => ?_)
   go_simp
   refine hK _ _ ?_
   clear hK K
   refine mix_pure rfl (fun K hK => ?_)
   go_simp
   refine hK _ _ ?_
   clear hK K
   refine mix_nil ?_
   intro _
   have hb3' : Below W2.heap.size W2 W3 := (Below.refl _ W2).drew.trans hb3
   have p1 : W3.heap[w.heap.size + 1]? = _ := (hb3'.block _ (by omega)).trans q1
   have p0 : W3.heap[w.heap.size]? = _ := (hb3'.block _ (by omega)).trans q0
   have pc : W3.heap[wr.heap.size]? = _ := (hb3'.block _ (by omega)).trans qc
   have pb : Below w.heap.size w W3 := qb.trans (hb3'.mono (by have := qb.size; omega))
   have po : W3.ownsRow (w.heap.size + 2) 42 6 (.slice A2 (n + 1) c2) (n + 1) (flat (List.take n (List.map chP l)) ++ enc (chP x)) := qo.kept (row := none) ⟨hb3'.os, hb3'.tape, hb3'.output, hb3'.size, fun k hk _ => hb3'.block k hk⟩ (by cases hv : Value.ownBlock (.slice A2 (n + 1) c2) <;> simp)
   clear e1 f0 f1 f2 f3 f4 f5 k0 k1 k2 k3 k4 k5 hb3 q1 q0 qc qb qo qz
   obtain ⟨⟨x0, x1, x2⟩, y0, y1, y2⟩ := blk3 p1
   obtain ⟨k0, k1, k2, k3, k4, k5⟩ := blk6 pc
   have hne1 : ¬ wr.heap.size = w.heap.size + 1 := by omega
   have hne2 : ¬ w.heap.size + 1 = wr.heap.size := by omega
   obtain ⟨s1, hs1⟩ : ∃ s1, IntKind.i64.wrap (sum + wd x) = s1 := ⟨_, rfl⟩
   rw [hs1]
   go_wp2
   go_roundw
   case rel =>
    refine ⟨n + 1, .slice A2 (n + 1) c2, by omega, by rw [HT.out], by go_num, ?_, ?_, ?_, ?_⟩
    ·refine World.ownsRow.kept (w := W3) (row := some (w.heap.size + 1)) ?_ ⟨rfl, rfl, rfl, by simp [World.setCell], fun k _ hk => setCell_far _ _ (fun e => hk (by rw [e]))⟩ (.inr fun e => by have := (hlt2 _ e).1; omega)
     rw [show flat (List.map chP (List.take (n + 1) l)) = flat (List.take n (List.map chP l)) ++ enc (chP x) from by rw [HM.out]; simp [flat, List.map_take]]
     exact po
    ·rw [heap_set (i := 1) p1, HS.out, ← hs1, i64_w]
     rfl
    ·exact (setCell_far _ _ (by omega)).trans p0
    ·exact pb.setCell (p := ⟨w.heap.size + 1, 1, none⟩) (Nat.le_succ _) _
   case measure => simp [intOf]; omega
  ·have hnl : n = l.length := by omega
   have hfin : ∃ A1 c1, v = .slice A1 ((l.map chP).length) c1 ∧ (l.map chP).length ≤ c1 ∧ Kd.C k42 wr A1 (l.map chP).length (l.map chP) := by
    rw [hnl, List.take_length] at hown
    have hlm : (l.map chP).length = l.length := List.length_map ..
    rcases hown.2 with ⟨rfl, h1⟩ | ⟨g, cap', cur, rfl, hg, hh, hle, hmx, hsz, htk⟩
    ·have : l.map chP = [] := List.eq_nil_of_length_eq_zero (by omega)
     rw [this]
     exact ⟨none, 0, rfl, Nat.le_refl _, ⟨rfl, by simp, fun h => absurd h (by simp)⟩⟩
    ·exact ⟨_, cap', by rw [hlm], by rw [hlm]; exact hle, (Lays.of_take (l := l.map chP) (by rw [hlm]; exact htk)).C hh (by omega)⟩
   obtain ⟨A1, c1, rfl, hle1, hC1⟩ := hfin
   have hbs : w.heap.size + 2 ≤ wr.heap.size := (Array.getElem?_eq_some_iff.1 hx1).1
   rw [hnl, List.take_length] at hx1
   obtain ⟨⟨x0, x1, x2⟩, y0, y1, y2⟩ := blk3 hx1
   have cJ := joined2 (.slice A1 (l.map chP).length c1) (l.map chP) wr ⟨A1, c1, rfl, hle1, hC1⟩ (by rw [List.length_map]; exact hl) (by rw [wl_map]; exact hl)
   have htb := topS_le hb
   generalize hlen : (l.map chP).length = ln at *
   obtain ⟨sum, hsum⟩ : ∃ s, sumW l 0 = s := ⟨_, rfl⟩
   have HSUM := Lib.hid hsum
   rw [hsum] at hx1 x1
   clear hsum
   rw [hnl, List.take_length]
   obtain ⟨top, htop⟩ : ∃ top, 4 * topS l = 4 * top ∧ topS l = top := ⟨_, rfl, rfl⟩
   have HTOP := Lib.hid htop.1
   rw [htop.2] at htb ⊢
   clear htop
   have w1s := (Array.getElem?_eq_some_iff.1 hx1).1
   have wrt : IntKind.i64.wrap (4 * top) = 4 * top := IntWalk.i64_in _ (by omega)
   have pj := pieces_map l
   have CALL : ∀ e W, (∃ A' c', e = Ending.returned (.slice A' (joinS (l.map chP)).length c') ∧ Kd.R k42 42 W wr.heap.size (fun _ => True) (.slice A' (joinS (l.map chP)).length c') (joinS (l.map chP)) ∧ Below wr.heap.size wr W) →
     ∃ A' c', e = Ending.returned (.slice A' (piecesS l).length c') ∧ Kd.R k42 42 W wr.heap.size (fun _ => True) (.slice A' (piecesS l).length c') (piecesS l) ∧
      W.heap[w.heap.size + 1]? = some (.cells #[.slice A1 ln c1, .int .i64 sum, .int .i64 (4 * sz)] 107 (0, 0)) ∧ W.heap[w.heap.size]? = some (.cells #[.slice none 0 0, .int .i64 0, .int .i64 0] 107 (0, 0)) ∧ Below w.heap.size w W := by
    rintro e W ⟨A', c', rfl, hR, hb3⟩
    rw [← pj] at hR ⊢
    exact ⟨A', c', rfl, hR, (hb3.block _ w1s).trans hx1, (hb3.block _ (by omega)).trans hx0, hbw.trans (hb3.mono hbw.size)⟩
   have hfin : ∀ (W : World) (A3 : Option Addr) (n3 c3 : Nat) (h0 : Int) (Y X : World), Kd.R k42 42 W wr.heap.size (fun _ => True) (.slice A3 n3 c3) (piecesS l) →
     W.heap[w.heap.size + 1]? = some (.cells #[.slice A1 ln c1, .int .i64 sum, .int .i64 (4 * sz)] 107 (0, 0)) → W.heap[w.heap.size]? = some (.cells #[.slice none 0 0, .int .i64 0, .int .i64 0] 107 (0, 0)) → Below w.heap.size w W →
     (Y = W.setCell ⟨w.heap.size + 1, 0, none⟩ (.slice A3 n3 c3) ∨ Y = (W.setCell ⟨w.heap.size + 1, 0, none⟩ (.slice A3 n3 c3)).setCell ⟨w.heap.size + 1, 2, none⟩ (.int .i64 h0)) →
     X = ((Y.setCell ⟨w.heap.size, 0, none⟩ (.slice A3 n3 c3)).setCell ⟨w.heap.size, 1, none⟩ (.int .i64 sum)).setCell ⟨w.heap.size, 2, none⟩ (.int .i64 h0) →
     X.heap[w.heap.size]? = some (.cells #[.slice A3 n3 c3, .int .i64 sum, .int .i64 h0] 107 (0, 0)) ∧ Kd.R k42 42 X w.heap.size (fun _ => True) (.slice A3 n3 c3) (piecesS l) ∧ Below w.heap.size w X := by
    intro W A3 n3 c3 h0 Y X hR g1 g0 gb hY hX
    have hk : ∀ k, k ≠ w.heap.size → k ≠ w.heap.size + 1 → X.heap[k]? = W.heap[k]? := fun k k1 k2 => by
     rw [hX, setCell_far _ _ k1, setCell_far _ _ k1, setCell_far _ _ k1]
     rcases hY with rfl | rfl
     ·rw [setCell_far _ _ k2]
     ·rw [setCell_far _ _ k2, setCell_far _ _ k2]
    have hy0 : Y.heap[w.heap.size]? = some (.cells #[.slice none 0 0, .int .i64 0, .int .i64 0] 107 (0, 0)) := by
     rcases hY with rfl | rfl
     ·rw [setCell_far _ _ (by omega)]; exact g0
     ·rw [setCell_far _ _ (by omega), setCell_far _ _ (by omega)]; exact g0
    refine ⟨?_, ?_, ?_⟩
    ·rw [hX]
     exact heap_set (i := 2) (heap_set (i := 1) (heap_set (i := 0) hy0))
    ·refine Kd.R_lower (Kd.R_mono (Kd.R_step (w1 := X) (Kd.R_bound hR) fun k hk1 _ => hk k ?_ ?_) (fun _ _ => trivial)) (Nat.le_trans (Nat.le_add_right _ 2) hbs)
     ·have := hk1.2.1; omega
     ·have := hk1.2.1; omega
    ·have hb4 : Below w.heap.size w Y := by
      rcases hY with rfl | rfl
      ·exact gb.setCell (p := ⟨w.heap.size + 1, 0, none⟩) (Nat.le_succ _) _
      ·exact (gb.setCell (p := ⟨w.heap.size + 1, 0, none⟩) (Nat.le_succ _) _).setCell (p := ⟨w.heap.size + 1, 2, none⟩) (Nat.le_succ _) _
     rw [hX]
     exact ((hb4.setCell (p := ⟨w.heap.size, 0, none⟩) (Nat.le_refl _) _).setCell (p := ⟨w.heap.size, 1, none⟩) (Nat.le_refl _) _).setCell (p := ⟨w.heap.size, 2, none⟩) (Nat.le_refl _) _
   cases hem : decide (0 < l.length)
   case false =>
    have hem1 : decide ((0 : Int) < (l.length : Int)) = false := decide_eq_false (by have := of_decide_eq_false hem; omega)
    have hem2 : ¬ ((0 : Int) < (l.length : Int)) := of_decide_eq_false hem1
    have hem3 : l.length = 0 := by omega
    have hie : l.isEmpty = true := by rw [List.isEmpty_iff_length_eq_zero]; have := of_decide_eq_false hem; omega
    have HIE := Lib.hid hie
    have HF := Lib.hid hfin
    have HC := Lib.hid CALL
    clear hfin CALL hx1 hx0 hie pj
    go_wp2_with (go_at_call 71; refine cJ.mono ?_; intro e W hW; obtain ⟨A3, c3, rfl, hR3, g1, g0, gb⟩ := HC.out e W hW; obtain ⟨⟨j0, j1, j2⟩, i0', i1', i2'⟩ := blk3 g1; obtain ⟨⟨m0, m1, m2⟩, l0', l1', l2'⟩ := blk3 g0)
    obtain ⟨r1, r2, r3⟩ := HF.out W A3 _ c3 _ _ _ hR3 g1 g0 gb (.inl rfl) rfl
    refine bodyPost_ret (results_cell_row rfl _ _ w.heap.size 107 _ (0, 0) _ rfl r1 Tryz.underlying107 rfl (by kernel_rfl)) rfl ?_
    refine ⟨_, _, ?_, r2, r3⟩
    unfold highS
    rw [HIE.out, HSUM.out]
    rfl
   case true =>
    have hem1 : decide ((0 : Int) < (l.length : Int)) = true := decide_eq_true (by have := of_decide_eq_true hem; omega)
    have hem2 : (0 : Int) < (l.length : Int) := of_decide_eq_true hem1
    have hem3 : 0 < l.length := of_decide_eq_true hem
    have hie : l.isEmpty = false := by rw [Bool.eq_false_iff]; intro h; rw [List.isEmpty_iff_length_eq_zero] at h; have := of_decide_eq_true hem; omega
    have HIE := Lib.hid hie
    have HF := Lib.hid hfin
    have HC := Lib.hid CALL
    clear hfin CALL hx1 hx0 hie pj
    go_wp2_with (go_at_call 71; refine cJ.mono ?_; intro e W hW; obtain ⟨A3, c3, rfl, hR3, g1, g0, gb⟩ := HC.out e W hW; obtain ⟨⟨j0, j1, j2⟩, i0', i1', i2'⟩ := blk3 g1; obtain ⟨⟨m0, m1, m2⟩, l0', l1', l2'⟩ := blk3 g0)
    obtain ⟨r1, r2, r3⟩ := HF.out W A3 _ c3 _ _ _ hR3 g1 g0 gb (.inr rfl) rfl
    refine bodyPost_ret (results_cell_row rfl _ _ w.heap.size 107 _ (0, 0) _ rfl r1 Tryz.underlying107 rfl (by kernel_rfl)) rfl ?_
    refine ⟨_, _, ?_, r2, r3⟩
    unfold highS heightS
    rw [HIE.out, HTOP.out, HSUM.out]
    rfl
end Go.Proofs.YtogidacejbjljaaGreatDoor.PTextChecks
end
section
/- What keeps blocks by their types, and rows of lines of a cue. -/
set_option linter.unusedVariables false
set_option linter.unusedSimpArgs false
namespace Go.Own
open Go.RowKit
/-- Every block of w of a type that is not listed lies in w' as it lay. -/
def KB (ts : List TypeId) (w w' : World) : Prop := w.heap.size ≤ w'.heap.size ∧ ∀ (g : Nat) (cur : Array Value) (t : TypeId), t ∉ ts → w.heap[g]? = some (Obj.cells cur t (0, 0)) → w'.heap[g]? = some (Obj.cells cur t (0, 0))
theorem KB.refl (ts : List TypeId) (w : World) : KB ts w w := ⟨Nat.le_refl _, fun _ _ _ _ h => h⟩
theorem KB.trans {ts : List TypeId} {a b c : World} (h : KB ts a b) (k : KB ts b c) : KB ts a c := ⟨Nat.le_trans h.1 k.1, fun g cur t ht hg => k.2 g cur t ht (h.2 g cur t ht hg)⟩
theorem KB.mono {ts us : List TypeId} {a b : World} (h : KB ts a b) (hs : ∀ t ∈ ts, t ∈ us) : KB us a b := ⟨h.1, fun g cur t ht hg => h.2 g cur t (fun h' => ht (hs t h')) hg⟩
theorem KB.below {ts : List TypeId} {w w' : World} (h : Below w.heap.size w w') : KB ts w w' := ⟨h.size, fun g cur t _ hg => (h.block g (Array.getElem?_eq_some_iff.1 hg).1).trans hg⟩
theorem KB.set {ts : List TypeId} {w : World} {g i : Nat} {cs : Array Value} {t : TypeId} (hg : w.heap[g]? = some (Obj.cells cs t (0, 0))) (ht : t ∈ ts) (v : Value) : KB ts w (w.setCell ⟨g, i, none⟩ v) :=
 ⟨by simp [World.setCell], fun k cur u hu hk => by
  have hne : k ≠ g := fun e => by subst e; rw [hg] at hk; simp at hk; exact hu (hk.2 ▸ ht)
  exact (setCell_far _ _ hne).trans hk⟩
theorem KB.grown {ts : List TypeId} {w w' : World} {row : Option Nat} (h : w.grownBy w' row) (hr : ∀ k, row = some k → ∃ cs t, t ∈ ts ∧ w.heap[k]? = some (Obj.cells cs t (0, 0))) : KB ts w w' :=
 ⟨h.size, fun k cur u hu hk => by
  have hne : some k ≠ row := fun e => by
   obtain ⟨cs, t, ht, hc⟩ := hr k e.symm
   rw [hc] at hk
   simp at hk
   exact hu (hk.2 ▸ ht)
  exact (h.block k (Array.getElem?_eq_some_iff.1 hk).1 hne).trans hk⟩
theorem Lies.kb {ts : List TypeId} {w w' : World} {base : Nat} {e : TypeId} {size : Nat} {v : Value} {n : Nat} {xs : List Value} (h : Lies w base e size v n xs) (hk : KB ts w w') (he : e ∉ ts) : Lies w' base e size v n xs := by
 refine h.keep fun k _ hv => ?_
 obtain ⟨_, _, cur, hc⟩ := h.lt k hv
 exact (hk.2 k cur e he hc).trans hc.symm
/-- The first m elements. -/
theorem Lies.take {w : World} {base : Nat} {e : TypeId} {size : Nat} {A : Option Addr} {n c : Nat} {xs : List Value} (h : Lies w base e size (.slice A n c) n xs) {m : Nat} (hm : m ≤ n) : Lies w base e size (.slice A m c) m (xs.take (m * size)) := by
 have hmul : m * size ≤ n * size := Nat.mul_le_mul_right _ hm
 refine ⟨by rw [List.length_take, h.1]; omega, ?_⟩
 rcases h.2 with ⟨h1, h0⟩ | ⟨g, off, cap, cur, hv, hb, hg, hnc, hcm, hcs, ht⟩
 ·injection h1 with h1 h2 h3
  subst h1 h3
  exact .inl ⟨by rw [show m = 0 by omega], by omega⟩
 ·injection hv with h1 h2 h3
  subst h1 h3
  refine .inr ⟨g, off, c, cur, rfl, hb, hg, by omega, hcm, hcs, ?_⟩
  rw [← ht, List.take_take, Nat.min_eq_left hmul]
/-- All but the first m elements, as the machine tells it. -/
theorem Lies.drop {w : World} {base : Nat} {e : TypeId} {size : Nat} {A : Option Addr} {n c : Nat} {xs : List Value} (h : Lies w base e size (.slice A n c) n xs) {m : Nat} (hm : m ≤ n) : Lies w base e size (.slice (if c = m then A else A.map (·.add (m * size))) (n - m) (c - m)) (n - m) (xs.drop (m * size)) := by
 have hmul : m * size ≤ n * size := Nat.mul_le_mul_right _ hm
 refine ⟨by rw [List.length_drop, h.1, Nat.sub_mul], ?_⟩
 rcases h.2 with ⟨h1, h0⟩ | ⟨g, off, cap, cur, hv, hb, hg, hnc, hcm, hcs, ht⟩
 ·injection h1 with h1 h2 h3
  subst h1 h3
  exact .inl ⟨by subst h0; simp, by omega⟩
 ·injection hv with h1 h2 h3
  subst h1 h3
  by_cases hcm' : c = m
  ·rw [if_pos hcm']
   refine .inr ⟨g, off, c - m, cur, rfl, hb, hg, by omega, by omega, by rw [hcm', Nat.sub_self]; omega, ?_⟩
   have : n - m = 0 := by omega
   rw [this, Nat.zero_mul, List.take_zero]
   have hnm : n = m := by omega
   exact (List.eq_nil_of_length_eq_zero (by rw [List.length_drop, h.1, hnm]; omega)).symm
  ·rw [if_neg hcm']
   have hadd : (⟨g, off, none⟩ : Addr).add (m * size) = ⟨g, off + m * size, none⟩ := by unfold Addr.add; split <;> simp_all
   refine .inr ⟨g, off + m * size, c - m, cur, by simp [hadd], hb, hg, by omega, by omega, by rw [Nat.sub_mul]; have : m * size ≤ c * size := Nat.mul_le_mul_right _ (by omega); omega, ?_⟩
   rw [← ht, List.drop_take, List.drop_drop, Nat.sub_mul]
end Go.Own
namespace Go.Proofs.YtogidacejbjljaaGreatDoor.PTextChecks
open Go.RowKit Go.Mix Go.Own Go.Proofs.YtogidacejbjljaaGreatDoorW.PrintWords Go.Proofs.YtogidacejbjljaaGreatDoorW.PrintLast Go.Proofs.YtogidacejbjljaaGreatDoorW.PrintMore
def enc81 (x : S81) : List Value := [.int .u8 x.f0, .bool x.f1.f0, .bool x.f1.f1, .bool x.f1.f2, .int .i64 x.f1.f3, .int .i64 x.f1.f4]
def flat81 (l : List S81) : List Value := l.flatMap enc81
theorem flat81_get : ∀ (l : List S81) (k j : Nat) (p : S81), l[k]? = some p → j < 6 → (flat81 l)[k * 6 + j]? = (enc81 p)[j]?
 | [], _, _, _, h, _ => by simp at h
 | x :: l, 0, j, p, h, hj => by
  obtain rfl : x = p := by simpa using h
  rw [Nat.zero_mul, Nat.zero_add, flat81, List.flatMap_cons, List.getElem?_append_left (by simp [enc81]; omega)]
 | x :: l, k + 1, j, p, h, hj => by
  have := flat81_get l k j p (by simpa using h) hj
  rw [flat81, List.flatMap_cons, List.getElem?_append_right (by simp [enc81]; omega), ← this]
  simp only [enc81, List.length_cons, List.length_nil, flat81]
  congr 1
  omega
theorem flat81_take (l : List S81) (m : Nat) : (flat81 l).take (m * 6) = flat81 (l.take m) := by
 induction l generalizing m with
 | nil => simp [flat81]
 | cons x l ih =>
  cases m with
  | zero => simp [flat81]
  | succ m =>
   have h6 : (enc81 x).length = 6 := rfl
   have := ih m
   simp only [flat81, List.flatMap_cons, List.take_succ_cons] at this ⊢
   rw [List.take_append, h6, List.take_of_length_le (by rw [h6]; omega), ← this]
   congr 2
   omega
theorem flat81_drop (l : List S81) (m : Nat) : (flat81 l).drop (m * 6) = flat81 (l.drop m) := by
 induction l generalizing m with
 | nil => simp [flat81]
 | cons x l ih =>
  cases m with
  | zero => simp
  | succ m =>
   have h6 : (enc81 x).length = 6 := rfl
   have := ih m
   simp only [flat81, List.flatMap_cons, List.drop_succ_cons] at this ⊢
   rw [List.drop_append, h6, List.drop_of_length_le (by rw [h6]; omega), ← this, List.nil_append]
   congr 1
   omega
/-- A row of letters of the call's own is read as such. -/
theorem lies81 {w : World} {base : Nat} {e : TypeId} {v : Value} {l : List S81} (h : Lies w base e 6 v l.length (flat81 l)) (hl : l.length ≤ 9223372036854775807) : ∃ A c, v = .slice A l.length c ∧ l.length ≤ c ∧ Kd.C k81 w A l.length l := by
 obtain ⟨A, c, rfl, hle⟩ := h.form
 refine ⟨A, c, rfl, hle, rfl, by omega, fun hpos => ?_⟩
 obtain ⟨a, c', he, _, hc⟩ := h.cell hpos
 injection he with h1 h2 h3
 refine ⟨a, h1, fun j p hj => ⟨enc81 p, rfl, k81_mk w p, fun i u hu => ?_⟩⟩
 have hi : i < 6 := by have := (List.getElem?_eq_some_iff.1 hu).1; simpa [enc81] using this
 exact hc _ _ ((flat81_get l j i p hj hi).trans hu)
/-- A row of pieces, in a block of its own. -/
def In42 (w : World) (v : Value) (l : List S42) : Prop := Lies w 0 42 6 v l.length (flat l)
theorem In42.reads {w : World} {v : Value} {l : List S42} (h : In42 w v l) (hl : l.length ≤ 9223372036854775807) : ∃ A c, v = .slice A l.length c ∧ l.length ≤ c ∧ Kd.C k42 w A l.length l := by
 obtain ⟨A, c, rfl, hle⟩ := h.form
 refine ⟨A, c, rfl, hle, rfl, by omega, fun hpos => ?_⟩
 obtain ⟨a, c', he, _, hc⟩ := h.cell hpos
 injection he with h1 h2 h3
 refine ⟨a, h1, fun j p hj => ⟨enc p, rfl, k42_mk w p, fun i u hu => ?_⟩⟩
 have hi : i < 6 := by have := (List.getElem?_eq_some_iff.1 hu).1; simpa [enc] using this
 exact hc _ _ ((flat_get l j i p hj hi).trans hu)
theorem In42.kb' {w w' : World} {v : Value} {l : List S42} (h : In42 w v l) (hk : KB [107] w w') : In42 w' v l := h.kb hk (by decide)
theorem R_in42 {w : World} {base : Nat} {ok : Nat → Prop} {v : Value} {l : List S42} (h : Kd.R k42 42 w base ok v l) : In42 w v l := by
 obtain ⟨A, c, rfl, hle, hC⟩ := Kd.R_reads h
 obtain ⟨inner, ho⟩ := Kd.R_own h
 have hL := Lies.of_owns ho
 have : inner = flat l := by
  apply List.ext_getElem?
  intro j
  by_cases hj : j < l.length * 6
  ·obtain ⟨q, r, hr, rfl⟩ : ∃ q r, r < 6 ∧ j = q * 6 + r := ⟨j / 6, j % 6, Nat.mod_lt _ (by omega), by omega⟩
   have hq : q < l.length := by omega
   obtain ⟨a, ha, hcs⟩ := hC.2.2 (by omega)
   obtain ⟨cs, hc6, hK, hcell⟩ := hcs q l[q] (List.getElem?_eq_getElem hq)
   obtain rfl := k42_open hK
   obtain ⟨a', c', he, _, hc⟩ := hL.cell (by omega)
   injection he with h1 h2 h3
   obtain rfl : a = a' := by rw [ha] at h1; injection h1
   have hlt : q * 6 + r < inner.length := by rw [ho.1]; exact hj
   have e1 := hc (q * 6 + r) _ (List.getElem?_eq_getElem hlt)
   have hr6 : r < (enc l[q]).length := hr
   have e2 := hcell r _ (List.getElem?_eq_getElem hr6)
   rw [flat_get l q r l[q] (List.getElem?_eq_getElem hq) hr, List.getElem?_eq_getElem hlt, List.getElem?_eq_getElem hr6]
   have e3 := e1.symm.trans e2
   exact e3
  ·rw [List.getElem?_eq_none (by rw [ho.1]; exact Nat.not_lt.1 hj), List.getElem?_eq_none (by rw [flat_length]; omega)]
 subst this
 exact hL.mono (Nat.zero_le _)
/-- The lines of a cue: a row of their own, each with its pieces in a block of its own. -/
def cells107 (vs : List Value) (O : List (List S81 × Int)) : List Value := (List.zip vs O).flatMap fun p => [p.1, .int .i64 (sumW p.2.1 0), .int .i64 p.2.2]
def Outs (w : World) (base : Nat) (v : Value) (O : List (List S81 × Int)) : Prop := ∃ vs : List Value, vs.length = O.length ∧ Lies w base 107 3 v O.length (cells107 vs O) ∧ ∀ (i : Nat) (u : Value) (p : List S81 × Int), vs[i]? = some u → O[i]? = some p → In42 w u (piecesS p.1)
theorem Outs.nil (w : World) (base : Nat) : Outs w base (.slice none 0 0) [] := ⟨[], rfl, Lies.nil w base 107 3, fun i u p h => by simp at h⟩
theorem Outs.kb {ts : List TypeId} {w w' : World} {base : Nat} {v : Value} {O : List (List S81 × Int)} (h : Outs w base v O) (hk : KB ts w w') (h1 : 107 ∉ ts) (h2 : 42 ∉ ts) : Outs w' base v O := by
 obtain ⟨vs, h3, h4, h5⟩ := h
 exact ⟨vs, h3, h4.kb hk h1, fun i u p hu hp => (h5 i u p hu hp).kb hk h2⟩
theorem cells107_snoc (vs : List Value) (O : List (List S81 × Int)) (u : Value) (p : List S81 × Int) (h : vs.length = O.length) : cells107 (vs ++ [u]) (O ++ [p]) = cells107 vs O ++ [u, .int .i64 (sumW p.1 0), .int .i64 p.2] := by
 unfold cells107
 rw [List.zip_append h, List.flatMap_append]
 rfl
/-- One line more. -/
theorem Outs.snoc {w w' : World} {base : Nat} {v' u : Value} {O : List (List S81 × Int)} {p : List S81 × Int} {vs : List Value} (h1 : vs.length = O.length) (h2 : ∀ (i : Nat) (u : Value) (p : List S81 × Int), vs[i]? = some u → O[i]? = some p → In42 w u (piecesS p.1))
  (h3 : Lies w' base 107 3 v' (O.length + 1) (cells107 vs O ++ [u, .int .i64 (sumW p.1 0), .int .i64 p.2])) (h4 : In42 w u (piecesS p.1)) (hk : KB [107] w w') : Outs w' base v' (O ++ [p]) := by
 refine ⟨vs ++ [u], by simp [h1], ?_, fun i u' q hu hq => ?_⟩
 ·rw [cells107_snoc vs O u p h1, List.length_append]
  exact h3
 ·refine In42.kb' ?_ hk
  rcases Nat.lt_trichotomy i O.length with hi | hi | hi
  ·rw [List.getElem?_append_left (by omega)] at hu
   rw [List.getElem?_append_left hi] at hq
   exact h2 i u' q hu hq
  ·subst hi
   rw [← h1, List.getElem?_concat_length] at hu
   rw [List.getElem?_concat_length] at hq
   injection hu with hu
   injection hq with hq
   subst hu hq
   exact h4
  ·rw [List.getElem?_eq_none (by simp; omega)] at hq
   cases hq
end Go.Proofs.YtogidacejbjljaaGreatDoor.PTextChecks
end
section
/- text.broken's closure flush: the letters at hand into lines. -/
set_option linter.unusedVariables false
set_option linter.unusedSimpArgs false
namespace Go.Proofs.YtogidacejbjljaaGreatDoor.PTextChecks
open Go.RowKit Go.Mix Go.Own Go.Proofs.YtogidacejbjljaaGreatDoorW.PrintWords Go.Proofs.YtogidacejbjljaaGreatDoorW.PrintLast Go.Proofs.YtogidacejbjljaaGreatDoorW.PrintMore
theorem infoLine : (Tryz.prog.info? 107).map (fun i => (i.zero, i.size, i.bytes)) = some (some (.agg #[.slice none 0 0, .int .i64 0, .int .i64 0]), 3, 40) := by kernel_rfl
def Boxes (w : World) (bL bR bO bS : Nat) (vl vo : Value) (room sz : Int) : Prop :=
 w.heap[bL]? = some (.cells #[vl] 147 (0, 0)) ∧ w.heap[bR]? = some (.cells #[.int .i64 room] 3 (0, 0)) ∧ w.heap[bO]? = some (.cells #[vo] 104 (0, 0)) ∧ w.heap[bS]? = some (.cells #[.int .i64 sz] 3 (0, 0))
theorem blk1 {W : World} {b : Nat} {v0 : Value} {t : TypeId} (h : W.heap[b]? = some (.cells #[v0] t (0, 0))) : W.cell? ⟨b, 0, none⟩ = some v0 ∧ W.frozen? ⟨b, 0, none⟩ = false := by
 refine ⟨?_, ?_⟩ <;> simp [World.cell?, World.frozen?, h]
def lenAt (w : World) (b : Nat) : Nat := match w.cell? ⟨b, 0, none⟩ with | some (.slice _ n _) => n | _ => 0
def firstN : Value → Nat | .bool true => 1 | _ => 0
/-- The worlds in which all blocks but those of lines lie as they lay. -/
def KX (W : World) : Type := { w' : World // KB [107] W w' }
instance (W : World) : Nonempty (KX W) := ⟨⟨W, KB.refl _ W⟩⟩
def KX.w {W : World} (x : KX W) : World := x.1
theorem KX.cell {W : World} (x : KX W) {b : Nat} {v : Value} {t : TypeId} (h : W.heap[b]? = some (.cells #[v] t (0, 0))) (ht : t ∉ [107]) : x.w.cell? ⟨b, 0, none⟩ = some v := (blk1 (x.2.2 b _ t ht h)).1
/-- What is still to come. -/
def toCome (first : Bool) (room : Int) (l : List S81) (sz : Int) : List (List S81 × Int) := if first then flushS room l sz else (brk room l).map fun r => (r, heightS r)
theorem toCome_step (first : Bool) (room : Int) (l : List S81) (sz : Int) (h : first = true ∨ l ≠ []) : toCome first room l sz = (l.take (takenS l room), highS (l.take (takenS l room)) sz) :: toCome false room (l.drop (takenS l room)) sz := by
 cases l with
 | nil =>
  obtain rfl : first = true := by simpa using h
  simp [toCome, flushS, highS, brk_nil, takenS_nil]
 | cons x r =>
  have hb := brk_cons (l := x :: r) (by simp) room
  have hp := takenS_pos (l := x :: r) (by simp) room
  have hh : highS ((x :: r).take (takenS (x :: r) room)) sz = heightS ((x :: r).take (takenS (x :: r) room)) := by
   unfold highS
   rw [if_neg]
   obtain ⟨m, hm⟩ : ∃ m, takenS (x :: r) room = m + 1 := ⟨takenS (x :: r) room - 1, by omega⟩
   rw [hm]
   simp
  have he : toCome first room (x :: r) sz = (brk room (x :: r)).map fun r => (r, heightS r) := by cases first <;> simp [toCome, flushS]
  rw [he, hb, List.map_cons, hh]
  simp [toCome]
def FRel (w : World) (base bL bR bO bS : Nat) (room sz : Int) (T : List (List S81 × Int)) (first : Bool) (l : List S81) (O : List (List S81 × Int)) (vl vo : Value) (wr : World) : Prop :=
 Boxes wr bL bR bO bS vl vo room sz ∧ Lies wr base 151 6 vl l.length (flat81 l) ∧ Outs wr base vo O ∧ KB [147, 104, 107] w wr ∧ Below base w wr ∧ O ++ toCome first room l sz = T
set_option maxHeartbeats 4000000 in
set_option maxRecDepth 100000 in
theorem flush_calls (w : World) (base bL bR bO bS : Nat) (room sz : Int) (l : List S81) (O : List (List S81 × Int)) (vl vo : Value) (hbx : Boxes w bL bR bO bS vl vo room sz) (hl : Lies w base 151 6 vl l.length (flat81 l)) (hO : Outs w base vo O)
  (hb : base ≤ bL ∧ base ≤ bO) (ho : Okl l) (hsz : 0 ≤ sz ∧ sz ≤ 8) (hlen : O.length + l.length + 1 ≤ 1000000) :
  Calls Tryz.prog 105 #[.pointer (some ⟨bL, 0, none⟩), .pointer (some ⟨bR, 0, none⟩), .pointer (some ⟨bO, 0, none⟩), .pointer (some ⟨bS, 0, none⟩)] w fun e w' => ∃ vl' vo' u, e = .returned u ∧ Boxes w' bL bR bO bS vl' vo' room sz ∧ Lies w' base 151 6 vl' 0 [] ∧ Outs w' base vo' (O ++ flushS room l sz) ∧ KB [147, 104, 107] w w' ∧ Below base w w' := by
 obtain ⟨i0, hi, hii⟩ := Option.map_eq_some_iff.1 infoLine
 simp only [Prod.mk.injEq] at hii
 obtain ⟨hz0, hz1, hz2⟩ := hii
 go_enter Tryz.func105, Tryz.ntmps105
 go_wp2
 go_loopw [4] (fun t wr => ∃ (first : Bool) (l' : List S81) (O' : List (List S81 × Int)) (vl' vo' : Value), t = .bool first ∧ Okl l' ∧ l'.length ≤ l.length ∧ FRel w base bL bR bO bS room sz (O ++ flushS room l sz) first l' O' vl' vo' wr) (fun t wr => lenAt wr bL + firstN t)
 case atStart => exact ⟨true, l, O, vl, vo, rfl, ho, Nat.le_refl _, hbx, hl, hO, KB.refl _ _, Below.refl _ _, rfl⟩
 case round =>
  obtain ⟨first, l', O', vl', vo', rfl, ho', hll, ⟨b1, b2, b3, b4⟩, hl', hO', hk, hbw, hT⟩ := hrel
  have hlen2 : O'.length + l'.length ≤ 2000000 := by
   have h1 := congrArg List.length hT
   rw [List.length_append, List.length_append] at h1
   have h2 := flushS_len room l sz
   omega
  have hBs : base ≤ wr.heap.size := by have := (Array.getElem?_eq_some_iff.1 b1).1; omega
  cases first with
  | true =>
   have hst : toCome true room l' sz = _ := toCome_step true room l' sz (.inl rfl)
   rw [hst] at hT
   obtain ⟨A, c, rfl, hle, hC⟩ := lies81 hl' (by omega)
   have hnl := takenS_le l' room
   have cT := taken_calls A c l' room wr hC (by omega) ho'.byt
   obtain ⟨m1, m1'⟩ := blk1 b1
   obtain ⟨m2, m2'⟩ := blk1 b2
   obtain ⟨m3, m3'⟩ := blk1 b3
   obtain ⟨m4, m4'⟩ := blk1 b4
   obtain ⟨n, hn⟩ : ∃ n, takenS l' room = n := ⟨_, rfl⟩
   rw [hn] at hT hnl cT
   have HT := Lib.hid hT
   have HLA := Lib.hid (show lenAt wr bL = l'.length from by simp [lenAt, m1])
   have HLN := Lib.hid hlen2
   clear hT hst hn hlen2
   go_wp2_with (go_at_call 106; refine cT.mono ?_; rintro e W1 ⟨rfl, hb1⟩)
   have k1 : W1.heap[bL]? = _ := (hb1.block _ (Array.getElem?_eq_some_iff.1 b1).1).trans b1
   have k2 : W1.heap[bR]? = _ := (hb1.block _ (Array.getElem?_eq_some_iff.1 b2).1).trans b2
   have k3 : W1.heap[bO]? = _ := (hb1.block _ (Array.getElem?_eq_some_iff.1 b3).1).trans b3
   have k4 : W1.heap[bS]? = _ := (hb1.block _ (Array.getElem?_eq_some_iff.1 b4).1).trans b4
   have hl1 := hl'.kb (KB.below (ts := []) hb1) (by simp)
   have hO1 := hO'.kb (KB.below (ts := []) hb1) (by simp) (by simp)
   have hk1 := hk.trans (KB.below hb1)
   have hBs1 : base ≤ W1.heap.size := Nat.le_trans hBs hb1.size
   have hbw1 : Below base w W1 := hbw.trans (hb1.mono hBs)
   clear m1 m1' m2 m2' m3 m3' m4 m4' hb1 b1 b2 b3 b4 hk hbw hC cT hl' hO'
   have x1 := fun x : KX W1 => x.cell k1 (by decide)
   have x3 := fun x : KX W1 => x.cell k3 (by decide)
   have x4 := fun x : KX W1 => x.cell k4 (by decide)
   have hnc : n ≤ c := by omega
   refine wp_region_mix_last' (C := fun w' => ∃ x : KX W1, w' = x.w) 8 rfl [5, 6, 7] 2 (by kernel_rfl) (by kernel_rfl) (by kernel_rfl) (by kernel_rfl) ⟨⟨W1.drew, KB.below (Below.refl _ W1).drew⟩, rfl⟩ ?_
   refine mix_pure rfl (fun K hK => ?_)
   go_simp
   refine hK _ _ ?_
   clear hK K
   refine mix_pure rfl (fun K hK => ?_)
   go_simp
   refine hK _ _ ?_
   clear hK K
   refine mix_pure rfl (fun K hK => ?_)
   go_simp
   refine hK _ _ ?_
   clear hK K
   refine mix_pure rfl (fun K hK => ?_)
   go_simp
   refine hK _ _ ?_
   clear hK K
   refine mix_pure rfl (fun K hK => ?_)
   go_simp
   refine hK _ _ ?_
   clear hK K
   have htl : (l'.take n).length = n := by rw [List.length_take]; omega
   have hLt : Lies W1 base 151 6 (.slice A n c) (l'.take n).length (flat81 (l'.take n)) := by rw [htl, ← flat81_take]; exact hl1.take hnl
   have hM : Kd.C k81 W1 A (l'.take n).length (l'.take n) := by
    obtain ⟨A', c', he, _, h⟩ := lies81 hLt (by have := HLN.out; omega)
    injection he with h1 h2 h3
    rw [h1]
    exact h
   have cM := makeLine_calls A c (l'.take n) sz W1.drew (Kd.C_drew hM) (by have := HLN.out; omega) (ho'.take n) hsz
   rw [htl] at cM
   obtain ⟨vs, hv1, hv2, hv3⟩ := hO1
   refine mix_eff rfl (fun K hK => ?_)
   go_simp
   simp only [effUpon_enter]
   refine cM.mono ?_
   rintro e W2 ⟨A2, c2, rfl, hR2, hb2⟩
   have hI2 := R_in42 hR2
   have hb2' : Below W1.heap.size W1 W2 := (Below.refl _ W1).drew.trans hb2
   have hx2 : KB [107] W1 W2 := KB.below hb2'
   refine ⟨_, rfl, ⟨⟨W2, hx2⟩, rfl⟩, hK _ _ ?_⟩
   clear hK K cM hR2
   generalize hpl : (piecesS (l'.take n)).length = pl at *
   generalize hsu : sumW (l'.take n) 0 = su at *
   generalize hhi : highS (l'.take n) sz = high at *
   refine mix_eff rfl (fun K hK => ?_)
   go_simp
   simp only [effUpon_value]
   have hx3 : KB [107] W1 (W2.alloc (.cells #[.slice A2 pl c2, .int .i64 su, .int .i64 high] 107)) := hx2.trans (KB.below ((Below.refl _ W2).alloc (Nat.le_refl _) _))
   have hx3' : KB [107] W2 (W2.alloc (.cells #[.slice A2 pl c2, .int .i64 su, .int .i64 high] 107)) := KB.below ((Below.refl _ W2).alloc (Nat.le_refl _) _)
   refine ⟨⟨⟨_, hx3⟩, rfl⟩, hK _ _ ?_⟩
   clear hK K
   have hL3 : Lies (W2.alloc (.cells #[.slice A2 pl c2, .int .i64 su, .int .i64 high] 107)) base 107 3 vo' O'.length (cells107 vs O') := (hv2.kb (KB.below (ts := []) hb2') (by simp)).kb (KB.below (ts := []) ((Below.refl _ W2).alloc (Nat.le_refl _) _)) (by simp)
   have hOl : O'.length ≤ 2000000 := by have := HLN.out; omega
   refine mix_append rfl rfl _ _ 104 rfl base 107 i0 _ 3 40 Tryz.underlying104 hi hz0 hz1 hz2 rfl (by decide) vo' O'.length (cells107 vs O') rfl hL3 ⟨W2.heap.size, 0, none⟩ 1 1 [.slice A2 pl c2, .int .i64 su, .int .i64 high] rfl rfl ?qc2 ?qc3 ?qc4 ?qc5 ?qc6 (by decide) ?_
   case qc2 =>
    intro j u hj
    rw [add0, cell_of_row _ _ j _ 107 (0, 0) (heap_alloc_new W2 _)]
    simpa using hj
   case qc3 => intro u hu; simp only [List.mem_cons, List.mem_nil_iff, or_false] at hu; rcases hu with rfl | rfl | rfl <;> rfl
   case qc4 => unfold maxLen; omega
   case qc5 => omega
   case qc6 => have := hb2'.size; simp; omega
   intro v3 W3 hL4 hg3
   have hx4 : KB [107] W1 W3 := hx3.trans (KB.grown hg3 fun k hk => by obtain ⟨_, _, cur, hc⟩ := hL3.lt k hk; exact ⟨cur, 107, by simp, hc⟩)
   have hO4 : Outs W3 base v3 (O' ++ [(l'.take n, high)]) := by
    refine Outs.snoc hv1 (fun i u p h1 h2 => (hv3 i u p h1 h2).kb (KB.below (ts := []) hb2') (by simp)) ?_ ?_ (hx3'.trans (KB.grown hg3 fun k hk => by obtain ⟨_, _, cur, hc⟩ := hL3.lt k hk; exact ⟨cur, 107, by simp, hc⟩)) (u := .slice A2 pl c2)
    ·rw [hsu]; exact hL4
    ·rw [← hpl] at hI2 ⊢; exact hI2
   have hb4 : Below base w W3 := (hbw1.trans ((hb2'.mono hBs1).alloc (Nat.le_trans hBs1 hb2'.size) _)).grown hg3 (by have := hb2'.size; simp; omega) (fun k hk => (hL3.lt k hk).1)
   obtain ⟨A3, c3, rfl, hle3⟩ := hL4.form
   refine ⟨⟨⟨W3, hx4⟩, rfl⟩, ?_⟩
   have hl4 := hl1.kb hx4 (by decide)
   have p1 := hx4.2 bL _ 147 (by decide) k1
   have p2 := hx4.2 bR _ 3 (by decide) k2
   have p3 := hx4.2 bO _ 104 (by decide) k3
   have p4 := hx4.2 bS _ 3 (by decide) k4
   have hk4 : KB [147, 104, 107] w W3 := hk1.trans (hx4.mono (by simp))
   clear hx3 hx2 hg3 hL3 hL4 hb2 hb2' hv1 hv2 hv3 hI2 x1 x3 x4 k1 k2 k3 k4 hk1 hbw1 hx4 hx3'
   have hne1 : ¬ bL = bO := by rintro rfl; rw [p1] at p3; simp at p3
   have hne2 : ¬ bO = bL := fun h => hne1 h.symm
   obtain ⟨m1, m1'⟩ := blk1 p1
   obtain ⟨m2, m2'⟩ := blk1 p2
   obtain ⟨m3, m3'⟩ := blk1 p3
   obtain ⟨m4, m4'⟩ := blk1 p4
   refine mix_nil ?_
   intro _
   go_wp2
   go_roundw
   case rel =>
    have q3 : (W3.setCell ⟨bO, 0, none⟩ (.slice A3 (O'.length + 1) c3)).heap[bL]? = some (.cells #[.slice A l'.length c] 147 (0, 0)) := (setCell_far _ _ hne1).trans p1
    have s1 : KB [104] W3 (W3.setCell ⟨bO, 0, none⟩ (.slice A3 (O'.length + 1) c3)) := KB.set p3 (by simp) _
    have s2 := fun u : Value => KB.set (ts := [147]) (i := 0) q3 (by simp) u
    refine ⟨false, l'.drop n, O' ++ [(l'.take n, high)], _, .slice A3 (O'.length + 1) c3, rfl, ho'.drop n, by rw [List.length_drop]; omega, ⟨heap_set (i := 0) q3, ?_, ?_, ?_⟩, ?_, ?_, ?_, ?_, ?_⟩
    ·exact (setCell_far _ _ (by rintro rfl; rw [p1] at p2; simp at p2)).trans ((setCell_far _ _ (by rintro rfl; rw [p3] at p2; simp at p2)).trans p2)
    ·exact (setCell_far _ _ hne2).trans (heap_set (i := 0) p3)
    ·exact (setCell_far _ _ (by rintro rfl; rw [p1] at p4; simp at p4)).trans ((setCell_far _ _ (by rintro rfl; rw [p3] at p4; simp at p4)).trans p4)
    ·have := (((hl4.kb s1 (by decide)).kb (s2 (.slice (if c = n then A else Option.map (fun x => x.add (n * 6)) A) (l'.length - n) (c - n))) (by decide)).drop hnl)
     rw [List.length_drop, ← flat81_drop]
     exact this
    ·exact (hO4.kb s1 (by decide) (by decide)).kb (s2 _) (by decide) (by decide)
    ·exact hk4.trans ((s1.mono (by simp)).trans ((s2 _).mono (by simp)))
    ·exact (hb4.setCell (p := ⟨bO, 0, none⟩) hb.2 _).setCell (p := ⟨bL, 0, none⟩) hb.1 _
    ·rw [← HT.out, List.append_assoc]
     rfl
   case measure =>
    have q3 : (W3.setCell ⟨bO, 0, none⟩ (.slice A3 (O'.length + 1) c3)).heap[bL]? = some (.cells #[.slice A l'.length c] 147 (0, 0)) := (setCell_far _ _ hne1).trans p1
    rw [HLA.out]
    unfold lenAt
    rw [(blk1 (heap_set (i := 0) q3)).1]
    simp [firstN]
    omega
  | false =>
   by_cases hne : l' = []
   ·subst hne
    have hT2 : O' = O ++ flushS room l sz := by simpa [toCome, brk_nil] using hT
    have HT := Lib.hid hT2
    have hA : ∃ A c, vl' = .slice A 0 c := by obtain ⟨A, c, h, _⟩ := hl'.form; exact ⟨A, c, h⟩
    obtain ⟨A, c, rfl⟩ := hA
    obtain ⟨m1, m1'⟩ := blk1 b1
    clear hT hT2
    go_wp2
    refine bodyPost_end (v := .tuple #[]) (by simp [results, show Tryz.f105.results = #[] from rfl]) rfl ?_
    rw [← HT.out]
    exact ⟨_, _, _, rfl, ⟨b1, b2, b3, b4⟩, hl', hO', hk, hbw⟩
   ·have hpos := List.length_pos_iff.2 hne
    have hst : toCome false room l' sz = _ := toCome_step false room l' sz (.inr hne)
    rw [hst] at hT
    obtain ⟨A, c, rfl, hle, hC⟩ := lies81 hl' (by omega)
    have hnl := takenS_le l' room
    have cT := taken_calls A c l' room wr hC (by omega) ho'.byt
    obtain ⟨m1, m1'⟩ := blk1 b1
    obtain ⟨m2, m2'⟩ := blk1 b2
    obtain ⟨m3, m3'⟩ := blk1 b3
    obtain ⟨m4, m4'⟩ := blk1 b4
    obtain ⟨n, hn⟩ : ∃ n, takenS l' room = n := ⟨_, rfl⟩
    rw [hn] at hT hnl cT
    have HT := Lib.hid hT
    have HLA := Lib.hid (show lenAt wr bL = l'.length from by simp [lenAt, m1])
    have hpn : 0 < n := hn ▸ takenS_pos hne room
    have HLN := Lib.hid hlen2
    clear hT hst hn hlen2
    have hp1 : decide ((0 : Int) < (l'.length : Int)) = true := decide_eq_true (by omega)
    go_wp2_with (go_at_call 106; refine cT.mono ?_; rintro e W1 ⟨rfl, hb1⟩)
    have k1 : W1.heap[bL]? = _ := (hb1.block _ (Array.getElem?_eq_some_iff.1 b1).1).trans b1
    have k2 : W1.heap[bR]? = _ := (hb1.block _ (Array.getElem?_eq_some_iff.1 b2).1).trans b2
    have k3 : W1.heap[bO]? = _ := (hb1.block _ (Array.getElem?_eq_some_iff.1 b3).1).trans b3
    have k4 : W1.heap[bS]? = _ := (hb1.block _ (Array.getElem?_eq_some_iff.1 b4).1).trans b4
    have hl1 := hl'.kb (KB.below (ts := []) hb1) (by simp)
    have hO1 := hO'.kb (KB.below (ts := []) hb1) (by simp) (by simp)
    have hk1 := hk.trans (KB.below hb1)
    have hBs1 : base ≤ W1.heap.size := Nat.le_trans hBs hb1.size
    have hbw1 : Below base w W1 := hbw.trans (hb1.mono hBs)
    clear m1 m1' m2 m2' m3 m3' m4 m4' hb1 b1 b2 b3 b4 hk hbw hC cT hl' hO'
    have x1 := fun x : KX W1 => x.cell k1 (by decide)
    have x3 := fun x : KX W1 => x.cell k3 (by decide)
    have x4 := fun x : KX W1 => x.cell k4 (by decide)
    have hnc : n ≤ c := by omega
    refine wp_region_mix_last' (C := fun w' => ∃ x : KX W1, w' = x.w) 8 rfl [5, 6, 7] 2 (by kernel_rfl) (by kernel_rfl) (by kernel_rfl) (by kernel_rfl) ⟨⟨W1.drew, KB.below (Below.refl _ W1).drew⟩, rfl⟩ ?_
    refine mix_pure rfl (fun K hK => ?_)
    go_simp
    refine hK _ _ ?_
    clear hK K
    refine mix_pure rfl (fun K hK => ?_)
    go_simp
    refine hK _ _ ?_
    clear hK K
    refine mix_pure rfl (fun K hK => ?_)
    go_simp
    refine hK _ _ ?_
    clear hK K
    refine mix_pure rfl (fun K hK => ?_)
    go_simp
    refine hK _ _ ?_
    clear hK K
    refine mix_pure rfl (fun K hK => ?_)
    go_simp
    refine hK _ _ ?_
    clear hK K
    have htl : (l'.take n).length = n := by rw [List.length_take]; omega
    have hLt : Lies W1 base 151 6 (.slice A n c) (l'.take n).length (flat81 (l'.take n)) := by rw [htl, ← flat81_take]; exact hl1.take hnl
    have hM : Kd.C k81 W1 A (l'.take n).length (l'.take n) := by
     obtain ⟨A', c', he, _, h⟩ := lies81 hLt (by have := HLN.out; omega)
     injection he with h1 h2 h3
     rw [h1]
     exact h
    have cM := makeLine_calls A c (l'.take n) sz W1.drew (Kd.C_drew hM) (by have := HLN.out; omega) (ho'.take n) hsz
    rw [htl] at cM
    obtain ⟨vs, hv1, hv2, hv3⟩ := hO1
    refine mix_eff rfl (fun K hK => ?_)
    go_simp
    simp only [effUpon_enter]
    refine cM.mono ?_
    rintro e W2 ⟨A2, c2, rfl, hR2, hb2⟩
    have hI2 := R_in42 hR2
    have hb2' : Below W1.heap.size W1 W2 := (Below.refl _ W1).drew.trans hb2
    have hx2 : KB [107] W1 W2 := KB.below hb2'
    refine ⟨_, rfl, ⟨⟨W2, hx2⟩, rfl⟩, hK _ _ ?_⟩
    clear hK K cM hR2
    generalize hpl : (piecesS (l'.take n)).length = pl at *
    generalize hsu : sumW (l'.take n) 0 = su at *
    generalize hhi : highS (l'.take n) sz = high at *
    refine mix_eff rfl (fun K hK => ?_)
    go_simp
    simp only [effUpon_value]
    have hx3 : KB [107] W1 (W2.alloc (.cells #[.slice A2 pl c2, .int .i64 su, .int .i64 high] 107)) := hx2.trans (KB.below ((Below.refl _ W2).alloc (Nat.le_refl _) _))
    have hx3' : KB [107] W2 (W2.alloc (.cells #[.slice A2 pl c2, .int .i64 su, .int .i64 high] 107)) := KB.below ((Below.refl _ W2).alloc (Nat.le_refl _) _)
    refine ⟨⟨⟨_, hx3⟩, rfl⟩, hK _ _ ?_⟩
    clear hK K
    have hL3 : Lies (W2.alloc (.cells #[.slice A2 pl c2, .int .i64 su, .int .i64 high] 107)) base 107 3 vo' O'.length (cells107 vs O') := (hv2.kb (KB.below (ts := []) hb2') (by simp)).kb (KB.below (ts := []) ((Below.refl _ W2).alloc (Nat.le_refl _) _)) (by simp)
    have hOl : O'.length ≤ 2000000 := by have := HLN.out; omega
    refine mix_append rfl rfl _ _ 104 rfl base 107 i0 _ 3 40 Tryz.underlying104 hi hz0 hz1 hz2 rfl (by decide) vo' O'.length (cells107 vs O') rfl hL3 ⟨W2.heap.size, 0, none⟩ 1 1 [.slice A2 pl c2, .int .i64 su, .int .i64 high] rfl rfl ?qc2 ?qc3 ?qc4 ?qc5 ?qc6 (by decide) ?_
    case qc2 =>
     intro j u hj
     rw [add0, cell_of_row _ _ j _ 107 (0, 0) (heap_alloc_new W2 _)]
     simpa using hj
    case qc3 => intro u hu; simp only [List.mem_cons, List.mem_nil_iff, or_false] at hu; rcases hu with rfl | rfl | rfl <;> rfl
    case qc4 => unfold maxLen; omega
    case qc5 => omega
    case qc6 => have := hb2'.size; simp; omega
    intro v3 W3 hL4 hg3
    have hx4 : KB [107] W1 W3 := hx3.trans (KB.grown hg3 fun k hk => by obtain ⟨_, _, cur, hc⟩ := hL3.lt k hk; exact ⟨cur, 107, by simp, hc⟩)
    have hO4 : Outs W3 base v3 (O' ++ [(l'.take n, high)]) := by
     refine Outs.snoc hv1 (fun i u p h1 h2 => (hv3 i u p h1 h2).kb (KB.below (ts := []) hb2') (by simp)) ?_ ?_ (hx3'.trans (KB.grown hg3 fun k hk => by obtain ⟨_, _, cur, hc⟩ := hL3.lt k hk; exact ⟨cur, 107, by simp, hc⟩)) (u := .slice A2 pl c2)
     ·rw [hsu]; exact hL4
     ·rw [← hpl] at hI2 ⊢; exact hI2
    have hb4 : Below base w W3 := (hbw1.trans ((hb2'.mono hBs1).alloc (Nat.le_trans hBs1 hb2'.size) _)).grown hg3 (by have := hb2'.size; simp; omega) (fun k hk => (hL3.lt k hk).1)
    obtain ⟨A3, c3, rfl, hle3⟩ := hL4.form
    refine ⟨⟨⟨W3, hx4⟩, rfl⟩, ?_⟩
    have hl4 := hl1.kb hx4 (by decide)
    have p1 := hx4.2 bL _ 147 (by decide) k1
    have p2 := hx4.2 bR _ 3 (by decide) k2
    have p3 := hx4.2 bO _ 104 (by decide) k3
    have p4 := hx4.2 bS _ 3 (by decide) k4
    have hk4 : KB [147, 104, 107] w W3 := hk1.trans (hx4.mono (by simp))
    clear hx3 hx2 hg3 hL3 hL4 hb2 hb2' hv1 hv2 hv3 hI2 x1 x3 x4 k1 k2 k3 k4 hk1 hbw1 hx4 hx3'
    have hne1 : ¬ bL = bO := by rintro rfl; rw [p1] at p3; simp at p3
    have hne2 : ¬ bO = bL := fun h => hne1 h.symm
    obtain ⟨m1, m1'⟩ := blk1 p1
    obtain ⟨m2, m2'⟩ := blk1 p2
    obtain ⟨m3, m3'⟩ := blk1 p3
    obtain ⟨m4, m4'⟩ := blk1 p4
    refine mix_nil ?_
    intro _
    go_wp2
    go_roundw
    case rel =>
     have q3 : (W3.setCell ⟨bO, 0, none⟩ (.slice A3 (O'.length + 1) c3)).heap[bL]? = some (.cells #[.slice A l'.length c] 147 (0, 0)) := (setCell_far _ _ hne1).trans p1
     have s1 : KB [104] W3 (W3.setCell ⟨bO, 0, none⟩ (.slice A3 (O'.length + 1) c3)) := KB.set p3 (by simp) _
     have s2 := fun u : Value => KB.set (ts := [147]) (i := 0) q3 (by simp) u
     refine ⟨false, l'.drop n, O' ++ [(l'.take n, high)], _, .slice A3 (O'.length + 1) c3, rfl, ho'.drop n, by rw [List.length_drop]; omega, ⟨heap_set (i := 0) q3, ?_, ?_, ?_⟩, ?_, ?_, ?_, ?_, ?_⟩
     ·exact (setCell_far _ _ (by rintro rfl; rw [p1] at p2; simp at p2)).trans ((setCell_far _ _ (by rintro rfl; rw [p3] at p2; simp at p2)).trans p2)
     ·exact (setCell_far _ _ hne2).trans (heap_set (i := 0) p3)
     ·exact (setCell_far _ _ (by rintro rfl; rw [p1] at p4; simp at p4)).trans ((setCell_far _ _ (by rintro rfl; rw [p3] at p4; simp at p4)).trans p4)
     ·have := (((hl4.kb s1 (by decide)).kb (s2 (.slice (if c = n then A else Option.map (fun x => x.add (n * 6)) A) (l'.length - n) (c - n))) (by decide)).drop hnl)
      rw [List.length_drop, ← flat81_drop]
      exact this
     ·exact (hO4.kb s1 (by decide) (by decide)).kb (s2 _) (by decide) (by decide)
     ·exact hk4.trans ((s1.mono (by simp)).trans ((s2 _).mono (by simp)))
     ·exact (hb4.setCell (p := ⟨bO, 0, none⟩) hb.2 _).setCell (p := ⟨bL, 0, none⟩) hb.1 _
     ·rw [← HT.out, List.append_assoc]
      rfl
    case measure =>
     have q3 : (W3.setCell ⟨bO, 0, none⟩ (.slice A3 (O'.length + 1) c3)).heap[bL]? = some (.cells #[.slice A l'.length c] 147 (0, 0)) := (setCell_far _ _ hne1).trans p1
     rw [HLA.out]
     unfold lenAt
     rw [(blk1 (heap_set (i := 0) q3)).1]
     simp [firstN]
     omega
end Go.Proofs.YtogidacejbjljaaGreatDoor.PTextChecks
end
section
/- text.broken: the lines of a valid cue. -/
set_option linter.unusedVariables false
set_option linter.unusedSimpArgs false
namespace Go.Proofs.YtogidacejbjljaaGreatDoor.PTextChecks
open Go.RowKit Go.Mix Go.Own Go.Proofs.YtogidacejbjljaaGreatDoorW.PrintWords Go.Proofs.YtogidacejbjljaaGreatDoorW.PrintLast Go.Proofs.YtogidacejbjljaaGreatDoorW.PrintMore
theorem infoLetter : (Tryz.prog.info? 151).map (fun i => (i.zero, i.size, i.bytes)) = some (some (.agg #[.int .u8 0, .bool false, .bool false, .bool false, .int .i64 0, .int .i64 0]), 6, 32) := by kernel_rfl
def roomS (c canvas : Int) : Int := max 1 (canvas - 2 * c)
theorem five_new (w : World) (o0 o1 o2 o3 o4 : Obj) (W : World) (hW : W = ((((w.alloc o0).alloc o1).alloc o2).alloc o3).alloc o4) : W.heap[w.heap.size]? = some o0 ∧ W.heap[w.heap.size + 1]? = some o1 ∧ W.heap[w.heap.size + 1 + 1]? = some o2 ∧ W.heap[w.heap.size + 1 + 1 + 1]? = some o3 ∧ W.heap[w.heap.size + 1 + 1 + 1 + 1]? = some o4 ∧ W.heap.size = w.heap.size + 5 ∧ Below w.heap.size w W := by
 subst hW
 have s1 : ∀ (W : World) (o : Obj), (W.alloc o).heap.size = W.heap.size + 1 := fun W o => by simp
 have n1 : ∀ (W : World) (o : Obj) (k : Nat), k = W.heap.size → (W.alloc o).heap[k]? = some o := fun W o k h => by rw [h]; exact heap_alloc_new W o
 have o1' : ∀ (W : World) (o : Obj) (k : Nat) (x : Obj), W.heap[k]? = some x → (W.alloc o).heap[k]? = some x := fun W o k x h => (heap_alloc_old W o (Array.getElem?_eq_some_iff.1 h).1).trans h
 refine ⟨?_, ?_, ?_, ?_, ?_, ?_, ?_⟩
 ·exact o1' _ _ _ _ (o1' _ _ _ _ (o1' _ _ _ _ (o1' _ _ _ _ (n1 _ _ _ rfl))))
 ·exact o1' _ _ _ _ (o1' _ _ _ _ (o1' _ _ _ _ (n1 _ _ _ (s1 _ _).symm)))
 ·exact o1' _ _ _ _ (o1' _ _ _ _ (n1 _ _ _ (by rw [s1, s1])))
 ·exact o1' _ _ _ _ (n1 _ _ _ (by rw [s1, s1, s1]))
 ·exact n1 _ _ _ (by rw [s1, s1, s1, s1])
 ·rw [s1, s1, s1, s1, s1]
 ·exact (((((Below.refl _ w).alloc (Nat.le_refl _) _).alloc (by rw [s1]; omega) _).alloc (by rw [s1, s1]; omega) _).alloc (by rw [s1, s1, s1]; omega) _).alloc (by rw [s1, s1, s1, s1]; omega) _
theorem okl_letters {l : List S42} (h : ∀ p ∈ l, isTextB p.f0 = true ∧ styB p.f1 = true) : Okl (lettersOf l) := by
 intro x hx
 obtain ⟨p, hp, hx⟩ := List.mem_flatMap.1 hx
 obtain ⟨u, hu, rfl⟩ := List.mem_map.1 hx
 obtain ⟨h1, h2⟩ := h p hp
 unfold isTextB at h1
 rw [Bool.and_eq_true] at h1
 have h3 := List.all_eq_true.1 h1.1 u hu
 unfold okByte at h3
 unfold styB inB at h2
 simp only [Bool.and_eq_true, Bool.or_eq_true, beq_iff_eq, decide_eq_true_iff] at h2 h3
 refine ⟨⟨?_, ?_⟩, ?_, ?_⟩ <;> simp only <;> omega
/-- The worlds in which all blocks but those of some types lie as they lay. -/
def KZ (ts : List TypeId) (W : World) : Type := { w' : World // KB ts W w' }
instance (ts : List TypeId) (W : World) : Nonempty (KZ ts W) := ⟨⟨W, KB.refl _ W⟩⟩
def KZ.w {ts : List TypeId} {W : World} (x : KZ ts W) : World := x.1
theorem KZ.blk {ts : List TypeId} {W : World} (x : KZ ts W) {b : Nat} {cs : Array Value} {t : TypeId} (h : W.heap[b]? = some (.cells cs t (0, 0))) (ht : t ∉ ts) : x.w.heap[b]? = some (.cells cs t (0, 0)) := x.2.2 b _ t ht h
def BRel (w : World) (bC bL bR bO bS : Nat) (room sz : Int) (cs : Array Value) (T : List (List S81 × Int)) (rest cur : List S81) (O : List (List S81 × Int)) (vl vo : Value) (wr : World) : Prop :=
 Boxes wr bL bR bO bS vl vo room sz ∧ wr.heap[bC]? = some (.cells cs 25 (0, 0)) ∧ Lies wr w.heap.size 151 6 vl cur.length (flat81 cur) ∧ Outs wr w.heap.size vo O ∧ Below w.heap.size w wr ∧
  O ++ restS room rest cur sz = T ∧ Okl cur ∧ Okl rest ∧ cur.length + rest.length ≤ 2000 ∧ O.length ≤ 5000 ∧ 0 ≤ sz ∧ sz ≤ 8
set_option maxHeartbeats 4000000 in
set_option maxRecDepth 100000 in
theorem broken_calls (a b c : Int) (A : Option Addr) (cap : Nat) (l : List S42) (canvas : Int) (w : World) (hr : Kd.C k42 w A l.length l) (hc : l.length ≤ cap) (hl : l.length ≤ 100) (hw : wordsLen l ≤ 2000)
  (hok : ∀ p ∈ l, isTextB p.f0 = true ∧ styB p.f1 = true) (hm : 0 ≤ c ∧ c ≤ 100) (hcv : 1 ≤ canvas ∧ canvas ≤ 1000) :
  Calls Tryz.prog 74 #[.agg #[.int .i64 a, .int .i64 b, .int .i64 c, .slice A l.length cap], .int .i64 canvas] w fun e w' => ∃ v, e = .returned v ∧ Outs w' w.heap.size v (linesS (roomS c canvas) (lettersOf l)) ∧ Below w.heap.size w w' := by
 obtain ⟨i0, hi, hii⟩ := Option.map_eq_some_iff.1 infoLetter
 simp only [Prod.mk.injEq] at hii
 obtain ⟨hz0, hz1, hz2⟩ := hii
 have wr1 : IntKind.i64.wrap (2 * c) = 2 * c := IntWalk.i64_in _ (by omega)
 have wr2 : IntKind.i64.wrap (canvas - 2 * c) = canvas - 2 * c := IntWalk.i64_in _ (by omega)
 go_enter Tryz.func74, Tryz.ntmps74
 go_wp2
 obtain ⟨f0, f1, f2, f3, f4, fs, fb⟩ := five_new w _ _ _ _ _ _ rfl
 generalize hW : World.alloc _ _ = W at f0 f1 f2 f3 f4 fs fb
 go_loopw [23] (fun i wr => ∃ (n : Nat) (sz : Int) (cur : List S81) (O : List (List S81 × Int)) (vl vo : Value), n ≤ l.length ∧ i = .int .i64 n ∧ BRel w w.heap.size (w.heap.size + 1 + 1 + 1) (w.heap.size + 1) (w.heap.size + 1 + 1) (w.heap.size + 1 + 1 + 1 + 1) (roomS c canvas) sz #[.int .i64 a, .int .i64 b, .int .i64 c, .slice A l.length cap] (linesS (roomS c canvas) (lettersOf l)) (lettersOf (l.drop n)) cur O vl vo wr) (fun i _ => l.length - (intOf i).toNat)
 case atStart =>
  have hol := okl_letters hok
  have hll : (lettersOf l).length ≤ 2000 := by rw [lettersOf_length]; exact hw
  exact ⟨0, 2, [], [], .slice none 0 0, .slice none 0 0, by omega, rfl, ⟨f3, f1, f2, f4⟩, f0, Lies.nil _ _ _ _, Outs.nil _ _, fb, rfl, fun x hx => by simp at hx, hol, by simpa using hll, by simp, by omega, by omega⟩
 case round =>
  obtain ⟨n, sz, cur, O, vl, vo, hn, rfl, ⟨b1, b2, b3, b4⟩, hcb, hl1, hO1, hbw, hT, hoc, hor, hlc, hOl, hsz⟩ := hrel
  obtain ⟨T, hT0⟩ : ∃ T, linesS (roomS c canvas) (lettersOf l) = T := ⟨_, rfl⟩
  have hTl : T.length ≤ 5000 := by
   rw [← hT0]
   have := linesS_len (roomS c canvas) (lettersOf l)
   rw [lettersOf_length] at this
   omega
  rw [hT0] at hT ⊢
  by_cases hlt : n < l.length
  ·have hr3 := Kd.C_below hr hbw
   obtain ⟨ad, rfl, d0, d1, d2, d3, d4, d5⟩ := at_T42 hr3 (n : Int) (by omega) (by omega)
   obtain ⟨p, hp⟩ : ∃ p, rd_T42 l (n : Int) = p := ⟨_, rfl⟩
   rw [hp] at d0 d1 d2 d3 d4 d5
   have hdr : l.drop n = p :: l.drop (n + 1) := by rw [rd42_drop l n hlt, hp]
   have hpm : p ∈ l := List.mem_of_mem_drop (i := n) (by rw [hdr]; exact List.mem_cons_self ..)
   obtain ⟨hpt, hps⟩ := hok p hpm
   rw [hdr, lettersOf_cons] at hT hor hlc
   simp only [Int.toNat_natCast] at d0 d1 d2 d3 d4 d5
   have HT := Lib.hid hT
   clear hT hp hdr
   obtain ⟨m4, m4'⟩ := blk1 b4
   have m4a := fun o => Lib.cell?_alloc_some o m4
   have h4lt := (Array.getElem?_eq_some_iff.1 b4).1
   have m4b : ∀ o, (wr.alloc o).frozen? ⟨w.heap.size + 1 + 1 + 1 + 1, 0, none⟩ = false := fun o => by
    have := (heap_alloc_old wr o h4lt).trans b4
    simp [World.frozen?, this]
   have hne1 : ¬ wr.heap.size = w.heap.size + 1 + 1 + 1 + 1 := by omega
   have hne2 : ¬ w.heap.size + 1 + 1 + 1 + 1 = wr.heap.size := by omega
   go_wp2_with fail
   obtain ⟨W0, hW0⟩ : ∃ W0, (wr.setCell ⟨w.heap.size + 1 + 1 + 1 + 1, 0, none⟩ (.int .i64 p.f1.f3)).alloc (.cells #[.string p.f0, .bool p.f1.f0, .bool p.f1.f1, .bool p.f1.f2, .int .i64 p.f1.f3, .int .i64 p.f1.f4] 42) = W0 := ⟨_, rfl⟩
   rw [hW0]
   have hzs : (wr.setCell ⟨w.heap.size + 1 + 1 + 1 + 1, 0, none⟩ (.int .i64 p.f1.f3)).heap.size = wr.heap.size := by simp [World.setCell]
   have hold : ∀ k, k < wr.heap.size → k ≠ w.heap.size + 1 + 1 + 1 + 1 → W0.heap[k]? = wr.heap[k]? := fun k h1 h2 => by rw [← hW0, heap_alloc_old _ _ (by rw [hzs]; exact h1)]; exact setCell_far _ _ h2
   have g1 := (hold _ (Array.getElem?_eq_some_iff.1 b1).1 (by omega)).trans b1
   have g2 := (hold _ (Array.getElem?_eq_some_iff.1 b2).1 (by omega)).trans b2
   have g3 := (hold _ (Array.getElem?_eq_some_iff.1 b3).1 (by omega)).trans b3
   have gc := (hold _ (Array.getElem?_eq_some_iff.1 hcb).1 (by omega)).trans hcb
   have g4 : W0.heap[w.heap.size + 1 + 1 + 1 + 1]? = some (.cells #[.int .i64 p.f1.f3] 3 (0, 0)) := by rw [← hW0, heap_alloc_old _ _ (by rw [hzs]; exact h4lt)]; exact heap_set (i := 0) b4
   have gp : W0.heap[wr.heap.size]? = some (.cells #[.string p.f0, .bool p.f1.f0, .bool p.f1.f1, .bool p.f1.f2, .int .i64 p.f1.f3, .int .i64 p.f1.f4] 42 (0, 0)) := by rw [← hW0, ← hzs]; exact heap_alloc_new _ _
   have sA : KB [3] wr W0 := by rw [← hW0]; exact (KB.set b4 (by simp) _).trans (KB.below ((Below.refl _ _).alloc (Nat.le_refl _) _))
   have gb : Below w.heap.size w W0 := by rw [← hW0]; exact (hbw.setCell (p := ⟨w.heap.size + 1 + 1 + 1 + 1, 0, none⟩) (by show w.heap.size ≤ w.heap.size + 1 + 1 + 1 + 1; omega) _).alloc (by rw [hzs]; exact hbw.size) _
   have hl2 := hl1.kb sA (by decide)
   have hO2 := hO1.kb sA (by decide) (by decide)
   have hps2 : 0 ≤ p.f1.f3 ∧ p.f1.f3 ≤ 8 := by unfold styB inB at hps; simp only [Bool.and_eq_true, decide_eq_true_iff] at hps; omega
   have hrne : rowOf p ++ lettersOf (l.drop (n + 1)) ≠ [] := by
    unfold isTextB at hpt
    rw [Bool.and_eq_true, decide_eq_true_iff] at hpt
    intro h
    have h0 : (rowOf p).length = 0 := by rw [(List.append_eq_nil_iff.1 h).1]; rfl
    rw [rowOf_length] at h0
    omega
   have hT2 : O ++ restS (roomS c canvas) (rowOf p ++ lettersOf (l.drop (n + 1))) cur p.f1.f3 = T := by rw [restS_sz _ _ _ p.f1.f3 sz hrne]; exact HT.out
   clear hold m4 m4' m4a m4b hne1 hne2 h4lt hW0 hzs b1 b2 b3 b4 hcb hl1 hO1 sA HT d0 d1 d2 d3 d4 d5
   have hpsz : p.f0.size ≤ 2000 := Nat.le_trans (wordsLen_mem hpm) hw
   obtain ⟨bP, hbP⟩ : ∃ bP, wr.heap.size = bP := ⟨_, rfl⟩
   rw [hbP] at gp ⊢
   go_loopw [33] (fun i wi => ∃ (j : Nat) (cur : List S81) (O : List (List S81 × Int)) (vl vo : Value), j ≤ p.f0.size ∧ i = .int .i64 j ∧ wi.heap[bP]? = some (.cells #[.string p.f0, .bool p.f1.f0, .bool p.f1.f1, .bool p.f1.f2, .int .i64 p.f1.f3, .int .i64 p.f1.f4] 42 (0, 0)) ∧
    BRel w w.heap.size (w.heap.size + 1 + 1 + 1) (w.heap.size + 1) (w.heap.size + 1 + 1) (w.heap.size + 1 + 1 + 1 + 1) (roomS c canvas) p.f1.f3 #[.int .i64 a, .int .i64 b, .int .i64 c, .slice (some ad) l.length cap] T ((rowOf p).drop j ++ lettersOf (l.drop (n + 1))) cur O vl vo wi) (fun i _ => p.f0.size - (intOf i).toNat)
   case atStart => exact ⟨0, cur, O, vl, vo, by omega, rfl, gp, ⟨g1, g2, g3, g4⟩, gc, hl2, hO2, gb, hT2, hoc, hor, hlc, hOl, hps2.1, hps2.2⟩
   case round =>
    obtain ⟨j, cur', O', vl', vo', hj, rfl, hpb, ⟨e1, e2, e3, e4⟩, ecb, el, eo, eb, eT, ec, er, elc, eol, _, _⟩ := hrel
    obtain ⟨y0, y1, y2, y3, y4, y5⟩ := blk6 hpb
    by_cases hjl : j < p.f0.size
    ·have hdj := rowOf_drop p j hjl
     have hub : byteAt p.f0 j hjl = p.f0[j] := rfl
     rw [hub] at hdj
     have hx : (⟨((p.f0[j]).toNat : Int), p.f1⟩ : S81) ∈ (rowOf p).drop j ++ lettersOf (l.drop (n + 1)) := by rw [hdj]; simp
     have hxo := er _ hx
     rw [hdj, List.cons_append] at eT er elc
     have hjs : IntKind.i64.wrap ((j : Int) + 1) = (j : Int) + 1 := IntWalk.i64_in _ (by omega)
     cases hnl : ((((p.f0[j]).toNat : Int)) == 10)
     case true =>
      have hnl' : (((p.f0[j]).toNat : Int)) = 10 := by simpa using hnl
      rw [restS_nl _ _ _ _ _ hnl', ← List.append_assoc] at eT
      have HT := Lib.hid eT
      have cF := flush_calls wr w.heap.size (w.heap.size + 1 + 1 + 1) (w.heap.size + 1) (w.heap.size + 1 + 1) (w.heap.size + 1 + 1 + 1 + 1) (roomS c canvas) p.f1.f3 cur' O' vl' vo' ⟨e1, e2, e3, e4⟩ el eo ⟨by omega, by omega⟩ ec hps2 (by omega)
      clear eT hnl'
      go_wp2_with (go_at_call 105; refine cF.mono ?_; rintro e W1 ⟨vl1, vo1, u1, rfl, hbx1, hl1, hO1, hk1, hb1⟩)
      have hfl := congrArg List.length HT.out
      go_roundw
      case rel =>
       refine ⟨j + 1, [], O' ++ flushS (roomS c canvas) cur' p.f1.f3, vl1, vo1, by omega, by go_num, hk1.2 _ _ 42 (by decide) hpb, hbx1, hk1.2 _ _ 25 (by decide) ecb, hl1, hO1, eb.trans hb1, HT.out, fun x hx => by simp at hx, ?_, ?_, ?_, hps2.1, hps2.2⟩
       ·intro x hx'; exact er x (List.mem_cons_of_mem _ hx')
       ·simp only [List.length_cons, List.length_nil] at elc ⊢; omega
       ·rw [List.length_append] at hfl; omega
      case measure => simp [intOf]; omega
     case false =>
      have hnl' : (((p.f0[j]).toNat : Int)) ≠ 10 := by simpa using hnl
      rw [restS_no _ _ _ _ _ hnl'] at eT
      have HT := Lib.hid eT
      clear eT hnl'
      obtain ⟨Al, cl, rfl, hlel⟩ := el.form
      go_wp2_with fail
      have x1 := fun z : KZ [151] wr => (blk1 (z.blk e1 (by decide))).1
      have xp := fun z : KZ [151] wr => blk6 (z.blk hpb (by decide))
      have xp0 := fun z : KZ [151] wr => (xp z).1
      have xp1 := fun z : KZ [151] wr => (xp z).2.1
      have xp2 := fun z : KZ [151] wr => (xp z).2.2.1
      have xp3 := fun z : KZ [151] wr => (xp z).2.2.2.1
      have xp4 := fun z : KZ [151] wr => (xp z).2.2.2.2.1
      have xp5 := fun z : KZ [151] wr => (xp z).2.2.2.2.2
      clear xp
      refine wp_region_mix_last' (C := fun w' => ∃ z : KZ [151] wr, w' = z.w) 10 rfl [8, 9] 2 (by kernel_rfl) (by kernel_rfl) (by kernel_rfl) (by kernel_rfl) ⟨⟨wr.drew, KB.below (Below.refl _ wr).drew⟩, rfl⟩ ?_
      refine mix_pure rfl (fun K hK => ?_)
      go_simp
      refine hK _ _ ?_
      clear hK K
      refine mix_pure rfl (fun K hK => ?_)
      go_simp
      refine hK _ _ ?_
      clear hK K
      refine mix_pure rfl (fun K hK => ?_)
      go_simp
      refine hK _ _ ?_
      clear hK K
      refine mix_pure rfl (fun K hK => ?_)
      go_simp
      refine hK _ _ ?_
      clear hK K
      refine mix_pure rfl (fun K hK => ?_)
      go_simp
      refine hK _ _ ?_
      clear hK K
      refine mix_pure rfl (fun K hK => ?_)
      go_simp
      refine hK _ _ ?_
      clear hK K
      refine mix_pure rfl (fun K hK => ?_)
      go_simp
      refine hK _ _ ?_
      clear hK K
      refine mix_pure rfl (fun K hK => ?_)
      go_simp
      refine hK _ _ ?_
      clear hK K
      refine mix_eff rfl (fun K hK => ?_)
      go_simp
      simp only [effUpon_value]
      have hx3 : KB [151] wr (wr.drew.alloc (.cells #[.int .u8 (p.f0[j].toNat : Int), .bool p.f1.f0, .bool p.f1.f1, .bool p.f1.f2, .int .i64 p.f1.f3, .int .i64 p.f1.f4] 151)) := KB.below ((Below.refl _ wr).drew.alloc (Nat.le_refl _) _)
      refine ⟨⟨⟨_, hx3⟩, rfl⟩, hK _ _ ?_⟩
      clear hK K
      have hL3 : Lies (wr.drew.alloc (.cells #[.int .u8 (p.f0[j].toNat : Int), .bool p.f1.f0, .bool p.f1.f1, .bool p.f1.f2, .int .i64 p.f1.f3, .int .i64 p.f1.f4] 151)) w.heap.size 151 6 (.slice Al cur'.length cl) cur'.length (flat81 cur') := el.kb (KB.below (ts := []) ((Below.refl _ wr).drew.alloc (Nat.le_refl _) _)) (by simp)
      have hcl : cur'.length ≤ 2000 := by simp only [List.length_cons] at elc; omega
      refine mix_append rfl rfl _ _ 147 rfl w.heap.size 151 i0 _ 6 32 Tryz.underlying147 hi hz0 hz1 hz2 rfl (by decide) _ cur'.length (flat81 cur') rfl hL3 ⟨wr.heap.size, 0, none⟩ 1 1 (enc81 ⟨(p.f0[j].toNat : Int), p.f1⟩) rfl rfl ?qc2 ?qc3 ?qc4 ?qc5 ?qc6 (by decide) ?_
      case qc2 =>
       intro k u hk
       rw [add0]
       show (wr.alloc (.cells #[.int .u8 (p.f0[j].toNat : Int), .bool p.f1.f0, .bool p.f1.f1, .bool p.f1.f2, .int .i64 p.f1.f3, .int .i64 p.f1.f4] 151)).cell? ⟨wr.heap.size, k, none⟩ = some u
       rw [cell_of_row _ _ k _ 151 (0, 0) (heap_alloc_new wr _)]
       simpa [enc81] using hk
      case qc3 => intro u hu; simp only [enc81, List.mem_cons, List.mem_nil_iff, or_false] at hu; rcases hu with rfl | rfl | rfl | rfl | rfl | rfl <;> rfl
      case qc4 => unfold maxLen; omega
      case qc5 => omega
      case qc6 => have := eb.size; simp; omega
      intro v3 W3 hL4 hg3
      have hx4 : KB [151] wr W3 := (KB.below ((Below.refl _ wr).drew.alloc (Nat.le_refl _) _)).trans (KB.grown hg3 fun k hk => by obtain ⟨_, _, cu, hc⟩ := hL3.lt k hk; exact ⟨cu, 151, by simp, hc⟩)
      have hb4 : Below w.heap.size w W3 := (eb.drew.alloc (by have := eb.size; simpa using this) _).grown hg3 (by have := eb.size; simp; omega) (fun k hk => (hL3.lt k hk).1)
      obtain ⟨A3, c3, rfl, hle3⟩ := hL4.form
      refine ⟨⟨⟨W3, hx4⟩, rfl⟩, ?_⟩
      have q1 := hx4.2 _ _ 147 (by decide) e1
      have q2 := hx4.2 _ _ 3 (by decide) e2
      have q3 := hx4.2 _ _ 104 (by decide) e3
      have q4 := hx4.2 _ _ 3 (by decide) e4
      have qc := hx4.2 _ _ 25 (by decide) ecb
      have qp := hx4.2 _ _ 42 (by decide) hpb
      have eo4 := eo.kb hx4 (by decide) (by decide)
      clear hx3 hg3 hL3 x1 xp0 xp1 xp2 xp3 xp4 xp5 hx4
      have hnb : ¬ bP = w.heap.size + 1 + 1 + 1 := by rintro rfl; rw [q1] at qp; simp at qp
      obtain ⟨m1, m1'⟩ := blk1 q1
      refine mix_nil ?_
      intro _
      go_wp2
      go_roundw
      case rel =>
       have s1 := fun u : Value => KB.set (ts := [147]) (i := 0) q1 (by simp) u
       refine ⟨j + 1, cur' ++ [⟨((p.f0[j]).toNat : Int), p.f1⟩], O', .slice A3 (cur'.length + 1) c3, _, by omega, by go_num, (setCell_far _ _ hnb).trans qp, ⟨heap_set (i := 0) q1, (setCell_far _ _ (by omega)).trans q2, (setCell_far _ _ (by omega)).trans q3, (setCell_far _ _ (by omega)).trans q4⟩, (setCell_far _ _ (by omega)).trans qc, ?_, eo4.kb (s1 _) (by decide) (by decide), hb4.setCell (p := ⟨w.heap.size + 1 + 1 + 1, 0, none⟩) (by show w.heap.size ≤ w.heap.size + 1 + 1 + 1; omega) _, HT.out, ?_, ?_, ?_, eol, hps2.1, hps2.2⟩
       ·have := hL4.kb (s1 (.slice A3 (cur'.length + 1) c3)) (by decide)
        rw [List.length_append, show flat81 (cur' ++ [⟨((p.f0[j]).toNat : Int), p.f1⟩]) = flat81 cur' ++ enc81 ⟨((p.f0[j]).toNat : Int), p.f1⟩ from by simp [flat81]]
        exact this
       ·intro x hx'
        rcases List.mem_append.1 hx' with h | h
        ·exact ec x h
        ·rw [List.mem_singleton.1 h]; exact hxo
       ·intro x hx'; exact er x (List.mem_cons_of_mem _ hx')
       ·simp only [List.length_cons, List.length_append, List.length_nil] at elc ⊢; omega
      case measure => simp [intOf]; omega
    ·have hjs : j = p.f0.size := by omega
     have hd0 : (rowOf p).drop j = [] := List.drop_of_length_le (by rw [rowOf_length]; omega)
     rw [hd0, List.nil_append] at eT er elc
     have HT := Lib.hid eT
     have wr5 : IntKind.i64.wrap ((n : Int) + 1) = (n : Int) + 1 := IntWalk.i64_in _ (by omega)
     clear eT hd0
     go_wp2
     go_roundw
     case rel => exact ⟨n + 1, p.f1.f3, cur', O', vl', vo', by omega, by go_num, ⟨e1, e2, e3, e4⟩, ecb, el, eo, eb, HT.out, ec, er, elc, eol, hps2.1, hps2.2⟩
     case measure => simp [intOf]; omega
  ·have hnl : l.drop n = [] := List.drop_of_length_le (by omega)
   rw [hnl, show lettersOf [] = [] from rfl, restS_nil] at hT
   have HT := Lib.hid hT
   have cF := flush_calls wr w.heap.size (w.heap.size + 1 + 1 + 1) (w.heap.size + 1) (w.heap.size + 1 + 1) (w.heap.size + 1 + 1 + 1 + 1) (roomS c canvas) sz cur O vl vo ⟨b1, b2, b3, b4⟩ hl1 hO1 ⟨by omega, by omega⟩ hoc hsz (by omega)
   clear hT hnl
   go_wp2_with (go_at_call 105; refine cF.mono ?_; rintro e W1 ⟨vl1, vo1, u1, rfl, ⟨x1, x2, x3, x4⟩, hl1', hO1', hk1, hb1⟩; obtain ⟨m3, m3'⟩ := blk1 x3)
   go_ret
   exact ⟨_, rfl, by have h9 := hO1'; rw [HT.out, ← hT0] at h9; exact h9, hbw.trans hb1⟩
end Go.Proofs.YtogidacejbjljaaGreatDoor.PTextChecks
end
section
/- The reference's lines of letters: height, broken. -/
set_option linter.unusedVariables false
set_option linter.unusedSimpArgs false
namespace Go.Proofs.YtogidacejbjljaaGreatDoor.PTextChecks
open Go.RowKit Go.Mix Go.Own Go.Proofs.YtogidacejbjljaaGreatDoorW.PrintWords Go.Proofs.YtogidacejbjljaaGreatDoorW.PrintLast Go.Proofs.YtogidacejbjljaaGreatDoorW.PrintMore
/-- The value is a row that reads as these letters. -/
def Rd81 (w : World) (u : Value) (l : List S81) : Prop := ∃ A c, u = .slice A l.length c ∧ l.length ≤ c ∧ Kd.C k81 w A l.length l
def cells111 (vs : List Value) (O : List (List S81 × Int)) : List Value := (List.zip vs O).flatMap fun p => [p.1, .int .i64 p.2.2]
/-- A row of lines, each of which reads as its letters in the world w0. -/
def Rows (w0 w : World) (base : Nat) (v : Value) (vs : List Value) (O : List (List S81 × Int)) : Prop := vs.length = O.length ∧ Lies w base 111 2 v O.length (cells111 vs O) ∧ ∀ (i : Nat) (u : Value) (p : List S81 × Int), vs[i]? = some u → O[i]? = some p → Rd81 w0 u p.1
def lenOf : Value → Nat | .slice _ n _ => n | _ => 0
end Go.Proofs.YtogidacejbjljaaGreatDoor.PTextChecks
end
section
/- The reference's rows: the lines of a valid cue. -/
set_option linter.unusedVariables false
set_option linter.unusedSimpArgs false
namespace Go.Proofs.YtogidacejbjljaaGreatDoor.PTextChecks
open Go.RowKit Go.Mix Go.Own Go.Proofs.YtogidacejbjljaaGreatDoorW.PrintWords Go.Proofs.YtogidacejbjljaaGreatDoorW.PrintLast Go.Proofs.YtogidacejbjljaaGreatDoorW.PrintMore
end Go.Proofs.YtogidacejbjljaaGreatDoor.PTextChecks
end
section
/- Break, the program's and the reference's: the lines of a cue as rows of pieces. -/
set_option linter.unusedVariables false
set_option linter.unusedSimpArgs false
namespace Go.Own
open Go.RowKit
theorem Lies.at {w : World} {base : Nat} {e : TypeId} {size : Nat} {A : Option Addr} {n c : Nat} {xs : List Value} (h : Lies w base e size (.slice A n c) n xs) (hn : 0 < n) :
  ∃ ad, A = some ad ∧ ∀ (k i : Nat) (u : Value), xs[k + i]? = some u → (i = 0 → w.cell? (ad.add k) = some u) ∧ w.cell? ⟨(ad.add k).block, (ad.add k).off + i, none⟩ = some u := by
 rcases h.2 with ⟨_, h0⟩ | ⟨g, off, cap, cur, hv, hb, hg, hnc, hcm, hcs, ht⟩
 ·omega
 ·injection hv with h1 h2 h3
  subst h1
  refine ⟨_, rfl, fun k i u hu => ?_⟩
  have hadd : (⟨g, off, none⟩ : Addr).add k = ⟨g, off + k, none⟩ := by unfold Addr.add; split <;> simp_all
  rw [hadd]
  rw [← ht, List.getElem?_take] at hu
  split at hu
  ·rw [List.getElem?_drop] at hu
   have h9 : w.cell? ⟨g, off + k + i, none⟩ = some u := by
    rw [← Nat.add_assoc] at hu
    simpa [World.cell?, hg] using hu
   exact ⟨fun h => by subst h; exact h9, h9⟩
  ·cases hu
theorem flatMap_get {α β : Type} (f : α → List β) (sz : Nat) (hsz : ∀ x, (f x).length = sz) : ∀ (l : List α) (k i : Nat) (p : α), l[k]? = some p → i < sz → (l.flatMap f)[k * sz + i]? = (f p)[i]?
 | [], _, _, _, h, _ => by simp at h
 | x :: l, 0, i, p, h, hi => by
  obtain rfl : x = p := by simpa using h
  rw [Nat.zero_mul, Nat.zero_add, List.flatMap_cons, List.getElem?_append_left (by rw [hsz]; exact hi)]
 | x :: l, k + 1, i, p, h, hi => by
  have := flatMap_get f sz hsz l k i p (by simpa using h) hi
  rw [List.flatMap_cons, List.getElem?_append_right (by rw [hsz, Nat.succ_mul]; omega), ← this, hsz]
  congr 1
  rw [Nat.succ_mul]
  omega
end Go.Own
namespace Go.Proofs.YtogidacejbjljaaGreatDoor.PTextChecks
open Go.RowKit Go.Mix Go.Own Go.Proofs.YtogidacejbjljaaGreatDoorW.PrintWords Go.Proofs.YtogidacejbjljaaGreatDoorW.PrintLast Go.Proofs.YtogidacejbjljaaGreatDoorW.PrintMore
theorem infoPs : (Tryz.prog.info? 23).map (fun i => (i.zero, i.size, i.bytes)) = some (some (.slice none 0 0), 1, 24) := by kernel_rfl
theorem at_lines {w : World} {base : Nat} {A : Option Addr} {c : Nat} {O : List (List S81 × Int)} {vs : List Value} (h : Lies w base 107 3 (.slice A O.length c) O.length (cells107 vs O)) (hv : vs.length = O.length) (k : Nat) (hk : k < O.length) :
  ∃ ad u p, A = some ad ∧ vs[k]? = some u ∧ O[k]? = some p ∧ w.cell? (ad.add (k * 3)) = some u ∧ w.cell? ⟨(ad.add (k * 3)).block, (ad.add (k * 3)).off + 1, none⟩ = some (.int .i64 (sumW p.1 0)) ∧ w.cell? ⟨(ad.add (k * 3)).block, (ad.add (k * 3)).off + 2, none⟩ = some (.int .i64 p.2) := by
 obtain ⟨ad, rfl, hc⟩ := h.at (by omega)
 have h1 : (List.zip vs O)[k]? = some (vs[k]'(by omega), O[k]) := List.getElem?_zip_eq_some.2 ⟨List.getElem?_eq_getElem _, List.getElem?_eq_getElem _⟩
 have h2 := fun i hi => flatMap_get (fun p : Value × List S81 × Int => [p.1, .int .i64 (sumW p.2.1 0), .int .i64 p.2.2]) 3 (fun _ => rfl) _ k i _ h1 hi
 exact ⟨ad, vs[k]'(by omega), O[k], rfl, List.getElem?_eq_getElem _, List.getElem?_eq_getElem _, (hc (k * 3) 0 _ (h2 0 (by omega))).1 rfl, (hc (k * 3) 1 _ (h2 1 (by omega))).2, (hc (k * 3) 2 _ (h2 2 (by omega))).2⟩
/-- A row of rows of pieces. -/
def Brk (w : World) (base : Nat) (v : Value) (L : List (List S42)) : Prop := ∃ vs : List Value, vs.length = L.length ∧ Lies w base 23 1 v L.length vs ∧ ∀ (i : Nat) (u : Value) (p : List S42), vs[i]? = some u → L[i]? = some p → In42 w u p
theorem Brk.nil (w : World) (base : Nat) : Brk w base (.slice none 0 0) [] := ⟨[], rfl, Lies.nil w base 23 1, fun i u p h => by simp at h⟩
theorem Brk.snoc {w w' : World} {base : Nat} {v' u : Value} {L : List (List S42)} {p : List S42} {vs : List Value} (h1 : vs.length = L.length) (h2 : ∀ (i : Nat) (u : Value) (p : List S42), vs[i]? = some u → L[i]? = some p → In42 w u p)
  (h3 : Lies w' base 23 1 v' (L.length + 1) (vs ++ [u])) (h4 : In42 w u p) (hk : KB [23] w w') : Brk w' base v' (L ++ [p]) := by
 refine ⟨vs ++ [u], by simp [h1], by rw [List.length_append]; exact h3, fun i u' q hu hq => ?_⟩
 refine Lies.kb (ts := [23]) ?_ hk (by decide)
 rcases Nat.lt_trichotomy i L.length with hi | hi | hi
 ·rw [List.getElem?_append_left (by omega)] at hu
  rw [List.getElem?_append_left hi] at hq
  exact h2 i u' q hu hq
 ·subst hi
  rw [← h1, List.getElem?_concat_length] at hu
  rw [List.getElem?_concat_length] at hq
  injection hu with hu
  injection hq with hq
  subst hu hq
  exact h4
 ·rw [List.getElem?_eq_none (by simp; omega)] at hq
  cases hq
theorem chk_cons (q : Option S40) (x : S42) (l : List S42) : ∃ B : Bool, (B = false → styB x.f1 = true) ∧ chk q (x :: l) = bif !isTextB x.f0 then 4 else bif B then 180 else chk (some x.f1) l := by
 refine ⟨_, ?_, rfl⟩
 intro h
 simp only [Bool.or_eq_false_iff, Bool.not_eq_false'] at h
 unfold styB
 rw [h.1.1, h.1.2]
 rfl
theorem chk_ok : ∀ (l : List S42) (q : Option S40), chk q l = 0 → ∀ p ∈ l, isTextB p.f0 = true ∧ styB p.f1 = true
 | [], _, _ => fun p hp => by simp at hp
 | x :: l, q, h => by
  obtain ⟨B, hB, he⟩ := chk_cons q x l
  rw [he] at h
  cases h1 : isTextB x.f0
  ·rw [h1] at h; simp at h
  ·rw [h1] at h
   cases B
   ·intro p hp
    rcases List.mem_cons.1 hp with rfl | hp
    ·exact ⟨h1, hB rfl⟩
    ·exact chk_ok l _ h p hp
   ·simp at h
theorem checkS_ok {a b c : Int} {l : List S42} (h : checkS a b c l = 0) : headB a b c = true ∧ l.length ≤ 100 ∧ wordsLen l ≤ 2000 ∧ ∀ p ∈ l, isTextB p.f0 = true ∧ styB p.f1 = true := by
 unfold checkS at h
 cases h1 : headB a b c
 ·rw [h1] at h; simp at h
 ·rw [h1] at h
  cases h2 : (decide (100 < l.length) || (decide (2000 < wordsLen l) || decide (20 < nlf (bs (wordsOf l)) + 1)))
  ·rw [h2] at h
   simp only [Bool.or_eq_false_iff, decide_eq_false_iff_not] at h2
   exact ⟨rfl, by omega, by omega, chk_ok l none h⟩
  ·rw [h2] at h; simp at h
/-- The lines of a cue, or its error. -/
def brkE (a b c : Int) (l : List S42) (canvas : Int) : Int :=
 if checkS a b c l = 0 then (if inB canvas 1 1000 then (if 400 < (linesS (roomS c canvas) (lettersOf l)).length then 2 else 0) else 1) else checkS a b c l
def brkL (a b c : Int) (l : List S42) (canvas : Int) : List (List S42) :=
 if brkE a b c l canvas = 0 then (linesS (roomS c canvas) (lettersOf l)).map fun p => piecesS p.1 else []
def BrkPost (a b c : Int) (l : List S42) (canvas : Int) (w : World) (e : Ending) (w' : World) : Prop :=
 ∃ v, e = .returned (.tuple #[v, .int .i64 (brkE a b c l canvas)]) ∧ Brk w' w.heap.size v (brkL a b c l canvas) ∧ Below w.heap.size w w'
theorem within_calls' (a lo hi : Int) (w : World) : Calls Tryz.prog 57 #[.int .i64 a, .int .i64 lo, .int .i64 hi] w fun e w' => e = .returned (.bool (inB a lo hi)) ∧ w' = w := by
 unfold inB
 by_cases h : lo ≤ a
 ·have hd : decide (lo ≤ a) = true := decide_eq_true h
  go_enter Tryz.func57, Tryz.ntmps57
  go_wp2
  go_ret
  simp [h]
 ·have hd : decide (lo ≤ a) = false := decide_eq_false h
  go_enter Tryz.func57, Tryz.ntmps57
  go_wp2
  go_ret
  simp [h]
theorem brk_bad {a b c : Int} {l : List S42} {canvas : Int} (h : checkS a b c l ≠ 0) : brkE a b c l canvas = checkS a b c l ∧ brkL a b c l canvas = [] := by
 have h1 : brkE a b c l canvas = checkS a b c l := by unfold brkE; rw [if_neg h]
 exact ⟨h1, by unfold brkL; rw [h1, if_neg h]⟩
theorem brk_range {a b c : Int} {l : List S42} {canvas : Int} (h : checkS a b c l = 0) (h1 : inB canvas 1 1000 = false) : brkE a b c l canvas = 1 ∧ brkL a b c l canvas = [] := by
 have h2 : brkE a b c l canvas = 1 := by unfold brkE; rw [if_pos h, h1]; rfl
 exact ⟨h2, by unfold brkL; rw [h2]; rfl⟩
theorem brk_limit {a b c : Int} {l : List S42} {canvas : Int} (h : checkS a b c l = 0) (h1 : inB canvas 1 1000 = true) (h2 : 400 < (linesS (roomS c canvas) (lettersOf l)).length) : brkE a b c l canvas = 2 ∧ brkL a b c l canvas = [] := by
 have h2 : brkE a b c l canvas = 2 := by unfold brkE; rw [if_pos h, h1, if_pos rfl, if_pos h2]
 exact ⟨h2, by unfold brkL; rw [h2]; rfl⟩
theorem brk_good {a b c : Int} {l : List S42} {canvas : Int} (h : checkS a b c l = 0) (h1 : inB canvas 1 1000 = true) (h2 : ¬ 400 < (linesS (roomS c canvas) (lettersOf l)).length) : brkE a b c l canvas = 0 ∧ brkL a b c l canvas = (linesS (roomS c canvas) (lettersOf l)).map fun p => piecesS p.1 := by
 have h2 : brkE a b c l canvas = 0 := by unfold brkE; rw [if_pos h, h1, if_pos rfl, if_neg h2]
 exact ⟨h2, by unfold brkL; rw [if_pos h2]⟩
theorem inB_true {a lo hi : Int} (h : inB a lo hi = true) : lo ≤ a ∧ a ≤ hi := by
 unfold inB at h
 rw [Bool.and_eq_true, decide_eq_true_iff, decide_eq_true_iff] at h
 exact h
theorem headB_margin {a b c : Int} (h : headB a b c = true) : 0 ≤ c ∧ c ≤ 100 := by
 unfold headB at h
 rw [Bool.and_eq_true, Bool.and_eq_true] at h
 exact inB_true h.2.2
theorem lettersOf_ok {l : List S42} (hok : ∀ p ∈ l, isTextB p.f0 = true ∧ styB p.f1 = true) : Okl (lettersOf l) := okl_letters hok
set_option maxHeartbeats 2000000 in
set_option maxRecDepth 100000 in
theorem tBreak_calls (a b c : Int) (A : Option Addr) (cap : Nat) (l : List S42) (canvas : Int) (w : World) (hr : Kd.C k42 w A l.length l) (hc : l.length ≤ cap) (hf : Fit l) :
  Calls Tryz.prog 35 #[.agg #[.int .i64 a, .int .i64 b, .int .i64 c, .slice A l.length cap], .int .i64 canvas] w (BrkPost a b c l canvas w) := by
 unfold BrkPost
 obtain ⟨i0, hi, hii⟩ := Option.map_eq_some_iff.1 infoPs
 simp only [Prod.mk.injEq] at hii
 obtain ⟨hz0, hz1, hz2⟩ := hii
 have cC := fun X h => tCheck_calls a b c A cap l X h hc hf
 have cI := fun X => within_calls' canvas 1 1000 X
 obtain ⟨ec, hec⟩ : ∃ ec, checkS a b c l = ec := ⟨_, rfl⟩
 rw [hec] at cC
 go_enter Tryz.func35, Tryz.ntmps35
 cases hc0 : (ec != 0)
 case true =>
  have hne : checkS a b c l ≠ 0 := by rw [hec]; simpa using hc0
  obtain ⟨hE, hL⟩ := brk_bad (canvas := canvas) hne
  rw [hec] at hE
  have HE := Lib.hid hE
  have HL := Lib.hid hL
  clear hE hL hne
  go_wp2_with (go_at_call 25; refine (cC _ (Kd.C_alloc hr _)).mono ?_; rintro e W1 ⟨rfl, hb1⟩)
  go_ret2
  exact ⟨_, by rw [HE.out]; rfl, by rw [HL.out]; exact Brk.nil _ _, ((Below.refl _ w).alloc (Nat.le_refl _) _).trans (hb1.mono (by simp))⟩
 case false =>
  have hz : checkS a b c l = 0 := by rw [hec]; simpa using hc0
  obtain ⟨hhd, hl, hw, hok⟩ := checkS_ok hz
  have hmg := headB_margin hhd
  have HZ := Lib.hid hz
  clear hz
  cases hin : inB canvas 1 1000
  case false =>
   obtain ⟨hE, hL⟩ := brk_range HZ.out hin
   have HE := Lib.hid hE
   have HL := Lib.hid hL
   clear hE hL
   rw [hin] at cI
   go_wp2_with (first | (go_at_call 25; refine (cC _ (Kd.C_alloc hr _)).mono ?_; rintro e W1 ⟨rfl, hb1⟩) | (go_at_call 57; refine (cI _).mono ?_; rintro e W2 ⟨rfl, rfl⟩))
   go_ret2
   exact ⟨_, by rw [HE.out]; rfl, by rw [HL.out]; exact Brk.nil _ _, ((Below.refl _ w).alloc (Nat.le_refl _) _).trans (hb1.mono (by simp))⟩
  case true =>
   rw [hin] at cI
   have hcv := inB_true hin
   have cB := fun X h => broken_calls a b c A cap l canvas X h hc hl hw hok hmg hcv
   obtain ⟨O, hO⟩ : ∃ O, linesS (roomS c canvas) (lettersOf l) = O := ⟨_, rfl⟩
   have hOl : O.length ≤ 5000 := by rw [← hO]; have := linesS_len (roomS c canvas) (lettersOf l); rw [lettersOf_length] at this; omega
   rw [hO] at cB
   cases h4 : decide ((400 : Int) < (O.length : Int))
   case true =>
    obtain ⟨hE, hL⟩ := brk_limit HZ.out hin (by rw [hO]; have := of_decide_eq_true h4; omega)
    have HE := Lib.hid hE
    have HL := Lib.hid hL
    clear hE hL
    go_wp2_with (first | (go_at_call 25; refine (cC _ (Kd.C_alloc hr _)).mono ?_; rintro e W1 ⟨rfl, hb1⟩; obtain ⟨k0, k1, k2, k3⟩ := box4 hb1; have hr1 := Kd.C_below (Kd.C_alloc hr _) hb1) | (go_at_call 57; refine (cI _).mono ?_; rintro e W2 ⟨rfl, rfl⟩) | (go_at_call 74; refine (cB _ hr1).mono ?_; rintro e W3 ⟨v3, rfl, ⟨vs, hv1, hv2, hv3⟩, hb3⟩; obtain ⟨A3, c3, rfl, hle3⟩ := hv2.form))
    go_ret2
    exact ⟨_, by rw [HE.out]; rfl, by rw [HL.out]; exact Brk.nil _ _, (((Below.refl _ w).alloc (Nat.le_refl _) _).trans (hb1.mono (by simp))).trans (hb3.mono (by have := hb1.size; simp at this; omega))⟩
   case false =>
    obtain ⟨hE, hL⟩ := brk_good HZ.out hin (by rw [hO]; have := of_decide_eq_false h4; omega)
    rw [hO] at hL
    have HE := Lib.hid hE
    have HL := Lib.hid hL
    clear hE hL hO
    go_wp2_with (first | (go_at_call 25; refine (cC _ (Kd.C_alloc hr _)).mono ?_; rintro e W1 ⟨rfl, hb1⟩; obtain ⟨k0, k1, k2, k3⟩ := box4 hb1; have hr1 := Kd.C_below (Kd.C_alloc hr _) hb1) | (go_at_call 57; refine (cI _).mono ?_; rintro e W2 ⟨rfl, rfl⟩) | (go_at_call 74; refine (cB _ hr1).mono ?_; rintro e W3 ⟨v3, rfl, ⟨vs, hv1, hv2, hv3⟩, hb3⟩; obtain ⟨A3, c3, rfl, hle3⟩ := hv2.form))
    have hbw3 : Below w.heap.size w W3 := (((Below.refl _ w).alloc (Nat.le_refl _) _).trans (hb1.mono (by simp))).trans (hb3.mono (by have := hb1.size; simp at this; omega))
    clear hb1 hb3 cC cI cB k0 k1 k2 k3 hr1 hr
    go_loopw [8, 27] (fun vo i wr => ∃ n : Nat, n ≤ O.length ∧ i = .int .i64 n ∧ Brk wr W3.heap.size vo ((O.take n).map fun p => piecesS p.1) ∧ KB [23] W3 wr ∧ Below W3.heap.size W3 wr) (fun _ i _ => O.length - (intOf i).toNat)
    case atStart => exact ⟨0, by omega, rfl, Brk.nil _ _, KB.refl _ _, Below.refl _ _⟩
    case round =>
     obtain ⟨n, hn, rfl, hB, hkb, hbw⟩ := hrel
     by_cases hlt : n < O.length
     ·obtain ⟨ad, u, p, rfl, hu, hp, d0, d1, d2⟩ := at_lines (hv2.kb hkb (by decide)) hv1 n hlt
      have hIn := (hv3 n u p hu hp).kb hkb (by decide)
      obtain ⟨Au, cu, rfl, hcu⟩ := hIn.form
      have hmap : ((O.take (n + 1)).map fun p => piecesS p.1) = ((O.take n).map fun p => piecesS p.1) ++ [piecesS p.1] := by
       rw [List.take_succ_eq_append_getElem hlt, List.map_append, List.getElem?_eq_getElem hlt] at *
       rw [Option.some.inj hp]
       rfl
      have hml : ((O.take n).map fun p => piecesS p.1).length = n := by rw [List.length_map, List.length_take]; omega
      obtain ⟨vs2, hw1, hw2, hw3⟩ := hB
      rw [hml] at hw1 hw2
      generalize sumW p.1 0 = su at d1
      generalize p.2 = hg at d2
      generalize hpl : (piecesS p.1).length = pl at *
      have wr1 : IntKind.i64.wrap ((n : Int) + 1) = (n : Int) + 1 := IntWalk.i64_in _ (by omega)
      have HM := Lib.hid hmap
      clear hmap hp hu
      have hb2 : Below wr.heap.size wr ((wr.alloc (.cells #[.slice Au pl cu, .int .i64 su, .int .i64 hg] 107)).alloc (.cells #[.slice Au pl cu] 23)) := ((Below.refl _ wr).alloc (Nat.le_refl _) _).alloc (by simp) _
      have hL3 := hw2.kb (KB.below (ts := []) hb2) (by simp)
      go_wp2_with (at_builtin; refine Go.Own.wpList_append_lies rfl _ _ 48 rfl W3.heap.size 23 i0 _ 1 24 Tryz.underlying48 hi hz0 hz1 hz2 rfl (by decide) _ n vs2 rfl hL3 ⟨wr.heap.size + 1, 0, none⟩ 1 1 [.slice Au pl cu] rfl rfl ?qc2 ?qc3 ?qc4 ?qc5 ?qc6 (by decide) ?_)
      case qc2 =>
       intro k u hk
       rw [add0, newcell2 wr _ #[.slice Au pl cu] 23 k u (by simpa using hk)]
      case qc3 => intro u hu; simp only [List.mem_cons, List.mem_nil_iff, or_false] at hu; rcases hu with rfl; rfl
      case qc4 => unfold maxLen; omega
      case qc5 => omega
      case qc6 => exact Nat.le_trans hbw.size hb2.size
      intro v5 W5 hL5 hg5
      have hk5 : KB [23] wr W5 := (KB.below hb2).trans (KB.grown hg5 fun k hk => by obtain ⟨_, _, cu, hc⟩ := hL3.lt k hk; exact ⟨cu, 23, by simp, hc⟩)
      have hb5 : Below W3.heap.size W3 W5 := (hbw.trans (hb2.mono hbw.size)).grown hg5 (Nat.le_trans hbw.size hb2.size) (fun k hk => (hL3.lt k hk).1)
      clear hg5 hL3 hb2
      go_wp2
      go_roundw
      case rel => exact ⟨n + 1, by omega, by go_num, by rw [HM.out]; exact Brk.snoc (w := wr) (by rw [hml]; exact hw1) hw3 (by rw [hml]; exact hL5) (by subst hpl; exact hIn) hk5, hkb.trans hk5, hb5⟩
      case measure => (simp [intOf]; try omega)
     ·obtain rfl : n = O.length := by omega
      rw [List.take_length] at hB
      have HB := Lib.hid hB
      clear hB
      go_wp2_with fail
      go_ret2
      refine ⟨_, by rw [HE.out]; rfl, ?_, hbw3.trans (hbw.mono hbw3.size)⟩
      rw [HL.out]
      obtain ⟨vs2, hw1, hw2, hw3⟩ := HB.out
      exact ⟨vs2, hw1, hw2.mono hbw3.size, hw3⟩
end Go.Proofs.YtogidacejbjljaaGreatDoor.PTextChecks
end
section
/- The reference's Break. -/
set_option linter.unusedVariables false
set_option linter.unusedSimpArgs false
namespace Go.Proofs.YtogidacejbjljaaGreatDoor.PTextChecks
open Go.RowKit Go.Mix Go.Own Go.Proofs.YtogidacejbjljaaGreatDoorW.PrintWords Go.Proofs.YtogidacejbjljaaGreatDoorW.PrintLast Go.Proofs.YtogidacejbjljaaGreatDoorW.PrintMore
theorem brkF_in (room : Int) : ∀ (k : Nat) (l : List S81), ∀ r ∈ brkF room k l, (∀ x ∈ r, x ∈ l) ∧ r.length ≤ l.length
 | 0, _ => fun r hr => by simp [brkF] at hr
 | k + 1, l => fun r hr => by
  unfold brkF at hr
  split at hr
  ·simp at hr
  ·rcases List.mem_cons.1 hr with rfl | hr
   ·exact ⟨fun x hx => List.mem_of_mem_take hx, by rw [List.length_take]; omega⟩
   ·obtain ⟨h1, h2⟩ := brkF_in room k _ r hr
    exact ⟨fun x hx => List.mem_of_mem_drop (h1 x hx), by rw [List.length_drop] at h2; omega⟩
theorem flushS_in (room : Int) (l : List S81) (sz : Int) : ∀ p ∈ flushS room l sz, (∀ x ∈ p.1, x ∈ l) ∧ p.1.length ≤ l.length := by
 intro p hp
 unfold flushS at hp
 split at hp
 ·obtain rfl := List.mem_singleton.1 hp
  exact ⟨fun x hx => by simp at hx, by simp⟩
 ·obtain ⟨r, hr, rfl⟩ := List.mem_map.1 hp
  exact brkF_in room _ l r hr
theorem restS_in (room : Int) : ∀ (l cur : List S81) (sz : Int), ∀ p ∈ restS room l cur sz, (∀ x ∈ p.1, x ∈ cur ∨ x ∈ l) ∧ p.1.length ≤ cur.length + l.length
 | [], cur, sz => fun p hp => by
  rw [restS_nil] at hp
  obtain ⟨h1, h2⟩ := flushS_in room cur sz p hp
  exact ⟨fun x hx => .inl (h1 x hx), by simpa using h2⟩
 | y :: r, cur, sz => fun p hp => by
  by_cases h : y.f0 = 10
  ·rw [restS_nl room y r cur sz h] at hp
   rcases List.mem_append.1 hp with hp | hp
   ·obtain ⟨h1, h2⟩ := flushS_in room cur y.f1.f3 p hp
    exact ⟨fun x hx => .inl (h1 x hx), by omega⟩
   ·obtain ⟨h1, h2⟩ := restS_in room r [] y.f1.f3 p hp
    exact ⟨fun x hx => by rcases h1 x hx with h | h; · simp at h
                          ·exact .inr (List.mem_cons_of_mem _ h), by simp only [List.length_nil, List.length_cons] at h2 ⊢; omega⟩
  ·rw [restS_no room y r cur sz h] at hp
   obtain ⟨h1, h2⟩ := restS_in room r (cur ++ [y]) y.f1.f3 p hp
   refine ⟨fun x hx => ?_, by simp only [List.length_append, List.length_cons, List.length_nil] at h2 ⊢; omega⟩
   rcases h1 x hx with h | h
   ·rcases List.mem_append.1 h with h | h
    ·exact .inl h
    ·obtain rfl := List.mem_singleton.1 h
     exact .inr (List.mem_cons_self ..)
   ·exact .inr (List.mem_cons_of_mem _ h)
theorem linesS_in (room : Int) (l : List S81) : ∀ p ∈ linesS room l, (∀ x ∈ p.1, x ∈ l) ∧ p.1.length ≤ l.length := by
 intro p hp
 obtain ⟨h1, h2⟩ := restS_in room l [] 2 p hp
 exact ⟨fun x hx => by rcases h1 x hx with h | h; · simp at h
                       ·exact h, by simpa using h2⟩
end Go.Proofs.YtogidacejbjljaaGreatDoor.PTextChecks
end
section
/- The plain side of TextWords: the lines of a cue have its letters but the line feeds, each fits, and its pieces are well joined. -/
set_option linter.unusedVariables false
set_option linter.unusedSimpArgs false
namespace Go.Proofs.YtogidacejbjljaaGreatDoor.PTextChecks
open Go.RowKit Go.Proofs.YtogidacejbjljaaGreatDoorW.PrintWords Go.Proofs.YtogidacejbjljaaGreatDoorW.PrintLast Go.Proofs.YtogidacejbjljaaGreatDoorW.PrintMore
theorem cls_range (n : Nat) : 0 ≤ clsN n ∧ clsN n ≤ 3 := by unfold clsN; split <;> (try split) <;> (try split) <;> omega
theorem wd_range (x : S81) (h : 0 ≤ x.f1.f3 ∧ x.f1.f3 ≤ 8) : 0 ≤ wd x ∧ wd x ≤ 25 := by
 have hc := cls_range x.f0.toNat
 have h1 : 0 ≤ x.f1.f3 * clsN x.f0.toNat := Int.mul_nonneg h.1 hc.1
 have h2 : x.f1.f3 * clsN x.f0.toNat ≤ 8 * 3 := Int.mul_le_mul h.2 hc.2 hc.1 (by omega)
 unfold wd wideS
 generalize x.f1.f3 * clsN x.f0.toNat = z at h1 h2
 unfold wrap64
 split
 ·omega
 ·split <;> omega
def sumI (l : List S81) : Int := (l.map wd).sum
theorem sumI_range {l : List S81} (h : Okl l) : 0 ≤ sumI l ∧ sumI l ≤ 25 * l.length := by
 induction l with
 | nil => simp [sumI]
 | cons x l ih =>
  have h1 := wd_range x (h x (List.mem_cons_self ..)).2
  have h2 := ih (fun y hy => h y (List.mem_cons_of_mem _ hy))
  simp only [sumI, List.map_cons, List.sum_cons, List.length_cons] at h2 ⊢
  omega
theorem sumW_eq : ∀ (l : List S81) (z : Int), Okl l → 0 ≤ z → z + 25 * l.length ≤ 4611686018427387904 → sumW l z = z + sumI l
 | [], z, _, _, _ => by simp [sumW, sumI]
 | x :: l, z, h, h0, hz => by
  have h1 := wd_range x (h x (List.mem_cons_self ..)).2
  simp only [List.length_cons] at hz
  have hw : wrap64 (z + wideS x.f0.toNat x.f1) = z + wd x := by
   show wrap64 (z + wd x) = z + wd x
   unfold wrap64; omega
  have := sumW_eq l (z + wd x) (fun y hy => h y (List.mem_cons_of_mem _ hy)) (by omega) (by omega)
  show (l.foldl (fun z x => wrap64 (z + wideS x.f0.toNat x.f1)) (wrap64 (z + wideS x.f0.toNat x.f1))) = _
  rw [hw]
  rw [show l.foldl (fun z x => wrap64 (z + wideS x.f0.toNat x.f1)) (z + wd x) = sumW l (z + wd x) from rfl, this]
  simp only [sumI, List.map_cons, List.sum_cons]
  omega
end Go.Proofs.YtogidacejbjljaaGreatDoor.PTextChecks
end
section
/- The plain side of sorting: insertion, the order of the layers, rising numbers. -/
set_option linter.unusedVariables false
set_option linter.unusedSimpArgs false
namespace Go.Proofs.YtogidacejbjljaaGreatDoor.PTextChecks
open Go.RowKit Go.Proofs.YtogidacejbjljaaGreatDoorW.PrintWords Go.Proofs.YtogidacejbjljaaGreatDoorW.PrintLast Go.Proofs.YtogidacejbjljaaGreatDoorW.PrintMore
theorem split_unique {α : Type} (p : α → Bool) {A B A' B' : List α} (h : A ++ B = A' ++ B') (hB : ∀ b ∈ B, p b = true) (hA : ∀ a, A.getLast? = some a → p a = false) (hB' : ∀ b ∈ B', p b = true) (hA' : ∀ a ∈ A', p a = false) : A = A' ∧ B = B' := by
 have hlen : A.length = A'.length := by
  rcases Nat.lt_trichotomy A.length A'.length with h1 | h1 | h1
  ·have h2 : A'[A.length]? = B[0]? := by
    rw [← List.getElem?_append_left (l₂ := B') h1, ← h, List.getElem?_append_right (Nat.le_refl _), Nat.sub_self]
   rw [List.getElem?_eq_getElem h1] at h2
   have h3 := hB _ (List.mem_of_getElem? h2.symm)
   rw [hA' _ (List.getElem_mem _)] at h3
   cases h3
  ·exact h1
  ·have h2 : A[A.length - 1]? = B'[A.length - 1 - A'.length]? := by
    rw [← List.getElem?_append_left (l₂ := B) (show A.length - 1 < A.length by omega), h, List.getElem?_append_right (by omega)]
   have h3 := hA (A[A.length - 1]'(by omega)) (by rw [List.getLast?_eq_getElem?, List.getElem?_eq_getElem])
   rw [List.getElem?_eq_getElem (by omega)] at h2
   rw [hB' _ (List.mem_of_getElem? h2.symm)] at h3
   cases h3
 exact List.append_inj h hlen
/-- x put into P from behind. -/
def InsRel {α : Type} (lt : α → α → Bool) (P : List α) (x : α) (Q : List α) : Prop := ∃ A B, P = A ++ B ∧ Q = A ++ x :: B ∧ (∀ b ∈ B, lt x b = true) ∧ ∀ a, A.getLast? = some a → lt x a = false
theorem insRel_eq {α : Type} {lt : α → α → Bool} {P Q : List α} {x : α} (h : InsRel lt P x Q) {A B : List α} (hP : P = A ++ B) (hB : ∀ b ∈ B, lt x b = true) (hA : ∀ a ∈ A, lt x a = false) : Q = A ++ x :: B := by
 obtain ⟨A', B', h1, rfl, h3, h4⟩ := h
 obtain ⟨rfl, rfl⟩ := split_unique (lt x) (h1.symm.trans hP) h3 h4 hB hA
 rfl
/-- The order of indices of the ranks f below n: greater ranks first. -/
def ordF (f : Nat → Int) (n : Nat) : List Nat := (List.range 8).flatMap fun j : Nat => (List.range n).filter fun i => decide (f i = 7 - (j : Int))
theorem flatMap_range_split {α : Type} (g : Nat → List α) (m : Nat) : ∀ (a : Nat), a ≤ m → (List.range m).flatMap g = (List.range a).flatMap g ++ (List.range (m - a)).flatMap fun j => g (a + j) := by
 intro a ha
 obtain ⟨k, rfl⟩ : ∃ k, m = a + k := ⟨m - a, by omega⟩
 rw [Nat.add_sub_cancel_left, List.range_add, List.flatMap_append, List.flatMap_map]
theorem ordF_step (f : Nat → Int) (n : Nat) (hn : 0 ≤ f n ∧ f n ≤ 7) {Q : List Nat} (h : InsRel (fun x y => decide (f y - f x < 0)) (ordF f n) n Q) : Q = ordF f (n + 1) := by
 obtain ⟨j0, hj0⟩ : ∃ j0 : Nat, f n = 7 - (j0 : Int) ∧ j0 ≤ 7 := ⟨(7 - f n).toNat, by omega, by omega⟩
 have hs := fun n => flatMap_range_split (fun j : Nat => (List.range n).filter fun i => decide (f i = 7 - (j : Int))) 8 (j0 + 1) (by omega)
 have hlast : ∀ j : Nat, (List.range (n + 1)).filter (fun i => decide (f i = 7 - (j : Int))) = (List.range n).filter (fun i => decide (f i = 7 - (j : Int))) ++ if j = j0 then [n] else [] := by
  intro j
  rw [List.range_succ, List.filter_append]
  congr 1
  rw [List.filter_cons, List.filter_nil]
  by_cases hj : j = j0
  ·rw [if_pos (decide_eq_true (by omega)), if_pos hj]
  ·rw [if_neg (by simp; omega), if_neg hj]
 have e := insRel_eq h (hs n) ?_ ?_
 ·rw [e, ordF, hs (n + 1)]
  have e1 : ((List.range (j0 + 1)).flatMap fun j : Nat => (List.range (n + 1)).filter fun i => decide (f i = 7 - (j : Int))) = ((List.range (j0 + 1)).flatMap fun j : Nat => (List.range n).filter fun i => decide (f i = 7 - (j : Int))) ++ [n] := by
   rw [List.range_succ (n := j0), List.flatMap_append, List.flatMap_append, List.append_assoc]
   congr 1
   ·unfold List.flatMap
    congr 1
    refine List.map_congr_left fun j hj => ?_
    rw [hlast, if_neg (by have := List.mem_range.1 hj; omega), List.append_nil]
   ·simp only [List.flatMap_cons, List.flatMap_nil, List.append_nil]
    rw [hlast, if_pos rfl]
  have e2 : ((List.range (8 - (j0 + 1))).flatMap fun j => (List.range (n + 1)).filter fun i => decide (f i = 7 - ((j0 + 1 + j : Nat) : Int))) = ((List.range (8 - (j0 + 1))).flatMap fun j => (List.range n).filter fun i => decide (f i = 7 - ((j0 + 1 + j : Nat) : Int))) := by
   unfold List.flatMap
   congr 1
   refine List.map_congr_left fun j hj => ?_
   rw [hlast, if_neg (by omega), List.append_nil]
  rw [e1, e2, List.append_assoc]
  rfl
 ·intro b hb
  simp only [List.mem_flatMap, List.mem_range, List.mem_filter, decide_eq_true_eq] at hb
  obtain ⟨j, hj, _, hb⟩ := hb
  exact decide_eq_true (by omega)
 ·intro b hb
  simp only [List.mem_flatMap, List.mem_range, List.mem_filter, decide_eq_true_eq] at hb
  obtain ⟨j, hj, _, hb⟩ := hb
  exact decide_eq_false (by omega)
theorem ordF_zero (f : Nat → Int) : ordF f 0 = [] := by simp [ordF, List.flatMap]
theorem ordF_mem {f : Nat → Int} {n : Nat} (hf : ∀ i, i < n → 0 ≤ f i ∧ f i ≤ 7) (i : Nat) : i ∈ ordF f n ↔ i < n := by
 simp only [ordF, List.mem_flatMap, List.mem_range, List.mem_filter, decide_eq_true_eq]
 constructor
 ·rintro ⟨_, _, h, _⟩; exact h
 ·intro h; have := hf i h; exact ⟨(7 - f i).toNat, by omega, h, by omega⟩
theorem ordF_nodup (f : Nat → Int) (n : Nat) : (ordF f n).Nodup := by
 unfold ordF
 unfold List.Nodup
 rw [List.pairwise_flatMap]
 refine ⟨fun j _ => List.nodup_range.filter _, ?_⟩
 refine (List.nodup_range (n := 8)).imp ?_
 intro a b hab
 intro x hx y hy
 simp only [List.mem_filter, List.mem_range, decide_eq_true_eq] at hx hy
 intro e
 subst e
 omega
/-- The numbers below n that are in a list, rising. -/
def riseF (n : Nat) (l : List Nat) : List Nat := (List.range n).filter fun i => decide (i ∈ l)
theorem filter_split (n x : Nat) (hx : x < n) (p : Nat → Bool) : (List.range n).filter p = (List.range x).filter p ++ (if p x then [x] else []) ++ ((List.range (n - (x + 1))).map fun j => x + 1 + j).filter p := by
 obtain ⟨k, rfl⟩ : ∃ k, n = (x + 1) + k := ⟨n - (x + 1), by omega⟩
 rw [Nat.add_sub_cancel_left, List.range_add, List.filter_append, List.range_succ, List.filter_append]
 congr 2
 rw [List.filter_cons, List.filter_nil]
theorem riseF_step (n : Nat) (l : List Nat) (x : Nat) (hx : x < n) (hl : x ∉ l) {Q : List Nat} (h : InsRel (fun x y => decide (x < y)) (riseF n l) x Q) : Q = riseF n (l ++ [x]) := by
 have hs := filter_split n x hx (fun i => decide (i ∈ l))
 rw [if_neg (by simpa using hl), List.append_nil] at hs
 have e := insRel_eq h hs ?_ ?_
 ·rw [e, riseF, filter_split n x hx, if_pos (by simp)]
  have e1 : ((List.range x).filter fun i => decide (i ∈ l ++ [x])) = (List.range x).filter fun i => decide (i ∈ l) := by
   refine List.filter_congr fun i hi => ?_
   have := List.mem_range.1 hi
   simp; omega
  have e2 : (((List.range (n - (x + 1))).map fun j => x + 1 + j).filter fun i => decide (i ∈ l ++ [x])) = ((List.range (n - (x + 1))).map fun j => x + 1 + j).filter fun i => decide (i ∈ l) := by
   refine List.filter_congr fun i hi => ?_
   obtain ⟨j, hj, rfl⟩ := List.mem_map.1 hi
   simp; omega
  rw [e1, e2, List.append_assoc]
  rfl
 ·intro b hb
  obtain ⟨hb, _⟩ := List.mem_filter.1 hb
  obtain ⟨j, hj, rfl⟩ := List.mem_map.1 hb
  exact decide_eq_true (by omega)
 ·intro b hb
  obtain ⟨hb, _⟩ := List.mem_filter.1 hb
  have := List.mem_range.1 hb
  exact decide_eq_false (by omega)
end Go.Proofs.YtogidacejbjljaaGreatDoor.PTextChecks
end
section
/- The plain side of the layout of cues. -/
set_option linter.unusedVariables false
set_option linter.unusedSimpArgs false
namespace Go.Proofs.YtogidacejbjljaaGreatDoor.PTextChecks
open Go.RowKit Go.Proofs.YtogidacejbjljaaGreatDoorW.PrintWords Go.Proofs.YtogidacejbjljaaGreatDoorW.PrintLast Go.Proofs.YtogidacejbjljaaGreatDoorW.PrintMore
/-- A placed line. -/
structure Pl where
 cue : Int
 line : Int
 x : Int
 y : Int
 wide : Int
 high : Int
 ps : List S42
/-- A cue. -/
structure Cu where
 a : Int
 b : Int
 c : Int
 l : List S42
def ovl (p q : Pl) : Bool := decide (p.x < q.x + q.wide) && (decide (q.x < p.x + p.wide) && (decide (p.y < q.y + q.high) && (decide (q.y < p.y + p.high) && (decide (0 < p.wide) && decide (0 < q.wide)))))
def meetsS (a b : List Pl) : Bool := a.any fun x => b.any fun y => ovl x y
def xS (al mar canvas wide : Int) : Int := if al % 3 = 0 then canvas - mar - wide else if al % 3 = 2 then (canvas - wide) / 2 else mar
def plOf (k : Int) (q : Cu) (canvas : Int) (i : Nat) (y : Int) (p : List S81 × Int) : Pl := ⟨k, i, xS q.b q.c canvas (sumW p.1 0), y, sumW p.1 0, p.2, piecesS p.1⟩
def blkF (k : Int) (q : Cu) (canvas : Int) : Nat → Int → List (List S81 × Int) → List Pl
 | _, _, [] => []
 | i, y, p :: r => plOf k q canvas i y p :: blkF k q canvas (i + 1) (y + p.2) r
def allH (L : List (List S81 × Int)) : Int := (L.map Prod.snd).sum
def fromS (al mar tall all : Int) : Int := if al ≤ 3 then tall - mar - all else if al ≤ 6 then (tall - all) / 2 else mar
def byS (al : Int) : Int := if al ≤ 3 then -1 else 1
def slideF (k : Int) (q : Cu) (canvas tall : Int) (L : List (List S81 × Int)) (out : List Pl) : Nat → Int → Option Int
 | 0, _ => none
 | n + 1, y => if y < 0 ∨ tall < y + allH L then none else if meetsS (blkF k q canvas 0 y L) out = true then slideF k q canvas tall L out n (y + byS q.b) else some y
/-- How often a block may still move. -/
def moves (al tall y : Int) : Nat := if al ≤ 3 then (y + 1).toNat else (tall + 1 - y).toNat
def slideS (k : Int) (q : Cu) (canvas tall : Int) (L : List (List S81 × Int)) (out : List Pl) : Option Int := slideF k q canvas tall L out (moves q.b tall (fromS q.b q.c tall (allH L)) + 1) (fromS q.b q.c tall (allH L))
def linesQ (q : Cu) (canvas : Int) : List (List S81 × Int) := linesS (roomS q.c canvas) (lettersOf q.l)
/-- Where the block of a cue comes to lie: the lines, or none if it is lost. -/
def placeS (C : List Cu) (canvas tall : Int) (out : List Pl) (k : Nat) : Option (List Pl) :=
 match C[k]? with
 | none => none
 | some q => (slideS k q canvas tall (linesQ q canvas) out).map fun y => blkF k q canvas 0 y (linesQ q canvas)
def stepS (C : List Cu) (canvas tall : Int) (s : List Pl × List Nat) (k : Nat) : List Pl × List Nat :=
 match placeS C canvas tall s.1 k with
 | none => (s.1, s.2 ++ [k])
 | some b => (s.1 ++ b, s.2)
def layerOf (C : List Cu) (k : Nat) : Int := match C[k]? with | some q => q.a | none => 0
def runS (C : List Cu) (canvas tall : Int) (l : List Nat) : List Pl × List Nat := l.foldl (stepS C canvas tall) ([], [])
def layS (C : List Cu) (canvas tall : Int) : List Pl × List Nat := runS C canvas tall (ordF (layerOf C) C.length)
def lostS (C : List Cu) (canvas tall : Int) : List Nat := riseF C.length (layS C canvas tall).2
/-- The first error of the cues. -/
def firstE (canvas : Int) : List Cu → Int
 | [] => 0
 | q :: r => if brkE q.a q.b q.c q.l canvas = 0 then firstE canvas r else brkE q.a q.b q.c q.l canvas
def layE (C : List Cu) (canvas tall : Int) : Int :=
 if inB canvas 1 1000 && inB tall 1 1000 then (if 8 < C.length then 2 else firstE canvas C) else 1

theorem blkF_len (k : Int) (q : Cu) (canvas : Int) : ∀ (L : List (List S81 × Int)) (i : Nat) (y : Int), (blkF k q canvas i y L).length = L.length
 | [], _, _ => rfl
 | p :: r, i, y => by unfold blkF; rw [List.length_cons, List.length_cons, blkF_len]
/-- The height of the first n lines. -/
def uptoH (L : List (List S81 × Int)) (n : Nat) : Int := allH (L.take n)
theorem uptoH_succ {L : List (List S81 × Int)} {n : Nat} {p : List S81 × Int} (h : L[n]? = some p) : uptoH L (n + 1) = uptoH L n + p.2 := by
 obtain ⟨hn, rfl⟩ := List.getElem?_eq_some_iff.1 h
 unfold uptoH allH
 rw [List.take_succ_eq_append_getElem hn, List.map_append, List.sum_append]
 simp
theorem uptoH_all (L : List (List S81 × Int)) : uptoH L L.length = allH L := by unfold uptoH; rw [List.take_length]
theorem blkF_get (k : Int) (q : Cu) (canvas : Int) : ∀ (L : List (List S81 × Int)) (i : Nat) (y : Int) (n : Nat) (p : List S81 × Int), L[n]? = some p → (blkF k q canvas i y L)[n]? = some (plOf k q canvas (i + n) (y + uptoH L n) p)
 | [], _, _, _, _, h => by simp at h
 | p :: r, i, y, 0, p', h => by
  obtain rfl : p = p' := by simpa using h
  simp [blkF, uptoH, allH]
 | p :: r, i, y, n + 1, p', h => by
  have h' : r[n]? = some p' := by simpa using h
  unfold blkF
  rw [List.getElem?_cons_succ, blkF_get k q canvas r (i + 1) (y + p.2) n p' h']
  have e : uptoH (p :: r) (n + 1) = p.2 + uptoH r n := by simp [uptoH, allH]
  rw [e, show i + 1 + n = i + (n + 1) by omega, Int.add_assoc]
/-- The first n lines of a block, and the next one. -/
theorem blkF_snoc (k : Int) (q : Cu) (canvas : Int) {L : List (List S81 × Int)} {n : Nat} {p : List S81 × Int} (y : Int) (h : L[n]? = some p) : blkF k q canvas 0 y (L.take (n + 1)) = blkF k q canvas 0 y (L.take n) ++ [plOf k q canvas n (y + uptoH L n) p] := by
 obtain ⟨hn, he⟩ := List.getElem?_eq_some_iff.1 h
 apply List.ext_getElem?
 intro m
 have hl1 : (L.take n).length = n := by rw [List.length_take]; omega
 rcases Nat.lt_trichotomy m n with hm | rfl | hm
 ·have hg : L[m]? = some (L[m]'(by omega)) := List.getElem?_eq_getElem _
  have g1 : (L.take (n + 1))[m]? = some (L[m]'(by omega)) := by rw [List.getElem?_take_of_lt (by omega), hg]
  have g2 : (L.take n)[m]? = some (L[m]'(by omega)) := by rw [List.getElem?_take_of_lt hm, hg]
  rw [blkF_get _ _ _ _ _ _ _ _ g1, List.getElem?_append_left (by rw [blkF_len, hl1]; exact hm), blkF_get _ _ _ _ _ _ _ _ g2]
  congr 2
  unfold uptoH
  rw [List.take_take, List.take_take, Nat.min_eq_left (by omega), Nat.min_eq_left (by omega)]
 ·have g1 : (L.take (m + 1))[m]? = some p := by rw [List.getElem?_take_of_lt (by omega), h]
  rw [blkF_get _ _ _ _ _ _ _ _ g1, List.getElem?_append_right (by rw [blkF_len, hl1]; omega), blkF_len, hl1, Nat.sub_self, Nat.zero_add]
  unfold uptoH
  rw [List.take_take, Nat.min_eq_left (by omega)]
  rfl
 ·rw [List.getElem?_eq_none (by rw [blkF_len, List.length_take]; omega), List.getElem?_eq_none (by rw [List.length_append, blkF_len, hl1]; simp; omega)]
/-- A block that is moved. -/
theorem blkF_move (k : Int) (q : Cu) (canvas d : Int) : ∀ (L : List (List S81 × Int)) (i : Nat) (y : Int), blkF k q canvas i (y + d) L = (blkF k q canvas i y L).map fun p => { p with y := p.y + d }
 | [], _, _ => rfl
 | p :: r, i, y => by
  unfold blkF
  rw [List.map_cons, show y + d + p.2 = y + p.2 + d by omega, blkF_move k q canvas d r]
  rfl
theorem slideF_step {k : Int} {q : Cu} {canvas tall : Int} {L : List (List S81 × Int)} {out : List Pl} {R : Option Int} {y : Int} (h0 : 0 ≤ allH L) (h : ∃ n, moves q.b tall y < n ∧ slideF k q canvas tall L out n y = R) :
  (y < 0 ∨ tall < y + allH L → R = none) ∧ (¬ (y < 0 ∨ tall < y + allH L) → meetsS (blkF k q canvas 0 y L) out = false → R = some y) ∧
  (¬ (y < 0 ∨ tall < y + allH L) → meetsS (blkF k q canvas 0 y L) out = true → moves q.b tall (y + byS q.b) < moves q.b tall y ∧ ∃ n, moves q.b tall (y + byS q.b) < n ∧ slideF k q canvas tall L out n (y + byS q.b) = R) := by
 obtain ⟨n, hn, rfl⟩ := h
 obtain ⟨m, rfl⟩ : ∃ m, n = m + 1 := ⟨n - 1, by omega⟩
 refine ⟨fun h => ?_, fun h1 h2 => ?_, fun h1 h2 => ?_⟩
 ·unfold slideF; rw [if_pos h]
 ·unfold slideF; rw [if_neg h1, if_neg (by rw [h2]; simp)]
 ·have hm : moves q.b tall (y + byS q.b) < moves q.b tall y := by
   unfold moves byS at *
   split <;> omega
  refine ⟨hm, m, by omega, ?_⟩
  conv => rhs; unfold slideF
  rw [if_neg h1, if_pos h2]
theorem slideS_start {k : Int} {q : Cu} {canvas tall : Int} {L : List (List S81 × Int)} {out : List Pl} : ∃ n, moves q.b tall (fromS q.b q.c tall (allH L)) < n ∧ slideF k q canvas tall L out n (fromS q.b q.c tall (allH L)) = slideS k q canvas tall L out := ⟨_, Nat.lt_succ_self _, rfl⟩
theorem slideF_some {k : Int} {q : Cu} {canvas tall : Int} {L : List (List S81 × Int)} {out : List Pl} : ∀ (n : Nat) (y z : Int), slideF k q canvas tall L out n y = some z → 0 ≤ z ∧ z + allH L ≤ tall ∧ meetsS (blkF k q canvas 0 z L) out = false
 | 0, y, z, h => by simp [slideF] at h
 | n + 1, y, z, h => by
  unfold slideF at h
  split at h
  ·cases h
  ·split at h
   ·exact slideF_some n _ _ h
   ·injection h with h
    subst h
    rename_i h1 h2
    exact ⟨by omega, by omega, by simpa using h2⟩
theorem runS_snoc (C : List Cu) (canvas tall : Int) (l : List Nat) (k : Nat) : runS C canvas tall (l ++ [k]) = stepS C canvas tall (runS C canvas tall l) k := by unfold runS; rw [List.foldl_append]; rfl
theorem stepS_none {C : List Cu} {canvas tall : Int} {s : List Pl × List Nat} {k : Nat} {q : Cu} (hq : C[k]? = some q) (h : slideS k q canvas tall (linesQ q canvas) s.1 = none) : stepS C canvas tall s k = (s.1, s.2 ++ [k]) := by
 unfold stepS placeS; simp only [hq, h, Option.map_none]
theorem stepS_some {C : List Cu} {canvas tall : Int} {s : List Pl × List Nat} {k : Nat} {q : Cu} {y : Int} (hq : C[k]? = some q) (h : slideS k q canvas tall (linesQ q canvas) s.1 = some y) : stepS C canvas tall s k = (s.1 ++ blkF k q canvas 0 y (linesQ q canvas), s.2) := by
 unfold stepS placeS; simp only [hq, h, Option.map_some]
theorem firstE_nth {canvas : Int} : ∀ {C : List Cu} {n : Nat} {q : Cu}, (∀ (i : Nat) (p : Cu), i < n → C[i]? = some p → brkE p.a p.b p.c p.l canvas = 0) → C[n]? = some q → brkE q.a q.b q.c q.l canvas ≠ 0 → firstE canvas C = brkE q.a q.b q.c q.l canvas
 | [], n, q, _, h, _ => by simp at h
 | p :: C, 0, q, _, h, hne => by
  obtain rfl : p = q := by simpa using h
  unfold firstE; rw [if_neg hne]
 | p :: C, n + 1, q, h0, h, hne => by
  unfold firstE
  rw [if_pos (h0 0 p (by omega) rfl)]
  exact firstE_nth (n := n) (fun i r hi hr => h0 (i + 1) r (by omega) (by simpa using hr)) (by simpa using h) hne
theorem firstE_zero {canvas : Int} : ∀ {C : List Cu}, (∀ (i : Nat) (p : Cu), C[i]? = some p → brkE p.a p.b p.c p.l canvas = 0) → firstE canvas C = 0
 | [], _ => rfl
 | p :: C, h => by
  unfold firstE
  rw [if_pos (h 0 p rfl)]
  exact firstE_zero fun i r hr => h (i + 1) r (by simpa using hr)
theorem firstE_ok {canvas : Int} : ∀ {C : List Cu}, firstE canvas C = 0 → ∀ q ∈ C, brkE q.a q.b q.c q.l canvas = 0
 | [], _ => fun q hq => by simp at hq
 | p :: C, h => fun q hq => by
  unfold firstE at h
  split at h
  ·rename_i h1
   rcases List.mem_cons.1 hq with rfl | hq
   ·exact h1
   ·exact firstE_ok h q hq
  ·rename_i h1; exact absurd h h1
end Go.Proofs.YtogidacejbjljaaGreatDoor.PTextChecks
end
section
/- The layout's laws: placed lines lie apart; a cue behind all others changes nothing. -/
set_option linter.unusedVariables false
set_option linter.unusedSimpArgs false
namespace Go.Proofs.YtogidacejbjljaaGreatDoor.PTextChecks
open Go.RowKit Go.Proofs.YtogidacejbjljaaGreatDoorW.PrintWords Go.Proofs.YtogidacejbjljaaGreatDoorW.PrintLast Go.Proofs.YtogidacejbjljaaGreatDoorW.PrintMore
def cntOf (P : List Pl) (k : Int) : Nat := P.countP fun p => decide (p.cue = k)
theorem cntOf_app (P Q : List Pl) (k : Int) : cntOf (P ++ Q) k = cntOf P k + cntOf Q k := by unfold cntOf; rw [List.countP_append]
theorem blkF_mem {k : Int} {q : Cu} {canvas : Int} {L : List (List S81 × Int)} {y : Int} {p : Pl} (h : p ∈ blkF k q canvas 0 y L) : ∃ n r, n < L.length ∧ L[n]? = some r ∧ (blkF k q canvas 0 y L)[n]? = some p ∧ p = plOf k q canvas n (y + uptoH L n) r := by
 obtain ⟨n, hn⟩ := List.mem_iff_getElem?.1 h
 have hlt : n < L.length := by have := (List.getElem?_eq_some_iff.1 hn).1; rwa [blkF_len] at this
 have hr : L[n]? = some L[n] := List.getElem?_eq_getElem _
 have hg := blkF_get k q canvas L 0 y n _ hr
 rw [hn] at hg
 refine ⟨n, L[n], hlt, hr, hn, ?_⟩
 rw [Option.some.inj hg, Nat.zero_add]
theorem blkF_cue (k : Int) (q : Cu) (canvas : Int) : ∀ (L : List (List S81 × Int)) (i : Nat) (y : Int), ∀ p ∈ blkF k q canvas i y L, p.cue = k
 | [], _, _ => fun p hp => by simp [blkF] at hp
 | r :: L, i, y => fun p hp => by
  unfold blkF at hp
  rcases List.mem_cons.1 hp with rfl | hp
  ·rfl
  ·exact blkF_cue k q canvas L _ _ p hp
theorem cnt_blk (k : Int) (q : Cu) (canvas : Int) (L : List (List S81 × Int)) (i : Nat) (y : Int) (k' : Int) : cntOf (blkF k q canvas i y L) k' = if k' = k then L.length else 0 := by
 unfold cntOf
 split
 ·rename_i h
  rw [List.countP_eq_length.2, blkF_len]
  intro p hp
  rw [blkF_cue _ _ _ _ _ _ p hp, h]
  simp
 ·rename_i h
  rw [List.countP_eq_zero]
  intro p hp
  rw [blkF_cue _ _ _ _ _ _ p hp]
  simp
  exact fun e => h e.symm
theorem cnt_take_blk (k : Int) (q : Cu) (canvas : Int) {L : List (List S81 × Int)} (y : Int) {n : Nat} (hn : n ≤ L.length) : cntOf ((blkF k q canvas 0 y L).take n) k = n := by
 unfold cntOf
 rw [List.countP_eq_length.2, List.length_take, blkF_len]
 ·omega
 ·intro p hp
  rw [blkF_cue _ _ _ _ _ _ p (List.mem_of_mem_take hp)]
  simp
theorem uptoH_mono {L : List (List S81 × Int)} (h : ∀ p ∈ L, 0 ≤ p.2) {m n : Nat} (hmn : m ≤ n) : uptoH L m ≤ uptoH L n := by
 induction n with
 | zero => obtain rfl : m = 0 := by omega
           omega
 | succ n ih =>
  rcases Nat.lt_or_ge m (n + 1) with h1 | h1
  ·have := ih (by omega)
   by_cases hn : n < L.length
   ·rw [uptoH_succ (List.getElem?_eq_getElem hn)]
    have := h _ (List.getElem_mem hn)
    omega
   ·have e : uptoH L (n + 1) = uptoH L n := by unfold uptoH; rw [List.take_of_length_le (by omega), List.take_of_length_le (by omega)]
    omega
  ·obtain rfl : m = n + 1 := by omega
   omega
theorem uptoH_le {L : List (List S81 × Int)} (h : ∀ p ∈ L, 0 ≤ p.2) {n : Nat} (hn : n ≤ L.length) : uptoH L n ≤ allH L := by rw [← uptoH_all]; exact uptoH_mono h hn
theorem uptoH_zero (L : List (List S81 × Int)) : uptoH L 0 = 0 := rfl
theorem blk_apart {k : Int} {q : Cu} {canvas : Int} {L : List (List S81 × Int)} (h : ∀ p ∈ L, 0 ≤ p.2) {y : Int} {i j : Nat} {a b : Pl} (hij : j < i) (ha : (blkF k q canvas 0 y L)[i]? = some a) (hb : (blkF k q canvas 0 y L)[j]? = some b) : ovl a b = false := by
 have hi : i < L.length := by have := (List.getElem?_eq_some_iff.1 ha).1; rwa [blkF_len] at this
 have h1 := blkF_get k q canvas L 0 y i _ (List.getElem?_eq_getElem hi)
 have h2 := blkF_get k q canvas L 0 y j _ (List.getElem?_eq_getElem (show j < L.length by omega))
 rw [ha] at h1
 rw [hb] at h2
 injection h1 with h1
 injection h2 with h2
 have h3 : uptoH L (j + 1) ≤ uptoH L i := uptoH_mono h (by omega)
 rw [uptoH_succ (List.getElem?_eq_getElem (show j < L.length by omega))] at h3
 have e1 : a.y = y + uptoH L i := by rw [h1]; rfl
 have e2 : b.y = y + uptoH L j := by rw [h2]; rfl
 have e3 : b.high = (L[j]'(by omega)).2 := by rw [h2]; rfl
 have : decide (a.y < b.y + b.high) = false := decide_eq_false (by rw [e1, e2, e3]; omega)
 unfold ovl
 rw [this]
 simp
structure LInv (C : List Cu) (canvas tall : Int) (l : List Nat) (s : List Pl × List Nat) : Prop where
 at_ : ∀ (i : Nat) (p : Pl), s.1[i]? = some p → ∃ (k : Nat) (q : Cu) (r : List S81 × Int), k ∈ l ∧ p.cue = k ∧ C[k]? = some q ∧ 0 ≤ p.y ∧ p.y + p.high ≤ tall ∧ p.line = cntOf (s.1.take i) k ∧ r ∈ linesQ q canvas ∧ p.wide = sumW r.1 0 ∧ p.ps = piecesS r.1
 apart : ∀ (i j : Nat) (p r : Pl), s.1[i]? = some p → s.1[j]? = some r → j < i → ovl p r = false
 gone : ∀ k ∈ s.2, k ∈ l ∧ cntOf s.1 k = 0
 there : ∀ (k : Nat) (q : Cu), k ∈ l → k ∉ s.2 → C[k]? = some q → cntOf s.1 k = (linesQ q canvas).length
theorem LInv.nil (C : List Cu) (canvas tall : Int) : LInv C canvas tall [] ([], []) := ⟨fun i p h => by simp at h, fun i j p r h => by simp at h, fun k h => by simp at h, fun k q h => by simp at h⟩
theorem LInv.far {C : List Cu} {canvas tall : Int} {l : List Nat} {s : List Pl × List Nat} (h : LInv C canvas tall l s) {k : Nat} (hk : k ∉ l) : cntOf s.1 k = 0 := by
 unfold cntOf
 rw [List.countP_eq_zero]
 intro p hp
 obtain ⟨i, hi⟩ := List.mem_iff_getElem?.1 hp
 obtain ⟨k', q, r, hk', hc, _⟩ := h.at_ i p hi
 simp
 intro e
 rw [hc] at e
 have : k' = k := by omega
 exact hk (this ▸ hk')
theorem LInv.step {C : List Cu} {canvas tall : Int} {l : List Nat} {s : List Pl × List Nat} (h : LInv C canvas tall l s) {k : Nat} {q : Cu} (hk : k ∉ l) (hq : C[k]? = some q) (hh : ∀ p ∈ linesQ q canvas, 0 ≤ p.2) : LInv C canvas tall (l ++ [k]) (stepS C canvas tall s k) := by
 cases hs : slideS k q canvas tall (linesQ q canvas) s.1 with
 | none =>
  rw [stepS_none hq hs]
  refine ⟨fun i p hp => ?_, h.apart, fun k' hk' => ?_, fun k' q' hk' hn hq' => ?_⟩
  ·obtain ⟨k', q', r, h1, h2⟩ := h.at_ i p hp
   exact ⟨k', q', r, List.mem_append_left _ h1, h2⟩
  ·rcases List.mem_append.1 hk' with h1 | h1
   ·obtain ⟨h2, h3⟩ := h.gone k' h1
    exact ⟨List.mem_append_left _ h2, h3⟩
   ·rw [List.mem_singleton.1 h1]
    exact ⟨by simp, h.far hk⟩
  ·simp only [List.mem_append, List.mem_singleton, not_or] at hn hk'
   rcases hk' with h1 | h1
   ·exact h.there k' q' h1 hn.1 hq'
   ·exact absurd h1 hn.2
 | some y =>
  rw [stepS_some hq hs]
  obtain ⟨y0, y1, hmt⟩ := slideF_some _ _ _ hs
  have hnl : k ∉ s.2 := fun hm => hk (h.gone k hm).1
  refine ⟨fun i p hp => ?_, fun i j p r hp hr hij => ?_, fun k' hk' => ?_, fun k' q' hk' hn hq' => ?_⟩
  ·simp only at hp ⊢
   by_cases hi : i < s.1.length
   ·rw [List.getElem?_append_left hi] at hp
    obtain ⟨k', q', r, h1, h2, h3, h4, h5, h6, h7⟩ := h.at_ i p hp
    refine ⟨k', q', r, List.mem_append_left _ h1, h2, h3, h4, h5, ?_, h7⟩
    rw [h6, List.take_append_of_le_length (by omega)]
   ·rw [List.getElem?_append_right (by omega)] at hp
    obtain ⟨n, hn⟩ : ∃ n, i - s.1.length = n := ⟨_, rfl⟩
    rw [hn] at hp
    have hlt : n < (linesQ q canvas).length := by have := (List.getElem?_eq_some_iff.1 hp).1; rwa [blkF_len] at this
    have hg := blkF_get (k : Int) q canvas (linesQ q canvas) 0 y n _ (List.getElem?_eq_getElem hlt)
    rw [hp] at hg
    injection hg with hg
    have u1 := uptoH_le hh (show n + 1 ≤ _ from hlt)
    rw [uptoH_succ (List.getElem?_eq_getElem hlt)] at u1
    have u0 := uptoH_mono hh (Nat.zero_le n)
    rw [uptoH_zero] at u0
    refine ⟨k, q, (linesQ q canvas)[n], by simp, by rw [hg]; rfl, hq, ?_, ?_, ?_, List.getElem_mem _, by rw [hg]; rfl, by rw [hg]; rfl⟩
    ·rw [hg]; show 0 ≤ y + uptoH _ n; omega
    ·rw [hg]; show y + uptoH _ n + (linesQ q canvas)[n].2 ≤ tall; omega
    ·rw [hg, show i = s.1.length + n by omega, List.take_length_add_append, cntOf_app, h.far hk, cnt_take_blk _ _ _ _ (by omega)]
     show ((0 + n : Nat) : Int) = ((0 + n : Nat) : Int)
     rfl
  ·simp only at hp hr
   by_cases hi : i < s.1.length
   ·rw [List.getElem?_append_left hi] at hp
    rw [List.getElem?_append_left (by omega)] at hr
    exact h.apart i j p r hp hr hij
   ·rw [List.getElem?_append_right (by omega)] at hp
    by_cases hj : j < s.1.length
    ·rw [List.getElem?_append_left hj] at hr
     unfold meetsS at hmt
     rw [List.any_eq_false] at hmt
     have h1 := hmt p (List.mem_of_getElem? hp)
     rw [Bool.not_eq_true, List.any_eq_false] at h1
     have h2 := h1 r (List.mem_of_getElem? hr)
     simpa using h2
    ·rw [List.getElem?_append_right (by omega)] at hr
     exact blk_apart hh (show j - s.1.length < i - s.1.length by omega) hp hr
  ·obtain ⟨h1, h2⟩ := h.gone k' hk'
   refine ⟨List.mem_append_left _ h1, ?_⟩
   rw [cntOf_app, h2, cnt_blk, if_neg]
   intro e
   have : k' = k := by omega
   exact hk (this ▸ h1)
  ·simp only at hn ⊢
   rw [cntOf_app, cnt_blk]
   rcases List.mem_append.1 hk' with h1 | h1
   ·rw [h.there k' q' h1 hn hq', if_neg, Nat.add_zero]
    intro e
    have : k' = k := by omega
    exact hk (this ▸ h1)
   ·obtain rfl := List.mem_singleton.1 h1
    rw [h.far hk, if_pos rfl, Nat.zero_add]
    rw [hq] at hq'
    rw [Option.some.inj hq']
theorem run_inv {C : List Cu} {canvas tall : Int} (hh : ∀ q ∈ C, ∀ p ∈ linesQ q canvas, 0 ≤ p.2) : ∀ (l : List Nat) (pre : List Nat) (s : List Pl × List Nat), LInv C canvas tall pre s → (pre ++ l).Nodup → (∀ k ∈ l, k < C.length) → LInv C canvas tall (pre ++ l) (l.foldl (stepS C canvas tall) s)
 | [], pre, s, h, _, _ => by rw [List.append_nil]; exact h
 | k :: l, pre, s, h, hn, hl => by
  have hk := hl k (by simp)
  have hq : C[k]? = some C[k] := List.getElem?_eq_getElem _
  have hkp : k ∉ pre := by
   intro hm
   rw [List.nodup_append] at hn
   exact hn.2.2 k hm k (by simp) rfl
  have h1 := h.step hkp hq (hh _ (List.getElem_mem _))
  have h2 := run_inv hh l (pre ++ [k]) _ h1 (by rw [List.append_assoc]; exact hn) (fun k hk => hl k (List.mem_cons_of_mem _ hk))
  rw [List.append_assoc] at h2
  exact h2
theorem lay_inv {C : List Cu} {canvas tall : Int} (hh : ∀ q ∈ C, ∀ p ∈ linesQ q canvas, 0 ≤ p.2) (hf : ∀ i, i < C.length → 0 ≤ layerOf C i ∧ layerOf C i ≤ 7) : LInv C canvas tall (ordF (layerOf C) C.length) (layS C canvas tall) := by
 have := run_inv (tall := tall) hh (ordF (layerOf C) C.length) [] _ (LInv.nil C canvas tall) (by rw [List.nil_append]; exact ordF_nodup _ _) (fun k hk => (ordF_mem hf k).1 hk)
 rw [List.nil_append] at this
 exact this
/-! ### a cue behind all others -/
theorem ordF_congr {f g : Nat → Int} {n : Nat} (h : ∀ i, i < n → f i = g i) : ordF f n = ordF g n := by
 unfold ordF List.flatMap
 congr 1
 refine List.map_congr_left fun j _ => List.filter_congr fun i hi => ?_
 rw [h i (List.mem_range.1 hi)]
theorem layerOf_snoc {C : List Cu} (c : Cu) (i : Nat) (h : i < C.length) : layerOf (C ++ [c]) i = layerOf C i := by unfold layerOf; rw [List.getElem?_append_left h]
theorem layerOf_last (C : List Cu) (c : Cu) : layerOf (C ++ [c]) C.length = c.a := by unfold layerOf; rw [List.getElem?_concat_length]
theorem ordF_behind {C : List Cu} {c : Cu} (hf : ∀ i, i < (C ++ [c]).length → 0 ≤ layerOf (C ++ [c]) i ∧ layerOf (C ++ [c]) i ≤ 7) (hc : ∀ q ∈ C, ¬ q.a < c.a) : ordF (layerOf (C ++ [c])) (C ++ [c]).length = ordF (layerOf C) C.length ++ [C.length] := by
 rw [List.length_append, List.length_singleton] at hf ⊢
 refine (ordF_step (layerOf (C ++ [c])) C.length (hf _ (by omega)) ?_).symm
 rw [ordF_congr (fun i hi => layerOf_snoc c i hi)]
 refine ⟨ordF (layerOf C) C.length, [], by simp, rfl, fun b hb => by simp at hb, fun a ha => ?_⟩
 have ha := List.mem_of_getLast? ha
 have hlt : a < C.length := (ordF_mem (fun i hi => by have := hf i (by omega); rwa [layerOf_snoc c i hi] at this) a).1 ha
 show decide (layerOf (C ++ [c]) a - layerOf (C ++ [c]) C.length < 0) = false
 rw [layerOf_last, layerOf_snoc c a hlt]
 have := hc _ (List.getElem_mem hlt)
 have e : layerOf C a = (C[a]).a := by unfold layerOf; rw [List.getElem?_eq_getElem hlt]
 rw [e]
 exact decide_eq_false (by omega)
theorem stepS_snoc {C : List Cu} (c : Cu) {canvas tall : Int} (s : List Pl × List Nat) {k : Nat} (h : k < C.length) : stepS (C ++ [c]) canvas tall s k = stepS C canvas tall s k := by
 unfold stepS placeS
 rw [List.getElem?_append_left h]
theorem run_snoc {C : List Cu} (c : Cu) {canvas tall : Int} : ∀ (l : List Nat) (s : List Pl × List Nat), (∀ k ∈ l, k < C.length) → l.foldl (stepS (C ++ [c]) canvas tall) s = l.foldl (stepS C canvas tall) s
 | [], _, _ => rfl
 | k :: l, s, h => by
  rw [List.foldl_cons, List.foldl_cons, stepS_snoc c s (h k (by simp)), run_snoc c l _ fun k hk => h k (List.mem_cons_of_mem _ hk)]
theorem behind {C : List Cu} {c : Cu} {canvas tall : Int} (hh : ∀ q ∈ C, ∀ p ∈ linesQ q canvas, 0 ≤ p.2) (hf : ∀ i, i < (C ++ [c]).length → 0 ≤ layerOf (C ++ [c]) i ∧ layerOf (C ++ [c]) i ≤ 7) (hc : ∀ q ∈ C, ¬ q.a < c.a) :
  (∃ P, (layS (C ++ [c]) canvas tall).1 = (layS C canvas tall).1 ++ P) ∧ ∃ X, lostS (C ++ [c]) canvas tall = lostS C canvas tall ++ X := by
 have hf' : ∀ i, i < C.length → 0 ≤ layerOf C i ∧ layerOf C i ≤ 7 := fun i hi => by have := hf i (by rw [List.length_append]; omega); rwa [layerOf_snoc c i hi] at this
 have hb := fun k hk => (ordF_mem hf' k).1 hk
 have e1 : layS (C ++ [c]) canvas tall = stepS (C ++ [c]) canvas tall (layS C canvas tall) C.length := by
  conv => lhs; unfold layS
  rw [ordF_behind hf hc, runS_snoc]
  congr 1
  exact run_snoc c _ _ hb
 have hin := lay_inv (canvas := canvas) (tall := tall) hh hf'
 have key : ∀ X : List Nat, (∀ k, k < C.length → (k ∈ X ↔ k ∈ (layS C canvas tall).2)) → ∃ Y, riseF (C.length + 1) X = lostS C canvas tall ++ Y := by
  intro X hX
  unfold lostS riseF
  rw [List.range_succ, List.filter_append]
  refine ⟨_, congrArg (· ++ _) (List.filter_congr fun i hi => ?_)⟩
  rw [Bool.eq_iff_iff, decide_eq_true_eq, decide_eq_true_eq]
  exact hX i (List.mem_range.1 hi)
 unfold lostS
 rw [e1, List.length_append, List.length_singleton]
 have hq : (C ++ [c])[C.length]? = some c := List.getElem?_concat_length
 cases hs : slideS C.length c canvas tall (linesQ c canvas) (layS C canvas tall).1 with
 | none =>
  rw [stepS_none hq hs]
  refine ⟨⟨[], by simp⟩, key _ fun k hk => ?_⟩
  simp; omega
 | some y =>
  rw [stepS_some hq hs]
  exact ⟨⟨_, rfl⟩, key _ fun k hk => Iff.rfl⟩
end Go.Proofs.YtogidacejbjljaaGreatDoor.PTextChecks
end
section
/- The lines of a cue: their heights, widths, number. -/
set_option linter.unusedVariables false
set_option linter.unusedSimpArgs false
namespace Go.Proofs.YtogidacejbjljaaGreatDoor.PTextChecks
open Go.RowKit Go.Proofs.YtogidacejbjljaaGreatDoorW.PrintWords Go.Proofs.YtogidacejbjljaaGreatDoorW.PrintLast Go.Proofs.YtogidacejbjljaaGreatDoorW.PrintMore
theorem topS_range : ∀ (l : List S81) (m : Int), Okl l → 0 ≤ m → m ≤ 8 → 0 ≤ l.foldl (fun m x => max m x.f1.f3) m ∧ l.foldl (fun m x => max m x.f1.f3) m ≤ 8
 | [], m, _, h0, h1 => ⟨h0, h1⟩
 | x :: l, m, ho, h0, h1 => by
  have hx := (ho x (List.mem_cons_self ..)).2
  rw [List.foldl_cons]
  exact topS_range l _ (fun y hy => ho y (List.mem_cons_of_mem _ hy)) (by omega) (by omega)
theorem heightS_range {l : List S81} (ho : Okl l) : 0 ≤ heightS l ∧ heightS l ≤ 32 := by
 have := topS_range l 0 ho (by omega) (by omega)
 unfold heightS topS
 omega
theorem flushS_high {room : Int} {l : List S81} {sz : Int} (ho : Okl l) (hs : 0 ≤ sz ∧ sz ≤ 8) : ∀ p ∈ flushS room l sz, 0 ≤ p.2 ∧ p.2 ≤ 32 := by
 intro p hp
 unfold flushS at hp
 split at hp
 ·rw [List.mem_singleton.1 hp]; show 0 ≤ 4 * sz ∧ 4 * sz ≤ 32; omega
 ·obtain ⟨r, hr, rfl⟩ := List.mem_map.1 hp
  exact heightS_range fun x hx => ho x ((brkF_in room _ l r hr).1 x hx)
theorem restS_high {room : Int} : ∀ (l cur : List S81) (sz : Int), Okl (cur ++ l) → 0 ≤ sz ∧ sz ≤ 8 → ∀ p ∈ restS room l cur sz, 0 ≤ p.2 ∧ p.2 ≤ 32
 | [], cur, sz, ho, hs => fun p hp => by
  rw [restS_nil] at hp
  rw [List.append_nil] at ho
  exact flushS_high ho hs p hp
 | y :: r, cur, sz, ho, hs => fun p hp => by
  have hoc : Okl cur := fun x hx => ho x (List.mem_append_left _ hx)
  have hor : Okl r := fun x hx => ho x (List.mem_append_right _ (List.mem_cons_of_mem _ hx))
  have hy := (ho y (by simp)).2
  by_cases h : y.f0 = 10
  ·rw [restS_nl room y r cur sz h] at hp
   rcases List.mem_append.1 hp with hp | hp
   ·exact flushS_high hoc hy p hp
   ·exact restS_high r [] y.f1.f3 (by simpa using hor) hy p hp
  ·rw [restS_no room y r cur sz h] at hp
   exact restS_high r (cur ++ [y]) y.f1.f3 (by simpa using ho) hy p hp
theorem linesS_high {room : Int} {l : List S81} (ho : Okl l) : ∀ p ∈ linesS room l, 0 ≤ p.2 ∧ p.2 ≤ 32 := restS_high l [] 2 (by simpa using ho) (by omega)
theorem flushS_pos (room : Int) (l : List S81) (sz : Int) : 0 < (flushS room l sz).length := by
 unfold flushS
 split
 ·simp
 ·rename_i h
  rw [List.length_map, brk_cons (by simpa using h)]
  simp
theorem restS_pos (room : Int) : ∀ (l cur : List S81) (sz : Int), 0 < (restS room l cur sz).length
 | [], cur, sz => by rw [restS_nil]; exact flushS_pos room cur sz
 | y :: r, cur, sz => by
  by_cases h : y.f0 = 10
  ·rw [restS_nl room y r cur sz h, List.length_append]
   have := flushS_pos room cur y.f1.f3
   omega
  ·rw [restS_no room y r cur sz h]
   exact restS_pos room r _ _
theorem linesS_pos (room : Int) (l : List S81) : 0 < (linesS room l).length := restS_pos room l [] 2
/-- What is known of the lines of a cue that Break takes. -/
structure LinesOk (q : Cu) (canvas : Int) : Prop where
 chk : checkS q.a q.b q.c q.l = 0
 cv : 1 ≤ canvas ∧ canvas ≤ 1000
 len : (linesQ q canvas).length ≤ 400
 pos : 0 < (linesQ q canvas).length
 high : ∀ p ∈ linesQ q canvas, 0 ≤ p.2 ∧ p.2 ≤ 32
 wide : ∀ p ∈ linesQ q canvas, 0 ≤ sumW p.1 0 ∧ sumW p.1 0 ≤ 50000
 short : ∀ p ∈ linesQ q canvas, p.1.length ≤ 2000 ∧ Okl p.1
 head : headB q.a q.b q.c = true
 fit : q.l.length ≤ 100 ∧ wordsLen q.l ≤ 2000
 ok : ∀ p ∈ q.l, isTextB p.f0 = true ∧ styB p.f1 = true
theorem linesOk_of {q : Cu} {canvas : Int} (h : brkE q.a q.b q.c q.l canvas = 0) : LinesOk q canvas := by
 have hc : checkS q.a q.b q.c q.l = 0 := by
  unfold brkE at h
  split at h
  ·assumption
  ·exact h
 obtain ⟨h1, h2, h3, h4⟩ := checkS_ok hc
 have hcv : inB canvas 1 1000 = true := by
  cases hi : inB canvas 1 1000
  ·have := (brk_range hc hi).1; omega
  ·rfl
 have hlen : ¬ 400 < (linesS (roomS q.c canvas) (lettersOf q.l)).length := fun hh => by
  have := (brk_limit hc hcv hh).1; omega
 have ho := lettersOf_ok h4
 have hin := linesS_in (roomS q.c canvas) (lettersOf q.l)
 have hsh : ∀ p ∈ linesQ q canvas, p.1.length ≤ 2000 ∧ Okl p.1 := fun p hp => by
  obtain ⟨i1, i2⟩ := hin p hp
  rw [lettersOf_length] at i2
  exact ⟨by omega, fun x hx => ho x (i1 x hx)⟩
 refine ⟨hc, inB_true hcv, by unfold linesQ; omega, linesS_pos _ _, linesS_high ho, fun p hp => ?_, hsh, h1, ⟨h2, h3⟩, h4⟩
 obtain ⟨s1, s2⟩ := hsh p hp
 have e := sumW_eq p.1 0 s2 (by omega) (by omega)
 have r := sumI_range s2
 omega
theorem uptoH_range {L : List (List S81 × Int)} (h : ∀ p ∈ L, 0 ≤ p.2 ∧ p.2 ≤ 32) : ∀ n, 0 ≤ uptoH L n ∧ uptoH L n ≤ 32 * n
 | 0 => by exact ⟨Int.le_refl 0, Int.le_refl 0⟩
 | n + 1 => by
  have ih := uptoH_range h n
  by_cases hn : n < L.length
  ·rw [uptoH_succ (List.getElem?_eq_getElem hn)]
   have := h _ (List.getElem_mem hn)
   omega
  ·have e : uptoH L (n + 1) = uptoH L n := by unfold uptoH; rw [List.take_of_length_le (by omega), List.take_of_length_le (by omega)]
   omega
theorem layer_range {C : List Cu} {canvas : Int} (h : ∀ q ∈ C, brkE q.a q.b q.c q.l canvas = 0) : ∀ i, i < C.length → 0 ≤ layerOf C i ∧ layerOf C i ≤ 7 := by
 intro i hi
 have hq := (linesOk_of (h _ (List.getElem_mem hi))).head
 unfold headB at hq
 rw [Bool.and_eq_true] at hq
 have := inB_true hq.1
 unfold layerOf
 rw [List.getElem?_eq_getElem hi]
 exact this
end Go.Proofs.YtogidacejbjljaaGreatDoor.PTextChecks
end
section
/- Rows of placed lines in memory. -/
set_option linter.unusedVariables false
set_option linter.unusedSimpArgs false
namespace Go.Own
/-- A row that a call owns, written at one cell. -/
theorem Lies.put {w : World} {base : Nat} {e : TypeId} {size : Nat} {v : Value} {n : Nat} {xs : List Value} (h : Lies w base e size v n xs) (hn : 0 < n) :
  ∃ g off c, v = .slice (some ⟨g, off, none⟩) n c ∧ n ≤ c ∧ base ≤ g ∧ g < w.heap.size ∧ (∃ cur, w.heap[g]? = some (.cells cur e (0, 0))) ∧ (∀ k, w.frozen? ⟨g, k, none⟩ = false) ∧ (∀ j u, xs[j]? = some u → w.cell? ⟨g, off + j, none⟩ = some u) ∧
   ∀ j u, j < n * size → Lies (w.setCell ⟨g, off + j, none⟩ u) base e size v n (xs.set j u) := by
 rcases h.2 with ⟨_, h0⟩ | ⟨g, off, cap, cur, rfl, hb, hg, hnc, hcm, hcs, ht⟩
 ·omega
 ·refine ⟨g, off, cap, rfl, hnc, hb, (Array.getElem?_eq_some_iff.1 hg).1, ⟨cur, hg⟩, fun k => by simp [World.frozen?, hg], fun j u hu => ?_, fun j u hj => ?_⟩
  ·rw [← ht, List.getElem?_take] at hu
   split at hu
   ·rw [List.getElem?_drop] at hu
    simpa [World.cell?, hg] using hu
   ·cases hu
  ·refine ⟨by rw [List.length_set, h.1], .inr ⟨g, off, cap, _, rfl, hb, set1 hg, hnc, hcm, by simpa using hcs, ?_⟩⟩
   rw [← ht, Array.toList_setIfInBounds, List.drop_set, if_neg (by omega), Nat.add_sub_cancel_left, List.take_set]
end Go.Own
namespace Go.Proofs.YtogidacejbjljaaGreatDoor.PTextChecks
open Go.RowKit Go.Mix Go.Own Go.Proofs.YtogidacejbjljaaGreatDoorW.PrintWords Go.Proofs.YtogidacejbjljaaGreatDoorW.PrintLast Go.Proofs.YtogidacejbjljaaGreatDoorW.PrintMore
theorem infoPlaced : (Tryz.prog.info? 63).map (fun i => (i.zero, i.size, i.bytes)) = some (some (.agg #[.int .i64 0, .int .i64 0, .int .i64 0, .int .i64 0, .int .i64 0, .int .i64 0, .slice none 0 0]), 7, 72) := by kernel_rfl
theorem infoInt : (Tryz.prog.info? 3).map (fun i => (i.zero, i.size, i.bytes)) = some (some (.int .i64 0), 1, 8) := by kernel_rfl
def pl7 (u : Value) (p : Pl) : List Value := [.int .i64 p.cue, .int .i64 p.line, .int .i64 p.x, .int .i64 p.y, .int .i64 p.wide, .int .i64 p.high, u]
def agg7 (u : Value) (p : Pl) : Value := .agg #[.int .i64 p.cue, .int .i64 p.line, .int .i64 p.x, .int .i64 p.y, .int .i64 p.wide, .int .i64 p.high, u]
def cells63 (vs : List Value) (P : List Pl) : List Value := (List.zip vs P).flatMap fun p => pl7 p.1 p.2
theorem cells63_append (vs vs' : List Value) (P P' : List Pl) (h : vs.length = P.length) : cells63 (vs ++ vs') (P ++ P') = cells63 vs P ++ cells63 vs' P' := by
 unfold cells63
 rw [List.zip_append h, List.flatMap_append]
theorem cells63_snoc (vs : List Value) (P : List Pl) (u : Value) (p : Pl) (h : vs.length = P.length) : cells63 (vs ++ [u]) (P ++ [p]) = cells63 vs P ++ pl7 u p := by
 rw [cells63_append _ _ _ _ h]
 rfl
theorem cells63_length (vs : List Value) (P : List Pl) (h : vs.length = P.length) : (cells63 vs P).length = P.length * 7 := by
 unfold cells63
 have : ∀ l : List (Value × Pl), (l.flatMap fun p => pl7 p.1 p.2).length = l.length * 7 := by
  intro l
  induction l with
  | nil => rfl
  | cons x l ih => rw [List.flatMap_cons, List.length_append, ih, List.length_cons]; simp [pl7]; omega
 rw [this, List.length_zip, h, Nat.min_self]
theorem cells63_get {vs : List Value} {P : List Pl} {k i : Nat} {u : Value} {p : Pl} (hu : vs[k]? = some u) (hp : P[k]? = some p) (hi : i < 7) : (cells63 vs P)[k * 7 + i]? = (pl7 u p)[i]? :=
 flatMap_get (fun p : Value × Pl => pl7 p.1 p.2) 7 (fun _ => rfl) (List.zip vs P) k i (u, p) (List.getElem?_zip_eq_some.2 ⟨hu, hp⟩) hi
/-- A row of placed lines, each with its pieces. -/
def Pls (w : World) (base : Nat) (v : Value) (P : List Pl) : Prop := ∃ vs : List Value, vs.length = P.length ∧ Lies w base 63 7 v P.length (cells63 vs P) ∧ ∀ (i : Nat) (u : Value) (p : Pl), vs[i]? = some u → P[i]? = some p → In42 w u p.ps
theorem Pls.nil (w : World) (base : Nat) : Pls w base (.slice none 0 0) [] := ⟨[], rfl, Lies.nil w base 63 7, fun i u p h => by simp at h⟩
theorem Pls.kb {ts : List TypeId} {w w' : World} {base : Nat} {v : Value} {P : List Pl} (h : Pls w base v P) (hk : KB ts w w') (h1 : 63 ∉ ts) (h2 : 42 ∉ ts) : Pls w' base v P := by
 obtain ⟨vs, h3, h4, h5⟩ := h
 exact ⟨vs, h3, h4.kb hk h1, fun i u p hu hp => (h5 i u p hu hp).kb hk h2⟩
theorem Pls.below {w w' : World} {base : Nat} {v : Value} {P : List Pl} (h : Pls w base v P) (hb : Below w.heap.size w w') : Pls w' base v P := h.kb (KB.below (ts := []) hb) (by simp) (by simp)
theorem Pls.mono {w : World} {base base' : Nat} {v : Value} {P : List Pl} (h : Pls w base v P) (hb : base' ≤ base) : Pls w base' v P := by
 obtain ⟨vs, h3, h4, h5⟩ := h
 exact ⟨vs, h3, h4.mono hb, h5⟩
theorem Pls.form {w : World} {base : Nat} {v : Value} {P : List Pl} (h : Pls w base v P) : ∃ A c, v = .slice A P.length c ∧ P.length ≤ c := by
 obtain ⟨vs, _, h4, _⟩ := h
 exact h4.form
/-- The k-th line of a row, as the walk reads it. -/
theorem at_pls {w : World} {base : Nat} {A : Option Addr} {c : Nat} {P : List Pl} (h : Pls w base (.slice A P.length c) P) (k : Nat) (hk : k < P.length) :
  ∃ ad u p, A = some ad ∧ P[k]? = some p ∧ In42 w u p.ps ∧ w.cell? (ad.add (k * 7)) = some (.int .i64 p.cue) ∧ w.cell? ⟨(ad.add (k * 7)).block, (ad.add (k * 7)).off + 1, none⟩ = some (.int .i64 p.line) ∧
   w.cell? ⟨(ad.add (k * 7)).block, (ad.add (k * 7)).off + 2, none⟩ = some (.int .i64 p.x) ∧ w.cell? ⟨(ad.add (k * 7)).block, (ad.add (k * 7)).off + 3, none⟩ = some (.int .i64 p.y) ∧
   w.cell? ⟨(ad.add (k * 7)).block, (ad.add (k * 7)).off + 4, none⟩ = some (.int .i64 p.wide) ∧ w.cell? ⟨(ad.add (k * 7)).block, (ad.add (k * 7)).off + 5, none⟩ = some (.int .i64 p.high) ∧
   w.cell? ⟨(ad.add (k * 7)).block, (ad.add (k * 7)).off + 6, none⟩ = some u := by
 obtain ⟨vs, hv, hL, hr⟩ := h
 obtain ⟨ad, rfl, hc⟩ := hL.at (by omega)
 have hu : vs[k]? = some (vs[k]'(by omega)) := List.getElem?_eq_getElem _
 have hp : P[k]? = some P[k] := List.getElem?_eq_getElem _
 have h2 := fun i (hi : i < 7) => cells63_get hu hp hi
 exact ⟨ad, vs[k]'(by omega), P[k], rfl, hp, hr k _ _ hu hp, (hc (k * 7) 0 _ (h2 0 (by omega))).1 rfl, (hc (k * 7) 1 _ (h2 1 (by omega))).2, (hc (k * 7) 2 _ (h2 2 (by omega))).2, (hc (k * 7) 3 _ (h2 3 (by omega))).2,
  (hc (k * 7) 4 _ (h2 4 (by omega))).2, (hc (k * 7) 5 _ (h2 5 (by omega))).2, (hc (k * 7) 6 _ (h2 6 (by omega))).2⟩
theorem flatMap_set {α β : Type} (f : α → List β) (sz : Nat) (hsz : ∀ x, (f x).length = sz) : ∀ (l : List α) (k i : Nat) (a a' : α) (u : β), l[k]? = some a → i < sz → f a' = (f a).set i u → (l.flatMap f).set (k * sz + i) u = (l.set k a').flatMap f
 | [], _, _, _, _, _, h, _, _ => by simp at h
 | x :: l, 0, i, a, a', u, h, hi, hf => by
  obtain rfl : x = a := by simpa using h
  rw [List.flatMap_cons, List.set_cons_zero, List.flatMap_cons, hf, Nat.zero_mul, Nat.zero_add, List.set_append_left _ _ (by rw [hsz]; exact hi)]
 | x :: l, k + 1, i, a, a', u, h, hi, hf => by
  have := flatMap_set f sz hsz l k i a a' u (by simpa using h) hi hf
  rw [List.flatMap_cons, List.set_cons_succ, List.flatMap_cons, ← this, List.set_append_right _ _ (by rw [hsz, Nat.succ_mul]; omega), hsz]
  congr 2
  rw [Nat.succ_mul]
  omega
theorem zip_set_right {α β : Type} : ∀ (l : List α) (m : List β) (k : Nat) (a : α) (b : β), l[k]? = some a → (List.zip l m).set k (a, b) = List.zip l (m.set k b)
 | [], m, k, a, b, h => by simp at h
 | x :: l, [], k, a, b, h => by simp
 | x :: l, y :: m, 0, a, b, h => by
  obtain rfl : x = a := by simpa using h
  rfl
 | x :: l, y :: m, k + 1, a, b, h => by
  have := zip_set_right l m k a b (by simpa using h)
  simp only [List.zip_cons_cons, List.set_cons_succ, this]
/-- The Y of the k-th line, written. -/
theorem cells63_y {vs : List Value} {P : List Pl} {k : Nat} {p : Pl} (y : Int) (h : vs.length = P.length) (hp : P[k]? = some p) : (cells63 vs P).set (k * 7 + 3) (.int .i64 y) = cells63 vs (P.set k { p with y := y }) := by
 have hk : k < P.length := (List.getElem?_eq_some_iff.1 hp).1
 have hu : vs[k]? = some (vs[k]'(by omega)) := List.getElem?_eq_getElem _
 unfold cells63
 rw [flatMap_set (fun p : Value × Pl => pl7 p.1 p.2) 7 (fun _ => rfl) _ k 3 (vs[k]'(by omega), p) (vs[k]'(by omega), { p with y := y }) _ (List.getElem?_zip_eq_some.2 ⟨hu, hp⟩) (by omega) rfl, zip_set_right _ _ _ _ _ hu]
theorem set_ps {P : List Pl} {k : Nat} {p : Pl} {y : Int} (hp : P[k]? = some p) : ∀ (i : Nat) (q : Pl), (P.set k { p with y := y })[i]? = some q → ∃ r, P[i]? = some r ∧ r.ps = q.ps := by
 intro i q hq
 rw [List.getElem?_set] at hq
 split at hq
 ·rename_i hik
  subst hik
  split at hq
  ·injection hq with hq
   exact ⟨p, hp, by rw [← hq]⟩
  ·cases hq
 ·exact ⟨q, hq, rfl⟩
/-- One line more. -/
theorem Pls.snoc {w w' : World} {base : Nat} {v' u : Value} {P : List Pl} {p : Pl} {vs : List Value} (h1 : vs.length = P.length) (h2 : ∀ (i : Nat) (u : Value) (p : Pl), vs[i]? = some u → P[i]? = some p → In42 w u p.ps)
  (h3 : Lies w' base 63 7 v' (P.length + 1) (cells63 vs P ++ pl7 u p)) (h4 : In42 w u p.ps) (hk : KB [63] w w') : Pls w' base v' (P ++ [p]) := by
 refine ⟨vs ++ [u], by simp [h1], ?_, fun i u' q hu hq => ?_⟩
 ·rw [cells63_snoc vs P u p h1, List.length_append]
  exact h3
 ·refine Lies.kb (ts := [63]) ?_ hk (by decide)
  rcases Nat.lt_trichotomy i P.length with hi | hi | hi
  ·rw [List.getElem?_append_left (by omega)] at hu
   rw [List.getElem?_append_left hi] at hq
   exact h2 i u' q hu hq
  ·subst hi
   rw [← h1, List.getElem?_concat_length] at hu
   rw [List.getElem?_concat_length] at hq
   injection hu with hu
   injection hq with hq
   subst hu hq
   exact h4
  ·rw [List.getElem?_eq_none (by simp; omega)] at hq
   cases hq
/-- A row of lines more. -/
theorem Pls.append {w w' : World} {base : Nat} {v' : Value} {P Q : List Pl} {vs us : List Value} (h1 : vs.length = P.length) (h2 : ∀ (i : Nat) (u : Value) (p : Pl), vs[i]? = some u → P[i]? = some p → In42 w u p.ps)
  (g1 : us.length = Q.length) (g2 : ∀ (i : Nat) (u : Value) (p : Pl), us[i]? = some u → Q[i]? = some p → In42 w u p.ps)
  (h3 : Lies w' base 63 7 v' (P.length + Q.length) (cells63 vs P ++ cells63 us Q)) (hk : KB [63] w w') : Pls w' base v' (P ++ Q) := by
 refine ⟨vs ++ us, by simp [h1, g1], ?_, fun i u' q hu hq => ?_⟩
 ·rw [cells63_append vs us P Q h1, List.length_append]
  exact h3
 ·refine Lies.kb (ts := [63]) ?_ hk (by decide)
  by_cases hi : i < P.length
  ·rw [List.getElem?_append_left (by omega)] at hu
   rw [List.getElem?_append_left hi] at hq
   exact h2 i u' q hu hq
  ·rw [List.getElem?_append_right (by omega), h1] at hu
   rw [List.getElem?_append_right (by omega)] at hq
   exact g2 _ u' q hu hq
theorem cells63_one {vs : List Value} {P : List Pl} {w : World} (h : ∀ (i : Nat) (u : Value) (p : Pl), vs[i]? = some u → P[i]? = some p → In42 w u p.ps) : ∀ u ∈ cells63 vs P, u.oneCell' = true := by
 intro u hu
 unfold cells63 at hu
 obtain ⟨p, hp, hu⟩ := List.mem_flatMap.1 hu
 obtain ⟨i, hi⟩ := List.mem_iff_getElem?.1 hp
 have hz := List.getElem?_zip_eq_some.1 hi
 obtain ⟨A, c, e, _⟩ := (h i _ _ hz.1 hz.2).form
 simp only [pl7, List.mem_cons, List.mem_nil_iff, or_false] at hu
 rcases hu with rfl | rfl | rfl | rfl | rfl | rfl | rfl
 ·rfl
 ·rfl
 ·rfl
 ·rfl
 ·rfl
 ·rfl
 ·rw [e]; rfl
/-- Lines moved up to the i-th. -/
def mvTo (d : Int) (i : Nat) (P : List Pl) : List Pl := (P.take i).map (fun p => { p with y := p.y + d }) ++ P.drop i
theorem mvTo_zero (d : Int) (P : List Pl) : mvTo d 0 P = P := by simp [mvTo]
theorem mvTo_all (d : Int) (P : List Pl) : mvTo d P.length P = P.map fun p => { p with y := p.y + d } := by simp [mvTo]
theorem mvTo_length (d : Int) (i : Nat) (P : List Pl) : (mvTo d i P).length = P.length := by simp [mvTo]; omega
theorem mvTo_get {d : Int} {i : Nat} {P : List Pl} {p : Pl} (hp : P[i]? = some p) : (mvTo d i P)[i]? = some p := by
 have hi : i < P.length := (List.getElem?_eq_some_iff.1 hp).1
 unfold mvTo
 rw [List.getElem?_append_right (by simp; omega), List.getElem?_drop]
 simp only [List.length_map, List.length_take]
 rw [show i + (i - min i P.length) = i by omega]
 exact hp
theorem mvTo_set {d : Int} {i : Nat} {P : List Pl} {p : Pl} (hp : P[i]? = some p) : (mvTo d i P).set i { p with y := p.y + d } = mvTo d (i + 1) P := by
 have hi : i < P.length := (List.getElem?_eq_some_iff.1 hp).1
 have he : P[i] = p := by rw [List.getElem?_eq_getElem hi] at hp; exact Option.some.inj hp
 unfold mvTo
 rw [List.set_append_right _ _ (by simp; omega), List.take_succ_eq_append_getElem hi, List.map_append, List.append_assoc, he]
 congr 1
 simp only [List.length_map, List.length_take]
 rw [show i - min i P.length = 0 by omega, List.drop_eq_getElem_cons hi, List.set_cons_zero]
 rfl
end Go.Proofs.YtogidacejbjljaaGreatDoor.PTextChecks
end
section
/- Whether placed lines overlap: the program's functions and closures, the reference's. -/
set_option linter.unusedVariables false
set_option linter.unusedSimpArgs false
namespace Go.Proofs.YtogidacejbjljaaGreatDoor.PTextChecks
open Go.RowKit Go.Mix Go.Own Go.Proofs.YtogidacejbjljaaGreatDoorW.PrintWords Go.Proofs.YtogidacejbjljaaGreatDoorW.PrintLast Go.Proofs.YtogidacejbjljaaGreatDoorW.PrintMore
/-- The numbers of a placed line are small. -/
def SmP (p : Pl) : Prop := (-1000000 ≤ p.x ∧ p.x ≤ 1000000) ∧ (-1000000 ≤ p.y ∧ p.y ≤ 1000000) ∧ (-1000000 ≤ p.wide ∧ p.wide ≤ 1000000) ∧ -1000000 ≤ p.high ∧ p.high ≤ 1000000
theorem half_calls (n : Int) (w : World) : Calls Tryz.prog 110 #[.int .i64 n] w fun e w' => e = .returned (.int .i64 (n / 2)) ∧ w' = w := by
 go_enter Tryz.func110, Tryz.ntmps110
 go_wp2
 go_ret
 exact ⟨by simp, rfl⟩
set_option maxHeartbeats 2000000 in
set_option maxRecDepth 100000 in
theorem overlap_calls (p q : Pl) (u v : Value) (hp : SmP p) (hq : SmP q) (w : World) :
  Calls Tryz.prog 82 #[agg7 u p, agg7 v q] w fun e w' => e = .returned (.bool (ovl p q)) ∧ Below w.heap.size w w' := by
 obtain ⟨⟨p1, p2⟩, ⟨p3, p4⟩, ⟨p5, p6⟩, p7, p8⟩ := hp
 obtain ⟨⟨q1, q2⟩, ⟨q3, q4⟩, ⟨q5, q6⟩, q7, q8⟩ := hq
 have w1 : IntKind.i64.wrap (q.x + q.wide) = q.x + q.wide := IntWalk.i64_in _ (by omega)
 have w2 : IntKind.i64.wrap (p.x + p.wide) = p.x + p.wide := IntWalk.i64_in _ (by omega)
 have w3 : IntKind.i64.wrap (q.y + q.high) = q.y + q.high := IntWalk.i64_in _ (by omega)
 have w4 : IntKind.i64.wrap (p.y + p.high) = p.y + p.high := IntWalk.i64_in _ (by omega)
 clear p1 p2 p3 p4 p5 p6 p7 p8 q1 q2 q3 q4 q5 q6 q7 q8
 unfold agg7 ovl
 obtain ⟨pc, pl, px, py, pw, ph, pps⟩ := p
 obtain ⟨qc, ql, qx, qy, qw, qh, qps⟩ := q
 simp only at *
 cases d0 : decide (px < qx + qw)
 case false =>
  go_enter Tryz.func82, Tryz.ntmps82
  go_wp2
  go_ret
  exact ⟨by simp, ((Below.refl _ w).alloc (Nat.le_refl _) _).alloc (by simp) _⟩
 case true =>
  cases d1 : decide (qx < px + pw)
  case false =>
   go_enter Tryz.func82, Tryz.ntmps82
   go_wp2
   go_ret
   exact ⟨by simp, ((Below.refl _ w).alloc (Nat.le_refl _) _).alloc (by simp) _⟩
  case true =>
   cases d2 : decide (py < qy + qh)
   case false =>
    go_enter Tryz.func82, Tryz.ntmps82
    go_wp2
    go_ret
    exact ⟨by simp, ((Below.refl _ w).alloc (Nat.le_refl _) _).alloc (by simp) _⟩
   case true =>
    cases d3 : decide (qy < py + ph)
    case false =>
     go_enter Tryz.func82, Tryz.ntmps82
     go_wp2
     go_ret
     exact ⟨by simp, ((Below.refl _ w).alloc (Nat.le_refl _) _).alloc (by simp) _⟩
    case true =>
     cases d4 : decide (0 < pw)
     case false =>
      go_enter Tryz.func82, Tryz.ntmps82
      go_wp2
      go_ret
      exact ⟨by simp, ((Below.refl _ w).alloc (Nat.le_refl _) _).alloc (by simp) _⟩
     case true =>
      cases d5 : decide (0 < qw)
      case false =>
       go_enter Tryz.func82, Tryz.ntmps82
       go_wp2
       go_ret
       exact ⟨by simp, ((Below.refl _ w).alloc (Nat.le_refl _) _).alloc (by simp) _⟩
      case true =>
       go_enter Tryz.func82, Tryz.ntmps82
       go_wp2
       go_ret
       exact ⟨by simp, ((Below.refl _ w).alloc (Nat.le_refl _) _).alloc (by simp) _⟩
end Go.Proofs.YtogidacejbjljaaGreatDoor.PTextChecks
end
section
/- The block of a cue's lines, as it lies at first: the program's. -/
set_option linter.unusedVariables false
set_option linter.unusedSimpArgs false
namespace Go.Proofs.YtogidacejbjljaaGreatDoor.PTextChecks
open Go.RowKit Go.Mix Go.Own Go.Proofs.YtogidacejbjljaaGreatDoorW.PrintWords Go.Proofs.YtogidacejbjljaaGreatDoorW.PrintLast Go.Proofs.YtogidacejbjljaaGreatDoorW.PrintMore
theorem fromS_range {al mar tall all : Int} (h1 : 0 ≤ mar ∧ mar ≤ 100) (h2 : 1 ≤ tall ∧ tall ≤ 1000) (h3 : 0 ≤ all ∧ all ≤ 12800) : -13000 ≤ fromS al mar tall all ∧ fromS al mar tall all ≤ 1000 := by
 unfold fromS
 split
 ·omega
 ·split <;> omega
theorem headB_align {a b c : Int} (h : headB a b c = true) : 1 ≤ b ∧ b ≤ 9 := by
 unfold headB at h
 rw [Bool.and_eq_true, Bool.and_eq_true] at h
 exact inB_true h.2.1
theorem three_allocs (w : World) (c1 c2 c3 : Array Value) (t1 t2 t3 : TypeId) :
  Below w.heap.size w (((w.alloc (.cells c1 t1)).alloc (.cells c2 t2)).alloc (.cells c3 t3)) ∧ (((w.alloc (.cells c1 t1)).alloc (.cells c2 t2)).alloc (.cells c3 t3)).heap.size = w.heap.size + 3 ∧
  (((w.alloc (.cells c1 t1)).alloc (.cells c2 t2)).alloc (.cells c3 t3)).heap[w.heap.size]? = some (.cells c1 t1 (0, 0)) ∧ ∀ j, (((w.alloc (.cells c1 t1)).alloc (.cells c2 t2)).alloc (.cells c3 t3)).cell? ⟨w.heap.size + 1 + 1, j, none⟩ = c3[j]? := by
 have s1 : ∀ (W : World) (o : Obj), (W.alloc o).heap.size = W.heap.size + 1 := fun W o => by simp
 refine ⟨(((Below.refl _ w).alloc (Nat.le_refl _) _).alloc (by simp) _).alloc (by simp; omega) _, by rw [s1, s1, s1], ?_, fun j => ?_⟩
 ·refine (heap_alloc_old _ _ (by rw [s1, s1]; omega)).trans ((heap_alloc_old _ _ (by rw [s1]; omega)).trans (heap_alloc_new w _))
 ·have := heap_alloc_new ((w.alloc (.cells c1 t1)).alloc (.cells c2 t2)) (.cells c3 t3)
  rw [s1, s1] at this
  unfold World.cell?
  simp only [this]
  rfl
set_option maxHeartbeats 8000000 in
set_option maxRecDepth 100000 in
theorem block_calls (k : Nat) (q : Cu) (A : Option Addr) (cap : Nat) (canvas tall : Int) (w : World) (hk : k ≤ 8) (hr : Kd.C k42 w A q.l.length q.l) (hc : q.l.length ≤ cap) (lo : LinesOk q canvas) (ht : 1 ≤ tall ∧ tall ≤ 1000) :
  Calls Tryz.prog 78 #[.int .i64 k, .agg #[.int .i64 q.a, .int .i64 q.b, .int .i64 q.c, .slice A q.l.length cap], .int .i64 canvas, .int .i64 tall] w fun e w' =>
   ∃ v, e = .returned (.tuple #[v, .int .i64 (fromS q.b q.c tall (allH (linesQ q canvas))), .int .i64 (fromS q.b q.c tall (allH (linesQ q canvas)) + allH (linesQ q canvas))]) ∧
    Pls w' w.heap.size v (blkF k q canvas 0 (fromS q.b q.c tall (allH (linesQ q canvas))) (linesQ q canvas)) ∧ Below w.heap.size w w' := by
 obtain ⟨i0, hi, hii⟩ := Option.map_eq_some_iff.1 infoPlaced
 simp only [Prod.mk.injEq] at hii
 obtain ⟨hz0, hz1, hz2⟩ := hii
 have hmar := headB_margin lo.head
 have hal := headB_align lo.head
 have cB := fun X h => broken_calls q.a q.b q.c A cap q.l canvas X h hc lo.fit.1 lo.fit.2 lo.ok hmar lo.cv
 have hup := uptoH_range lo.high
 have hall : 0 ≤ allH (linesQ q canvas) ∧ allH (linesQ q canvas) ≤ 12800 := by rw [← uptoH_all]; have := hup (linesQ q canvas).length; have := lo.len; omega
 have hfr := fromS_range (al := q.b) hmar ht hall
 have hlen := lo.len
 have hwd := lo.wide
 have hhi := lo.high
 have hcv := lo.cv
 clear lo
 have cB : ∀ X, Kd.C k42 X A q.l.length q.l → Calls Tryz.prog 74 #[.agg #[.int .i64 q.a, .int .i64 q.b, .int .i64 q.c, .slice A q.l.length cap], .int .i64 canvas] X fun e w' => ∃ v, e = .returned v ∧ Outs w' X.heap.size v (linesQ q canvas) ∧ Below X.heap.size X w' := cB
 generalize linesQ q canvas = L at *
 go_enter Tryz.func78, Tryz.ntmps78
 go_wp2_with (go_at_call 74; refine (cB _ (Kd.C_alloc hr _)).mono ?_; rintro e W1 ⟨v1, rfl, hO1, hb1⟩; obtain ⟨h0, h1, h2, h3⟩ := box4 hb1; obtain ⟨vs, hvs, hLv, hIn⟩ := hO1; obtain ⟨A1, c1, rfl, hc1⟩ := hLv.form)
 have hbw : Below w.heap.size w W1 := ((Below.refl _ w).alloc (Nat.le_refl _) _).trans (hb1.mono (by simp))
 have hs1 := hbw.size
 clear cB hb1 hr
 go_loopw [12, 24] (fun s i wr => ∃ n : Nat, n ≤ L.length ∧ s = .int .i64 (uptoH L n) ∧ i = .int .i64 n ∧ Below W1.heap.size W1 wr) (fun _ i _ => L.length - (intOf i).toNat)
 case atStart => exact ⟨0, by omega, rfl, rfl, Below.refl _ _⟩
 case round =>
  obtain ⟨n, hn, rfl, rfl, hbr⟩ := hrel
  by_cases hlt : n < L.length
  ·obtain ⟨ad, u, p, rfl, hu, hp, d0, d1, d2⟩ := at_lines (hLv.kb (KB.below (ts := []) hbr) (by simp)) hvs n hlt
   have hsu := uptoH_succ hp
   have hun := hup n
   have hph := hhi p (List.mem_of_getElem? hp)
   generalize uptoH L n = un at hsu hun ⊢
   have wr1 : IntKind.i64.wrap (un + p.2) = un + p.2 := IntWalk.i64_in _ (by omega)
   have wr2 : IntKind.i64.wrap ((n : Int) + 1) = (n : Int) + 1 := IntWalk.i64_in _ (by omega)
   have HS := Lib.hid hsu
   obtain ⟨Au, cu, rfl, hcu⟩ := (hIn n u p hu hp).form
   clear hsu hp hu
   go_wp2_with fail
   go_roundw
   case rel => exact ⟨n + 1, by omega, by rw [HS.out], by go_num, hbr.alloc hbr.size _⟩
   case measure => (simp [intOf]; try omega)
  ·obtain rfl : n = L.length := by omega
   rw [uptoH_all]
   rename World => V
   have h0' := cell_later hbr h0
   have h1' := cell_later hbr h1
   have h2' := cell_later hbr h2
   have hLr := hLv.kb (KB.below (ts := []) hbr) (by simp)
   have hInr := fun i u p hu hp => (hIn i u p hu hp).kb (KB.below (ts := []) hbr) (by simp)
   have hbwr : Below w.heap.size w V := hbw.trans (hbr.mono hs1)
   clear hbr hLv hIn h0 h1 h2 h3 hbw
   have hrow : (q.b ≤ 3 ∧ (q.b - 1).tdiv 3 = 0 ∧ fromS q.b q.c tall (allH L) = tall - q.c - allH L) ∨ (3 < q.b ∧ q.b ≤ 6 ∧ (q.b - 1).tdiv 3 = 1 ∧ fromS q.b q.c tall (allH L) = (tall - allH L) / 2) ∨ (6 < q.b ∧ (q.b - 1).tdiv 3 = 2 ∧ fromS q.b q.c tall (allH L) = q.c) := by
    have e : (q.b - 1).tdiv 3 = (q.b - 1) / 3 := Int.tdiv_eq_ediv_of_nonneg (by omega)
    rw [e]
    unfold fromS
    rcases Int.lt_or_le 3 q.b with h | h
    ·rcases Int.lt_or_le 6 q.b with h' | h'
     ·exact .inr (.inr ⟨h', by omega, by rw [if_neg (by omega), if_neg (by omega)]⟩)
     ·exact .inr (.inl ⟨h, h', by omega, by rw [if_neg (by omega), if_pos h']⟩)
    ·exact .inl ⟨h, by omega, by rw [if_pos h]⟩
   have hcol : (q.b.tmod 3 = 0 ∧ ∀ wd, xS q.b q.c canvas wd = canvas - q.c - wd) ∨ (q.b.tmod 3 = 1 ∧ ∀ wd, xS q.b q.c canvas wd = q.c) ∨ (q.b.tmod 3 = 2 ∧ ∀ wd, xS q.b q.c canvas wd = (canvas - wd) / 2) := by
    have e : q.b.tmod 3 = q.b % 3 := Int.tmod_eq_emod_of_nonneg (by omega)
    rw [e]
    unfold xS
    have : q.b % 3 = 0 ∨ q.b % 3 = 1 ∨ q.b % 3 = 2 := by omega
    rcases this with h | h | h
    ·exact .inl ⟨h, fun wd => if_pos h⟩
    ·exact .inr (.inl ⟨h, fun wd => by rw [if_neg (by omega), if_neg (by omega)]⟩)
    ·exact .inr (.inr ⟨h, fun wd => by rw [if_neg (by omega), if_pos h]⟩)
   have wrb : IntKind.i64.wrap (q.b - 1) = q.b - 1 := IntWalk.i64_in _ (by omega)
   have wr1 : IntKind.i64.wrap (tall - q.c) = tall - q.c := IntWalk.i64_in _ (by omega)
   have wr2 : IntKind.i64.wrap (tall - q.c - allH L) = tall - q.c - allH L := IntWalk.i64_in _ (by omega)
   have wr3 : IntKind.i64.wrap (tall - allH L) = tall - allH L := IntWalk.i64_in _ (by omega)
   obtain ⟨fr, hfr0⟩ : ∃ fr, fromS q.b q.c tall (allH L) = fr := ⟨_, rfl⟩
   rw [hfr0] at hrow hfr
   have HFR := Lib.hid hfr0
   clear hfr0
   have HCOL := Lib.hid hcol
   clear hcol
   have hbase := hbwr.size
   rcases hrow with ⟨r1, r2, r3⟩ | ⟨r1, r1', r2, r3⟩ | ⟨r1, r2, r3⟩
   ·have HR := Lib.hid r3
    clear r3
    go_wp2_with (go_at_call 110; refine (half_calls _ _).mono ?_; rintro e W2 ⟨rfl, hW2⟩; rw [hW2]; clear hW2 W2)
    go_loopw [8, 15, 56] (fun v y i wx => ∃ n : Nat, n ≤ L.length ∧ y = .int .i64 (fr + uptoH L n) ∧ i = .int .i64 n ∧ Pls wx V.heap.size v (blkF k q canvas 0 fr (L.take n)) ∧ KB [63] V wx ∧ Below V.heap.size V wx) (fun _ _ i _ => L.length - (intOf i).toNat)
    case atStart => exact ⟨0, by omega, by rw [uptoH_zero, HR.out, Int.add_zero], rfl, Pls.nil _ _, KB.refl _ _, Below.refl _ _⟩
    case round =>
     obtain ⟨n, hn, rfl, rfl, hP, hkb, hbx⟩ := hrel
     by_cases hlt : n < L.length
     ·obtain ⟨ad, u, p, rfl, hu, hp, d0, d1, d2⟩ := at_lines (hLr.kb hkb (by decide)) hvs n hlt
      have hInp := (hInr n u p hu hp).kb hkb (by decide)
      obtain ⟨Au, cu, rfl, hcu⟩ := hInp.form
      have hsu := uptoH_succ hp
      have hun := hup n
      have hph := hhi p (List.mem_of_getElem? hp)
      have hpw := hwd p (List.mem_of_getElem? hp)
      have hsn := blkF_snoc (k : Int) q canvas fr hp
      have hxp : plOf (k : Int) q canvas n (fr + uptoH L n) p = ⟨k, n, xS q.b q.c canvas (sumW p.1 0), fr + uptoH L n, sumW p.1 0, p.2, piecesS p.1⟩ := rfl
      rw [hxp] at hsn
      have hbl : (blkF (k : Int) q canvas 0 fr (L.take n)).length = n := by rw [blkF_len, List.length_take]; omega
      obtain ⟨us, hw1, hw2, hw3⟩ := hP
      rw [hbl] at hw2
      generalize uptoH L n = un at hsu hun hsn ⊢
      generalize sumW p.1 0 = su at d1 hpw hsn
      generalize p.2 = hg at d2 hph hsu hsn
      generalize hpl : (piecesS p.1).length = pl at *
      have wy : IntKind.i64.wrap (fr + un + hg) = fr + un + hg := IntWalk.i64_in _ (by omega)
      have wn : IntKind.i64.wrap ((n : Int) + 1) = (n : Int) + 1 := IntWalk.i64_in _ (by omega)
      have wx1 : IntKind.i64.wrap (canvas - q.c) = canvas - q.c := IntWalk.i64_in _ (by omega)
      have wx2 : IntKind.i64.wrap (canvas - q.c - su) = canvas - q.c - su := IntWalk.i64_in _ (by omega)
      have wx3 : IntKind.i64.wrap (canvas - su) = canvas - su := IntWalk.i64_in _ (by omega)
      have HS := Lib.hid hsu
      have HN := Lib.hid hsn
      clear hsu hsn hp hu hxp
      have hx1 : Below wr.heap.size wr (wr.alloc (.cells #[.slice Au pl cu, .int .i64 su, .int .i64 hg] 107)) := (Below.refl _ wr).alloc (Nat.le_refl _) _
      have e1 := cell_later hx1 (cell_later hbx h1')
      have e2 := cell_later hx1 (cell_later hbx h2')
      have hx2 : Below wr.heap.size wr ((wr.alloc (.cells #[.slice Au pl cu, .int .i64 su, .int .i64 hg] 107)).alloc (.cells #[.int .i64 k, .int .i64 n, .int .i64 q.c, .int .i64 (fr + un), .int .i64 su, .int .i64 hg, .slice Au pl cu] 63)) := hx1.alloc hx1.size _
      have f1 := cell_later hx2 (cell_later hbx h1')
      have f2 := cell_later hx2 (cell_later hbx h2')
      have hxn := heap_alloc_new wr (.cells #[.slice Au pl cu, .int .i64 su, .int .i64 hg] 107)
      rcases HCOL.out with ⟨c1, c2⟩ | ⟨c1, c2⟩ | ⟨c1, c2⟩
      ·have HC := Lib.hid (c2 su)
       clear c2
       obtain ⟨hb3, hz3, hx3, hy3⟩ := three_allocs wr #[.slice Au pl cu, .int .i64 su, .int .i64 hg] #[.int .i64 k, .int .i64 n, .int .i64 (canvas - q.c - su), .int .i64 (fr + un), .int .i64 su, .int .i64 hg, .slice Au pl cu] #[.int .i64 k, .int .i64 n, .int .i64 (canvas - q.c - su), .int .i64 (fr + un), .int .i64 su, .int .i64 hg, .slice Au pl cu] 107 63 63
       have hL3 := hw2.kb (KB.below (ts := []) hb3) (by simp)
       go_wp2_with (first | (go_at_call 110; refine (half_calls _ _).mono ?_; rintro e W2 ⟨rfl, hW2⟩; rw [hW2]; clear hW2 W2) | (at_builtin; refine Go.Own.wpList_append_lies rfl _ _ 55 rfl V.heap.size 63 i0 _ 7 72 Tryz.underlying55 hi hz0 hz1 hz2 rfl (by decide) _ n (cells63 us (blkF (k : Int) q canvas 0 fr (L.take n))) rfl hL3 ⟨wr.heap.size + 1 + 1, 0, none⟩ 1 1 #[.int .i64 k, .int .i64 n, .int .i64 (canvas - q.c - su), .int .i64 (fr + un), .int .i64 su, .int .i64 hg, .slice Au pl cu].toList rfl rfl ?q00c2 ?q00c3 ?q00c4 ?q00c5 ?q00c6 (by decide) ?_))
       (try (case q00c2 => intro j u hj; rw [add0]; exact (hy3 j).trans (by simpa using hj)))
       case q00c3 => exact ⟨rfl, rfl, rfl, rfl, rfl, rfl, rfl⟩
       case q00c4 => unfold maxLen; omega
       case q00c5 => omega
       case q00c6 => exact Nat.le_trans hbx.size hb3.size
       intro v5 W5 hL5 hg5
       have hkx : KB [63] (((wr.alloc (.cells #[.slice Au pl cu, .int .i64 su, .int .i64 hg] 107)).alloc (.cells #[.int .i64 k, .int .i64 n, .int .i64 (canvas - q.c - su), .int .i64 (fr + un), .int .i64 su, .int .i64 hg, .slice Au pl cu] 63)).alloc (.cells #[.int .i64 k, .int .i64 n, .int .i64 (canvas - q.c - su), .int .i64 (fr + un), .int .i64 su, .int .i64 hg, .slice Au pl cu] 63)) W5 := KB.grown hg5 fun j hj => by obtain ⟨_, _, cu, hc⟩ := hL3.lt j hj; exact ⟨cu, 63, by simp, hc⟩
       have hk5 : KB [63] wr W5 := (KB.below hb3).trans hkx
       have hb5 : Below V.heap.size V W5 := (hbx.trans (hb3.mono hbx.size)).grown hg5 (Nat.le_trans hbx.size hb3.size) (fun j hj => (hL3.lt j hj).1)
       have g2 : W5.cell? ⟨wr.heap.size, 2, none⟩ = some (.int .i64 hg) := by
        have := hkx.2 _ _ _ (by decide) hx3
        simp [World.cell?, this]
       clear hg5 hL3 hb3 hkx hx3 hy3 e1 e2 f1 f2 hx1 hx2 hxn
       go_wp2_with fail
       go_roundw
       case rel => exact ⟨n + 1, by omega, by rw [HS.out, Int.add_assoc], by go_num, by rw [HN.out, HC.out]; exact Pls.snoc (w := wr) hw1 hw3 (by rw [hbl]; exact hL5) (by subst hpl; exact hInp) hk5, hkb.trans hk5, hb5⟩
       case measure => (simp [intOf]; try omega)
      ·have HC := Lib.hid (c2 su)
       clear c2
       obtain ⟨hb3, hz3, hx3, hy3⟩ := three_allocs wr #[.slice Au pl cu, .int .i64 su, .int .i64 hg] #[.int .i64 k, .int .i64 n, .int .i64 (q.c), .int .i64 (fr + un), .int .i64 su, .int .i64 hg, .slice Au pl cu] #[.int .i64 k, .int .i64 n, .int .i64 (q.c), .int .i64 (fr + un), .int .i64 su, .int .i64 hg, .slice Au pl cu] 107 63 63
       have hL3 := hw2.kb (KB.below (ts := []) hb3) (by simp)
       go_wp2_with (first | (go_at_call 110; refine (half_calls _ _).mono ?_; rintro e W2 ⟨rfl, hW2⟩; rw [hW2]; clear hW2 W2) | (at_builtin; refine Go.Own.wpList_append_lies rfl _ _ 55 rfl V.heap.size 63 i0 _ 7 72 Tryz.underlying55 hi hz0 hz1 hz2 rfl (by decide) _ n (cells63 us (blkF (k : Int) q canvas 0 fr (L.take n))) rfl hL3 ⟨wr.heap.size + 1 + 1, 0, none⟩ 1 1 #[.int .i64 k, .int .i64 n, .int .i64 (q.c), .int .i64 (fr + un), .int .i64 su, .int .i64 hg, .slice Au pl cu].toList rfl rfl ?q01c2 ?q01c3 ?q01c4 ?q01c5 ?q01c6 (by decide) ?_))
       (try (case q01c2 => intro j u hj; rw [add0]; exact (hy3 j).trans (by simpa using hj)))
       case q01c3 => exact ⟨rfl, rfl, rfl, rfl, rfl, rfl, rfl⟩
       case q01c4 => unfold maxLen; omega
       case q01c5 => omega
       case q01c6 => exact Nat.le_trans hbx.size hb3.size
       intro v5 W5 hL5 hg5
       have hkx : KB [63] (((wr.alloc (.cells #[.slice Au pl cu, .int .i64 su, .int .i64 hg] 107)).alloc (.cells #[.int .i64 k, .int .i64 n, .int .i64 (q.c), .int .i64 (fr + un), .int .i64 su, .int .i64 hg, .slice Au pl cu] 63)).alloc (.cells #[.int .i64 k, .int .i64 n, .int .i64 (q.c), .int .i64 (fr + un), .int .i64 su, .int .i64 hg, .slice Au pl cu] 63)) W5 := KB.grown hg5 fun j hj => by obtain ⟨_, _, cu, hc⟩ := hL3.lt j hj; exact ⟨cu, 63, by simp, hc⟩
       have hk5 : KB [63] wr W5 := (KB.below hb3).trans hkx
       have hb5 : Below V.heap.size V W5 := (hbx.trans (hb3.mono hbx.size)).grown hg5 (Nat.le_trans hbx.size hb3.size) (fun j hj => (hL3.lt j hj).1)
       have g2 : W5.cell? ⟨wr.heap.size, 2, none⟩ = some (.int .i64 hg) := by
        have := hkx.2 _ _ _ (by decide) hx3
        simp [World.cell?, this]
       clear hg5 hL3 hb3 hkx hx3 hy3 e1 e2 f1 f2 hx1 hx2 hxn
       go_wp2_with fail
       go_roundw
       case rel => exact ⟨n + 1, by omega, by rw [HS.out, Int.add_assoc], by go_num, by rw [HN.out, HC.out]; exact Pls.snoc (w := wr) hw1 hw3 (by rw [hbl]; exact hL5) (by subst hpl; exact hInp) hk5, hkb.trans hk5, hb5⟩
       case measure => (simp [intOf]; try omega)
      ·have HC := Lib.hid (c2 su)
       clear c2
       obtain ⟨hb3, hz3, hx3, hy3⟩ := three_allocs wr #[.slice Au pl cu, .int .i64 su, .int .i64 hg] #[.int .i64 k, .int .i64 n, .int .i64 ((canvas - su) / 2), .int .i64 (fr + un), .int .i64 su, .int .i64 hg, .slice Au pl cu] #[.int .i64 k, .int .i64 n, .int .i64 ((canvas - su) / 2), .int .i64 (fr + un), .int .i64 su, .int .i64 hg, .slice Au pl cu] 107 63 63
       have hL3 := hw2.kb (KB.below (ts := []) hb3) (by simp)
       go_wp2_with (first | (go_at_call 110; refine (half_calls _ _).mono ?_; rintro e W2 ⟨rfl, hW2⟩; rw [hW2]; clear hW2 W2) | (at_builtin; refine Go.Own.wpList_append_lies rfl _ _ 55 rfl V.heap.size 63 i0 _ 7 72 Tryz.underlying55 hi hz0 hz1 hz2 rfl (by decide) _ n (cells63 us (blkF (k : Int) q canvas 0 fr (L.take n))) rfl hL3 ⟨wr.heap.size + 1 + 1, 0, none⟩ 1 1 #[.int .i64 k, .int .i64 n, .int .i64 ((canvas - su) / 2), .int .i64 (fr + un), .int .i64 su, .int .i64 hg, .slice Au pl cu].toList rfl rfl ?q02c2 ?q02c3 ?q02c4 ?q02c5 ?q02c6 (by decide) ?_))
       (try (case q02c2 => intro j u hj; rw [add0]; exact (hy3 j).trans (by simpa using hj)))
       case q02c3 => exact ⟨rfl, rfl, rfl, rfl, rfl, rfl, rfl⟩
       case q02c4 => unfold maxLen; omega
       case q02c5 => omega
       case q02c6 => exact Nat.le_trans hbx.size hb3.size
       intro v5 W5 hL5 hg5
       have hkx : KB [63] (((wr.alloc (.cells #[.slice Au pl cu, .int .i64 su, .int .i64 hg] 107)).alloc (.cells #[.int .i64 k, .int .i64 n, .int .i64 ((canvas - su) / 2), .int .i64 (fr + un), .int .i64 su, .int .i64 hg, .slice Au pl cu] 63)).alloc (.cells #[.int .i64 k, .int .i64 n, .int .i64 ((canvas - su) / 2), .int .i64 (fr + un), .int .i64 su, .int .i64 hg, .slice Au pl cu] 63)) W5 := KB.grown hg5 fun j hj => by obtain ⟨_, _, cu, hc⟩ := hL3.lt j hj; exact ⟨cu, 63, by simp, hc⟩
       have hk5 : KB [63] wr W5 := (KB.below hb3).trans hkx
       have hb5 : Below V.heap.size V W5 := (hbx.trans (hb3.mono hbx.size)).grown hg5 (Nat.le_trans hbx.size hb3.size) (fun j hj => (hL3.lt j hj).1)
       have g2 : W5.cell? ⟨wr.heap.size, 2, none⟩ = some (.int .i64 hg) := by
        have := hkx.2 _ _ _ (by decide) hx3
        simp [World.cell?, this]
       clear hg5 hL3 hb3 hkx hx3 hy3 e1 e2 f1 f2 hx1 hx2 hxn
       go_wp2_with fail
       go_roundw
       case rel => exact ⟨n + 1, by omega, by rw [HS.out, Int.add_assoc], by go_num, by rw [HN.out, HC.out]; exact Pls.snoc (w := wr) hw1 hw3 (by rw [hbl]; exact hL5) (by subst hpl; exact hInp) hk5, hkb.trans hk5, hb5⟩
       case measure => (simp [intOf]; try omega)
     ·obtain rfl : n = L.length := by omega
      rw [List.take_length] at hP
      rw [uptoH_all]
      go_wp2_with fail
      refine bodyPost_ret (results_tmp3 rfl _ _ _) rfl ?_
      refine ⟨_, ?_, by rw [HFR.out]; exact hP.mono hbase, hbwr.trans (hbx.mono hbase)⟩
      rw [HFR.out, HR.out]
      rfl
   ·have HR := Lib.hid r3
    clear r3
    go_wp2_with (go_at_call 110; refine (half_calls _ _).mono ?_; rintro e W2 ⟨rfl, hW2⟩; rw [hW2]; clear hW2 W2)
    go_loopw [8, 15, 56] (fun v y i wx => ∃ n : Nat, n ≤ L.length ∧ y = .int .i64 (fr + uptoH L n) ∧ i = .int .i64 n ∧ Pls wx V.heap.size v (blkF k q canvas 0 fr (L.take n)) ∧ KB [63] V wx ∧ Below V.heap.size V wx) (fun _ _ i _ => L.length - (intOf i).toNat)
    case atStart => exact ⟨0, by omega, by rw [uptoH_zero, HR.out, Int.add_zero], rfl, Pls.nil _ _, KB.refl _ _, Below.refl _ _⟩
    case round =>
     obtain ⟨n, hn, rfl, rfl, hP, hkb, hbx⟩ := hrel
     by_cases hlt : n < L.length
     ·obtain ⟨ad, u, p, rfl, hu, hp, d0, d1, d2⟩ := at_lines (hLr.kb hkb (by decide)) hvs n hlt
      have hInp := (hInr n u p hu hp).kb hkb (by decide)
      obtain ⟨Au, cu, rfl, hcu⟩ := hInp.form
      have hsu := uptoH_succ hp
      have hun := hup n
      have hph := hhi p (List.mem_of_getElem? hp)
      have hpw := hwd p (List.mem_of_getElem? hp)
      have hsn := blkF_snoc (k : Int) q canvas fr hp
      have hxp : plOf (k : Int) q canvas n (fr + uptoH L n) p = ⟨k, n, xS q.b q.c canvas (sumW p.1 0), fr + uptoH L n, sumW p.1 0, p.2, piecesS p.1⟩ := rfl
      rw [hxp] at hsn
      have hbl : (blkF (k : Int) q canvas 0 fr (L.take n)).length = n := by rw [blkF_len, List.length_take]; omega
      obtain ⟨us, hw1, hw2, hw3⟩ := hP
      rw [hbl] at hw2
      generalize uptoH L n = un at hsu hun hsn ⊢
      generalize sumW p.1 0 = su at d1 hpw hsn
      generalize p.2 = hg at d2 hph hsu hsn
      generalize hpl : (piecesS p.1).length = pl at *
      have wy : IntKind.i64.wrap (fr + un + hg) = fr + un + hg := IntWalk.i64_in _ (by omega)
      have wn : IntKind.i64.wrap ((n : Int) + 1) = (n : Int) + 1 := IntWalk.i64_in _ (by omega)
      have wx1 : IntKind.i64.wrap (canvas - q.c) = canvas - q.c := IntWalk.i64_in _ (by omega)
      have wx2 : IntKind.i64.wrap (canvas - q.c - su) = canvas - q.c - su := IntWalk.i64_in _ (by omega)
      have wx3 : IntKind.i64.wrap (canvas - su) = canvas - su := IntWalk.i64_in _ (by omega)
      have HS := Lib.hid hsu
      have HN := Lib.hid hsn
      clear hsu hsn hp hu hxp
      have hx1 : Below wr.heap.size wr (wr.alloc (.cells #[.slice Au pl cu, .int .i64 su, .int .i64 hg] 107)) := (Below.refl _ wr).alloc (Nat.le_refl _) _
      have e1 := cell_later hx1 (cell_later hbx h1')
      have e2 := cell_later hx1 (cell_later hbx h2')
      have hx2 : Below wr.heap.size wr ((wr.alloc (.cells #[.slice Au pl cu, .int .i64 su, .int .i64 hg] 107)).alloc (.cells #[.int .i64 k, .int .i64 n, .int .i64 q.c, .int .i64 (fr + un), .int .i64 su, .int .i64 hg, .slice Au pl cu] 63)) := hx1.alloc hx1.size _
      have f1 := cell_later hx2 (cell_later hbx h1')
      have f2 := cell_later hx2 (cell_later hbx h2')
      have hxn := heap_alloc_new wr (.cells #[.slice Au pl cu, .int .i64 su, .int .i64 hg] 107)
      rcases HCOL.out with ⟨c1, c2⟩ | ⟨c1, c2⟩ | ⟨c1, c2⟩
      ·have HC := Lib.hid (c2 su)
       clear c2
       obtain ⟨hb3, hz3, hx3, hy3⟩ := three_allocs wr #[.slice Au pl cu, .int .i64 su, .int .i64 hg] #[.int .i64 k, .int .i64 n, .int .i64 (canvas - q.c - su), .int .i64 (fr + un), .int .i64 su, .int .i64 hg, .slice Au pl cu] #[.int .i64 k, .int .i64 n, .int .i64 (canvas - q.c - su), .int .i64 (fr + un), .int .i64 su, .int .i64 hg, .slice Au pl cu] 107 63 63
       have hL3 := hw2.kb (KB.below (ts := []) hb3) (by simp)
       go_wp2_with (first | (go_at_call 110; refine (half_calls _ _).mono ?_; rintro e W2 ⟨rfl, hW2⟩; rw [hW2]; clear hW2 W2) | (at_builtin; refine Go.Own.wpList_append_lies rfl _ _ 55 rfl V.heap.size 63 i0 _ 7 72 Tryz.underlying55 hi hz0 hz1 hz2 rfl (by decide) _ n (cells63 us (blkF (k : Int) q canvas 0 fr (L.take n))) rfl hL3 ⟨wr.heap.size + 1 + 1, 0, none⟩ 1 1 #[.int .i64 k, .int .i64 n, .int .i64 (canvas - q.c - su), .int .i64 (fr + un), .int .i64 su, .int .i64 hg, .slice Au pl cu].toList rfl rfl ?q10c2 ?q10c3 ?q10c4 ?q10c5 ?q10c6 (by decide) ?_))
       (try (case q10c2 => intro j u hj; rw [add0]; exact (hy3 j).trans (by simpa using hj)))
       case q10c3 => exact ⟨rfl, rfl, rfl, rfl, rfl, rfl, rfl⟩
       case q10c4 => unfold maxLen; omega
       case q10c5 => omega
       case q10c6 => exact Nat.le_trans hbx.size hb3.size
       intro v5 W5 hL5 hg5
       have hkx : KB [63] (((wr.alloc (.cells #[.slice Au pl cu, .int .i64 su, .int .i64 hg] 107)).alloc (.cells #[.int .i64 k, .int .i64 n, .int .i64 (canvas - q.c - su), .int .i64 (fr + un), .int .i64 su, .int .i64 hg, .slice Au pl cu] 63)).alloc (.cells #[.int .i64 k, .int .i64 n, .int .i64 (canvas - q.c - su), .int .i64 (fr + un), .int .i64 su, .int .i64 hg, .slice Au pl cu] 63)) W5 := KB.grown hg5 fun j hj => by obtain ⟨_, _, cu, hc⟩ := hL3.lt j hj; exact ⟨cu, 63, by simp, hc⟩
       have hk5 : KB [63] wr W5 := (KB.below hb3).trans hkx
       have hb5 : Below V.heap.size V W5 := (hbx.trans (hb3.mono hbx.size)).grown hg5 (Nat.le_trans hbx.size hb3.size) (fun j hj => (hL3.lt j hj).1)
       have g2 : W5.cell? ⟨wr.heap.size, 2, none⟩ = some (.int .i64 hg) := by
        have := hkx.2 _ _ _ (by decide) hx3
        simp [World.cell?, this]
       clear hg5 hL3 hb3 hkx hx3 hy3 e1 e2 f1 f2 hx1 hx2 hxn
       go_wp2_with fail
       go_roundw
       case rel => exact ⟨n + 1, by omega, by rw [HS.out, Int.add_assoc], by go_num, by rw [HN.out, HC.out]; exact Pls.snoc (w := wr) hw1 hw3 (by rw [hbl]; exact hL5) (by subst hpl; exact hInp) hk5, hkb.trans hk5, hb5⟩
       case measure => (simp [intOf]; try omega)
      ·have HC := Lib.hid (c2 su)
       clear c2
       obtain ⟨hb3, hz3, hx3, hy3⟩ := three_allocs wr #[.slice Au pl cu, .int .i64 su, .int .i64 hg] #[.int .i64 k, .int .i64 n, .int .i64 (q.c), .int .i64 (fr + un), .int .i64 su, .int .i64 hg, .slice Au pl cu] #[.int .i64 k, .int .i64 n, .int .i64 (q.c), .int .i64 (fr + un), .int .i64 su, .int .i64 hg, .slice Au pl cu] 107 63 63
       have hL3 := hw2.kb (KB.below (ts := []) hb3) (by simp)
       go_wp2_with (first | (go_at_call 110; refine (half_calls _ _).mono ?_; rintro e W2 ⟨rfl, hW2⟩; rw [hW2]; clear hW2 W2) | (at_builtin; refine Go.Own.wpList_append_lies rfl _ _ 55 rfl V.heap.size 63 i0 _ 7 72 Tryz.underlying55 hi hz0 hz1 hz2 rfl (by decide) _ n (cells63 us (blkF (k : Int) q canvas 0 fr (L.take n))) rfl hL3 ⟨wr.heap.size + 1 + 1, 0, none⟩ 1 1 #[.int .i64 k, .int .i64 n, .int .i64 (q.c), .int .i64 (fr + un), .int .i64 su, .int .i64 hg, .slice Au pl cu].toList rfl rfl ?q11c2 ?q11c3 ?q11c4 ?q11c5 ?q11c6 (by decide) ?_))
       (try (case q11c2 => intro j u hj; rw [add0]; exact (hy3 j).trans (by simpa using hj)))
       case q11c3 => exact ⟨rfl, rfl, rfl, rfl, rfl, rfl, rfl⟩
       case q11c4 => unfold maxLen; omega
       case q11c5 => omega
       case q11c6 => exact Nat.le_trans hbx.size hb3.size
       intro v5 W5 hL5 hg5
       have hkx : KB [63] (((wr.alloc (.cells #[.slice Au pl cu, .int .i64 su, .int .i64 hg] 107)).alloc (.cells #[.int .i64 k, .int .i64 n, .int .i64 (q.c), .int .i64 (fr + un), .int .i64 su, .int .i64 hg, .slice Au pl cu] 63)).alloc (.cells #[.int .i64 k, .int .i64 n, .int .i64 (q.c), .int .i64 (fr + un), .int .i64 su, .int .i64 hg, .slice Au pl cu] 63)) W5 := KB.grown hg5 fun j hj => by obtain ⟨_, _, cu, hc⟩ := hL3.lt j hj; exact ⟨cu, 63, by simp, hc⟩
       have hk5 : KB [63] wr W5 := (KB.below hb3).trans hkx
       have hb5 : Below V.heap.size V W5 := (hbx.trans (hb3.mono hbx.size)).grown hg5 (Nat.le_trans hbx.size hb3.size) (fun j hj => (hL3.lt j hj).1)
       have g2 : W5.cell? ⟨wr.heap.size, 2, none⟩ = some (.int .i64 hg) := by
        have := hkx.2 _ _ _ (by decide) hx3
        simp [World.cell?, this]
       clear hg5 hL3 hb3 hkx hx3 hy3 e1 e2 f1 f2 hx1 hx2 hxn
       go_wp2_with fail
       go_roundw
       case rel => exact ⟨n + 1, by omega, by rw [HS.out, Int.add_assoc], by go_num, by rw [HN.out, HC.out]; exact Pls.snoc (w := wr) hw1 hw3 (by rw [hbl]; exact hL5) (by subst hpl; exact hInp) hk5, hkb.trans hk5, hb5⟩
       case measure => (simp [intOf]; try omega)
      ·have HC := Lib.hid (c2 su)
       clear c2
       obtain ⟨hb3, hz3, hx3, hy3⟩ := three_allocs wr #[.slice Au pl cu, .int .i64 su, .int .i64 hg] #[.int .i64 k, .int .i64 n, .int .i64 ((canvas - su) / 2), .int .i64 (fr + un), .int .i64 su, .int .i64 hg, .slice Au pl cu] #[.int .i64 k, .int .i64 n, .int .i64 ((canvas - su) / 2), .int .i64 (fr + un), .int .i64 su, .int .i64 hg, .slice Au pl cu] 107 63 63
       have hL3 := hw2.kb (KB.below (ts := []) hb3) (by simp)
       go_wp2_with (first | (go_at_call 110; refine (half_calls _ _).mono ?_; rintro e W2 ⟨rfl, hW2⟩; rw [hW2]; clear hW2 W2) | (at_builtin; refine Go.Own.wpList_append_lies rfl _ _ 55 rfl V.heap.size 63 i0 _ 7 72 Tryz.underlying55 hi hz0 hz1 hz2 rfl (by decide) _ n (cells63 us (blkF (k : Int) q canvas 0 fr (L.take n))) rfl hL3 ⟨wr.heap.size + 1 + 1, 0, none⟩ 1 1 #[.int .i64 k, .int .i64 n, .int .i64 ((canvas - su) / 2), .int .i64 (fr + un), .int .i64 su, .int .i64 hg, .slice Au pl cu].toList rfl rfl ?q12c2 ?q12c3 ?q12c4 ?q12c5 ?q12c6 (by decide) ?_))
       (try (case q12c2 => intro j u hj; rw [add0]; exact (hy3 j).trans (by simpa using hj)))
       case q12c3 => exact ⟨rfl, rfl, rfl, rfl, rfl, rfl, rfl⟩
       case q12c4 => unfold maxLen; omega
       case q12c5 => omega
       case q12c6 => exact Nat.le_trans hbx.size hb3.size
       intro v5 W5 hL5 hg5
       have hkx : KB [63] (((wr.alloc (.cells #[.slice Au pl cu, .int .i64 su, .int .i64 hg] 107)).alloc (.cells #[.int .i64 k, .int .i64 n, .int .i64 ((canvas - su) / 2), .int .i64 (fr + un), .int .i64 su, .int .i64 hg, .slice Au pl cu] 63)).alloc (.cells #[.int .i64 k, .int .i64 n, .int .i64 ((canvas - su) / 2), .int .i64 (fr + un), .int .i64 su, .int .i64 hg, .slice Au pl cu] 63)) W5 := KB.grown hg5 fun j hj => by obtain ⟨_, _, cu, hc⟩ := hL3.lt j hj; exact ⟨cu, 63, by simp, hc⟩
       have hk5 : KB [63] wr W5 := (KB.below hb3).trans hkx
       have hb5 : Below V.heap.size V W5 := (hbx.trans (hb3.mono hbx.size)).grown hg5 (Nat.le_trans hbx.size hb3.size) (fun j hj => (hL3.lt j hj).1)
       have g2 : W5.cell? ⟨wr.heap.size, 2, none⟩ = some (.int .i64 hg) := by
        have := hkx.2 _ _ _ (by decide) hx3
        simp [World.cell?, this]
       clear hg5 hL3 hb3 hkx hx3 hy3 e1 e2 f1 f2 hx1 hx2 hxn
       go_wp2_with fail
       go_roundw
       case rel => exact ⟨n + 1, by omega, by rw [HS.out, Int.add_assoc], by go_num, by rw [HN.out, HC.out]; exact Pls.snoc (w := wr) hw1 hw3 (by rw [hbl]; exact hL5) (by subst hpl; exact hInp) hk5, hkb.trans hk5, hb5⟩
       case measure => (simp [intOf]; try omega)
     ·obtain rfl : n = L.length := by omega
      rw [List.take_length] at hP
      rw [uptoH_all]
      go_wp2_with fail
      refine bodyPost_ret (results_tmp3 rfl _ _ _) rfl ?_
      refine ⟨_, ?_, by rw [HFR.out]; exact hP.mono hbase, hbwr.trans (hbx.mono hbase)⟩
      rw [HFR.out, HR.out]
      rfl
   ·have HR := Lib.hid r3
    clear r3
    go_wp2_with (go_at_call 110; refine (half_calls _ _).mono ?_; rintro e W2 ⟨rfl, hW2⟩; rw [hW2]; clear hW2 W2)
    go_loopw [8, 15, 56] (fun v y i wx => ∃ n : Nat, n ≤ L.length ∧ y = .int .i64 (fr + uptoH L n) ∧ i = .int .i64 n ∧ Pls wx V.heap.size v (blkF k q canvas 0 fr (L.take n)) ∧ KB [63] V wx ∧ Below V.heap.size V wx) (fun _ _ i _ => L.length - (intOf i).toNat)
    case atStart => exact ⟨0, by omega, by rw [uptoH_zero, HR.out, Int.add_zero], rfl, Pls.nil _ _, KB.refl _ _, Below.refl _ _⟩
    case round =>
     obtain ⟨n, hn, rfl, rfl, hP, hkb, hbx⟩ := hrel
     by_cases hlt : n < L.length
     ·obtain ⟨ad, u, p, rfl, hu, hp, d0, d1, d2⟩ := at_lines (hLr.kb hkb (by decide)) hvs n hlt
      have hInp := (hInr n u p hu hp).kb hkb (by decide)
      obtain ⟨Au, cu, rfl, hcu⟩ := hInp.form
      have hsu := uptoH_succ hp
      have hun := hup n
      have hph := hhi p (List.mem_of_getElem? hp)
      have hpw := hwd p (List.mem_of_getElem? hp)
      have hsn := blkF_snoc (k : Int) q canvas fr hp
      have hxp : plOf (k : Int) q canvas n (fr + uptoH L n) p = ⟨k, n, xS q.b q.c canvas (sumW p.1 0), fr + uptoH L n, sumW p.1 0, p.2, piecesS p.1⟩ := rfl
      rw [hxp] at hsn
      have hbl : (blkF (k : Int) q canvas 0 fr (L.take n)).length = n := by rw [blkF_len, List.length_take]; omega
      obtain ⟨us, hw1, hw2, hw3⟩ := hP
      rw [hbl] at hw2
      generalize uptoH L n = un at hsu hun hsn ⊢
      generalize sumW p.1 0 = su at d1 hpw hsn
      generalize p.2 = hg at d2 hph hsu hsn
      generalize hpl : (piecesS p.1).length = pl at *
      have wy : IntKind.i64.wrap (fr + un + hg) = fr + un + hg := IntWalk.i64_in _ (by omega)
      have wn : IntKind.i64.wrap ((n : Int) + 1) = (n : Int) + 1 := IntWalk.i64_in _ (by omega)
      have wx1 : IntKind.i64.wrap (canvas - q.c) = canvas - q.c := IntWalk.i64_in _ (by omega)
      have wx2 : IntKind.i64.wrap (canvas - q.c - su) = canvas - q.c - su := IntWalk.i64_in _ (by omega)
      have wx3 : IntKind.i64.wrap (canvas - su) = canvas - su := IntWalk.i64_in _ (by omega)
      have HS := Lib.hid hsu
      have HN := Lib.hid hsn
      clear hsu hsn hp hu hxp
      have hx1 : Below wr.heap.size wr (wr.alloc (.cells #[.slice Au pl cu, .int .i64 su, .int .i64 hg] 107)) := (Below.refl _ wr).alloc (Nat.le_refl _) _
      have e1 := cell_later hx1 (cell_later hbx h1')
      have e2 := cell_later hx1 (cell_later hbx h2')
      have hx2 : Below wr.heap.size wr ((wr.alloc (.cells #[.slice Au pl cu, .int .i64 su, .int .i64 hg] 107)).alloc (.cells #[.int .i64 k, .int .i64 n, .int .i64 q.c, .int .i64 (fr + un), .int .i64 su, .int .i64 hg, .slice Au pl cu] 63)) := hx1.alloc hx1.size _
      have f1 := cell_later hx2 (cell_later hbx h1')
      have f2 := cell_later hx2 (cell_later hbx h2')
      have hxn := heap_alloc_new wr (.cells #[.slice Au pl cu, .int .i64 su, .int .i64 hg] 107)
      rcases HCOL.out with ⟨c1, c2⟩ | ⟨c1, c2⟩ | ⟨c1, c2⟩
      ·have HC := Lib.hid (c2 su)
       clear c2
       obtain ⟨hb3, hz3, hx3, hy3⟩ := three_allocs wr #[.slice Au pl cu, .int .i64 su, .int .i64 hg] #[.int .i64 k, .int .i64 n, .int .i64 (canvas - q.c - su), .int .i64 (fr + un), .int .i64 su, .int .i64 hg, .slice Au pl cu] #[.int .i64 k, .int .i64 n, .int .i64 (canvas - q.c - su), .int .i64 (fr + un), .int .i64 su, .int .i64 hg, .slice Au pl cu] 107 63 63
       have hL3 := hw2.kb (KB.below (ts := []) hb3) (by simp)
       go_wp2_with (first | (go_at_call 110; refine (half_calls _ _).mono ?_; rintro e W2 ⟨rfl, hW2⟩; rw [hW2]; clear hW2 W2) | (at_builtin; refine Go.Own.wpList_append_lies rfl _ _ 55 rfl V.heap.size 63 i0 _ 7 72 Tryz.underlying55 hi hz0 hz1 hz2 rfl (by decide) _ n (cells63 us (blkF (k : Int) q canvas 0 fr (L.take n))) rfl hL3 ⟨wr.heap.size + 1 + 1, 0, none⟩ 1 1 #[.int .i64 k, .int .i64 n, .int .i64 (canvas - q.c - su), .int .i64 (fr + un), .int .i64 su, .int .i64 hg, .slice Au pl cu].toList rfl rfl ?q20c2 ?q20c3 ?q20c4 ?q20c5 ?q20c6 (by decide) ?_))
       (try (case q20c2 => intro j u hj; rw [add0]; exact (hy3 j).trans (by simpa using hj)))
       case q20c3 => exact ⟨rfl, rfl, rfl, rfl, rfl, rfl, rfl⟩
       case q20c4 => unfold maxLen; omega
       case q20c5 => omega
       case q20c6 => exact Nat.le_trans hbx.size hb3.size
       intro v5 W5 hL5 hg5
       have hkx : KB [63] (((wr.alloc (.cells #[.slice Au pl cu, .int .i64 su, .int .i64 hg] 107)).alloc (.cells #[.int .i64 k, .int .i64 n, .int .i64 (canvas - q.c - su), .int .i64 (fr + un), .int .i64 su, .int .i64 hg, .slice Au pl cu] 63)).alloc (.cells #[.int .i64 k, .int .i64 n, .int .i64 (canvas - q.c - su), .int .i64 (fr + un), .int .i64 su, .int .i64 hg, .slice Au pl cu] 63)) W5 := KB.grown hg5 fun j hj => by obtain ⟨_, _, cu, hc⟩ := hL3.lt j hj; exact ⟨cu, 63, by simp, hc⟩
       have hk5 : KB [63] wr W5 := (KB.below hb3).trans hkx
       have hb5 : Below V.heap.size V W5 := (hbx.trans (hb3.mono hbx.size)).grown hg5 (Nat.le_trans hbx.size hb3.size) (fun j hj => (hL3.lt j hj).1)
       have g2 : W5.cell? ⟨wr.heap.size, 2, none⟩ = some (.int .i64 hg) := by
        have := hkx.2 _ _ _ (by decide) hx3
        simp [World.cell?, this]
       clear hg5 hL3 hb3 hkx hx3 hy3 e1 e2 f1 f2 hx1 hx2 hxn
       go_wp2_with fail
       go_roundw
       case rel => exact ⟨n + 1, by omega, by rw [HS.out, Int.add_assoc], by go_num, by rw [HN.out, HC.out]; exact Pls.snoc (w := wr) hw1 hw3 (by rw [hbl]; exact hL5) (by subst hpl; exact hInp) hk5, hkb.trans hk5, hb5⟩
       case measure => (simp [intOf]; try omega)
      ·have HC := Lib.hid (c2 su)
       clear c2
       obtain ⟨hb3, hz3, hx3, hy3⟩ := three_allocs wr #[.slice Au pl cu, .int .i64 su, .int .i64 hg] #[.int .i64 k, .int .i64 n, .int .i64 (q.c), .int .i64 (fr + un), .int .i64 su, .int .i64 hg, .slice Au pl cu] #[.int .i64 k, .int .i64 n, .int .i64 (q.c), .int .i64 (fr + un), .int .i64 su, .int .i64 hg, .slice Au pl cu] 107 63 63
       have hL3 := hw2.kb (KB.below (ts := []) hb3) (by simp)
       go_wp2_with (first | (go_at_call 110; refine (half_calls _ _).mono ?_; rintro e W2 ⟨rfl, hW2⟩; rw [hW2]; clear hW2 W2) | (at_builtin; refine Go.Own.wpList_append_lies rfl _ _ 55 rfl V.heap.size 63 i0 _ 7 72 Tryz.underlying55 hi hz0 hz1 hz2 rfl (by decide) _ n (cells63 us (blkF (k : Int) q canvas 0 fr (L.take n))) rfl hL3 ⟨wr.heap.size + 1 + 1, 0, none⟩ 1 1 #[.int .i64 k, .int .i64 n, .int .i64 (q.c), .int .i64 (fr + un), .int .i64 su, .int .i64 hg, .slice Au pl cu].toList rfl rfl ?q21c2 ?q21c3 ?q21c4 ?q21c5 ?q21c6 (by decide) ?_))
       (try (case q21c2 => intro j u hj; rw [add0]; exact (hy3 j).trans (by simpa using hj)))
       case q21c3 => exact ⟨rfl, rfl, rfl, rfl, rfl, rfl, rfl⟩
       case q21c4 => unfold maxLen; omega
       case q21c5 => omega
       case q21c6 => exact Nat.le_trans hbx.size hb3.size
       intro v5 W5 hL5 hg5
       have hkx : KB [63] (((wr.alloc (.cells #[.slice Au pl cu, .int .i64 su, .int .i64 hg] 107)).alloc (.cells #[.int .i64 k, .int .i64 n, .int .i64 (q.c), .int .i64 (fr + un), .int .i64 su, .int .i64 hg, .slice Au pl cu] 63)).alloc (.cells #[.int .i64 k, .int .i64 n, .int .i64 (q.c), .int .i64 (fr + un), .int .i64 su, .int .i64 hg, .slice Au pl cu] 63)) W5 := KB.grown hg5 fun j hj => by obtain ⟨_, _, cu, hc⟩ := hL3.lt j hj; exact ⟨cu, 63, by simp, hc⟩
       have hk5 : KB [63] wr W5 := (KB.below hb3).trans hkx
       have hb5 : Below V.heap.size V W5 := (hbx.trans (hb3.mono hbx.size)).grown hg5 (Nat.le_trans hbx.size hb3.size) (fun j hj => (hL3.lt j hj).1)
       have g2 : W5.cell? ⟨wr.heap.size, 2, none⟩ = some (.int .i64 hg) := by
        have := hkx.2 _ _ _ (by decide) hx3
        simp [World.cell?, this]
       clear hg5 hL3 hb3 hkx hx3 hy3 e1 e2 f1 f2 hx1 hx2 hxn
       go_wp2_with fail
       go_roundw
       case rel => exact ⟨n + 1, by omega, by rw [HS.out, Int.add_assoc], by go_num, by rw [HN.out, HC.out]; exact Pls.snoc (w := wr) hw1 hw3 (by rw [hbl]; exact hL5) (by subst hpl; exact hInp) hk5, hkb.trans hk5, hb5⟩
       case measure => (simp [intOf]; try omega)
      ·have HC := Lib.hid (c2 su)
       clear c2
       obtain ⟨hb3, hz3, hx3, hy3⟩ := three_allocs wr #[.slice Au pl cu, .int .i64 su, .int .i64 hg] #[.int .i64 k, .int .i64 n, .int .i64 ((canvas - su) / 2), .int .i64 (fr + un), .int .i64 su, .int .i64 hg, .slice Au pl cu] #[.int .i64 k, .int .i64 n, .int .i64 ((canvas - su) / 2), .int .i64 (fr + un), .int .i64 su, .int .i64 hg, .slice Au pl cu] 107 63 63
       have hL3 := hw2.kb (KB.below (ts := []) hb3) (by simp)
       go_wp2_with (first | (go_at_call 110; refine (half_calls _ _).mono ?_; rintro e W2 ⟨rfl, hW2⟩; rw [hW2]; clear hW2 W2) | (at_builtin; refine Go.Own.wpList_append_lies rfl _ _ 55 rfl V.heap.size 63 i0 _ 7 72 Tryz.underlying55 hi hz0 hz1 hz2 rfl (by decide) _ n (cells63 us (blkF (k : Int) q canvas 0 fr (L.take n))) rfl hL3 ⟨wr.heap.size + 1 + 1, 0, none⟩ 1 1 #[.int .i64 k, .int .i64 n, .int .i64 ((canvas - su) / 2), .int .i64 (fr + un), .int .i64 su, .int .i64 hg, .slice Au pl cu].toList rfl rfl ?q22c2 ?q22c3 ?q22c4 ?q22c5 ?q22c6 (by decide) ?_))
       (try (case q22c2 => intro j u hj; rw [add0]; exact (hy3 j).trans (by simpa using hj)))
       case q22c3 => exact ⟨rfl, rfl, rfl, rfl, rfl, rfl, rfl⟩
       case q22c4 => unfold maxLen; omega
       case q22c5 => omega
       case q22c6 => exact Nat.le_trans hbx.size hb3.size
       intro v5 W5 hL5 hg5
       have hkx : KB [63] (((wr.alloc (.cells #[.slice Au pl cu, .int .i64 su, .int .i64 hg] 107)).alloc (.cells #[.int .i64 k, .int .i64 n, .int .i64 ((canvas - su) / 2), .int .i64 (fr + un), .int .i64 su, .int .i64 hg, .slice Au pl cu] 63)).alloc (.cells #[.int .i64 k, .int .i64 n, .int .i64 ((canvas - su) / 2), .int .i64 (fr + un), .int .i64 su, .int .i64 hg, .slice Au pl cu] 63)) W5 := KB.grown hg5 fun j hj => by obtain ⟨_, _, cu, hc⟩ := hL3.lt j hj; exact ⟨cu, 63, by simp, hc⟩
       have hk5 : KB [63] wr W5 := (KB.below hb3).trans hkx
       have hb5 : Below V.heap.size V W5 := (hbx.trans (hb3.mono hbx.size)).grown hg5 (Nat.le_trans hbx.size hb3.size) (fun j hj => (hL3.lt j hj).1)
       have g2 : W5.cell? ⟨wr.heap.size, 2, none⟩ = some (.int .i64 hg) := by
        have := hkx.2 _ _ _ (by decide) hx3
        simp [World.cell?, this]
       clear hg5 hL3 hb3 hkx hx3 hy3 e1 e2 f1 f2 hx1 hx2 hxn
       go_wp2_with fail
       go_roundw
       case rel => exact ⟨n + 1, by omega, by rw [HS.out, Int.add_assoc], by go_num, by rw [HN.out, HC.out]; exact Pls.snoc (w := wr) hw1 hw3 (by rw [hbl]; exact hL5) (by subst hpl; exact hInp) hk5, hkb.trans hk5, hb5⟩
       case measure => (simp [intOf]; try omega)
     ·obtain rfl : n = L.length := by omega
      rw [List.take_length] at hP
      rw [uptoH_all]
      go_wp2_with fail
      refine bodyPost_ret (results_tmp3 rfl _ _ _) rfl ?_
      refine ⟨_, ?_, by rw [HFR.out]; exact hP.mono hbase, hbwr.trans (hbx.mono hbase)⟩
      rw [HFR.out, HR.out]
      rfl
end Go.Proofs.YtogidacejbjljaaGreatDoor.PTextChecks
end
section
/- slices.ContainsFunc over placed lines, at the two closures of the layout. -/
set_option linter.unusedVariables false
set_option linter.unusedSimpArgs false
namespace Go.Proofs.YtogidacejbjljaaGreatDoor.PTextChecks
open Go.RowKit Go.Mix Go.Own Go.Proofs.YtogidacejbjljaaGreatDoorW.PrintWords Go.Proofs.YtogidacejbjljaaGreatDoorW.PrintLast Go.Proofs.YtogidacejbjljaaGreatDoorW.PrintMore
theorem blk7 {W : World} {b : Nat} {v0 v1 v2 v3 v4 v5 v6 : Value} {t : TypeId} (h : W.heap[b]? = some (.cells #[v0, v1, v2, v3, v4, v5, v6] t (0, 0))) :
  W.cell? ⟨b, 0, none⟩ = some v0 ∧ W.cell? ⟨b, 1, none⟩ = some v1 ∧ W.cell? ⟨b, 2, none⟩ = some v2 ∧ W.cell? ⟨b, 3, none⟩ = some v3 ∧ W.cell? ⟨b, 4, none⟩ = some v4 ∧ W.cell? ⟨b, 5, none⟩ = some v5 ∧ W.cell? ⟨b, 6, none⟩ = some v6 := by
 simp [World.cell?, h]
theorem any_take_succ {α : Type} (f : α → Bool) (l : List α) (n : Nat) (x : α) (h : l[n]? = some x) : (l.take (n + 1)).any f = ((l.take n).any f || f x) := by
 obtain ⟨hn, he⟩ := List.getElem?_eq_some_iff.1 h
 rw [List.take_succ_eq_append_getElem hn, List.any_append, he]
 simp
theorem any_at {α : Type} (f : α → Bool) (l : List α) (n : Nat) (x : α) (h : l[n]? = some x) (hf : f x = true) : l.any f = true := List.any_eq_true.2 ⟨x, List.mem_of_getElem? h, hf⟩
set_option maxHeartbeats 2000000 in
set_option maxRecDepth 100000 in
theorem clos81_calls (p q : Pl) (u v : Value) (hp : SmP p) (hq : SmP q) (b : Nat) (w : World) (hb : w.heap[b]? = some (.cells (pl7 u p).toArray 63 (0, 0))) :
  Calls Tryz.prog 81 #[agg7 v q, .pointer (some ⟨b, 0, none⟩)] w fun e w' => e = .returned (.bool (ovl p q)) ∧ Below w.heap.size w w' := by
 have cO := fun X => overlap_calls p q u v hp hq X
 obtain ⟨m0, m1, m2, m3, m4, m5, m6⟩ := blk7 hb
 have hbP : Below w.heap.size w (w.alloc (.cells (pl7 v q).toArray 63)) := (Below.refl _ w).alloc (Nat.le_refl _) _
 have m0 := cell_later hbP m0
 have m1 := cell_later hbP m1
 have m2 := cell_later hbP m2
 have m3 := cell_later hbP m3
 have m4 := cell_later hbP m4
 have m5 := cell_later hbP m5
 have m6 := cell_later hbP m6
 unfold pl7 at m0 m1 m2 m3 m4 m5 m6 hbP
 unfold agg7 at cO ⊢
 generalize ovl p q = r at cO ⊢
 obtain ⟨pc, pl, px, py, pw, ph, pps⟩ := p
 obtain ⟨qc, ql, qx, qy, qw, qh, qps⟩ := q
 simp only at *
 clear hp hq hb
 go_enter Tryz.func81, Tryz.ntmps81
 go_wp2_with (go_at_call 82; refine (cO _).mono ?_; rintro e W ⟨rfl, hbW⟩)
 go_ret
 exact ⟨rfl, ((Below.refl _ w).alloc (Nat.le_refl _) _).trans (hbW.mono (by simp))⟩
set_option maxHeartbeats 2000000 in
set_option maxRecDepth 100000 in
theorem idx81_calls (p : Pl) (u0 : Value) (hp : SmP p) (P : List Pl) (A : Option Addr) (cap base b : Nat) (w : World) (hP : Pls w base (.slice A P.length cap) P) (hl : P.length ≤ 1000000) (hS : ∀ q ∈ P, SmP q) (hx : w.heap[b]? = some (.cells (pl7 u0 p).toArray 63 (0, 0))) :
  Calls Tryz.prog 111 #[.slice A P.length cap, .func (.func 81) #[] #[.pointer (some ⟨b, 0, none⟩)]] w fun e w' => (∃ r : Int, e = .returned (.int .i64 r) ∧ decide (0 ≤ r) = P.any (fun y => ovl p y)) ∧ Below w.heap.size w w' := by
 go_enter Tryz.func111, Tryz.ntmps111
 go_wp2
 go_loopw [8] (fun i wr => ∃ n : Nat, n ≤ P.length ∧ i = .int .i64 n ∧ (P.take n).any (fun y => ovl p y) = false ∧ Below w.heap.size w wr) (fun i wr => P.length - (intOf i).toNat)
 case atStart => exact ⟨0, by omega, rfl, rfl, Below.refl _ _⟩
 case round =>
  obtain ⟨n, hn, rfl, hno, hbr⟩ := hrel
  by_cases hlt : n < P.length
  ·obtain ⟨ad, u, q, rfl, hq, hI, d0, d1, d2, d3, d4, d5, d6⟩ := at_pls (hP.below hbr) n hlt
   have hqm := List.mem_of_getElem? hq
   have cS := fun X (h : Below w.heap.size w X) => clos81_calls p q u0 u hp (hS q hqm) b X ((h.block b (Array.getElem?_eq_some_iff.1 hx).1).trans hx)
   have hts := any_take_succ (fun y => ovl p y) P n q hq
   have hat := any_at (fun y => ovl p y) P n q hq
   rw [hno, Bool.false_or] at hts
   try simp only at hts hat
   have HT := Lib.hid hts
   have HA := Lib.hid hat
   unfold agg7 at cS
   obtain ⟨r, hr⟩ : ∃ r, (ovl p q) = r := ⟨_, rfl⟩
   rw [hr] at cS
   have HR := Lib.hid hr
   clear hts hat hr hq hqm hI hno hP
   cases r
   all_goals
    go_wp2_with (go_at_call 81; refine (cS _ hbr).mono ?_; rintro e W ⟨rfl, hbW⟩)
   ·go_roundw
    case rel => exact ⟨n + 1, by omega, by go_num, by rw [HT.out]; exact HR.out, hbr.trans (hbW.mono hbr.size)⟩
    case measure => simp [intOf]; omega
   ·go_ret
    exact ⟨⟨n, rfl, by rw [HA.out HR.out]; exact decide_eq_true (by omega)⟩, hbr.trans (hbW.mono hbr.size)⟩
  ·have HN : P.any (fun y => ovl p y) = false := by rw [← hno, List.take_of_length_le (by omega)]
   have HN := Lib.hid HN
   clear hno
   go_wp2
   go_ret
   exact ⟨⟨-1, rfl, by rw [HN.out]; rfl⟩, hbr⟩

set_option maxHeartbeats 2000000 in
theorem con81_calls (p : Pl) (u0 : Value) (hp : SmP p) (P : List Pl) (A : Option Addr) (cap base b : Nat) (w : World) (hP : Pls w base (.slice A P.length cap) P) (hl : P.length ≤ 1000000) (hS : ∀ q ∈ P, SmP q) (hx : w.heap[b]? = some (.cells (pl7 u0 p).toArray 63 (0, 0))) :
  Calls Tryz.prog 79 #[.slice A P.length cap, .func (.func 81) #[] #[.pointer (some ⟨b, 0, none⟩)]] w fun e w' => e = .returned (.bool (P.any (fun y => ovl p y))) ∧ Below w.heap.size w w' := by
 have cI := idx81_calls p u0 hp P A cap base b w hP hl hS hx
 generalize P.any (fun y => ovl p y) = r at cI ⊢
 go_enter Tryz.func79, Tryz.ntmps79
 go_wp2_with (go_at_call 111; refine cI.mono ?_; rintro e W ⟨⟨z, rfl, hz⟩, hbW⟩)
 go_ret
 exact ⟨by simp [hz], hbW⟩

set_option maxHeartbeats 2000000 in
set_option maxRecDepth 100000 in
theorem clos80_calls (p : Pl) (u : Value) (hp : SmP p) (P : List Pl) (A : Option Addr) (cap base bO : Nat) (w : World) (hP : Pls w base (.slice A P.length cap) P) (hl : P.length ≤ 1000000) (hS : ∀ q ∈ P, SmP q) (hO : w.heap[bO]? = some (.cells #[.slice A P.length cap] 55 (0, 0))) :
  Calls Tryz.prog 80 #[agg7 u p, .pointer (some ⟨bO, 0, none⟩)] w fun e w' => e = .returned (.bool (P.any fun y => ovl p y)) ∧ Below w.heap.size w w' := by
 have hb1 : Below w.heap.size w (w.alloc (.cells (pl7 u p).toArray 63)) := (Below.refl _ w).alloc (Nat.le_refl _) _
 have cC := con81_calls p u hp P A cap base w.heap.size (w.alloc (.cells (pl7 u p).toArray 63)) (hP.below hb1) hl hS (heap_alloc_new w _)
 have m0 : w.cell? ⟨bO, 0, none⟩ = some (.slice A P.length cap) := by simp [World.cell?, hO]
 have m0 := cell_later hb1 m0
 unfold agg7
 unfold pl7 at cC hb1 m0
 generalize (P.any fun y => ovl p y) = r at cC ⊢
 obtain ⟨pc, pl, px, py, pw, ph, pps⟩ := p
 simp only at *
 clear hp hP hS
 go_enter Tryz.func80, Tryz.ntmps80
 go_wp2_with (go_at_call 79; refine cC.mono ?_; rintro e W ⟨rfl, hbW⟩)
 go_ret
 exact ⟨rfl, hb1.trans (hbW.mono hb1.size)⟩
set_option maxHeartbeats 2000000 in
set_option maxRecDepth 100000 in
theorem idx80_calls (P : List Pl) (A : Option Addr) (cap base : Nat) (O : List Pl) (AO : Option Addr) (capO baseO bO : Nat) (w : World) (hP : Pls w base (.slice A P.length cap) P) (hl : P.length ≤ 1000000) (hS : ∀ q ∈ P, SmP q) (hPO : Pls w baseO (.slice AO O.length capO) O) (hlO : O.length ≤ 1000000) (hSO : ∀ q ∈ O, SmP q) (hO : w.heap[bO]? = some (.cells #[.slice AO O.length capO] 55 (0, 0))) :
  Calls Tryz.prog 111 #[.slice A P.length cap, .func (.func 80) #[] #[.pointer (some ⟨bO, 0, none⟩)]] w fun e w' => (∃ r : Int, e = .returned (.int .i64 r) ∧ decide (0 ≤ r) = P.any (fun x => O.any fun y => ovl x y)) ∧ Below w.heap.size w w' := by
 go_enter Tryz.func111, Tryz.ntmps111
 go_wp2
 go_loopw [8] (fun i wr => ∃ n : Nat, n ≤ P.length ∧ i = .int .i64 n ∧ (P.take n).any (fun x => O.any fun y => ovl x y) = false ∧ Below w.heap.size w wr) (fun i wr => P.length - (intOf i).toNat)
 case atStart => exact ⟨0, by omega, rfl, rfl, Below.refl _ _⟩
 case round =>
  obtain ⟨n, hn, rfl, hno, hbr⟩ := hrel
  by_cases hlt : n < P.length
  ·obtain ⟨ad, u, q, rfl, hq, hI, d0, d1, d2, d3, d4, d5, d6⟩ := at_pls (hP.below hbr) n hlt
   have hqm := List.mem_of_getElem? hq
   have cS := fun X (h : Below w.heap.size w X) => clos80_calls q u (hS q hqm) O AO capO baseO bO X (hPO.below h) hlO hSO ((h.block bO (Array.getElem?_eq_some_iff.1 hO).1).trans hO)
   have hts := any_take_succ (fun x => O.any fun y => ovl x y) P n q hq
   have hat := any_at (fun x => O.any fun y => ovl x y) P n q hq
   rw [hno, Bool.false_or] at hts
   try simp only at hts hat
   have HT := Lib.hid hts
   have HA := Lib.hid hat
   unfold agg7 at cS
   obtain ⟨r, hr⟩ : ∃ r, (O.any fun y => ovl q y) = r := ⟨_, rfl⟩
   rw [hr] at cS
   have HR := Lib.hid hr
   clear hts hat hr hq hqm hI hno hP
   cases r
   all_goals
    go_wp2_with (go_at_call 80; refine (cS _ hbr).mono ?_; rintro e W ⟨rfl, hbW⟩)
   ·go_roundw
    case rel => exact ⟨n + 1, by omega, by go_num, by rw [HT.out]; exact HR.out, hbr.trans (hbW.mono hbr.size)⟩
    case measure => simp [intOf]; omega
   ·go_ret
    exact ⟨⟨n, rfl, by rw [HA.out HR.out]; exact decide_eq_true (by omega)⟩, hbr.trans (hbW.mono hbr.size)⟩
  ·have HN : P.any (fun x => O.any fun y => ovl x y) = false := by rw [← hno, List.take_of_length_le (by omega)]
   have HN := Lib.hid HN
   clear hno
   go_wp2
   go_ret
   exact ⟨⟨-1, rfl, by rw [HN.out]; rfl⟩, hbr⟩

set_option maxHeartbeats 2000000 in
theorem con80_calls (P : List Pl) (A : Option Addr) (cap base : Nat) (O : List Pl) (AO : Option Addr) (capO baseO bO : Nat) (w : World) (hP : Pls w base (.slice A P.length cap) P) (hl : P.length ≤ 1000000) (hS : ∀ q ∈ P, SmP q) (hPO : Pls w baseO (.slice AO O.length capO) O) (hlO : O.length ≤ 1000000) (hSO : ∀ q ∈ O, SmP q) (hO : w.heap[bO]? = some (.cells #[.slice AO O.length capO] 55 (0, 0))) :
  Calls Tryz.prog 79 #[.slice A P.length cap, .func (.func 80) #[] #[.pointer (some ⟨bO, 0, none⟩)]] w fun e w' => e = .returned (.bool (P.any (fun x => O.any fun y => ovl x y))) ∧ Below w.heap.size w w' := by
 have cI := idx80_calls P A cap base O AO capO baseO bO w hP hl hS hPO hlO hSO hO
 generalize P.any (fun x => O.any fun y => ovl x y) = r at cI ⊢
 go_enter Tryz.func79, Tryz.ntmps79
 go_wp2_with (go_at_call 111; refine cI.mono ?_; rintro e W ⟨⟨z, rfl, hz⟩, hbW⟩)
 go_ret
 exact ⟨by simp [hz], hbW⟩

end Go.Proofs.YtogidacejbjljaaGreatDoor.PTextChecks
end
