/- Regions that draw their order: one walk of the text's order serves, if the operations that touch memory wait for each other and all others yield one value in every world of a class. -/
import Derived.Still
import Derived.KernelRfl
import Derived.WalkKit
import Derived.Below
set_option linter.unusedVariables false
set_option linter.unusedSimpArgs false
namespace Go.Mix
open Go.RowKit
section
variable {P : Program} {ops : Array Oper} {md : Region.Mode} {C : World → Prop} {E : Nat → Bool} {Q : Act → World → Prop}

/-- What an operation that touches memory comes to. -/
def effUpon (P : Program) (R : Value → World → Prop) : Result Next → Prop
  | .ok (.value u) w' => R u w'
  | .ok .skip w' => R undef w'
  | .ok (.enter f args) w' => Calls P f args w' (fun e w'' => ∃ v, e = .returned v ∧ R v w'')
  | _ => False
def eff (P : Program) (o : Oper) (a : Act) (w : World) (R : Value → World → Prop) : Prop := effUpon P R ((execOp a.eval o).run P w)
theorem effUpon_mono {R R' : Value → World → Prop} (h : ∀ v w, R v w → R' v w) : ∀ {r : Result Next}, effUpon P R r → effUpon P R' r := by
  intro r hr
  cases r with
  | ok n w' =>
    cases n <;> simp only [effUpon] at hr ⊢
    case value u => exact h _ _ hr
    case skip => exact h _ _ hr
    case enter f args => exact hr.mono fun e w'' ⟨v, he, hv⟩ => ⟨v, he, h _ _ hv⟩
  | halt x w' => simp only [effUpon] at hr
theorem eff_mono {o : Oper} {a : Act} {w : World} {R R' : Value → World → Prop} (h : ∀ v w, R v w → R' v w) (hr : eff P o a w R) : eff P o a w R' := effUpon_mono h hr
theorem eff_out {o : Oper} {a : Act} {w : World} {R : Value → World → Prop} (hr : eff P o a w R) : ∃ v w', R v w' := by
  unfold eff at hr
  generalize (execOp a.eval o).run P w = r at hr
  cases r with
  | ok n w' =>
    cases n <;> simp only [effUpon] at hr
    case value u => exact ⟨_, _, hr⟩
    case skip => exact ⟨_, _, hr⟩
    case enter f args =>
      obtain ⟨e, w'', fr, ⟨v, _, hv⟩, _⟩ := hr []
      exact ⟨v, w'', hv⟩
  | halt x w' => simp only [effUpon] at hr

def mStep (P : Program) (ops : Array Oper) (C : World → Prop) (b : Bool) (o : Oper) (K : Act → World → Prop) (a : Act) (w : World) : Prop :=
  if Region.wanted o (yielded ops a.tmps) then
    (if b then eff P o a w (fun v w' => C w' ∧ K (a.put o.dst v) w') else ∃ v, (∀ w', C w' → (execOp a.eval o).run P w' = .ok (.value v) w') ∧ K (a.put o.dst v) w)
  else K (a.put o.dst undef) w
theorem mStep_mono {b : Bool} {o : Oper} {K K' : Act → World → Prop} {a : Act} {w : World} (hC : C w) (h : ∀ a w, C w → K a w → K' a w) (hs : mStep P ops C b o K a w) : mStep P ops C b o K' a w := by
  unfold mStep at *
  split
  · rename_i hw
    rw [if_pos hw] at hs
    cases b with
    | true => exact eff_mono (fun v w' hv => ⟨hv.1, h _ _ hv.1 hv.2⟩) hs
    | false => obtain ⟨v, h1, h2⟩ := hs; exact ⟨v, h1, h _ _ hC h2⟩
  · rename_i hw
    rw [if_neg hw] at hs
    exact h _ _ hC hs
def mOp (P : Program) (ops : Array Oper) (C : World → Prop) (E : Nat → Bool) (i : Nat) (K : Act → World → Prop) (a : Act) (w : World) : Prop :=
  match ops[i]? with
  | none => K a w
  | some o => mStep P ops C (E i) o K a w
/-- THE WALK OF THE TEXT's ORDER. -/
def wpMix (P : Program) (ops : Array Oper) (C : World → Prop) (E : Nat → Bool) (Q : Act → World → Prop) : Nat → List Oper → Act → World → Prop
  | _, [], a, w => Q a w
  | k, o :: l, a, w => mStep P ops C (E k) o (wpMix P ops C E Q (k + 1) l) a w

def wpAnyM (P : Program) (md : Region.Mode) (ops : Array Oper) (C : World → Prop) (E : Nat → Bool) (Q : Act → World → Prop) : Nat → Array Bool → Act → World → Prop
  | 0, listed, a, w => Region.ready md ops listed = [] ∧ Q a w
  | fuel + 1, listed, a, w => (Region.ready md ops listed = [] → Q a w) ∧ ∀ i ∈ Region.ready md ops listed, mOp P ops C E i (wpAnyM P md ops C E Q fuel (listed.setIfInBounds i true)) a w

theorem wpOp_of_mOp {i : Nat} {a : Act} {w : World} {K K' : Act → World → Prop} {Q' : Exit → Act → World → Prop} (hC : C w) (h : ∀ a w, C w → K a w → K' a w) (hh : mOp P ops C E i K a w) : wpOp P ops Q' i K' a w := by
  unfold mOp at hh
  unfold wpOp
  split
  · rename_i ho; simp only [ho] at hh; exact h _ _ hC hh
  · rename_i o ho
    simp only [ho] at hh
    unfold mStep at hh
    split
    · rename_i hw
      rw [if_pos hw] at hh
      refine .inl ?_
      unfold Oper.wp
      cases hE : E i with
      | true =>
        rw [hE] at hh
        simp only [if_true] at hh
        unfold eff at hh
        generalize (execOp a.eval o).run P w = r at hh
        cases r with
        | ok n w' =>
          cases n <;> simp only [effUpon] at hh <;> simp only [Oper.upon]
          case value u => exact h _ _ hh.1 hh.2
          case skip => exact h _ _ hh.1 hh.2
          case enter f args => exact hh.mono fun e w'' ⟨v, he, hv⟩ => by subst he; exact h _ _ hv.1 hv.2
        | halt x w' => simp only [effUpon] at hh
      | false =>
        rw [hE] at hh
        simp only [Bool.false_eq_true, if_false] at hh
        obtain ⟨v, h1, h2⟩ := hh
        rw [h1 w hC, Oper.upon_value]
        exact h _ _ hC h2
    · rename_i hw
      rw [if_neg hw] at hh
      exact h _ _ hC hh
theorem wpAny_of_M {Q' : Exit → Act → World → Prop} (hQ : ∀ a w, C w → Q a w → Q' .normal a w) : ∀ (fuel : Nat) (listed : Array Bool) (a : Act) (w : World), C w → wpAnyM P md ops C E Q fuel listed a w → wpAny P md ops Q' fuel listed a w
  | 0, _, _, _, hw, h => ⟨h.1, hQ _ _ hw h.2⟩
  | fuel + 1, _, _, _, hw, h => ⟨fun h0 => hQ _ _ hw (h.1 h0), fun i hi => wpOp_of_mOp hw (fun a' w' hw' => wpAny_of_M hQ fuel _ a' w' hw') (h.2 i hi)⟩
theorem mOp_mono {i : Nat} {K K' : Act → World → Prop} {a : Act} {w : World} (hC : C w) (h : ∀ a w, C w → K a w → K' a w) (hs : mOp P ops C E i K a w) : mOp P ops C E i K' a w := by
  unfold mOp at *
  split
  · rename_i ho; simp only [ho] at hs; exact h _ _ hC hs
  · rename_i o ho; simp only [ho] at hs; exact mStep_mono hC h hs

/-- In state a the operation yields v in every world of the class, and touches nothing; or it is passed over. -/
def Yields (P : Program) (ops : Array Oper) (C : World → Prop) (o : Oper) (v : Value) (a : Act) : Prop :=
  (Region.wanted o (yielded ops a.tmps) = true ∧ ∀ w, C w → (execOp a.eval o).run P w = .ok (.value v) w) ∨ (Region.wanted o (yielded ops a.tmps) = false ∧ v = undef)
theorem Yields.of_same {o : Oper} {v : Value} {a a' : Act} (hy : Yields P ops C o v a) (he : execOp a'.eval o = execOp a.eval o)
    (hw : Region.wanted o (yielded ops a'.tmps) = Region.wanted o (yielded ops a.tmps)) : Yields P ops C o v a' := by
  unfold Yields at *
  rw [he, hw]
  exact hy
theorem mOp_put {j : Nat} {oi oj : Oper} {v : Value} (hj : ops[j]? = some oj) (hap : oi.apart ops oj = true) (hsi : ∀ cs b, oi.op ≠ .select cs b) (hsj : ∀ cs b, oj.op ≠ .select cs b)
    {K : Act → World → Prop} {a : Act} {w : World} (hy : Yields P ops C oi v a) (h : mOp P ops C E j K (a.put oi.dst v) w) :
    mOp P ops C E j (fun a' w' => Yields P ops C oi v a' ∧ K (a'.put oi.dst v) w') a w := by
  obtain ⟨h1, h2, h3⟩ := Oper.apart_spec hap
  have keep : ∀ u, Yields P ops C oi v (a.put oj.dst u) := fun u => hy.of_same (execOp_put oi hsi a oj.dst u h3) (wanted_put oi a oj.dst u h3)
  unfold mOp at *
  simp only [hj] at *
  unfold mStep at *
  rw [wanted_put oj a oi.dst v h1] at h
  split
  · rename_i hw
    rw [if_pos hw] at h
    cases hE : E j with
    | true =>
      rw [hE] at h
      simp only [if_true] at h ⊢
      unfold eff at h
      rw [execOp_put oj hsj a oi.dst v h1] at h
      exact eff_mono (fun u w' hu => ⟨hu.1, keep u, by rw [← Act.put_comm a v u h2]; exact hu.2⟩) h
    | false =>
      rw [hE] at h
      simp only [Bool.false_eq_true, if_false] at h ⊢
      obtain ⟨u, hu, hn⟩ := h
      exact ⟨u, fun w' hw' => by have := hu w' hw'; rwa [execOp_put oj hsj a oi.dst v h1] at this, keep u, by rw [← Act.put_comm a v u h2]; exact hn⟩
  · rename_i hw
    rw [if_neg hw] at h
    exact ⟨keep _, by rw [← Act.put_comm a v undef h2]; exact h⟩
theorem Yields.mOp {i : Nat} {o : Oper} {v : Value} {a : Act} {w : World} (hi : ops[i]? = some o) (hE : Region.wanted o (yielded ops a.tmps) = true → E i = false) (hC : C w) (hy : Yields P ops C o v a) {K : Act → World → Prop} (h : K (a.put o.dst v) w) : mOp P ops C E i K a w := by
  unfold Mix.mOp
  simp only [hi]
  unfold mStep
  rcases hy with ⟨hw, hv⟩ | ⟨hw, rfl⟩
  · rw [if_pos hw, hE hw]; exact ⟨v, hv, h⟩
  · rw [if_neg (by rw [hw]; exact Bool.false_ne_true)]; exact h

/-- An operation that yields one value may be taken first. -/
theorem first_pure {i : Nat} {oi : Oper} {v : Value} (hi : ops[i]? = some oi) (hsel : ∀ (j : Nat) (o : Oper) cs b, ops[j]? = some o → o.op ≠ .select cs b) :
    ∀ (fuel : Nat) (listed : Array Bool) (a : Act) (w : World), C w → (Region.wanted oi (yielded ops a.tmps) = true → E i = false) →
      (∀ j oj, ops[j]? = some oj → j ≠ i → listed.getD j true = false → (∀ e ∈ oj.after, Region.binds md e = true → e.on ≠ i) → oi.apart ops oj = true) →
      i ∈ Region.ready md ops listed → Yields P ops C oi v a →
      wpAnyM P md ops C E Q fuel (listed.setIfInBounds i true) (a.put oi.dst v) w → wpAnyM P md ops C E Q (fuel + 1) listed a w := by
  intro fuel
  induction fuel with
  | zero =>
    intro listed a w hC hE _ hr hy H
    refine ⟨fun h => (by rw [h] at hr; cases hr), fun j hj => ?_⟩
    by_cases hji : j = i
    · subst hji; exact hy.mOp hi hE hC H
    · have := ready_mono hj hji
      rw [H.1] at this
      cases this
  | succ fuel ih =>
    intro listed a w hC hE hfree hr hy H
    refine ⟨fun h => (by rw [h] at hr; cases hr), fun j hj => ?_⟩
    by_cases hji : j = i
    · subst hji; exact hy.mOp hi hE hC H
    · have h1 := H.2 j (ready_mono hj hji)
      obtain ⟨hjun, oj, hoj, hall⟩ := mem_ready.1 hj
      have hnot : ∀ e ∈ oj.after, Region.binds md e = true → e.on ≠ i := fun e he hb heq => by
        have h1 := hall e he hb
        have h0 := (mem_ready.1 hr).1
        rw [heq] at h1
        rcases Nat.lt_or_ge i listed.size with h' | h'
        · simp [h'] at h0 h1; rw [h0] at h1; cases h1
        · simp [Array.getElem?_eq_none h'] at h1
      have hap := hfree j oj hoj hji hjun hnot
      have h2 := mOp_put hoj hap (fun cs b => hsel i oi cs b hi) (fun cs b => hsel j oj cs b hoj) hy h1
      have hfree' : ∀ k ok, ops[k]? = some ok → k ≠ i → (listed.setIfInBounds j true).getD k true = false →
          (∀ e ∈ ok.after, Region.binds md e = true → e.on ≠ i) → oi.apart ops ok = true := fun k ok hk hki hun hno => by
        refine hfree k ok hk hki ?_ hno
        by_cases hjk : j = k
        · subst hjk; exact hjun
        · rw [getD_set_ne true hjk] at hun; exact hun
      refine mOp_mono hC (K := fun a' w' => (Region.wanted oi (yielded ops a'.tmps) = true → E i = false) ∧ Yields P ops C oi v a' ∧ wpAnyM P md ops C E Q fuel ((listed.setIfInBounds i true).setIfInBounds j true) (a'.put oi.dst v) w')
        (fun a' w' hw' h3 => ih (listed.setIfInBounds j true) a' w' hw' h3.1 hfree' (ready_mono hr (Ne.symm hji)) h3.2.1 ?_) ?_
      · rw [Array.setIfInBounds_comm _ _ hji]
        exact h3.2.2
      · have hwp : ∀ u, Region.wanted oi (yielded ops (a.put oj.dst u).tmps) = Region.wanted oi (yielded ops a.tmps) := fun u => wanted_put oi a oj.dst u (Oper.apart_spec hap).2.2
        unfold Mix.mOp at h2 ⊢
        simp only [hoj] at h2 ⊢
        unfold mStep at h2 ⊢
        split
        · rename_i hw
          rw [if_pos hw] at h2
          cases hEj : E j with
          | true =>
            rw [hEj] at h2
            simp only [if_true] at h2 ⊢
            exact eff_mono (fun u w' hu => ⟨hu.1, by rw [hwp]; exact hE, hu.2⟩) h2
          | false =>
            rw [hEj] at h2
            simp only [Bool.false_eq_true, if_false] at h2 ⊢
            obtain ⟨u, hu, hn⟩ := h2
            exact ⟨u, hu, by rw [hwp]; exact hE, hn⟩
        · rename_i hw
          rw [if_neg hw] at h2
          exact ⟨by rw [hwp]; exact hE, h2⟩

/-! ### what waits -/
def waitB (md : Region.Mode) (ops : Array Oper) (k : Nat) : Nat → Nat → Bool
  | 0, _ => false
  | f + 1, j => match ops[j]? with
    | some o => o.after.any fun e => Region.binds md e && (e.on == k || waitB md ops k f e.on)
    | none => false
def Closed (md : Region.Mode) (ops : Array Oper) (listed : Array Bool) : Prop := ∀ m o, ops[m]? = some o → listed.getD m false = true → ∀ e ∈ o.after, Region.binds md e = true → listed.getD e.on false = true
theorem getD_false {listed : Array Bool} {k : Nat} (h : listed.getD k true = false) : ¬ listed.getD k false = true := by
  intro h'
  rcases Nat.lt_or_ge k listed.size with hk | hk
  · simp [hk] at h h'; rw [h] at h'; cases h'
  · simp [Array.getElem?_eq_none hk] at h'
theorem waits_step' {k : Nat} {listed : Array Bool} (hc : Closed md ops listed) (hk : ¬ listed.getD k false = true) : ∀ (f j : Nat) (o : Oper), ops[j]? = some o → waitB md ops k f j = true → ¬ ∀ e ∈ o.after, Region.binds md e = true → listed.getD e.on false = true
  | 0, _, _, _, h => by simp [waitB] at h
  | f + 1, j, o, ho, h => by
    intro hall
    unfold waitB at h
    simp only [ho] at h
    obtain ⟨e, he, hb⟩ := Array.any_eq_true'.1 h
    rw [Bool.and_eq_true, Bool.or_eq_true] at hb
    have hl := hall e he hb.1
    rcases hb.2 with h1 | h1
    · rw [beq_iff_eq] at h1
      rw [h1] at hl
      exact hk hl
    · cases f with
      | zero => simp [waitB] at h1
      | succ f =>
        cases hm : ops[e.on]? with
        | none => unfold waitB at h1; simp [hm] at h1
        | some om => exact waits_step' hc hk (f + 1) e.on om hm h1 (hc e.on om hm hl)
/-- While k is not done, j cannot be taken. -/
def Waits (md : Region.Mode) (ops : Array Oper) (k j : Nat) : Prop := ∀ listed : Array Bool, Closed md ops listed → ¬ listed.getD k false = true → ∀ o, ops[j]? = some o → ¬ ∀ e ∈ o.after, Region.binds md e = true → listed.getD e.on false = true
theorem waits_ready {k j : Nat} {listed : Array Bool} (hc : Closed md ops listed) (hk : listed.getD k true = false) (hw : Waits md ops k j) : j ∉ Region.ready md ops listed := by
  intro hr
  obtain ⟨_, o, ho, hall⟩ := mem_ready.1 hr
  exact hw listed hc (getD_false hk) o ho hall
theorem Closed.set {listed : Array Bool} (hc : Closed md ops listed) {i : Nat} (hr : i ∈ Region.ready md ops listed) : Closed md ops (listed.setIfInBounds i true) := by
  obtain ⟨_, oi, hoi, hall⟩ := mem_ready.1 hr
  intro m o ho hm e he hb
  by_cases h : i = m
  · subst h
    rw [hoi] at ho
    injection ho with ho
    subst ho
    exact getD_set_true (hall e he hb)
  · rw [getD_set_ne false h] at hm
    exact getD_set_true (hc m o ho hm e he hb)

/-- An operation that touches memory may be taken first, if whatever else touches memory waits for it. -/
theorem first_eff {k : Nat} {ok : Oper} (hk : ops[k]? = some ok) (hEk : E k = true) (hsel : ∀ (j : Nat) (o : Oper) cs b, ops[j]? = some o → o.op ≠ .select cs b) :
    ∀ (fuel : Nat) (listed : Array Bool) (a : Act) (w : World), C w → Region.wanted ok (yielded ops a.tmps) = true → Closed md ops listed →
      (∀ j, j ≠ k → listed.getD j true = false → E j = true → Waits md ops k j) →
      (∀ j oj, ops[j]? = some oj → j ≠ k → listed.getD j true = false → (∀ e ∈ oj.after, Region.binds md e = true → e.on ≠ k) → ok.apart ops oj = true) →
      k ∈ Region.ready md ops listed → eff P ok a w (fun v w' => C w' ∧ wpAnyM P md ops C E Q fuel (listed.setIfInBounds k true) (a.put ok.dst v) w') →
      wpAnyM P md ops C E Q (fuel + 1) listed a w := by
  intro fuel
  induction fuel with
  | zero =>
    intro listed a w hC hw hcl hE hfree hr H
    refine ⟨fun h => (by rw [h] at hr; cases hr), fun j hj => ?_⟩
    by_cases hji : j = k
    · subst hji
      unfold Mix.mOp
      simp only [hk]
      unfold mStep
      rw [if_pos hw, hEk]
      exact H
    · obtain ⟨v, w', _, h⟩ := eff_out H
      have := ready_mono hj hji
      rw [h.1] at this
      cases this
  | succ fuel ih =>
    intro listed a w hC hw hcl hE hfree hr H
    refine ⟨fun h => (by rw [h] at hr; cases hr), fun j hj => ?_⟩
    by_cases hji : j = k
    · subst hji
      unfold Mix.mOp
      simp only [hk]
      unfold mStep
      rw [if_pos hw, hEk]
      exact H
    · obtain ⟨hjun, oj, hoj, hall⟩ := mem_ready.1 hj
      have hkun := (mem_ready.1 hr).1
      have hEj : E j = false := by
        cases he : E j with
        | false => rfl
        | true => exact absurd hj (waits_ready hcl hkun (hE j hji hjun he))
      have hnot : ∀ e ∈ oj.after, Region.binds md e = true → e.on ≠ k := fun e he hb heq => by
        have h1 := hall e he hb
        rw [heq] at h1
        exact getD_false hkun h1
      obtain ⟨h1, h2, h3⟩ := Oper.apart_spec (hfree j oj hoj hji hjun hnot)
      have hE' : ∀ i, i ≠ k → (listed.setIfInBounds j true).getD i true = false → E i = true → Waits md ops k i := fun i hik hun he => by
        refine hE i hik ?_ he
        by_cases hjk : j = i
        · subst hjk; exact hjun
        · rw [getD_set_ne true hjk] at hun; exact hun
      have hfree' : ∀ i oi, ops[i]? = some oi → i ≠ k → (listed.setIfInBounds j true).getD i true = false →
          (∀ e ∈ oi.after, Region.binds md e = true → e.on ≠ k) → ok.apart ops oi = true := fun i oi hi hki hun hno => by
        refine hfree i oi hi hki ?_ hno
        by_cases hjk : j = i
        · subst hjk; exact hjun
        · rw [getD_set_ne true hjk] at hun; exact hun
      have hw' : ∀ u, Region.wanted ok (yielded ops (a.put oj.dst u).tmps) = true := fun u => by rw [wanted_put ok a oj.dst u h3]; exact hw
      have heff : ∀ u, (execOp (a.put oj.dst u).eval ok) = execOp a.eval ok := fun u => execOp_put ok (fun cs b => hsel k ok cs b hk) a oj.dst u h3
      have hwj : ∀ v, Region.wanted oj (yielded ops (a.put ok.dst v).tmps) = Region.wanted oj (yielded ops a.tmps) := fun v => wanted_put oj a ok.dst v h1
      have hxj : ∀ v, execOp (a.put ok.dst v).eval oj = execOp a.eval oj := fun v => execOp_put oj (fun cs b => hsel j oj cs b hoj) a ok.dst v h1
      have next : ∀ u, (∀ v w', C w' → wpAnyM P md ops C E Q (fuel + 1) (listed.setIfInBounds k true) (a.put ok.dst v) w' → wpAnyM P md ops C E Q fuel ((listed.setIfInBounds k true).setIfInBounds j true) ((a.put ok.dst v).put oj.dst u) w') →
          wpAnyM P md ops C E Q (fuel + 1) (listed.setIfInBounds j true) (a.put oj.dst u) w := fun u hu => by
        refine ih (listed.setIfInBounds j true) (a.put oj.dst u) w hC (hw' u) (hcl.set hj) hE' hfree' (ready_mono hr (Ne.symm hji)) ?_
        unfold eff
        rw [heff u]
        refine eff_mono (fun v w' hv => ⟨hv.1, ?_⟩) H
        have := hu v w' hv.1 hv.2
        rw [Array.setIfInBounds_comm _ _ hji, ← Act.put_comm a v u h2]
        exact this
      obtain ⟨v0, w0, hC0, h0⟩ := eff_out H
      have hj0 := h0.2 j (ready_mono hj hji)
      unfold Mix.mOp at hj0 ⊢
      simp only [hoj] at hj0 ⊢
      unfold mStep at hj0 ⊢
      rw [hwj v0] at hj0
      split
      · rename_i hwt
        rw [if_pos hwt, hEj] at hj0
        simp only [Bool.false_eq_true, if_false] at hj0
        obtain ⟨u, hu, _⟩ := hj0
        rw [hxj v0] at hu
        rw [hEj]
        simp only [Bool.false_eq_true, if_false]
        refine ⟨u, hu, next u fun v w' hC' hv => ?_⟩
        have hj1 := hv.2 j (ready_mono hj hji)
        unfold Mix.mOp at hj1
        simp only [hoj] at hj1
        unfold mStep at hj1
        rw [hwj v, if_pos hwt, hEj] at hj1
        simp only [Bool.false_eq_true, if_false] at hj1
        obtain ⟨u', hu', hn⟩ := hj1
        rw [hxj v] at hu'
        have e1 := hu w' hC'
        rw [hu' w' hC'] at e1
        injection e1 with e1
        injection e1 with e1
        rw [← e1]
        exact hn
      · rename_i hwt
        refine next undef fun v w' hC' hv => ?_
        have hj1 := hv.2 j (ready_mono hj hji)
        unfold Mix.mOp at hj1
        simp only [hoj] at hj1
        unfold mStep at hj1
        rw [hwj v, if_neg hwt] at hj1
        exact hj1

/-- Of two operations that touch memory the later one waits for the earlier one. -/
def effOk (md : Region.Mode) (ops : Array Oper) (F : Nat) : List Nat → Bool
  | k :: j :: r => Nat.blt k j && waitB md ops k F j && (ops[j]?).isSome && effOk md ops F (j :: r)
  | _ => true
theorem effOk_head {F : Nat} : ∀ (r : List Nat) (k : Nat), effOk md ops F (k :: r) = true → ∀ j ∈ r, k < j ∧ Waits md ops k j
  | [], _, _ => fun _ hj => absurd hj (by simp)
  | m :: r, k, h => by
    simp only [effOk, Bool.and_eq_true] at h
    obtain ⟨⟨⟨h1, h2⟩, h3⟩, h4⟩ := h
    have hk : k < m := Nat.le_of_ble_eq_true h1
    obtain ⟨om, hom⟩ := Option.isSome_iff_exists.1 h3
    have hw : Waits md ops k m := fun listed hc hu o ho => waits_step' hc hu F m o ho h2
    intro j hj
    rcases List.mem_cons.1 hj with rfl | hj
    · exact ⟨hk, hw⟩
    · obtain ⟨h5, h6⟩ := effOk_head r m h4 j hj
      refine ⟨by omega, fun listed hc hu => h6 listed hc fun hm => ?_⟩
      exact hw listed hc hu om hom (hc m om hom hm)
theorem effOk_tail {F : Nat} {k : Nat} {r : List Nat} (h : effOk md ops F (k :: r) = true) : effOk md ops F r = true := by
  cases r with
  | nil => rfl
  | cons m r => simp only [effOk, Bool.and_eq_true] at h; exact h.2
theorem effOk_spec {F : Nat} : ∀ (el : List Nat), effOk md ops F el = true → ∀ k ∈ el, ∀ j ∈ el, j ≤ k ∨ Waits md ops k j
  | [], _, _, hk => absurd hk (by simp)
  | m :: r, h, k, hk => by
    intro j hj
    rcases List.mem_cons.1 hk with rfl | hk'
    · rcases List.mem_cons.1 hj with rfl | hj'
      · exact .inl (Nat.le_refl _)
      · exact .inr (effOk_head r k h j hj').2
    · rcases List.mem_cons.1 hj with rfl | hj'
      · exact .inl (Nat.le_of_lt (effOk_head r j h k hk').1)
      · exact effOk_spec r (effOk_tail h) k hk' j hj'

theorem mix_lex {el : List Nat} {F : Nat} (hs : Region.noSelect ops = true) (hF : effOk md ops F el = true) (hEl : ∀ i, E i = true → i ∈ el) : ∀ (l : List Oper) (k : Nat) (listed : Array Bool) (a : Act) (w : World), C w → (∀ j, l[j]? = ops[k + j]?) →
    Closed md ops listed → (∀ j, listed.getD j true = false → k ≤ j) → Region.lexFrom md ops l.length k listed = true → wpMix P ops C E Q k l a w → wpAnyM P md ops C E Q l.length listed a w
  | [], _, _, _, _, _, _, _, _, hB, h => ⟨by simpa [Region.lexFrom] using hB, h⟩
  | o :: l, k, listed, a, w, hC, hl, hcl, hpre, hB, h => by
    have h0 : ops[k]? = some o := by simpa using (hl 0).symm
    simp only [List.length_cons, Region.lexFrom, Bool.and_eq_true] at hB
    obtain ⟨⟨hr, hf⟩, hB'⟩ := hB
    have hr' : k ∈ Region.ready md ops listed := by simpa using hr
    have hl' : ∀ j, l[j]? = ops[k + 1 + j]? := fun j => by have := hl (j + 1); simpa [Nat.add_assoc, Nat.add_comm 1 j] using this
    have hpre' : ∀ j, (listed.setIfInBounds k true).getD j true = false → k + 1 ≤ j := fun j hj => by
      by_cases hkj : k = j
      · subst hkj
        rcases Nat.lt_or_ge k listed.size with h' | h'
        · simp [h'] at hj
        · simp [Array.getElem?_eq_none, h'] at hj
      · rw [getD_set_ne true hkj] at hj
        have := hpre j hj
        omega
    have ih := fun a' w' hC' h' => mix_lex hs hF hEl l (k + 1) (listed.setIfInBounds k true) a' w' hC' hl' (hcl.set hr') hpre' hB' h'
    unfold wpMix mStep at h
    by_cases hw : Region.wanted o (yielded ops a.tmps) = true
    · rw [if_pos hw] at h
      cases hE : E k with
      | true =>
        rw [hE] at h
        simp only [if_true] at h
        refine first_eff h0 hE (Region.noSelect_spec hs) l.length listed a w hC hw hcl ?_ (Region.free_spec h0 hf) hr' (eff_mono (fun v w' hv => ⟨hv.1, ih _ _ hv.1 hv.2⟩) h)
        intro j hjk hun hj
        rcases effOk_spec el hF k (hEl k hE) j (hEl j hj) with h2 | h2
        · have := hpre j hun
          omega
        · exact h2
      | false =>
        rw [hE] at h
        simp only [Bool.false_eq_true, if_false] at h
        obtain ⟨v, hv, hn⟩ := h
        exact first_pure h0 (Region.noSelect_spec hs) l.length listed a w hC (fun _ => hE) (Region.free_spec h0 hf) hr' (.inl ⟨hw, hv⟩) (ih _ _ hC hn)
    · rw [if_neg hw] at h
      exact first_pure h0 (Region.noSelect_spec hs) l.length listed a w hC (fun h' => absurd h' hw) (Region.free_spec h0 hf) hr' (.inr ⟨by simpa using hw, rfl⟩) (ih _ _ hC h)

/-- ONE WALK OF THE TEXT's ORDER SERVES EVERY ORDER. -/
theorem wp_region_mix {id : Nat} {Q' : Exit → Act → World → Prop} {a : Act} {w : World} {l : List Oper} (el : List Nat) (F : Nat) (hm : P.follows .mixedOrders = true) (hB : Region.lexB .any l.toArray = true)
    (hF : effOk .any l.toArray F el = true) (hC : C w.drew) (h : wpMix P l.toArray C (fun i => el.contains i) (fun a w => C w → Q' .normal a w) 0 l a w.drew) : (Code.region id l.toArray true).wp P Q' a w := by
  simp only [Region.lexB, Bool.and_eq_true] at hB
  refine wp_region_any hm (wpAny_of_M (C := C) (E := fun i => el.contains i) (Q := fun a w => C w → Q' .normal a w) (fun _ w' hw' h => h hw') _ _ _ _ hC ?_)
  have := mix_lex (P := P) (C := C) (E := fun i => el.contains i) (Q := fun a w => C w → Q' .normal a w) hB.1 hF (fun i hi => by simpa using hi) l 0 (Array.replicate l.toArray.size false) a w.drew hC (fun j => by simp)
    (fun m o ho hmm => by simp [Array.getElem?_replicate] at hmm; split at hmm <;> simp at hmm) (fun j _ => Nat.zero_le j) (by simpa using hB.2) h
  simpa using this
theorem mix_nil {k : Nat} {a : Act} {w : World} (h : Q a w) : wpMix P ops C E Q k [] a w := h
/-- One operation that yields one value in every world of the class. -/
theorem mix_pure {k : Nat} {o : Oper} {l : List Oper} {a : Act} {w : World} (hb : E k = false)
    (h : ∀ K : Act → World → Prop, (∀ a w, wpMix P ops C E Q (k + 1) l a w → K a w) →
      if Region.wanted o (yielded ops a.tmps) then ∃ v, (∀ w', C w' → (execOp a.eval o).run P w' = .ok (.value v) w') ∧ K (a.put o.dst v) w else K (a.put o.dst undef) w) : wpMix P ops C E Q k (o :: l) a w := by
  have := h (wpMix P ops C E Q (k + 1) l) (fun _ _ h => h)
  unfold wpMix mStep
  rw [hb]
  simpa using this
/-- One operation that touches memory. -/
theorem mix_eff {k : Nat} {o : Oper} {l : List Oper} {a : Act} {w : World} (hb : E k = true)
    (h : ∀ K : Act → World → Prop, (∀ a w, wpMix P ops C E Q (k + 1) l a w → K a w) →
      if Region.wanted o (yielded ops a.tmps) then effUpon P (fun v w' => C w' ∧ K (a.put o.dst v) w') ((execOp a.eval o).run P w) else K (a.put o.dst undef) w) : wpMix P ops C E Q k (o :: l) a w := by
  have := h (wpMix P ops C E Q (k + 1) l) (fun _ _ h => h)
  unfold wpMix mStep
  rw [hb]
  simpa [eff] using this
theorem effUpon_value (R : Value → World → Prop) (u : Value) (w : World) : effUpon P R (.ok (.value u) w) = R u w := rfl
theorem effUpon_skip (R : Value → World → Prop) (w : World) : effUpon P R (.ok .skip w) = R undef w := rfl
theorem effUpon_enter (R : Value → World → Prop) (f : FuncId) (args : Array Value) (w : World) : effUpon P R (.ok (.enter f args) w) = Calls P f args w (fun e w'' => ∃ v, e = .returned v ∧ R v w'') := rfl
end
/-- The worlds in which all that lay in W lies unturned. -/
def Ext (W : World) : Type := { w' : World // Below W.heap.size W w' }
instance (W : World) : Nonempty (Ext W) := ⟨⟨W, Below.refl _ W⟩⟩
def Ext.w {W : World} (x : Ext W) : World := x.1
/-- The worlds in which one block lies as it lay in W. -/
def Has (W : World) (b : Nat) : Type := { w' : World // w'.heap[b]? = W.heap[b]? }
instance (W : World) (b : Nat) : Nonempty (Has W b) := ⟨⟨W, rfl⟩⟩
def Has.w {W : World} {b : Nat} (x : Has W b) : World := x.1
end Go.Mix
