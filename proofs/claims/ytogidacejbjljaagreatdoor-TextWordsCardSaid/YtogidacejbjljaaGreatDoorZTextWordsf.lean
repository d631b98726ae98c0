/- Lemmas on the way to the card of TextWords, joined from: BTaken TDraw TRNorm TOwn BLine BKeep BFlush BBroken BRef BRows BBreak BRBreak BWSpec TLaw BLaw BWLaw. Conditions: as each lemma says. -/
import Derived.Outline
import Derived.Test.YtogidacejbjljaaGreatDoorZTextWordse
import Derived.Still
import Derived.KernelRfl
import Derived.WalkKit
import Derived.Below
import Derived.ArgAppend
import Derived.Deep.Slices
import Derived.Laws.DeepStrings4
section
/- text.taken: how many letters the next line has. -/
set_option linter.unusedVariables false
set_option linter.unusedSimpArgs false
namespace Go.Proofs.YtogidacejbjljaaGreatDoor.PTextChecks
open Go.RowKit Go.Proofs.YtogidacejbjljaaGreatDoorW.PrintWords Go.Proofs.YtogidacejbjljaaGreatDoorW.PrintLast Go.Proofs.YtogidacejbjljaaGreatDoorW.PrintMore
theorem twide_calls (x : S81) (h : 0 ≤ x.f0 ∧ x.f0 < 256) (w : World) :
    Calls Tryz.prog 60 #[.int .u8 x.f0, .agg #[.bool x.f1.f0, .bool x.f1.f1, .bool x.f1.f2, .int .i64 x.f1.f3, .int .i64 x.f1.f4]] w fun e w' => e = .returned (.int .i64 (wd x)) ∧ Below w.heap.size w w' := by
  refine text_wide.calls x.f0 x.f1.f0 x.f1.f1 x.f1.f2 x.f1.f3 x.f1.f4 (wd x) w ?_
  have := wide_run x.f0.toNat (by omega) x.f1
  rw [Int.toNat_of_nonneg h.1] at this
  exact this
def TRel (l : List S81) (room : Int) (w : World) (n : Nat) (sum : Int) (bl : Nat) (wr : World) : Prop := takeF room (l.drop n) sum n bl = takenS l room ∧ Below w.heap.size w wr
theorem take_go {l : List S81} {room : Int} {n bl : Nat} {sum s1 : Int} {x : S81} (ht : Hid (takeF room (l.drop n) sum n bl = takenS l room)) (hd : Hid (l.drop n = x :: l.drop (n + 1))) (hs : Hid (wrap64 (sum + wd x) = s1))
    (h1 : (decide (room < s1) && decide (0 < n)) = false) : takeF room (l.drop (n + 1)) s1 (n + 1) (if x.f0 = 32 then n + 1 else bl) = takenS l room := by
  have := ht.out
  rw [hd.out] at this
  unfold takeF at this
  rw [hs.out, h1] at this
  simpa using this
theorem take_end {l : List S81} {room : Int} {n bl : Nat} {sum s1 : Int} {x : S81} (ht : Hid (takeF room (l.drop n) sum n bl = takenS l room)) (hd : Hid (l.drop n = x :: l.drop (n + 1))) (hs : Hid (wrap64 (sum + wd x) = s1))
    (h1 : (decide (room < s1) && decide (0 < n)) = true) : (if 0 < bl then bl else n) = takenS l room := by
  have := ht.out
  rw [hd.out] at this
  unfold takeF at this
  rw [hs.out, h1] at this
  simpa using this
set_option maxHeartbeats 4000000 in
set_option maxRecDepth 100000 in
theorem taken_calls (A : Option Addr) (cap : Nat) (l : List S81) (room : Int) (w : World) (hr : Kd.C k81 w A l.length l) (hl : l.length ≤ 1000000) (hb : Byt l) :
    Calls Tryz.prog 106 #[.slice A l.length cap, .int .i64 room] w fun e w' => e = .returned (.int .i64 (takenS l room)) ∧ Below w.heap.size w w' := by
  go_enter Tryz.func106, Tryz.ntmps106
  go_wp2
  go_loopw [5, 6, 11] (fun s b i wr => ∃ (n : Nat) (sum : Int) (bl : Nat), n ≤ l.length ∧ bl ≤ n ∧ s = .int .i64 sum ∧ b = .int .i64 bl ∧ i = .int .i64 n ∧ TRel l room w n sum bl wr) (fun _ _ i wr => l.length - (intOf i).toNat)
  case atStart => exact ⟨0, 0, 0, by omega, by omega, rfl, rfl, rfl, rfl, Below.refl _ _⟩
  case round =>
    obtain ⟨n, sum, bl, hn, hbl, rfl, rfl, rfl, htk⟩ := hrel
    by_cases hlt : n < l.length
    · obtain ⟨htk, hbw⟩ := htk
      have hr3 := Kd.C_below hr hbw
      obtain ⟨ad, rfl, d0, d1, d2, d3, d4, d5⟩ := at_T81 hr3 (n : Int) (by omega) (by omega)
      obtain ⟨x, hx⟩ : ∃ x, rd_T81 l (n : Int) = x := ⟨_, rfl⟩
      rw [hx] at d0 d1 d2 d3 d4 d5
      have hxb := hb x (by rw [← hx]; exact rd81_mem l n hlt)
      have hdr : l.drop n = x :: l.drop (n + 1) := by rw [rd81_drop l n hlt, hx]
      obtain ⟨s1, hs1⟩ : ∃ s1, wrap64 (sum + wd x) = s1 := ⟨_, rfl⟩
      have HS := Lib.hid hs1
      have HD := Lib.hid hdr
      have HT := Lib.hid htk
      have hs1' : IntKind.i64.wrap (sum + wd x) = s1 := by rw [i64_w]; exact hs1
      have cW := fun X => twide_calls x hxb X
      generalize wd x = z at cW hs1'
      clear htk hdr hs1 hx
      simp only [Int.toNat_natCast] at d0 d1 d2 d3 d4 d5
      have hBW : ∀ W, Below (wr.alloc (.cells #[.int .u8 x.f0, .bool x.f1.f0, .bool x.f1.f1, .bool x.f1.f2, .int .i64 x.f1.f3, .int .i64 x.f1.f4] 151)).heap.size (wr.alloc (.cells #[.int .u8 x.f0, .bool x.f1.f0, .bool x.f1.f1, .bool x.f1.f2, .int .i64 x.f1.f3, .int .i64 x.f1.f4] 151)) W → Below w.heap.size w W :=
        fun W h => hbw.trans (((Below.refl _ wr).alloc (Nat.le_refl _) _).mono hbw.size |>.trans (h.mono (by have := hbw.size; simp; omega)))
      have wr1 : IntKind.i64.wrap ((n : Int) + 1) = (n : Int) + 1 := IntWalk.i64_in _ (by omega)
      cases hc1 : decide (room < s1)
      case false =>
        cases hsp : decide (x.f0 = 32)
        case false =>
          have HG := Lib.hid (take_go HT HD HS (by rw [hc1]; rfl))
          have hsp1 : (x.f0 == 32) = false := hsp
          go_wp2_with (go_at_call 60; refine (cW _).mono ?_; rintro e W ⟨rfl, hbW⟩; obtain ⟨k0, k1, k2, k3, k4, k5⟩ := box6 hbW)
          go_roundw
          case rel => exact ⟨n + 1, s1, bl, by omega, by omega, by go_num, by go_num, by go_num, by rw [← HG.out, if_neg (of_decide_eq_false hsp)], hBW _ hbW⟩
          case measure => simp [intOf]; omega
        case true =>
          have HG := Lib.hid (take_go HT HD HS (by rw [hc1]; rfl))
          have hsp1 : (x.f0 == 32) = true := hsp
          go_wp2_with (go_at_call 60; refine (cW _).mono ?_; rintro e W ⟨rfl, hbW⟩; obtain ⟨k0, k1, k2, k3, k4, k5⟩ := box6 hbW)
          go_roundw
          case rel => exact ⟨n + 1, s1, n + 1, by omega, by omega, by go_num, by go_num, by go_num, by rw [← HG.out, if_pos (of_decide_eq_true hsp)], hBW _ hbW⟩
          case measure => simp [intOf]; omega
      case true =>
        rcases Nat.eq_zero_or_pos n with h0 | h0
        · have hc2 : decide ((0 : Int) < (n : Int)) = false := decide_eq_false (by omega)
          have hc3 : decide (0 < n) = false := decide_eq_false (by omega)
          have H0 := Lib.hid h0
          clear h0
          cases hsp : decide (x.f0 = 32)
          case false =>
            have HG := Lib.hid (take_go HT HD HS (by rw [hc1, hc3]; rfl))
            have hsp1 : (x.f0 == 32) = false := hsp
            go_wp2_with (go_at_call 60; refine (cW _).mono ?_; rintro e W ⟨rfl, hbW⟩; obtain ⟨k0, k1, k2, k3, k4, k5⟩ := box6 hbW)
            go_roundw
            case rel => exact ⟨n + 1, s1, bl, by omega, by omega, by go_num, by go_num, by go_num, by rw [← HG.out, if_neg (of_decide_eq_false hsp)], hBW _ hbW⟩
            case measure => simp [intOf]; omega
          case true =>
            have HG := Lib.hid (take_go HT HD HS (by rw [hc1, hc3]; rfl))
            have hsp1 : (x.f0 == 32) = true := hsp
            go_wp2_with (go_at_call 60; refine (cW _).mono ?_; rintro e W ⟨rfl, hbW⟩; obtain ⟨k0, k1, k2, k3, k4, k5⟩ := box6 hbW)
            go_roundw
            case rel => exact ⟨n + 1, s1, n + 1, by omega, by omega, by go_num, by go_num, by go_num, by rw [← HG.out, if_pos (of_decide_eq_true hsp)], hBW _ hbW⟩
            case measure => simp [intOf]; omega
        · have hc2 : decide ((0 : Int) < (n : Int)) = true := decide_eq_true (by omega)
          have HE := Lib.hid (take_end HT HD HS (by rw [hc1, decide_eq_true h0]; rfl))
          cases hbp : decide (0 < bl)
          case false =>
            have hbp' : decide ((0 : Int) < (bl : Int)) = false := decide_eq_false (by have := of_decide_eq_false hbp; omega)
            go_wp2_with (go_at_call 60; refine (cW _).mono ?_; rintro e W ⟨rfl, hbW⟩; obtain ⟨k0, k1, k2, k3, k4, k5⟩ := box6 hbW)
            go_ret
            exact ⟨ret_int (by rw [← HE.out, if_neg (of_decide_eq_false hbp)]), hBW _ hbW⟩
          case true =>
            have hbp' : decide ((0 : Int) < (bl : Int)) = true := decide_eq_true (by have := of_decide_eq_true hbp; omega)
            go_wp2_with (go_at_call 60; refine (cW _).mono ?_; rintro e W ⟨rfl, hbW⟩; obtain ⟨k0, k1, k2, k3, k4, k5⟩ := box6 hbW)
            go_ret
            exact ⟨ret_int (by rw [← HE.out, if_pos (of_decide_eq_true hbp)]), hBW _ hbW⟩
    · have htk' : (n : Int) = (takenS l room : Int) := by
        have h1 : l.drop n = [] := List.drop_of_length_le (by omega)
        have := htk.1
        rw [h1] at this
        exact congrArg _ this
      have hnl : n = l.length := by omega
      have HN := Lib.hid htk'
      have hbw := htk.2
      clear htk htk'
      go_wp2_with fail
      go_ret
      exact ⟨ret_int (by rw [← HN.out, hnl]), hbw⟩
end Go.Proofs.YtogidacejbjljaaGreatDoor.PTextChecks
end
section
/- Regions that draw their order: one walk of the text's order serves, if the operations that touch memory wait for each other and all others yield one value in every world of a class. -/
set_option linter.unusedVariables false
set_option linter.unusedSimpArgs false
namespace Go.Mix
open Go.RowKit
section
variable {P : Program} {ops : Array Oper} {md : Region.Mode} {C : World → Prop} {E : Nat → Bool} {Q : Act → World → Prop} {L : Nat}

/-- What an operation that touches memory comes to. -/
def effUpon (P : Program) (R : Value → World → Prop) : Result Next → Prop
  | .ok (.value u) w' => R u w'
  | .ok .skip w' => R undef w'
  | .ok (.enter f args) w' => Calls P f args w' (fun e w'' => ∃ v, e = .returned v ∧ R v w'')
  | _ => False
def eff (P : Program) (o : Oper) (a : Act) (w : World) (R : Value → World → Prop) : Prop := effUpon P R ((execOp a.eval o).run P w)
theorem effUpon_mono {R R' : Value → World → Prop} (h : ∀ v w, R v w → R' v w) : ∀ {r : Result Next}, effUpon P R r → effUpon P R' r := by
  intro r hr
  cases r with
  | ok n w' =>
    cases n <;> simp only [effUpon] at hr ⊢
    case value u => exact h _ _ hr
    case skip => exact h _ _ hr
    case enter f args => exact hr.mono fun e w'' ⟨v, he, hv⟩ => ⟨v, he, h _ _ hv⟩
  | halt x w' => simp only [effUpon] at hr
theorem eff_mono {o : Oper} {a : Act} {w : World} {R R' : Value → World → Prop} (h : ∀ v w, R v w → R' v w) (hr : eff P o a w R) : eff P o a w R' := effUpon_mono h hr
theorem eff_out {o : Oper} {a : Act} {w : World} {R : Value → World → Prop} (hr : eff P o a w R) : ∃ v w', R v w' := by
  unfold eff at hr
  generalize (execOp a.eval o).run P w = r at hr
  cases r with
  | ok n w' =>
    cases n <;> simp only [effUpon] at hr
    case value u => exact ⟨_, _, hr⟩
    case skip => exact ⟨_, _, hr⟩
    case enter f args =>
      obtain ⟨e, w'', fr, ⟨v, _, hv⟩, _⟩ := hr []
      exact ⟨v, w'', hv⟩
  | halt x w' => simp only [effUpon] at hr

def mStep (P : Program) (ops : Array Oper) (C : World → Prop) (b : Bool) (o : Oper) (K : Act → World → Prop) (a : Act) (w : World) : Prop :=
  if Region.wanted o (yielded ops a.tmps) then
    (if b then eff P o a w (fun v w' => C w' ∧ K (a.put o.dst v) w') else ∃ v, (∀ w', C w' → (execOp a.eval o).run P w' = .ok (.value v) w') ∧ K (a.put o.dst v) w)
  else K (a.put o.dst undef) w
theorem mStep_mono {b : Bool} {o : Oper} {K K' : Act → World → Prop} {a : Act} {w : World} (hC : C w) (h : ∀ a w, C w → K a w → K' a w) (hs : mStep P ops C b o K a w) : mStep P ops C b o K' a w := by
  unfold mStep at *
  split
  · rename_i hw
    rw [if_pos hw] at hs
    cases b with
    | true => exact eff_mono (fun v w' hv => ⟨hv.1, h _ _ hv.1 hv.2⟩) hs
    | false => obtain ⟨v, h1, h2⟩ := hs; exact ⟨v, h1, h _ _ hC h2⟩
  · rename_i hw
    rw [if_neg hw] at hs
    exact h _ _ hC hs
def mOp (P : Program) (ops : Array Oper) (C : World → Prop) (E : Nat → Bool) (i : Nat) (K : Act → World → Prop) (a : Act) (w : World) : Prop :=
  match ops[i]? with
  | none => K a w
  | some o => mStep P ops C (E i) o K a w
/-- THE WALK OF THE TEXT's ORDER. -/
def wpMix (P : Program) (ops : Array Oper) (C : World → Prop) (E : Nat → Bool) (Q : Act → World → Prop) : Nat → List Oper → Act → World → Prop
  | _, [], a, w => Q a w
  | k, o :: l, a, w => mStep P ops C (E k) o (wpMix P ops C E Q (k + 1) l) a w

/-- Nothing but number L may come up. -/
def Only (md : Region.Mode) (ops : Array Oper) (L : Nat) (listed : Array Bool) : Prop := ∀ j ∈ Region.ready md ops listed, j = L
/-- Whatever order is picked, until nothing but number L may come up. -/
def wpAnyM (P : Program) (md : Region.Mode) (ops : Array Oper) (C : World → Prop) (E : Nat → Bool) (Q : Act → World → Prop) (L : Nat) : Nat → Array Bool → Act → World → Prop
  | 0, listed, a, w => Only md ops L listed ∧ Q a w
  | fuel + 1, listed, a, w => (Only md ops L listed → Q a w) ∧ ∀ i ∈ Region.ready md ops listed, i ≠ L → mOp P ops C E i (wpAnyM P md ops C E Q L fuel (listed.setIfInBounds i true)) a w

theorem wpOp_of_mOp {i : Nat} {a : Act} {w : World} {K K' : Act → World → Prop} {Q' : Exit → Act → World → Prop} (hC : C w) (h : ∀ a w, C w → K a w → K' a w) (hh : mOp P ops C E i K a w) : wpOp P ops Q' i K' a w := by
  unfold mOp at hh
  unfold wpOp
  split
  · rename_i ho; simp only [ho] at hh; exact h _ _ hC hh
  · rename_i o ho
    simp only [ho] at hh
    unfold mStep at hh
    split
    · rename_i hw
      rw [if_pos hw] at hh
      refine .inl ?_
      unfold Oper.wp
      cases hE : E i with
      | true =>
        rw [hE] at hh
        simp only [if_true] at hh
        unfold eff at hh
        generalize (execOp a.eval o).run P w = r at hh
        cases r with
        | ok n w' =>
          cases n <;> simp only [effUpon] at hh <;> simp only [Oper.upon]
          case value u => exact h _ _ hh.1 hh.2
          case skip => exact h _ _ hh.1 hh.2
          case enter f args => exact hh.mono fun e w'' ⟨v, he, hv⟩ => by subst he; exact h _ _ hv.1 hv.2
        | halt x w' => simp only [effUpon] at hh
      | false =>
        rw [hE] at hh
        simp only [Bool.false_eq_true, if_false] at hh
        obtain ⟨v, h1, h2⟩ := hh
        rw [h1 w hC, Oper.upon_value]
        exact h _ _ hC h2
    · rename_i hw
      rw [if_neg hw] at hh
      exact h _ _ hC hh
theorem wpOp_mono' {Q' : Exit → Act → World → Prop} {i : Nat} {K K' : Act → World → Prop} {a : Act} {w : World} (h : ∀ a w, K a w → K' a w) (hh : wpOp P ops Q' i K a w) : wpOp P ops Q' i K' a w := by
  unfold wpOp at *
  split
  · rename_i ho; simp only [ho] at hh; exact h _ _ hh
  · rename_i o ho
    simp only [ho] at hh
    split
    · rename_i hw
      rw [if_pos hw] at hh
      exact hh.imp (fun h' => Oper.wp_mono h h') id
    · rename_i hw
      rw [if_neg hw] at hh
      exact h _ _ hh
theorem mOp_mono {i : Nat} {K K' : Act → World → Prop} {a : Act} {w : World} (hC : C w) (h : ∀ a w, C w → K a w → K' a w) (hs : mOp P ops C E i K a w) : mOp P ops C E i K' a w := by
  unfold mOp at *
  split
  · rename_i ho; simp only [ho] at hs; exact h _ _ hC hs
  · rename_i o ho; simp only [ho] at hs; exact mStep_mono hC h hs

/-- In state a the operation yields v in every world of the class, and touches nothing; or it is passed over. -/
def Yields (P : Program) (ops : Array Oper) (C : World → Prop) (o : Oper) (v : Value) (a : Act) : Prop :=
  (Region.wanted o (yielded ops a.tmps) = true ∧ ∀ w, C w → (execOp a.eval o).run P w = .ok (.value v) w) ∨ (Region.wanted o (yielded ops a.tmps) = false ∧ v = undef)
theorem Yields.of_same {o : Oper} {v : Value} {a a' : Act} (hy : Yields P ops C o v a) (he : execOp a'.eval o = execOp a.eval o)
    (hw : Region.wanted o (yielded ops a'.tmps) = Region.wanted o (yielded ops a.tmps)) : Yields P ops C o v a' := by
  unfold Yields at *
  rw [he, hw]
  exact hy
theorem mOp_put {j : Nat} {oi oj : Oper} {v : Value} (hj : ops[j]? = some oj) (hap : oi.apart ops oj = true) (hsi : ∀ cs b, oi.op ≠ .select cs b) (hsj : ∀ cs b, oj.op ≠ .select cs b)
    {K : Act → World → Prop} {a : Act} {w : World} (hy : Yields P ops C oi v a) (h : mOp P ops C E j K (a.put oi.dst v) w) :
    mOp P ops C E j (fun a' w' => Yields P ops C oi v a' ∧ K (a'.put oi.dst v) w') a w := by
  obtain ⟨h1, h2, h3⟩ := Oper.apart_spec hap
  have keep : ∀ u, Yields P ops C oi v (a.put oj.dst u) := fun u => hy.of_same (execOp_put oi hsi a oj.dst u h3) (wanted_put oi a oj.dst u h3)
  unfold mOp at *
  simp only [hj] at *
  unfold mStep at *
  rw [wanted_put oj a oi.dst v h1] at h
  split
  · rename_i hw
    rw [if_pos hw] at h
    cases hE : E j with
    | true =>
      rw [hE] at h
      simp only [if_true] at h ⊢
      unfold eff at h
      rw [execOp_put oj hsj a oi.dst v h1] at h
      exact eff_mono (fun u w' hu => ⟨hu.1, keep u, by rw [← Act.put_comm a v u h2]; exact hu.2⟩) h
    | false =>
      rw [hE] at h
      simp only [Bool.false_eq_true, if_false] at h ⊢
      obtain ⟨u, hu, hn⟩ := h
      exact ⟨u, fun w' hw' => by have := hu w' hw'; rwa [execOp_put oj hsj a oi.dst v h1] at this, keep u, by rw [← Act.put_comm a v u h2]; exact hn⟩
  · rename_i hw
    rw [if_neg hw] at h
    exact ⟨keep _, by rw [← Act.put_comm a v undef h2]; exact h⟩
theorem Yields.mOp {i : Nat} {o : Oper} {v : Value} {a : Act} {w : World} (hi : ops[i]? = some o) (hE : Region.wanted o (yielded ops a.tmps) = true → E i = false) (hC : C w) (hy : Yields P ops C o v a) {K : Act → World → Prop} (h : K (a.put o.dst v) w) : mOp P ops C E i K a w := by
  unfold Mix.mOp
  simp only [hi]
  unfold mStep
  rcases hy with ⟨hw, hv⟩ | ⟨hw, rfl⟩
  · rw [if_pos hw, hE hw]; exact ⟨v, hv, h⟩
  · rw [if_neg (by rw [hw]; exact Bool.false_ne_true)]; exact h

/-- An operation that yields one value may be taken first. -/
theorem first_pure {i : Nat} {oi : Oper} {v : Value} (hiL : i ≠ L) (hi : ops[i]? = some oi) (hsel : ∀ (j : Nat) (o : Oper) cs b, ops[j]? = some o → o.op ≠ .select cs b) :
    ∀ (fuel : Nat) (listed : Array Bool) (a : Act) (w : World), C w → (Region.wanted oi (yielded ops a.tmps) = true → E i = false) →
      (∀ j oj, ops[j]? = some oj → j ≠ i → listed.getD j true = false → (∀ e ∈ oj.after, Region.binds md e = true → e.on ≠ i) → oi.apart ops oj = true) →
      i ∈ Region.ready md ops listed → Yields P ops C oi v a →
      wpAnyM P md ops C E Q L fuel (listed.setIfInBounds i true) (a.put oi.dst v) w → wpAnyM P md ops C E Q L (fuel + 1) listed a w := by
  intro fuel
  induction fuel with
  | zero =>
    intro listed a w hC hE _ hr hy H
    refine ⟨fun h => absurd (h i hr) hiL, fun j hj hjL => ?_⟩
    by_cases hji : j = i
    · subst hji; exact hy.mOp hi hE hC H
    · exact absurd (H.1 j (ready_mono hj hji)) hjL
  | succ fuel ih =>
    intro listed a w hC hE hfree hr hy H
    refine ⟨fun h => absurd (h i hr) hiL, fun j hj hjL => ?_⟩
    by_cases hji : j = i
    · subst hji; exact hy.mOp hi hE hC H
    · have h1 := H.2 j (ready_mono hj hji) hjL
      obtain ⟨hjun, oj, hoj, hall⟩ := mem_ready.1 hj
      have hnot : ∀ e ∈ oj.after, Region.binds md e = true → e.on ≠ i := fun e he hb heq => by
        have h1 := hall e he hb
        have h0 := (mem_ready.1 hr).1
        rw [heq] at h1
        rcases Nat.lt_or_ge i listed.size with h' | h'
        · simp [h'] at h0 h1; rw [h0] at h1; cases h1
        · simp [Array.getElem?_eq_none h'] at h1
      have hap := hfree j oj hoj hji hjun hnot
      have h2 := mOp_put hoj hap (fun cs b => hsel i oi cs b hi) (fun cs b => hsel j oj cs b hoj) hy h1
      have hfree' : ∀ k ok, ops[k]? = some ok → k ≠ i → (listed.setIfInBounds j true).getD k true = false →
          (∀ e ∈ ok.after, Region.binds md e = true → e.on ≠ i) → oi.apart ops ok = true := fun k ok hk hki hun hno => by
        refine hfree k ok hk hki ?_ hno
        by_cases hjk : j = k
        · subst hjk; exact hjun
        · rw [getD_set_ne true hjk] at hun; exact hun
      refine mOp_mono hC (K := fun a' w' => (Region.wanted oi (yielded ops a'.tmps) = true → E i = false) ∧ Yields P ops C oi v a' ∧ wpAnyM P md ops C E Q L fuel ((listed.setIfInBounds i true).setIfInBounds j true) (a'.put oi.dst v) w')
        (fun a' w' hw' h3 => ih (listed.setIfInBounds j true) a' w' hw' h3.1 hfree' (ready_mono hr (Ne.symm hji)) h3.2.1 ?_) ?_
      · rw [Array.setIfInBounds_comm _ _ hji]
        exact h3.2.2
      · have hwp : ∀ u, Region.wanted oi (yielded ops (a.put oj.dst u).tmps) = Region.wanted oi (yielded ops a.tmps) := fun u => wanted_put oi a oj.dst u (Oper.apart_spec hap).2.2
        unfold Mix.mOp at h2 ⊢
        simp only [hoj] at h2 ⊢
        unfold mStep at h2 ⊢
        split
        · rename_i hw
          rw [if_pos hw] at h2
          cases hEj : E j with
          | true =>
            rw [hEj] at h2
            simp only [if_true] at h2 ⊢
            exact eff_mono (fun u w' hu => ⟨hu.1, by rw [hwp]; exact hE, hu.2⟩) h2
          | false =>
            rw [hEj] at h2
            simp only [Bool.false_eq_true, if_false] at h2 ⊢
            obtain ⟨u, hu, hn⟩ := h2
            exact ⟨u, hu, by rw [hwp]; exact hE, hn⟩
        · rename_i hw
          rw [if_neg hw] at h2
          exact ⟨by rw [hwp]; exact hE, h2⟩

/-! ### what waits -/
def waitB (md : Region.Mode) (ops : Array Oper) (k : Nat) : Nat → Nat → Bool
  | 0, _ => false
  | f + 1, j => match ops[j]? with
    | some o => o.after.any fun e => Region.binds md e && (e.on == k || waitB md ops k f e.on)
    | none => false
def Closed (md : Region.Mode) (ops : Array Oper) (listed : Array Bool) : Prop := ∀ m o, ops[m]? = some o → listed.getD m false = true → ∀ e ∈ o.after, Region.binds md e = true → listed.getD e.on false = true
theorem getD_false {listed : Array Bool} {k : Nat} (h : listed.getD k true = false) : ¬ listed.getD k false = true := by
  intro h'
  rcases Nat.lt_or_ge k listed.size with hk | hk
  · simp [hk] at h h'; rw [h] at h'; cases h'
  · simp [Array.getElem?_eq_none hk] at h'
theorem waits_step' {k : Nat} {listed : Array Bool} (hc : Closed md ops listed) (hk : ¬ listed.getD k false = true) : ∀ (f j : Nat) (o : Oper), ops[j]? = some o → waitB md ops k f j = true → ¬ ∀ e ∈ o.after, Region.binds md e = true → listed.getD e.on false = true
  | 0, _, _, _, h => by simp [waitB] at h
  | f + 1, j, o, ho, h => by
    intro hall
    unfold waitB at h
    simp only [ho] at h
    obtain ⟨e, he, hb⟩ := Array.any_eq_true'.1 h
    rw [Bool.and_eq_true, Bool.or_eq_true] at hb
    have hl := hall e he hb.1
    rcases hb.2 with h1 | h1
    · rw [beq_iff_eq] at h1
      rw [h1] at hl
      exact hk hl
    · cases f with
      | zero => simp [waitB] at h1
      | succ f =>
        cases hm : ops[e.on]? with
        | none => unfold waitB at h1; simp [hm] at h1
        | some om => exact waits_step' hc hk (f + 1) e.on om hm h1 (hc e.on om hm hl)
/-- While k is not done, j cannot be taken. -/
def Waits (md : Region.Mode) (ops : Array Oper) (k j : Nat) : Prop := ∀ listed : Array Bool, Closed md ops listed → ¬ listed.getD k false = true → ∀ o, ops[j]? = some o → ¬ ∀ e ∈ o.after, Region.binds md e = true → listed.getD e.on false = true
theorem waits_ready {k j : Nat} {listed : Array Bool} (hc : Closed md ops listed) (hk : listed.getD k true = false) (hw : Waits md ops k j) : j ∉ Region.ready md ops listed := by
  intro hr
  obtain ⟨_, o, ho, hall⟩ := mem_ready.1 hr
  exact hw listed hc (getD_false hk) o ho hall
theorem Closed.set {listed : Array Bool} (hc : Closed md ops listed) {i : Nat} (hr : i ∈ Region.ready md ops listed) : Closed md ops (listed.setIfInBounds i true) := by
  obtain ⟨_, oi, hoi, hall⟩ := mem_ready.1 hr
  intro m o ho hm e he hb
  by_cases h : i = m
  · subst h
    rw [hoi] at ho
    injection ho with ho
    subst ho
    exact getD_set_true (hall e he hb)
  · rw [getD_set_ne false h] at hm
    exact getD_set_true (hc m o ho hm e he hb)

/-- An operation that touches memory may be taken first, if whatever else touches memory waits for it. -/
theorem first_eff {k : Nat} {ok : Oper} (hkL : k ≠ L) (hk : ops[k]? = some ok) (hEk : E k = true) (hsel : ∀ (j : Nat) (o : Oper) cs b, ops[j]? = some o → o.op ≠ .select cs b) :
    ∀ (fuel : Nat) (listed : Array Bool) (a : Act) (w : World), C w → Region.wanted ok (yielded ops a.tmps) = true → Closed md ops listed →
      (∀ j, j ≠ k → listed.getD j true = false → E j = true → Waits md ops k j) →
      (∀ j oj, ops[j]? = some oj → j ≠ k → listed.getD j true = false → (∀ e ∈ oj.after, Region.binds md e = true → e.on ≠ k) → ok.apart ops oj = true) →
      k ∈ Region.ready md ops listed → eff P ok a w (fun v w' => C w' ∧ wpAnyM P md ops C E Q L fuel (listed.setIfInBounds k true) (a.put ok.dst v) w') →
      wpAnyM P md ops C E Q L (fuel + 1) listed a w := by
  intro fuel
  induction fuel with
  | zero =>
    intro listed a w hC hw hcl hE hfree hr H
    refine ⟨fun h => absurd (h k hr) hkL, fun j hj hjL => ?_⟩
    by_cases hji : j = k
    · subst hji
      unfold Mix.mOp
      simp only [hk]
      unfold mStep
      rw [if_pos hw, hEk]
      exact H
    · obtain ⟨v, w', _, h⟩ := eff_out H
      exact absurd (h.1 j (ready_mono hj hji)) hjL
  | succ fuel ih =>
    intro listed a w hC hw hcl hE hfree hr H
    refine ⟨fun h => absurd (h k hr) hkL, fun j hj hjL => ?_⟩
    by_cases hji : j = k
    · subst hji
      unfold Mix.mOp
      simp only [hk]
      unfold mStep
      rw [if_pos hw, hEk]
      exact H
    · obtain ⟨hjun, oj, hoj, hall⟩ := mem_ready.1 hj
      have hkun := (mem_ready.1 hr).1
      have hEj : E j = false := by
        cases he : E j with
        | false => rfl
        | true => exact absurd hj (waits_ready hcl hkun (hE j hji hjun he))
      have hnot : ∀ e ∈ oj.after, Region.binds md e = true → e.on ≠ k := fun e he hb heq => by
        have h1 := hall e he hb
        rw [heq] at h1
        exact getD_false hkun h1
      obtain ⟨h1, h2, h3⟩ := Oper.apart_spec (hfree j oj hoj hji hjun hnot)
      have hE' : ∀ i, i ≠ k → (listed.setIfInBounds j true).getD i true = false → E i = true → Waits md ops k i := fun i hik hun he => by
        refine hE i hik ?_ he
        by_cases hjk : j = i
        · subst hjk; exact hjun
        · rw [getD_set_ne true hjk] at hun; exact hun
      have hfree' : ∀ i oi, ops[i]? = some oi → i ≠ k → (listed.setIfInBounds j true).getD i true = false →
          (∀ e ∈ oi.after, Region.binds md e = true → e.on ≠ k) → ok.apart ops oi = true := fun i oi hi hki hun hno => by
        refine hfree i oi hi hki ?_ hno
        by_cases hjk : j = i
        · subst hjk; exact hjun
        · rw [getD_set_ne true hjk] at hun; exact hun
      have hw' : ∀ u, Region.wanted ok (yielded ops (a.put oj.dst u).tmps) = true := fun u => by rw [wanted_put ok a oj.dst u h3]; exact hw
      have heff : ∀ u, (execOp (a.put oj.dst u).eval ok) = execOp a.eval ok := fun u => execOp_put ok (fun cs b => hsel k ok cs b hk) a oj.dst u h3
      have hwj : ∀ v, Region.wanted oj (yielded ops (a.put ok.dst v).tmps) = Region.wanted oj (yielded ops a.tmps) := fun v => wanted_put oj a ok.dst v h1
      have hxj : ∀ v, execOp (a.put ok.dst v).eval oj = execOp a.eval oj := fun v => execOp_put oj (fun cs b => hsel j oj cs b hoj) a ok.dst v h1
      have next : ∀ u, (∀ v w', C w' → wpAnyM P md ops C E Q L (fuel + 1) (listed.setIfInBounds k true) (a.put ok.dst v) w' → wpAnyM P md ops C E Q L fuel ((listed.setIfInBounds k true).setIfInBounds j true) ((a.put ok.dst v).put oj.dst u) w') →
          wpAnyM P md ops C E Q L (fuel + 1) (listed.setIfInBounds j true) (a.put oj.dst u) w := fun u hu => by
        refine ih (listed.setIfInBounds j true) (a.put oj.dst u) w hC (hw' u) (hcl.set hj) hE' hfree' (ready_mono hr (Ne.symm hji)) ?_
        unfold eff
        rw [heff u]
        refine eff_mono (fun v w' hv => ⟨hv.1, ?_⟩) H
        have := hu v w' hv.1 hv.2
        rw [Array.setIfInBounds_comm _ _ hji, ← Act.put_comm a v u h2]
        exact this
      obtain ⟨v0, w0, hC0, h0⟩ := eff_out H
      have hj0 := h0.2 j (ready_mono hj hji) hjL
      unfold Mix.mOp at hj0 ⊢
      simp only [hoj] at hj0 ⊢
      unfold mStep at hj0 ⊢
      rw [hwj v0] at hj0
      split
      · rename_i hwt
        rw [if_pos hwt, hEj] at hj0
        simp only [Bool.false_eq_true, if_false] at hj0
        obtain ⟨u, hu, _⟩ := hj0
        rw [hxj v0] at hu
        rw [hEj]
        simp only [Bool.false_eq_true, if_false]
        refine ⟨u, hu, next u fun v w' hC' hv => ?_⟩
        have hj1 := hv.2 j (ready_mono hj hji) hjL
        unfold Mix.mOp at hj1
        simp only [hoj] at hj1
        unfold mStep at hj1
        rw [hwj v, if_pos hwt, hEj] at hj1
        simp only [Bool.false_eq_true, if_false] at hj1
        obtain ⟨u', hu', hn⟩ := hj1
        rw [hxj v] at hu'
        have e1 := hu w' hC'
        rw [hu' w' hC'] at e1
        injection e1 with e1
        injection e1 with e1
        rw [← e1]
        exact hn
      · rename_i hwt
        refine next undef fun v w' hC' hv => ?_
        have hj1 := hv.2 j (ready_mono hj hji) hjL
        unfold Mix.mOp at hj1
        simp only [hoj] at hj1
        unfold mStep at hj1
        rw [hwj v, if_neg hwt] at hj1
        exact hj1

/-- Of two operations that touch memory the later one waits for the earlier one. -/
def effOk (md : Region.Mode) (ops : Array Oper) (F : Nat) : List Nat → Bool
  | k :: j :: r => Nat.blt k j && waitB md ops k F j && (ops[j]?).isSome && effOk md ops F (j :: r)
  | _ => true
theorem effOk_head {F : Nat} : ∀ (r : List Nat) (k : Nat), effOk md ops F (k :: r) = true → ∀ j ∈ r, k < j ∧ Waits md ops k j
  | [], _, _ => fun _ hj => absurd hj (by simp)
  | m :: r, k, h => by
    simp only [effOk, Bool.and_eq_true] at h
    obtain ⟨⟨⟨h1, h2⟩, h3⟩, h4⟩ := h
    have hk : k < m := Nat.le_of_ble_eq_true h1
    obtain ⟨om, hom⟩ := Option.isSome_iff_exists.1 h3
    have hw : Waits md ops k m := fun listed hc hu o ho => waits_step' hc hu F m o ho h2
    intro j hj
    rcases List.mem_cons.1 hj with rfl | hj
    · exact ⟨hk, hw⟩
    · obtain ⟨h5, h6⟩ := effOk_head r m h4 j hj
      refine ⟨by omega, fun listed hc hu => h6 listed hc fun hm => ?_⟩
      exact hw listed hc hu om hom (hc m om hom hm)
theorem effOk_tail {F : Nat} {k : Nat} {r : List Nat} (h : effOk md ops F (k :: r) = true) : effOk md ops F r = true := by
  cases r with
  | nil => rfl
  | cons m r => simp only [effOk, Bool.and_eq_true] at h; exact h.2
theorem effOk_spec {F : Nat} : ∀ (el : List Nat), effOk md ops F el = true → ∀ k ∈ el, ∀ j ∈ el, j ≤ k ∨ Waits md ops k j
  | [], _, _, hk => absurd hk (by simp)
  | m :: r, h, k, hk => by
    intro j hj
    rcases List.mem_cons.1 hk with rfl | hk'
    · rcases List.mem_cons.1 hj with rfl | hj'
      · exact .inl (Nat.le_refl _)
      · exact .inr (effOk_head r k h j hj').2
    · rcases List.mem_cons.1 hj with rfl | hj'
      · exact .inl (Nat.le_of_lt (effOk_head r j h k hk').1)
      · exact effOk_spec r (effOk_tail h) k hk' j hj'

/-- Every other operation is waited for by number L. -/
def LastWaits (md : Region.Mode) (ops : Array Oper) (L : Nat) : Prop := ∀ i, i ≠ L → i < ops.size → Waits md ops i L
theorem mix_lex {el : List Nat} {F : Nat} (hs : Region.noSelect ops = true) (hF : effOk md ops F el = true) (hEl : ∀ i, E i = true → i ∈ el) (hT : ∀ j o, ops[j]? = some o → L ≤ j → j = L) (m : Nat) :
    ∀ (l : List Oper) (k : Nat) (listed : Array Bool) (a : Act) (w : World), C w → (∀ j, j < l.length → l[j]? = ops[k + j]?) → k + l.length = L →
    Closed md ops listed → (∀ j, listed.getD j true = false → k ≤ j) → Region.lexFrom md ops (l.length + m) k listed = true → wpMix P ops C E Q k l a w → wpAnyM P md ops C E Q L l.length listed a w
  | [], k, _, _, _, _, _, hL, _, hpre, hB, h => ⟨fun j hj => by
      obtain ⟨h1, o, ho, _⟩ := mem_ready.1 hj
      exact hT j o ho (by have := hpre j h1; simp only [List.length_nil] at hL; omega), h⟩
  | o :: l, k, listed, a, w, hC, hl, hL, hcl, hpre, hB, h => by
    have h0 : ops[k]? = some o := by simpa using (hl 0 (by simp)).symm
    simp only [List.length_cons] at hL
    rw [List.length_cons, Nat.add_right_comm] at hB
    simp only [Region.lexFrom, Bool.and_eq_true] at hB
    obtain ⟨⟨hr, hf⟩, hB'⟩ := hB
    have hr' : k ∈ Region.ready md ops listed := by simpa using hr
    have hkL : k ≠ L := by omega
    have hl' : ∀ j, j < l.length → l[j]? = ops[k + 1 + j]? := fun j hj => by have := hl (j + 1) (by simp only [List.length_cons]; omega); simpa [Nat.add_assoc, Nat.add_comm 1 j] using this
    have hpre' : ∀ j, (listed.setIfInBounds k true).getD j true = false → k + 1 ≤ j := fun j hj => by
      by_cases hkj : k = j
      · subst hkj
        rcases Nat.lt_or_ge k listed.size with h' | h'
        · simp [h'] at hj
        · simp [Array.getElem?_eq_none, h'] at hj
      · rw [getD_set_ne true hkj] at hj
        have := hpre j hj
        omega
    have ih := fun a' w' hC' h' => mix_lex hs hF hEl hT m l (k + 1) (listed.setIfInBounds k true) a' w' hC' hl' (by omega) (hcl.set hr') hpre' hB' h'
    unfold wpMix mStep at h
    by_cases hw : Region.wanted o (yielded ops a.tmps) = true
    · rw [if_pos hw] at h
      cases hE : E k with
      | true =>
        rw [hE] at h
        simp only [if_true] at h
        refine first_eff hkL h0 hE (Region.noSelect_spec hs) l.length listed a w hC hw hcl ?_ (Region.free_spec h0 hf) hr' (eff_mono (fun v w' hv => ⟨hv.1, ih _ _ hv.1 hv.2⟩) h)
        intro j hjk hun hj
        rcases effOk_spec el hF k (hEl k hE) j (hEl j hj) with h2 | h2
        · have := hpre j hun
          omega
        · exact h2
      | false =>
        rw [hE] at h
        simp only [Bool.false_eq_true, if_false] at h
        obtain ⟨v, hv, hn⟩ := h
        exact first_pure hkL h0 (Region.noSelect_spec hs) l.length listed a w hC (fun _ => hE) (Region.free_spec h0 hf) hr' (.inl ⟨hw, hv⟩) (ih _ _ hC hn)
    · rw [if_neg hw] at h
      exact first_pure hkL h0 (Region.noSelect_spec hs) l.length listed a w hC (fun h' => absurd h' hw) (Region.free_spec h0 hf) hr' (.inr ⟨by simpa using hw, rfl⟩) (ih _ _ hC h)


theorem lex_ready : ∀ (n k : Nat) (listed : Array Bool), Region.lexFrom md ops n k listed = true → ∀ j, k ≤ j → j < k + n → ∃ o, ops[j]? = some o ∧ ∀ e ∈ o.after, Region.binds md e = true → e.on < j ∨ listed.getD e.on false = true
  | 0, k, _, _ => fun j h1 h2 => by omega
  | n + 1, k, listed, h => by
    simp only [Region.lexFrom, Bool.and_eq_true] at h
    obtain ⟨⟨hr, _⟩, hB⟩ := h
    intro j h1 h2
    by_cases hj : j = k
    · subst hj
      obtain ⟨_, o, ho, ha⟩ := mem_ready.1 (show j ∈ Region.ready md ops listed by simpa using hr)
      exact ⟨o, ho, fun e he hb => .inr (ha e he hb)⟩
    · obtain ⟨o, ho, ha⟩ := lex_ready n (k + 1) _ hB j (by omega) (by omega)
      refine ⟨o, ho, fun e he hb => ?_⟩
      rcases ha e he hb with h3 | h3
      · exact .inl h3
      · by_cases hk : k = e.on
        · exact .inl (by omega)
        · rw [getD_set_ne false hk] at h3
          exact .inr h3
/-- Of what is not done the first may come up. -/
theorem some_ready (hB : Region.lexFrom md ops ops.size 0 (Array.replicate ops.size false) = true) (listed : Array Bool) (hsz : listed.size = ops.size) : ∀ j, listed.getD j true = false → ∃ i, i ≤ j ∧ i ∈ Region.ready md ops listed := by
  intro j
  induction j using Nat.strongRecOn with
  | _ j ih =>
    intro hj
    have hlt : j < ops.size := by
      rcases Nat.lt_or_ge j listed.size with h | h
      · omega
      · simp [Array.getElem?_eq_none h] at hj
    by_cases hall : ∀ i, i < j → listed.getD i true = true
    · obtain ⟨o, ho, ha⟩ := lex_ready _ _ _ hB j (Nat.zero_le _) (by omega)
      refine ⟨j, Nat.le_refl _, mem_ready.2 ⟨hj, o, ho, fun e he hb => ?_⟩⟩
      rcases ha e he hb with h | h
      · have h1 := hall e.on h
        have h2 : e.on < listed.size := by omega
        simp [h2] at h1 ⊢
        exact h1
      · simp [Array.getElem?_replicate] at h
        split at h <;> simp at h
    · obtain ⟨i, hi⟩ := Classical.not_forall.1 hall
      obtain ⟨hij, hi⟩ := Classical.not_imp.1 hi
      obtain ⟨i', h1, h2⟩ := ih i hij (by simpa using hi)
      exact ⟨i', by omega, h2⟩

/-- One operation stands apart, the last: all others are waited for by it. -/
theorem wpAny_of_M_last {Q' : Exit → Act → World → Prop} (hL : L + 1 = ops.size) (hB : Region.lexFrom md ops ops.size 0 (Array.replicate ops.size false) = true) (hW : LastWaits md ops L)
    (hQ : ∀ a w, C w → Q a w → wpOp P ops Q' L (fun a' w' => Q' .normal a' w') a w) : ∀ (fuel : Nat) (listed : Array Bool) (a : Act) (w : World), C w → listed.size = ops.size → listed.getD L true = false → Closed md ops listed → wpAnyM P md ops C E Q L fuel listed a w → wpAny P md ops Q' (fuel + 1) listed a w := by
  have none_left : ∀ listed : Array Bool, Only md ops L listed → listed.size = ops.size → Closed md ops listed → listed.getD L true = false → Region.ready md ops (listed.setIfInBounds L true) = [] := fun listed h hsz hcl hun => by
    cases hr : Region.ready md ops (listed.setIfInBounds L true) with
    | nil => rfl
    | cons j r =>
      have hj : j ∈ Region.ready md ops (listed.setIfInBounds L true) := by rw [hr]; simp
      obtain ⟨h1, o, ho, _⟩ := mem_ready.1 hj
      have hjs := (Array.getElem?_eq_some_iff.1 ho).1
      by_cases hjL : j = L
      · subst hjL
        simp [show j < listed.size by omega] at h1
      · rw [getD_set_ne true (fun h => hjL h.symm)] at h1
        obtain ⟨i, hij, hi⟩ := some_ready hB listed hsz j h1
        have := h i hi
        omega
  have fin : ∀ (fuel : Nat) (listed : Array Bool) (a : Act) (w : World), C w → listed.size = ops.size → listed.getD L true = false → Closed md ops listed → Only md ops L listed → Q a w → wpAny P md ops Q' (fuel + 1) listed a w := by
    intro fuel listed a w hw hsz hun hcl ho h
    have hne : Region.ready md ops listed ≠ [] := fun h0 => by
      obtain ⟨i, _, hi⟩ := some_ready hB listed hsz L hun
      rw [h0] at hi
      cases hi
    refine ⟨fun h0 => absurd h0 hne, fun i hi => ?_⟩
    obtain rfl := ho i hi
    have hr := none_left listed ho hsz hcl hun
    have h2 := hQ a w hw h
    have h3 : (fun (a' : Act) (w' : World) => Q' .normal a' w') = fun a' w' => Q' .normal a' w' := rfl
    refine wpOp_mono' (fun a' w' h' => ?_) h2
    cases fuel with
    | zero => exact ⟨hr, h'⟩
    | succ n => exact ⟨fun _ => h', fun j hj => by rw [hr] at hj; cases hj⟩
  intro fuel
  induction fuel with
  | zero => exact fun listed a w hw hsz hun hcl h => fin 0 listed a w hw hsz hun hcl h.1 h.2
  | succ fuel ih =>
    intro listed a w hw hsz hun hcl h
    by_cases ho : Only md ops L listed
    · exact fin _ listed a w hw hsz hun hcl ho (h.1 ho)
    · obtain ⟨j, hj⟩ := Classical.not_forall.1 ho
      obtain ⟨hj, hjL⟩ := Classical.not_imp.1 hj
      obtain ⟨hj1, oj, hoj, _⟩ := mem_ready.1 hj
      have hLr : L ∉ Region.ready md ops listed := waits_ready hcl hj1 (hW j hjL (Array.getElem?_eq_some_iff.1 hoj).1)
      refine ⟨fun h0 => (by rw [h0] at hj; cases hj), fun i hi => ?_⟩
      have hiL : i ≠ L := fun e => hLr (e ▸ hi)
      exact wpOp_of_mOp hw (fun a' w' hw' h' => ih _ a' w' hw' (by simpa using hsz) (by rw [getD_set_ne true hiL]; exact hun) (hcl.set hi) h') (h.2 i hi hiL)

theorem closed_none (n : Nat) : Closed md ops (Array.replicate n false) := fun m o ho hm => by
  simp [Array.getElem?_replicate] at hm; split at hm <;> simp at hm
/-- All others are waited for by the last. -/
def lastOk (md : Region.Mode) (ops : Array Oper) (F L : Nat) : Bool := (List.range L).all fun i => waitB md ops i F L
/-- THE SAME, where the last operation alone turns what the others read: it is walked by itself. -/
theorem wp_region_mix_last {id : Nat} {Q' : Exit → Act → World → Prop} {a : Act} {w : World} {l : List Oper} {last : Oper} (el : List Nat) (F : Nat) (hm : P.follows .mixedOrders = true) (hB : Region.lexB .any (l ++ [last]).toArray = true)
    (hF : effOk .any (l ++ [last]).toArray F el = true) (hO : lastOk .any (l ++ [last]).toArray F l.length = true) (hC : C w.drew)
    (h : wpMix P (l ++ [last]).toArray C (fun i => el.contains i) (fun a w => C w → wpList P (l ++ [last]).toArray Q' [last] a w) 0 l a w.drew) : (Code.region id (l ++ [last]).toArray true).wp P Q' a w := by
  simp only [Region.lexB, Bool.and_eq_true] at hB
  have hsz : (l ++ [last]).toArray.size = l.length + 1 := by simp
  have hlast : (l ++ [last]).toArray[l.length]? = some last := by simp
  refine wp_region_any hm ?_
  rw [hsz]
  refine wpAny_of_M_last (C := C) (E := fun i => el.contains i) (Q := fun a w => C w → wpList P (l ++ [last]).toArray Q' [last] a w) (L := l.length) (by simp) (by simpa using hB.2) ?_ ?_ l.length _ _ _ hC (by simp) ?_ (closed_none _) ?_
  · intro i hi his
    have h1 : i < l.length := by rw [hsz] at his; omega
    have h2 := List.all_eq_true.1 hO i (List.mem_range.2 h1)
    exact fun listed hc hu o ho => waits_step' hc hu F l.length o ho h2
  · intro a' w' hw' h'
    have := h' hw'
    unfold wpOp
    rw [hlast]
    exact this
  · simp [Array.getElem?_replicate]
  · have := mix_lex (P := P) (C := C) (E := fun i => el.contains i) (Q := fun a w => C w → wpList P (l ++ [last]).toArray Q' [last] a w) (L := l.length) hB.1 hF (fun i hi => by simpa using hi)
      (fun j o ho hj => by have := (Array.getElem?_eq_some_iff.1 ho).1; rw [hsz] at this; omega) 1 l 0 (Array.replicate (l.length + 1) false) a w.drew hC
      (fun j hj => by simp [List.getElem?_append_left hj]) (by simp) (closed_none _) (fun j _ => Nat.zero_le j) (by simpa using hB.2) h
    exact this
theorem wp_region_mix_last' {id : Nat} {Q' : Exit → Act → World → Prop} {a : Act} {w : World} {l : List Oper} {last : Oper} (n : Nat) (hl : l = l.take n ++ [last]) (el : List Nat) (F : Nat) (hm : P.follows .mixedOrders = true) (hB : Region.lexB .any l.toArray = true)
    (hF : effOk .any l.toArray F el = true) (hO : lastOk .any l.toArray F (l.take n).length = true) (hC : C w.drew)
    (h : wpMix P l.toArray C (fun i => el.contains i) (fun a w => C w → wpList P l.toArray Q' [last] a w) 0 (l.take n) a w.drew) : (Code.region id l.toArray true).wp P Q' a w := by
  generalize l.take n = f at hl hO h
  subst hl
  exact wp_region_mix_last el F hm hB hF hO hC h
theorem mix_nil {k : Nat} {a : Act} {w : World} (h : Q a w) : wpMix P ops C E Q k [] a w := h
/-- One operation that yields one value in every world of the class. -/
theorem mix_pure {k : Nat} {o : Oper} {l : List Oper} {a : Act} {w : World} (hb : E k = false)
    (h : ∀ K : Act → World → Prop, (∀ a w, wpMix P ops C E Q (k + 1) l a w → K a w) →
      if Region.wanted o (yielded ops a.tmps) then ∃ v, (∀ w', C w' → (execOp a.eval o).run P w' = .ok (.value v) w') ∧ K (a.put o.dst v) w else K (a.put o.dst undef) w) : wpMix P ops C E Q k (o :: l) a w := by
  have := h (wpMix P ops C E Q (k + 1) l) (fun _ _ h => h)
  unfold wpMix mStep
  rw [hb]
  simpa using this
/-- One operation that touches memory. -/
theorem mix_eff {k : Nat} {o : Oper} {l : List Oper} {a : Act} {w : World} (hb : E k = true)
    (h : ∀ K : Act → World → Prop, (∀ a w, wpMix P ops C E Q (k + 1) l a w → K a w) →
      if Region.wanted o (yielded ops a.tmps) then effUpon P (fun v w' => C w' ∧ K (a.put o.dst v) w') ((execOp a.eval o).run P w) else K (a.put o.dst undef) w) : wpMix P ops C E Q k (o :: l) a w := by
  have := h (wpMix P ops C E Q (k + 1) l) (fun _ _ h => h)
  unfold wpMix mStep
  rw [hb]
  simpa [eff] using this
theorem effUpon_value (R : Value → World → Prop) (u : Value) (w : World) : effUpon P R (.ok (.value u) w) = R u w := rfl
theorem effUpon_enter (R : Value → World → Prop) (f : FuncId) (args : Array Value) (w : World) : effUpon P R (.ok (.enter f args) w) = Calls P f args w (fun e w'' => ∃ v, e = .returned v ∧ R v w'') := rfl
end
/-- The worlds in which all that lay in W lies unturned. -/
def Ext (W : World) : Type := { w' : World // Below W.heap.size W w' }
instance (W : World) : Nonempty (Ext W) := ⟨⟨W, Below.refl _ W⟩⟩
def Ext.w {W : World} (x : Ext W) : World := x.1
/-- The worlds in which one block lies as it lay in W. -/
def Has (W : World) (b : Nat) : Type := { w' : World // w'.heap[b]? = W.heap[b]? }
instance (W : World) (b : Nat) : Nonempty (Has W b) := ⟨⟨W, rfl⟩⟩
end Go.Mix
end
section
/- The reference's Normal. -/
set_option linter.unusedVariables false
set_option linter.unusedSimpArgs false
namespace Go.Proofs.YtogidacejbjljaaGreatDoor.PTextChecks
open Go.RowKit Go.Mix Go.Proofs.YtogidacejbjljaaGreatDoorW.PrintWords Go.Proofs.YtogidacejbjljaaGreatDoorW.PrintLast Go.Proofs.YtogidacejbjljaaGreatDoorW.PrintMore
end Go.Proofs.YtogidacejbjljaaGreatDoor.PTextChecks
end
section
/- Rows that a call owns and that begin anywhere in their block: append onto them, slices of them; and what keeps a block of one type when blocks of other types are written. -/
set_option linter.unusedVariables false
set_option linter.unusedSimpArgs false
namespace Go.Own
/-- The slice value v, of n elements, holds the cells xs, in a block of the element's type from base on. -/
def Lies (w : World) (base : Nat) (e : TypeId) (size : Nat) (v : Value) (n : Nat) (xs : List Value) : Prop :=
  xs.length = n * size ∧
  ((v = .slice none 0 0 ∧ n = 0) ∨
   ∃ g off cap cur, v = .slice (some ⟨g, off, none⟩) n cap ∧ base ≤ g ∧ w.heap[g]? = some (.cells cur e (0, 0)) ∧ n ≤ cap ∧ cap ≤ maxLen ∧ off + cap * size ≤ cur.size ∧ (cur.toList.drop off).take (n * size) = xs)
theorem Lies.of_owns {w : World} {base : Nat} {e : TypeId} {size : Nat} {v : Value} {n : Nat} {xs : List Value} (h : w.ownsRow base e size v n xs) : Lies w base e size v n xs := by
  refine ⟨h.1, ?_⟩
  rcases h.2 with hn | ⟨g, cap, cur, hv, hb, hg, h1, h2, h3, h4⟩
  · exact .inl hn
  · exact .inr ⟨g, 0, cap, cur, hv, hb, hg, h1, h2, by omega, by simpa using h4⟩
theorem Lies.nil (w : World) (base : Nat) (e : TypeId) (size : Nat) : Lies w base e size (.slice none 0 0) 0 [] := ⟨by simp, .inl ⟨rfl, rfl⟩⟩
section
variable {w : World} {base : Nat} {e : TypeId} {size : Nat} {v : Value} {n : Nat} {xs : List Value}
theorem Lies.lt (h : Lies w base e size v n xs) : ∀ k, v.ownBlock = some k → base ≤ k ∧ k < w.heap.size ∧ ∃ cur, w.heap[k]? = some (.cells cur e (0, 0)) := by
  intro k hk
  rcases h.2 with ⟨rfl, _⟩ | ⟨g, off, cap, cur, rfl, hb, hg, _⟩
  · simp [Value.ownBlock] at hk
  · simp [Value.ownBlock] at hk
    subst hk
    exact ⟨hb, (Array.getElem?_eq_some_iff.1 hg).1, cur, hg⟩
theorem Lies.keep {w' : World} (h : Lies w base e size v n xs) (hk : ∀ k, base ≤ k → v.ownBlock = some k → w'.heap[k]? = w.heap[k]?) : Lies w' base e size v n xs := by
  refine ⟨h.1, ?_⟩
  rcases h.2 with hn | ⟨g, off, cap, cur, rfl, hb, hg, rest⟩
  · exact .inl hn
  · exact .inr ⟨g, off, cap, cur, rfl, hb, (hk g hb rfl).trans hg, rest⟩
theorem Lies.mono {base' : Nat} (h : Lies w base e size v n xs) (hb : base' ≤ base) : Lies w base' e size v n xs := by
  refine ⟨h.1, ?_⟩
  rcases h.2 with hn | ⟨g, off, cap, cur, rfl, hg, rest⟩
  · exact .inl hn
  · exact .inr ⟨g, off, cap, cur, rfl, by omega, rest⟩
/-- The cells of the row. -/
theorem Lies.cell (h : Lies w base e size v n xs) (hn : 0 < n) : ∃ a c, v = .slice (some a) n c ∧ n ≤ c ∧ (∀ j u, xs[j]? = some u → w.cell? (a.add j) = some u) := by
  rcases h.2 with ⟨_, h0⟩ | ⟨g, off, cap, cur, rfl, hb, hg, hnc, hcm, hcs, ht⟩
  · omega
  · refine ⟨_, cap, rfl, hnc, fun j u hu => ?_⟩
    have hadd : (⟨g, off, none⟩ : Addr).add j = ⟨g, off + j, none⟩ := by unfold Addr.add; split <;> simp_all
    rw [hadd]
    rw [← ht, List.getElem?_take] at hu
    split at hu
    · rw [List.getElem?_drop] at hu
      simpa [World.cell?, hg] using hu
    · cases hu
theorem Lies.form (h : Lies w base e size v n xs) : ∃ A c, v = .slice A n c ∧ n ≤ c := by
  rcases h.2 with ⟨rfl, rfl⟩ | ⟨g, off, cap, cur, rfl, hb, hg, hnc, _⟩
  · exact ⟨none, 0, rfl, Nat.le_refl _⟩
  · exact ⟨_, cap, rfl, hnc⟩
end
theorem setCell_far (w : World) {g i k : Nat} (v : Value) (hk : k ≠ g) : (w.setCell ⟨g, i, none⟩ v).heap[k]? = w.heap[k]? := by
  simp only [World.setCell]
  rw [Array.getElem?_modify, if_neg (fun h => hk h.symm)]
theorem setCells_far {g : Nat} : ∀ (vs : List Value) (o : Nat) (w : World), (w.setCells g o vs).heap.size = w.heap.size ∧ ∀ k, k ≠ g → (w.setCells g o vs).heap[k]? = w.heap[k]?
  | [], _, _ => ⟨rfl, fun _ _ => rfl⟩
  | v :: r, o, w => by
    obtain ⟨h1, h2⟩ := setCells_far (g := g) r (o + 1) (w.setCell ⟨g, o, none⟩ v)
    unfold World.setCells
    exact ⟨h1.trans (by simp [World.setCell]), fun k hk => (h2 k hk).trans (setCell_far _ _ hk)⟩
theorem setCells_same {g : Nat} : ∀ (vs : List Value) (o : Nat) (w : World), (w.setCells g o vs).os = w.os ∧ (w.setCells g o vs).tape = w.tape ∧ (w.setCells g o vs).output = w.output
  | [], _, _ => ⟨rfl, rfl, rfl⟩
  | v :: r, o, w => setCells_same (g := g) r (o + 1) (w.setCell ⟨g, o, none⟩ v)
theorem set1 {w : World} {g i : Nat} {cs : Array Value} {t : TypeId} {v : Value} (hg : w.heap[g]? = some (.cells cs t (0, 0))) : (w.setCell ⟨g, i, none⟩ v).heap[g]? = some (.cells (cs.setIfInBounds i v) t (0, 0)) := by
  have hlt : g < w.heap.size := (Array.getElem?_eq_some_iff.1 hg).1
  simp only [World.setCell]
  simp [Array.getElem?_modify, hg]
theorem setCells_blk {g : Nat} {e : TypeId} : ∀ (vs : List Value) (o : Nat) (w : World) (cur : Array Value), w.heap[g]? = some (.cells cur e (0, 0)) → o + vs.length ≤ cur.size →
    ∃ cur', (w.setCells g o vs).heap[g]? = some (.cells cur' e (0, 0)) ∧ cur'.size = cur.size ∧ ∀ j, cur'[j]? = if o ≤ j ∧ j < o + vs.length then vs[j - o]? else cur[j]?
  | [], o, w, cur, hg, h => ⟨cur, hg, rfl, fun j => by rw [if_neg (by simp)]⟩
  | v :: r, o, w, cur, hg, h => by
    simp only [List.length_cons] at h
    obtain ⟨cur', h1, h2, h3⟩ := setCells_blk r (o + 1) (w.setCell ⟨g, o, none⟩ v) (cur.setIfInBounds o v) (set1 hg) (by simp; omega)
    refine ⟨cur', h1, by rw [h2]; simp, fun j => ?_⟩
    rw [h3 j, Array.getElem?_setIfInBounds]
    by_cases hj : j = o
    · subst hj
      rw [if_neg (by omega), if_pos rfl, if_pos (by omega), if_pos (by simp)]
      simp
    · by_cases h4 : o + 1 ≤ j ∧ j < o + 1 + r.length
      · rw [if_pos h4, if_pos (by simp only [List.length_cons]; omega)]
        obtain ⟨t, rfl⟩ : ∃ t, j = o + 1 + t := ⟨j - (o + 1), by omega⟩
        rw [show o + 1 + t - (o + 1) = t by omega, show o + 1 + t - o = t + 1 by omega]
        rfl
      · rw [if_neg h4, if_neg (fun h => hj h.symm), if_neg (by simp only [List.length_cons]; omega)]
section
variable {P : Program} (w : World)
/-- append, onto a row that begins anywhere. -/
theorem run_append (base : Nat) (t ty e : TypeId) (i : TypeInfo) (z : Value) (size bytes : Nat) (ht : P.underlying t = some (.slice e)) (hi : P.info? e = some i) (hz : i.zero = some z)
    (hsize : i.size = size) (hby : i.bytes = bytes) (hzs : z.cells.size = size) (hsz : 0 < size)
    (v : Value) (n : Nat) (xs : List Value) (hown : Lies w base e size v n xs)
    (a : Addr) (m c : Nat) (news : List Value) (hl : news.length = m * size) (hnews : ∀ j u, news[j]? = some u → w.cell? (a.add j) = some u) (h1 : ∀ u ∈ news, u.oneCell' = true)
    (h63 : n + m ≤ maxLen) (hbytes : (n + m) * bytes ≤ 140737488355328) (hbase : base ≤ w.heap.size) (hm : 0 < m) :
    ∃ v' w', (Builtin.append_ #[t, t] ty #[v, .slice (some a) m c]).run P w = .ok v' w' ∧ Lies w' base e size v' (n + m) (xs ++ news) ∧ w.grownBy w' v.ownBlock := by
  rcases hown.2 with ⟨rfl, rfl⟩ | ⟨g, off, cap, cur, rfl, hbg, hg, hnc, hcm, hcs, htake⟩
  · have ho : w.ownsRow base e size (.slice none 0 0) 0 xs := ⟨hown.1, .inl ⟨rfl, rfl⟩⟩
    obtain ⟨v', w', hr, h2, h3, _⟩ := run_append_own (P := P) w base t ty e i z size bytes ht hi hz hsize hby hzs hsz _ _ _ ho a m c news hl hnews h1 h63 hbytes hbase
    exact ⟨v', w', hr, Lies.of_owns h2, h3⟩
  · have hlen : (xs ++ news).length = (n + m) * size := by rw [List.length_append, hown.1, hl, Nat.add_mul]
    have hx : ∀ j, j < n * size → cur[off + j]? = xs[j]? := fun j hj => by
      rw [← htake, List.getElem?_take, if_pos hj, List.getElem?_drop]; simp
    by_cases hroom : n + m ≤ cap
    · have hmul : (n + m) * size ≤ cap * size := Nat.mul_le_mul_right _ hroom
      rw [Nat.add_mul] at hmul
      have hfit : off + n * size + news.length ≤ cur.size := by rw [hl]; omega
      have hr := run_append_room_cells (P := P) w t ty e i ht hi g off n cap a m c news (by rw [hsize]; exact hl) hnews h1 hroom
        (fun j hj => by rw [hsize]; simp only [World.cell?, hg]; simp only [Option.isSome_iff_exists]; exact ⟨cur[off + n * size + j]'(by omega), by simp [Array.getElem?_eq_getElem (show off + n * size + j < cur.size by omega)]⟩)
        (fun j hj => by simp [World.frozen?, hg])
      rw [hsize] at hr
      obtain ⟨cur', k1, k2, k3⟩ := setCells_blk news (off + n * size) w cur hg hfit
      obtain ⟨f1, f2⟩ := setCells_far (g := g) news (off + n * size) w
      refine ⟨_, _, hr, ⟨hlen, .inr ⟨g, off, cap, cur', rfl, hbg, k1, hroom, hcm, by omega, ?_⟩⟩, ?_⟩
      · apply List.ext_getElem?
        intro j
        rw [List.getElem?_take]
        by_cases hj : j < (n + m) * size
        · rw [if_pos hj, List.getElem?_drop]
          rw [Nat.add_mul] at hj
          simp only [Array.getElem?_toList]
          rw [k3]
          by_cases hjn : j < n * size
          · rw [if_neg (by omega), List.getElem?_append_left (by rw [hown.1]; exact hjn)]
            exact hx j hjn
          · rw [if_pos (by rw [hl]; omega), List.getElem?_append_right (by rw [hown.1]; omega), hown.1]
            congr 1
            omega
        · rw [if_neg hj, List.getElem?_eq_none (by rw [hlen]; omega)]
      · obtain ⟨g1, g2, g3⟩ := setCells_same (g := g) news (off + n * size) w
        exact ⟨g1, g2, g3, by omega, fun k _ hk => f2 k (fun e => hk (by simp [Value.ownBlock, e]))⟩
    · have holds : ∀ j u, xs[j]? = some u → w.cell? ((⟨g, off, none⟩ : Addr).add j) = some u := by
        intro j u hu
        have hj := (List.getElem?_eq_some_iff.1 hu).1
        rw [hown.1] at hj
        have hadd : (⟨g, off, none⟩ : Addr).add j = ⟨g, off + j, none⟩ := by unfold Addr.add; split <;> simp_all
        rw [hadd]
        simp only [World.cell?, hg, Option.isNone_none, if_true]
        simpa [hx j hj] using hu
      obtain ⟨v', w', hr, h2, h3⟩ := run_append_arg_grows (P := P) w t ty e i z size bytes ht hi hz hsize hby hzs hsz ⟨g, off, none⟩ n cap xs hown.1 holds a m c news hl hnews (by omega) h63 hbytes
      exact ⟨v', w', hr, (Lies.of_owns h2).mono hbase, h3.1, h3.2, h3.3, h3.4, fun k hk _ => h3.5 k hk (by simp)⟩
end
open Go.Mix
section
variable {P : Program} {ops : Array Oper} {C : World → Prop} {E : Nat → Bool} {Q : Act → World → Prop}
/-- append in a region that draws its order. -/
theorem mix_append {k : Nat} {o : Oper} {l : List Oper} {a : Act} {w : World} (hb : E k = true) (hgd : o.guard = none) (s x : Operand) (t : TypeId)
    (ho : o.op = .call { callee := .builtin .append, args := #[s, x], argTypes := #[t, t] })
    (base : Nat) (e : TypeId) (i : TypeInfo) (z : Value) (size bytes : Nat) (ht : P.underlying t = some (.slice e)) (hi : P.info? e = some i) (hz : i.zero = some z)
    (hsize : i.size = size) (hby : i.bytes = bytes) (hzs : z.cells.size = size) (hsz : 0 < size)
    (v : Value) (n : Nat) (xs : List Value) (hs : a.eval s = v) (hown : Lies w base e size v n xs)
    (ad : Addr) (m c : Nat) (news : List Value) (hx : a.eval x = .slice (some ad) m c) (hl : news.length = m * size) (hnews : ∀ j u, news[j]? = some u → w.cell? (ad.add j) = some u) (h1 : ∀ u ∈ news, u.oneCell' = true)
    (h63 : n + m ≤ maxLen) (hbytes : (n + m) * bytes ≤ 140737488355328) (hbase : base ≤ w.heap.size) (hm : 0 < m)
    (h : ∀ v' w', Lies w' base e size v' (n + m) (xs ++ news) → w.grownBy w' v.ownBlock → C w' ∧ wpMix P ops C E Q (k + 1) l (a.put o.dst v') w') : wpMix P ops C E Q k (o :: l) a w := by
  obtain ⟨v', w', hr, h2, h3⟩ := run_append (P := P) w base t o.type e i z size bytes ht hi hz hsize hby hzs hsz v n xs hown ad m c news hl hnews h1 h63 hbytes hbase hm
  refine mix_eff hb (fun K hK => ?_)
  have hrun : (execOp a.eval o).run P w = .ok (.value v') w' := by
    unfold execOp
    simp only [ho, resolve, invoke, builtin, Sem.run_bind, Sem.run_pure, Result.andThen_ok, List.map_toArray, List.map_cons, List.map_nil, hs, hx, hr]
  simp only [Region.wanted, hgd, if_true]
  rw [hrun, effUpon_value]
  exact ⟨(h v' w' h2 h3).1, hK _ _ (h v' w' h2 h3).2⟩
/-- append in a plain region. -/
theorem wpList_append_lies {rest : List Oper} {o : Oper} {a : Act} {Q : Exit → Act → World → Prop} {w : World} (hgd : o.guard = none) (s x : Operand) (t : TypeId)
    (ho : o.op = .call { callee := .builtin .append, args := #[s, x], argTypes := #[t, t] })
    (base : Nat) (e : TypeId) (i : TypeInfo) (z : Value) (size bytes : Nat) (ht : P.underlying t = some (.slice e)) (hi : P.info? e = some i) (hz : i.zero = some z)
    (hsize : i.size = size) (hby : i.bytes = bytes) (hzs : z.cells.size = size) (hsz : 0 < size)
    (v : Value) (n : Nat) (xs : List Value) (hs : a.eval s = v) (hown : Lies w base e size v n xs)
    (ad : Addr) (m c : Nat) (news : List Value) (hx : a.eval x = .slice (some ad) m c) (hl : news.length = m * size) (hnews : ∀ j u, news[j]? = some u → w.cell? (ad.add j) = some u) (h1 : ∀ u ∈ news, u.oneCell' = true)
    (h63 : n + m ≤ maxLen) (hbytes : (n + m) * bytes ≤ 140737488355328) (hbase : base ≤ w.heap.size) (hm : 0 < m)
    (h : ∀ v' w', Lies w' base e size v' (n + m) (xs ++ news) → w.grownBy w' v.ownBlock → wpList P ops Q rest (a.put o.dst v') w') : wpList P ops Q (o :: rest) a w := by
  obtain ⟨v', w', hr, h2, h3⟩ := run_append (P := P) w base t o.type e i z size bytes ht hi hz hsize hby hzs hsz v n xs hown ad m c news hl hnews h1 h63 hbytes hbase hm
  refine wpList_plain hgd fun _ hK => ?_
  unfold Oper.wp execOp
  simp only [ho, resolve, invoke, builtin, Sem.run_bind, Sem.run_pure, Result.andThen_ok, List.map_toArray, List.map_cons, List.map_nil, hs, hx, hr]
  exact hK _ _ (h v' w' h2 h3)
end
end Go.Own
end
section
/- text.makeLine: a line of letters. -/
set_option linter.unusedVariables false
set_option linter.unusedSimpArgs false
namespace Go.Proofs.YtogidacejbjljaaGreatDoor.PTextChecks
open Go.RowKit Go.Mix Go.Own Go.Proofs.YtogidacejbjljaaGreatDoorW.PrintWords Go.Proofs.YtogidacejbjljaaGreatDoorW.PrintLast Go.Proofs.YtogidacejbjljaaGreatDoorW.PrintMore
/-- Letters as a valid cue has them. -/
def Okl (l : List S81) : Prop := ∀ x ∈ l, (0 ≤ x.f0 ∧ x.f0 < 128) ∧ 0 ≤ x.f1.f3 ∧ x.f1.f3 ≤ 8
theorem utf8_fin : ∀ n : Fin 128, Utf8.encode (n.val : Int) = ⟨#[UInt8.ofNat n.val]⟩ := by decide +kernel
theorem utf8_chP (x : S81) (h : 0 ≤ x.f0 ∧ x.f0 < 128) : Utf8.encode x.f0 = (chP x).f0 := by
  have := utf8_fin ⟨x.f0.toNat, by omega⟩
  simp only [Int.toNat_of_nonneg h.1] at this
  exact this
theorem Okl.byt {l : List S81} (h : Okl l) : Byt l := fun x hx => by have := (h x hx).1; omega
theorem Okl.take {l : List S81} (h : Okl l) (n : Nat) : Okl (l.take n) := fun x hx => h x (List.mem_of_mem_take hx)
theorem Okl.drop {l : List S81} (h : Okl l) (n : Nat) : Okl (l.drop n) := fun x hx => h x (List.mem_of_mem_drop hx)
theorem topS_succ (l : List S81) (n : Nat) (h : n < l.length) : topS (l.take (n + 1)) = max (topS (l.take n)) (rd_T81 l (n : Int)).f1.f3 := by
  rw [List.take_succ_eq_append_getElem h, topS, List.foldl_append, show rd_T81 l (n : Int) = l[n] from by simp [rd_T81, List.getElem?_eq_getElem h]]
  rfl
theorem sumW_succ (l : List S81) (n : Nat) (h : n < l.length) : sumW (l.take (n + 1)) 0 = wrap64 (sumW (l.take n) 0 + wd (rd_T81 l (n : Int))) := by
  rw [List.take_succ_eq_append_getElem h, sumW, List.foldl_append, show rd_T81 l (n : Int) = l[n] from by simp [rd_T81, List.getElem?_eq_getElem h]]
  rfl
theorem topS_le {l : List S81} (h : Okl l) : 0 ≤ topS l ∧ topS l ≤ 8 := by
  have : ∀ (l : List S81) (m : Int), Okl l → 0 ≤ m → m ≤ 8 → 0 ≤ l.foldl (fun m x => max m x.f1.f3) m ∧ l.foldl (fun m x => max m x.f1.f3) m ≤ 8 := by
    intro l
    induction l with
    | nil => exact fun m _ h1 h2 => ⟨h1, h2⟩
    | cons x r ih =>
      intro m ho h1 h2
      have h3 := (ho x (List.mem_cons_self ..)).2
      exact ih (max m x.f1.f3) (fun y hy => ho y (List.mem_cons_of_mem _ hy)) (by omega) (by omega)
  exact this l 0 h (by omega) (by omega)
theorem wl_map (l : List S81) : wordsLen (l.map chP) = l.length := by
  induction l with
  | nil => rfl
  | cons x r ih => simp only [wordsLen, List.map_cons, List.sum_cons, List.length_cons] at ih ⊢; rw [ih]; have : (chP x).f0.size = 1 := rfl; omega
def highS (l : List S81) (sz : Int) : Int := if l.isEmpty then 4 * sz else heightS l
def MRel (l : List S81) (w : World) (h0 : Int) (n : Nat) (v : Value) (wr : World) : Prop :=
  wr.ownsRow (w.heap.size + 2) 42 6 v n (flat ((l.take n).map chP)) ∧ wr.heap[w.heap.size + 1]? = some (.cells #[v, .int .i64 (sumW (l.take n) 0), .int .i64 h0] 107 (0, 0)) ∧
    wr.heap[w.heap.size]? = some (.cells #[.slice none 0 0, .int .i64 0, .int .i64 0] 107 (0, 0)) ∧ Below w.heap.size w wr
theorem blk3 {W : World} {b : Nat} {v0 v1 v2 : Value} {t : TypeId} (h : W.heap[b]? = some (.cells #[v0, v1, v2] t (0, 0))) :
    (W.cell? ⟨b, 0, none⟩ = some v0 ∧ W.cell? ⟨b, 1, none⟩ = some v1 ∧ W.cell? ⟨b, 2, none⟩ = some v2) ∧ W.frozen? ⟨b, 0, none⟩ = false ∧ W.frozen? ⟨b, 1, none⟩ = false ∧ W.frozen? ⟨b, 2, none⟩ = false := by
  refine ⟨⟨?_, ?_, ?_⟩, ?_, ?_, ?_⟩ <;> simp [World.cell?, World.frozen?, h]
theorem Ext.atv {W : World} (x : Ext W) {a : Addr} {v : Value} (h : W.cell? a = some v) : x.w.cell? a = some v := cell_later x.2 h
theorem blk6 {W : World} {b : Nat} {v0 v1 v2 v3 v4 v5 : Value} {t : TypeId} (h : W.heap[b]? = some (.cells #[v0, v1, v2, v3, v4, v5] t (0, 0))) :
    W.cell? ⟨b, 0, none⟩ = some v0 ∧ W.cell? ⟨b, 1, none⟩ = some v1 ∧ W.cell? ⟨b, 2, none⟩ = some v2 ∧ W.cell? ⟨b, 3, none⟩ = some v3 ∧ W.cell? ⟨b, 4, none⟩ = some v4 ∧ W.cell? ⟨b, 5, none⟩ = some v5 := by
  refine ⟨?_, ?_, ?_, ?_, ?_, ?_⟩ <;> simp [World.cell?, h]
theorem newcell2 (W : World) (o : Obj) (cs : Array Value) (t i : Nat) (u : Value) (h : cs[i]? = some u) : ((W.alloc o).alloc (.cells cs t)).cell? ⟨W.heap.size + 1, i, none⟩ = some u := by
  rw [cell_of_row _ _ i cs t (0, 0) (two_new W o (.cells cs t)).2.1]
  exact h
set_option maxHeartbeats 4000000 in
set_option maxRecDepth 100000 in
theorem makeLine_calls (A : Option Addr) (cap : Nat) (l : List S81) (sz : Int) (w : World) (hr : Kd.C k81 w A l.length l) (hl : l.length ≤ 1000000) (hb : Okl l) (hsz : 0 ≤ sz ∧ sz ≤ 8) :
    Calls Tryz.prog 107 #[.slice A l.length cap, .int .i64 sz] w fun e w' => ∃ A' c', e = .returned (.agg #[.slice A' (piecesS l).length c', .int .i64 (sumW l 0), .int .i64 (highS l sz)]) ∧
      Kd.R k42 42 w' w.heap.size (fun _ => True) (.slice A' (piecesS l).length c') (piecesS l) ∧ Below w.heap.size w w' := by
  obtain ⟨i0, hi, hii⟩ := Option.map_eq_some_iff.1 infoPiece
  simp only [Prod.mk.injEq] at hii
  obtain ⟨hz0, hz1, hz2⟩ := hii
  have wrs : IntKind.i64.wrap (4 * sz) = 4 * sz := IntWalk.i64_in _ (by omega)
  go_enter Tryz.func107, Tryz.ntmps107
  go_wp2
  go_loopw [6, 14] (fun t i wr => ∃ (n : Nat) (v : Value), n ≤ l.length ∧ t = .int .i64 (topS (l.take n)) ∧ i = .int .i64 n ∧ MRel l w (4 * sz) n v wr) (fun _ i wr => l.length - (intOf i).toNat)
  case atStart =>
    refine ⟨0, .slice none 0 0, by omega, rfl, rfl, ⟨rfl, .inl ⟨rfl, rfl⟩⟩, (two_new w _ _).2.1, (two_new w _ _).1, ((Below.refl _ w).alloc (Nat.le_refl _) _).alloc (by simp) _⟩
  case round =>
    obtain ⟨n, v, hn, rfl, rfl, hown, hx1, hx0, hbw⟩ := hrel
    by_cases hlt : n < l.length
    · have hr3 := Kd.C_below hr hbw
      obtain ⟨ad, rfl, d0, d1, d2, d3, d4, d5⟩ := at_T81 hr3 (n : Int) (by omega) (by omega)
      obtain ⟨x, hx⟩ : ∃ x, rd_T81 l (n : Int) = x := ⟨_, rfl⟩
      rw [hx] at d0 d1 d2 d3 d4 d5
      have hxb := hb x (by rw [← hx]; exact rd81_mem l n hlt)
      have hmap : (l.take (n + 1)).map chP = (l.take n).map chP ++ [chP x] := by
        rw [List.take_succ_eq_append_getElem hlt, List.map_append, ← hx, show rd_T81 l (n : Int) = l[n] from by simp [rd_T81, List.getElem?_eq_getElem hlt]]; rfl
      have htop := topS_succ l n hlt
      have hsum := sumW_succ l n hlt
      rw [hx] at htop hsum
      have htb := topS_le (hb.take n)
      obtain ⟨A1, c1, rfl, hA1⟩ := (Lies.of_owns hown).form
      have hlt1 := hown.lt
      generalize topS (l.take n) = top at htop htb
      generalize sumW (l.take n) 0 = sum at hsum hx1
      obtain ⟨⟨x0, x1, x2⟩, y0, y1, y2⟩ := blk3 hx1
      have hutf := utf8_chP x hxb.1
      have cW := fun X => twide_calls x (by omega) X
      simp only [Int.toNat_natCast] at d0 d1 d2 d3 d4 d5
      have x0' := fun o => Lib.cell?_alloc_some o x0
      have x0'' := fun o o' => Lib.cell?_alloc_some o' (Lib.cell?_alloc_some o x0)
      have HM := Lib.hid hmap
      have HT := Lib.hid htop
      have HS := Lib.hid hsum
      have HO := Lib.hid hown
      have HX0 := Lib.hid hx0
      have HX1 := Lib.hid hx1
      clear hmap htop hsum hx hown hx0 hx1
      go_wp2_with (at_builtin; refine wpList_append_own _ rfl _ _ 23 rfl (w.heap.size + 2) 42 i0 _ 6 40 Tryz.underlying23 hi hz0 hz1 hz2 rfl (by decide) _ n _ rfl ((HO.out.alloc _).alloc _) ⟨wr.heap.size + 1, 0, none⟩ 1 1 (enc (chP x)) rfl ?qc1 ?qc2 ?qc3 ?qc4 ?qc5 ?qc6 ?_)
      case qc1 => rfl
      case qc2 => intro j u hj; rw [add0]; rcases enc_cases hj with ⟨rfl, rfl⟩ | ⟨rfl, rfl⟩ | ⟨rfl, rfl⟩ | ⟨rfl, rfl⟩ | ⟨rfl, rfl⟩ | ⟨rfl, rfl⟩ <;> exact newcell2 wr _ _ 42 _ _ rfl
      case qc3 => intro u hu; simp only [enc, List.mem_cons, List.mem_nil_iff, or_false] at hu; rcases hu with rfl | rfl | rfl | rfl | rfl | rfl <;> rfl
      case qc4 => unfold maxLen; omega
      case qc5 => omega
      case qc6 => have := hbw.size; have := (Array.getElem?_eq_some_iff.1 HX1.out).1; simp; omega
      intro v' W1 hown1 hgrow hnil
      obtain ⟨hc0, hp0, hs0⟩ := two_new wr (Obj.cells #[.int .u8 x.f0, .bool x.f1.f0, .bool x.f1.f1, .bool x.f1.f2, .int .i64 x.f1.f3, .int .i64 x.f1.f4] 151) (Obj.cells #[.string (chP x).f0, .bool x.f1.f0, .bool x.f1.f1, .bool x.f1.f2, .int .i64 x.f1.f3, .int .i64 x.f1.f4] 42)
      have hxs := (Array.getElem?_eq_some_iff.1 HX1.out).1
      have hkk : ∀ k, k < wr.heap.size → k < w.heap.size + 2 → W1.heap[k]? = wr.heap[k]? := fun k h1 h2 =>
        (hgrow.block k (by omega) (fun e => by have := (hlt1 k e.symm).1; omega)).trans ((((Below.refl wr.heap.size wr).alloc (Nat.le_refl _) _).alloc (by simp) _).block k h1)
      have g1 : W1.heap[w.heap.size + 1]? = _ := (hkk _ hxs (by omega)).trans HX1.out
      have g0 : W1.heap[w.heap.size]? = _ := (hkk _ (by omega) (by omega)).trans HX0.out
      have gc : W1.heap[wr.heap.size]? = _ := (hgrow.block wr.heap.size (by omega) (fun e => by have := (hlt1 _ e.symm).2; omega)).trans hc0
      have hb1 : Below w.heap.size w W1 := ((hbw.alloc (by have := hbw.size; omega) _).alloc (by have := hbw.size; simp; omega) _).grown hgrow (by have := hbw.size; simp; omega) (fun k hk => by have := (hlt1 k hk).1; omega)
      have gs := hgrow.size
      rw [hs0] at gs
      clear hgrow hnil hkk hc0 hp0 d0 d1 d2 d3 d4 d5 x0 x1 x2 y0 y1 y2 x0' x0''
      obtain ⟨⟨x0, x1, x2⟩, y0, y1, y2⟩ := blk3 g1
      obtain ⟨A2, c2, rfl, hA2⟩ := (Lies.of_owns hown1).form
      have HO1 := Lib.hid hown1
      have hlt2 := hown1.lt
      clear hown1
      have key : ∀ X, X = W1.setCell ⟨w.heap.size + 1, 0, none⟩ (.slice A2 (n + 1) c2) → X.heap[w.heap.size + 1]? = some (.cells #[.slice A2 (n + 1) c2, .int .i64 sum, .int .i64 (4 * sz)] 107 (0, 0)) ∧ X.heap[w.heap.size]? = W1.heap[w.heap.size]? ∧
          X.heap[wr.heap.size]? = W1.heap[wr.heap.size]? ∧ X.ownsRow (w.heap.size + 2) 42 6 (.slice A2 (n + 1) c2) (n + 1) (flat (List.take n (List.map chP l)) ++ enc (chP x)) ∧ Below w.heap.size w X ∧ X.heap.size = W1.heap.size := by
        rintro X rfl
        refine ⟨heap_set (i := 0) g1, setCell_far _ _ (by omega), setCell_far _ _ (by omega), ?_, hb1.setCell (p := ⟨w.heap.size + 1, 0, none⟩) (Nat.le_succ _) _, by simp [World.setCell]⟩
        exact HO1.out.kept (row := some (w.heap.size + 1)) ⟨rfl, rfl, rfl, by simp [World.setCell], fun k _ hk => setCell_far _ _ (fun e => hk (by rw [e]))⟩ (.inr fun e => by have := (hlt2 _ e).1; omega)
      go_wp2
      obtain ⟨q1, q0, qc, qo, qb, qz⟩ := key _ rfl
      rw [g0] at q0
      rw [gc] at qc
      generalize W1.setCell ⟨w.heap.size + 1, 0, none⟩ (.slice A2 (n + 1) c2) = W2 at q1 q0 qc qo qb qz
      clear key g1 g0 gc hb1 x0 x1 x2 y0 y1 y2 hlt1
      have e1 := fun z : Ext W2 => z.atv (blk3 q1).1.2.1
      obtain ⟨k0, k1, k2, k3, k4, k5⟩ := blk6 qc
      have f0 := fun z : Ext W2 => z.atv k0
      have f1 := fun z : Ext W2 => z.atv k1
      have f2 := fun z : Ext W2 => z.atv k2
      have f3 := fun z : Ext W2 => z.atv k3
      have f4 := fun z : Ext W2 => z.atv k4
      have f5 := fun z : Ext W2 => z.atv k5
      refine wp_region_mix_last' (C := fun w' => ∃ z : Ext W2, w' = z.w) 9 rfl [6] 2 (by kernel_rfl) (by kernel_rfl) (by kernel_rfl) (by kernel_rfl) ⟨⟨W2.drew, (Below.refl _ W2).drew⟩, rfl⟩ ?_
      refine mix_pure rfl (fun K hK => ?_)
      go_simp
      refine hK _ _ ?_
      clear hK K
      refine mix_pure rfl (fun K hK => ?_)
      go_simp
      refine hK _ _ ?_
      clear hK K
      refine mix_pure rfl (fun K hK => ?_)
      go_simp
      refine hK _ _ ?_
      clear hK K
      refine mix_pure rfl (fun K hK => ?_)
      go_simp
      refine hK _ _ ?_
      clear hK K
      refine mix_pure rfl (fun K hK => ?_)
      go_simp
      refine hK _ _ ?_
      clear hK K
      refine mix_pure rfl (fun K hK => ?_)
      go_simp
      refine hK _ _ ?_
      clear hK K
      refine mix_eff rfl (fun K hK => ?_)
      go_simp
      simp only [effUpon_enter]
      refine (cW _).mono ?_
      rintro e W3 ⟨rfl, hb3⟩
      refine ⟨_, rfl, ⟨⟨W3, (Below.refl _ W2).drew.trans hb3⟩, rfl⟩, hK _ _ ?_⟩
      clear hK K
      refine mix_pure rfl (fun K hK => ?_)
      go_simp
      refine hK _ _ ?_
      clear hK K
      refine mix_pure rfl (fun K hK => ?_)
      go_simp
      refine hK _ _ ?_
      clear hK K
      refine mix_nil ?_
      intro _
      have hb3' : Below W2.heap.size W2 W3 := (Below.refl _ W2).drew.trans hb3
      have p1 : W3.heap[w.heap.size + 1]? = _ := (hb3'.block _ (by omega)).trans q1
      have p0 : W3.heap[w.heap.size]? = _ := (hb3'.block _ (by omega)).trans q0
      have pc : W3.heap[wr.heap.size]? = _ := (hb3'.block _ (by omega)).trans qc
      have pb : Below w.heap.size w W3 := qb.trans (hb3'.mono (by have := qb.size; omega))
      have po : W3.ownsRow (w.heap.size + 2) 42 6 (.slice A2 (n + 1) c2) (n + 1) (flat (List.take n (List.map chP l)) ++ enc (chP x)) := qo.kept (row := none) ⟨hb3'.os, hb3'.tape, hb3'.output, hb3'.size, fun k hk _ => hb3'.block k hk⟩ (by cases hv : Value.ownBlock (.slice A2 (n + 1) c2) <;> simp)
      clear e1 f0 f1 f2 f3 f4 f5 k0 k1 k2 k3 k4 k5 hb3 q1 q0 qc qb qo qz
      obtain ⟨⟨x0, x1, x2⟩, y0, y1, y2⟩ := blk3 p1
      obtain ⟨k0, k1, k2, k3, k4, k5⟩ := blk6 pc
      have hne1 : ¬ wr.heap.size = w.heap.size + 1 := by omega
      have hne2 : ¬ w.heap.size + 1 = wr.heap.size := by omega
      obtain ⟨s1, hs1⟩ : ∃ s1, IntKind.i64.wrap (sum + wd x) = s1 := ⟨_, rfl⟩
      rw [hs1]
      go_wp2
      go_roundw
      case rel =>
        refine ⟨n + 1, .slice A2 (n + 1) c2, by omega, by rw [HT.out], by go_num, ?_, ?_, ?_, ?_⟩
        · refine World.ownsRow.kept (w := W3) (row := some (w.heap.size + 1)) ?_ ⟨rfl, rfl, rfl, by simp [World.setCell], fun k _ hk => setCell_far _ _ (fun e => hk (by rw [e]))⟩ (.inr fun e => by have := (hlt2 _ e).1; omega)
          rw [show flat (List.map chP (List.take (n + 1) l)) = flat (List.take n (List.map chP l)) ++ enc (chP x) from by rw [HM.out]; simp [flat, List.map_take]]
          exact po
        · rw [heap_set (i := 1) p1, HS.out, ← hs1, i64_w]
          rfl
        · exact (setCell_far _ _ (by omega)).trans p0
        · exact pb.setCell (p := ⟨w.heap.size + 1, 1, none⟩) (Nat.le_succ _) _
      case measure => simp [intOf]; omega
    · have hnl : n = l.length := by omega
      have hfin : ∃ A1 c1, v = .slice A1 ((l.map chP).length) c1 ∧ (l.map chP).length ≤ c1 ∧ Kd.C k42 wr A1 (l.map chP).length (l.map chP) := by
        rw [hnl, List.take_length] at hown
        have hlm : (l.map chP).length = l.length := List.length_map ..
        rcases hown.2 with ⟨rfl, h1⟩ | ⟨g, cap', cur, rfl, hg, hh, hle, hmx, hsz, htk⟩
        · have : l.map chP = [] := List.eq_nil_of_length_eq_zero (by omega)
          rw [this]
          exact ⟨none, 0, rfl, Nat.le_refl _, ⟨rfl, by simp, fun h => absurd h (by simp)⟩⟩
        · exact ⟨_, cap', by rw [hlm], by rw [hlm]; exact hle, (Lays.of_take (l := l.map chP) (by rw [hlm]; exact htk)).C hh (by omega)⟩
      obtain ⟨A1, c1, rfl, hle1, hC1⟩ := hfin
      have hbs : w.heap.size + 2 ≤ wr.heap.size := (Array.getElem?_eq_some_iff.1 hx1).1
      rw [hnl, List.take_length] at hx1
      obtain ⟨⟨x0, x1, x2⟩, y0, y1, y2⟩ := blk3 hx1
      have cJ := joined2 (.slice A1 (l.map chP).length c1) (l.map chP) wr ⟨A1, c1, rfl, hle1, hC1⟩ (by rw [List.length_map]; exact hl) (by rw [wl_map]; exact hl)
      have htb := topS_le hb
      generalize hlen : (l.map chP).length = ln at *
      obtain ⟨sum, hsum⟩ : ∃ s, sumW l 0 = s := ⟨_, rfl⟩
      have HSUM := Lib.hid hsum
      rw [hsum] at hx1 x1
      clear hsum
      rw [hnl, List.take_length]
      obtain ⟨top, htop⟩ : ∃ top, 4 * topS l = 4 * top ∧ topS l = top := ⟨_, rfl, rfl⟩
      have HTOP := Lib.hid htop.1
      rw [htop.2] at htb ⊢
      clear htop
      have w1s := (Array.getElem?_eq_some_iff.1 hx1).1
      have wrt : IntKind.i64.wrap (4 * top) = 4 * top := IntWalk.i64_in _ (by omega)
      have pj := pieces_map l
      have CALL : ∀ e W, (∃ A' c', e = Ending.returned (.slice A' (joinS (l.map chP)).length c') ∧ Kd.R k42 42 W wr.heap.size (fun _ => True) (.slice A' (joinS (l.map chP)).length c') (joinS (l.map chP)) ∧ Below wr.heap.size wr W) →
          ∃ A' c', e = Ending.returned (.slice A' (piecesS l).length c') ∧ Kd.R k42 42 W wr.heap.size (fun _ => True) (.slice A' (piecesS l).length c') (piecesS l) ∧
            W.heap[w.heap.size + 1]? = some (.cells #[.slice A1 ln c1, .int .i64 sum, .int .i64 (4 * sz)] 107 (0, 0)) ∧ W.heap[w.heap.size]? = some (.cells #[.slice none 0 0, .int .i64 0, .int .i64 0] 107 (0, 0)) ∧ Below w.heap.size w W := by
        rintro e W ⟨A', c', rfl, hR, hb3⟩
        rw [← pj] at hR ⊢
        exact ⟨A', c', rfl, hR, (hb3.block _ w1s).trans hx1, (hb3.block _ (by omega)).trans hx0, hbw.trans (hb3.mono hbw.size)⟩
      have hfin : ∀ (W : World) (A3 : Option Addr) (n3 c3 : Nat) (h0 : Int) (Y X : World), Kd.R k42 42 W wr.heap.size (fun _ => True) (.slice A3 n3 c3) (piecesS l) →
          W.heap[w.heap.size + 1]? = some (.cells #[.slice A1 ln c1, .int .i64 sum, .int .i64 (4 * sz)] 107 (0, 0)) → W.heap[w.heap.size]? = some (.cells #[.slice none 0 0, .int .i64 0, .int .i64 0] 107 (0, 0)) → Below w.heap.size w W →
          (Y = W.setCell ⟨w.heap.size + 1, 0, none⟩ (.slice A3 n3 c3) ∨ Y = (W.setCell ⟨w.heap.size + 1, 0, none⟩ (.slice A3 n3 c3)).setCell ⟨w.heap.size + 1, 2, none⟩ (.int .i64 h0)) →
          X = ((Y.setCell ⟨w.heap.size, 0, none⟩ (.slice A3 n3 c3)).setCell ⟨w.heap.size, 1, none⟩ (.int .i64 sum)).setCell ⟨w.heap.size, 2, none⟩ (.int .i64 h0) →
          X.heap[w.heap.size]? = some (.cells #[.slice A3 n3 c3, .int .i64 sum, .int .i64 h0] 107 (0, 0)) ∧ Kd.R k42 42 X w.heap.size (fun _ => True) (.slice A3 n3 c3) (piecesS l) ∧ Below w.heap.size w X := by
        intro W A3 n3 c3 h0 Y X hR g1 g0 gb hY hX
        have hk : ∀ k, k ≠ w.heap.size → k ≠ w.heap.size + 1 → X.heap[k]? = W.heap[k]? := fun k k1 k2 => by
          rw [hX, setCell_far _ _ k1, setCell_far _ _ k1, setCell_far _ _ k1]
          rcases hY with rfl | rfl
          · rw [setCell_far _ _ k2]
          · rw [setCell_far _ _ k2, setCell_far _ _ k2]
        have hy0 : Y.heap[w.heap.size]? = some (.cells #[.slice none 0 0, .int .i64 0, .int .i64 0] 107 (0, 0)) := by
          rcases hY with rfl | rfl
          · rw [setCell_far _ _ (by omega)]; exact g0
          · rw [setCell_far _ _ (by omega), setCell_far _ _ (by omega)]; exact g0
        refine ⟨?_, ?_, ?_⟩
        · rw [hX]
          exact heap_set (i := 2) (heap_set (i := 1) (heap_set (i := 0) hy0))
        · refine Kd.R_lower (Kd.R_mono (Kd.R_step (w1 := X) (Kd.R_bound hR) fun k hk1 _ => hk k ?_ ?_) (fun _ _ => trivial)) (Nat.le_trans (Nat.le_add_right _ 2) hbs)
          · have := hk1.2.1; omega
          · have := hk1.2.1; omega
        · have hb4 : Below w.heap.size w Y := by
            rcases hY with rfl | rfl
            · exact gb.setCell (p := ⟨w.heap.size + 1, 0, none⟩) (Nat.le_succ _) _
            · exact (gb.setCell (p := ⟨w.heap.size + 1, 0, none⟩) (Nat.le_succ _) _).setCell (p := ⟨w.heap.size + 1, 2, none⟩) (Nat.le_succ _) _
          rw [hX]
          exact ((hb4.setCell (p := ⟨w.heap.size, 0, none⟩) (Nat.le_refl _) _).setCell (p := ⟨w.heap.size, 1, none⟩) (Nat.le_refl _) _).setCell (p := ⟨w.heap.size, 2, none⟩) (Nat.le_refl _) _
      cases hem : decide (0 < l.length)
      case false =>
        have hem1 : decide ((0 : Int) < (l.length : Int)) = false := decide_eq_false (by have := of_decide_eq_false hem; omega)
        have hem2 : ¬ ((0 : Int) < (l.length : Int)) := of_decide_eq_false hem1
        have hem3 : l.length = 0 := by omega
        have hie : l.isEmpty = true := by rw [List.isEmpty_iff_length_eq_zero]; have := of_decide_eq_false hem; omega
        have HIE := Lib.hid hie
        have HF := Lib.hid hfin
        have HC := Lib.hid CALL
        clear hfin CALL hx1 hx0 hie pj
        go_wp2_with (go_at_call 71; refine cJ.mono ?_; intro e W hW; obtain ⟨A3, c3, rfl, hR3, g1, g0, gb⟩ := HC.out e W hW; obtain ⟨⟨j0, j1, j2⟩, i0', i1', i2'⟩ := blk3 g1; obtain ⟨⟨m0, m1, m2⟩, l0', l1', l2'⟩ := blk3 g0)
        obtain ⟨r1, r2, r3⟩ := HF.out W A3 _ c3 _ _ _ hR3 g1 g0 gb (.inl rfl) rfl
        refine bodyPost_ret (results_cell_row rfl _ _ w.heap.size 107 _ (0, 0) _ rfl r1 Tryz.underlying107 rfl (by kernel_rfl)) rfl ?_
        refine ⟨_, _, ?_, r2, r3⟩
        unfold highS
        rw [HIE.out, HSUM.out]
        rfl
      case true =>
        have hem1 : decide ((0 : Int) < (l.length : Int)) = true := decide_eq_true (by have := of_decide_eq_true hem; omega)
        have hem2 : (0 : Int) < (l.length : Int) := of_decide_eq_true hem1
        have hem3 : 0 < l.length := of_decide_eq_true hem
        have hie : l.isEmpty = false := by rw [Bool.eq_false_iff]; intro h; rw [List.isEmpty_iff_length_eq_zero] at h; have := of_decide_eq_true hem; omega
        have HIE := Lib.hid hie
        have HF := Lib.hid hfin
        have HC := Lib.hid CALL
        clear hfin CALL hx1 hx0 hie pj
        go_wp2_with (go_at_call 71; refine cJ.mono ?_; intro e W hW; obtain ⟨A3, c3, rfl, hR3, g1, g0, gb⟩ := HC.out e W hW; obtain ⟨⟨j0, j1, j2⟩, i0', i1', i2'⟩ := blk3 g1; obtain ⟨⟨m0, m1, m2⟩, l0', l1', l2'⟩ := blk3 g0)
        obtain ⟨r1, r2, r3⟩ := HF.out W A3 _ c3 _ _ _ hR3 g1 g0 gb (.inr rfl) rfl
        refine bodyPost_ret (results_cell_row rfl _ _ w.heap.size 107 _ (0, 0) _ rfl r1 Tryz.underlying107 rfl (by kernel_rfl)) rfl ?_
        refine ⟨_, _, ?_, r2, r3⟩
        unfold highS heightS
        rw [HIE.out, HTOP.out, HSUM.out]
        rfl
end Go.Proofs.YtogidacejbjljaaGreatDoor.PTextChecks
end
section
/- What keeps blocks by their types, and rows of lines of a cue. -/
set_option linter.unusedVariables false
set_option linter.unusedSimpArgs false
namespace Go.Own
open Go.RowKit
/-- Every block of w of a type that is not listed lies in w' as it lay. -/
def KB (ts : List TypeId) (w w' : World) : Prop := w.heap.size ≤ w'.heap.size ∧ ∀ (g : Nat) (cur : Array Value) (t : TypeId), t ∉ ts → w.heap[g]? = some (Obj.cells cur t (0, 0)) → w'.heap[g]? = some (Obj.cells cur t (0, 0))
theorem KB.refl (ts : List TypeId) (w : World) : KB ts w w := ⟨Nat.le_refl _, fun _ _ _ _ h => h⟩
theorem KB.trans {ts : List TypeId} {a b c : World} (h : KB ts a b) (k : KB ts b c) : KB ts a c := ⟨Nat.le_trans h.1 k.1, fun g cur t ht hg => k.2 g cur t ht (h.2 g cur t ht hg)⟩
theorem KB.mono {ts us : List TypeId} {a b : World} (h : KB ts a b) (hs : ∀ t ∈ ts, t ∈ us) : KB us a b := ⟨h.1, fun g cur t ht hg => h.2 g cur t (fun h' => ht (hs t h')) hg⟩
theorem KB.below {ts : List TypeId} {w w' : World} (h : Below w.heap.size w w') : KB ts w w' := ⟨h.size, fun g cur t _ hg => (h.block g (Array.getElem?_eq_some_iff.1 hg).1).trans hg⟩
theorem KB.set {ts : List TypeId} {w : World} {g i : Nat} {cs : Array Value} {t : TypeId} (hg : w.heap[g]? = some (Obj.cells cs t (0, 0))) (ht : t ∈ ts) (v : Value) : KB ts w (w.setCell ⟨g, i, none⟩ v) :=
  ⟨by simp [World.setCell], fun k cur u hu hk => by
    have hne : k ≠ g := fun e => by subst e; rw [hg] at hk; simp at hk; exact hu (hk.2 ▸ ht)
    exact (setCell_far _ _ hne).trans hk⟩
theorem KB.grown {ts : List TypeId} {w w' : World} {row : Option Nat} (h : w.grownBy w' row) (hr : ∀ k, row = some k → ∃ cs t, t ∈ ts ∧ w.heap[k]? = some (Obj.cells cs t (0, 0))) : KB ts w w' :=
  ⟨h.size, fun k cur u hu hk => by
    have hne : some k ≠ row := fun e => by
      obtain ⟨cs, t, ht, hc⟩ := hr k e.symm
      rw [hc] at hk
      simp at hk
      exact hu (hk.2 ▸ ht)
    exact (h.block k (Array.getElem?_eq_some_iff.1 hk).1 hne).trans hk⟩
theorem Lies.kb {ts : List TypeId} {w w' : World} {base : Nat} {e : TypeId} {size : Nat} {v : Value} {n : Nat} {xs : List Value} (h : Lies w base e size v n xs) (hk : KB ts w w') (he : e ∉ ts) : Lies w' base e size v n xs := by
  refine h.keep fun k _ hv => ?_
  obtain ⟨_, _, cur, hc⟩ := h.lt k hv
  exact (hk.2 k cur e he hc).trans hc.symm
/-- The first m elements. -/
theorem Lies.take {w : World} {base : Nat} {e : TypeId} {size : Nat} {A : Option Addr} {n c : Nat} {xs : List Value} (h : Lies w base e size (.slice A n c) n xs) {m : Nat} (hm : m ≤ n) : Lies w base e size (.slice A m c) m (xs.take (m * size)) := by
  have hmul : m * size ≤ n * size := Nat.mul_le_mul_right _ hm
  refine ⟨by rw [List.length_take, h.1]; omega, ?_⟩
  rcases h.2 with ⟨h1, h0⟩ | ⟨g, off, cap, cur, hv, hb, hg, hnc, hcm, hcs, ht⟩
  · injection h1 with h1 h2 h3
    subst h1 h3
    exact .inl ⟨by rw [show m = 0 by omega], by omega⟩
  · injection hv with h1 h2 h3
    subst h1 h3
    refine .inr ⟨g, off, c, cur, rfl, hb, hg, by omega, hcm, hcs, ?_⟩
    rw [← ht, List.take_take, Nat.min_eq_left hmul]
/-- All but the first m elements, as the machine tells it. -/
theorem Lies.drop {w : World} {base : Nat} {e : TypeId} {size : Nat} {A : Option Addr} {n c : Nat} {xs : List Value} (h : Lies w base e size (.slice A n c) n xs) {m : Nat} (hm : m ≤ n) : Lies w base e size (.slice (if c = m then A else A.map (·.add (m * size))) (n - m) (c - m)) (n - m) (xs.drop (m * size)) := by
  have hmul : m * size ≤ n * size := Nat.mul_le_mul_right _ hm
  refine ⟨by rw [List.length_drop, h.1, Nat.sub_mul], ?_⟩
  rcases h.2 with ⟨h1, h0⟩ | ⟨g, off, cap, cur, hv, hb, hg, hnc, hcm, hcs, ht⟩
  · injection h1 with h1 h2 h3
    subst h1 h3
    exact .inl ⟨by subst h0; simp, by omega⟩
  · injection hv with h1 h2 h3
    subst h1 h3
    by_cases hcm' : c = m
    · rw [if_pos hcm']
      refine .inr ⟨g, off, c - m, cur, rfl, hb, hg, by omega, by omega, by rw [hcm', Nat.sub_self]; omega, ?_⟩
      have : n - m = 0 := by omega
      rw [this, Nat.zero_mul, List.take_zero]
      have hnm : n = m := by omega
      exact (List.eq_nil_of_length_eq_zero (by rw [List.length_drop, h.1, hnm]; omega)).symm
    · rw [if_neg hcm']
      have hadd : (⟨g, off, none⟩ : Addr).add (m * size) = ⟨g, off + m * size, none⟩ := by unfold Addr.add; split <;> simp_all
      refine .inr ⟨g, off + m * size, c - m, cur, by simp [hadd], hb, hg, by omega, by omega, by rw [Nat.sub_mul]; have : m * size ≤ c * size := Nat.mul_le_mul_right _ (by omega); omega, ?_⟩
      rw [← ht, List.drop_take, List.drop_drop, Nat.sub_mul]
end Go.Own
namespace Go.Proofs.YtogidacejbjljaaGreatDoor.PTextChecks
open Go.RowKit Go.Mix Go.Own Go.Proofs.YtogidacejbjljaaGreatDoorW.PrintWords Go.Proofs.YtogidacejbjljaaGreatDoorW.PrintLast Go.Proofs.YtogidacejbjljaaGreatDoorW.PrintMore
def enc81 (x : S81) : List Value := [.int .u8 x.f0, .bool x.f1.f0, .bool x.f1.f1, .bool x.f1.f2, .int .i64 x.f1.f3, .int .i64 x.f1.f4]
def flat81 (l : List S81) : List Value := l.flatMap enc81
theorem flat81_get : ∀ (l : List S81) (k j : Nat) (p : S81), l[k]? = some p → j < 6 → (flat81 l)[k * 6 + j]? = (enc81 p)[j]?
  | [], _, _, _, h, _ => by simp at h
  | x :: l, 0, j, p, h, hj => by
    obtain rfl : x = p := by simpa using h
    rw [Nat.zero_mul, Nat.zero_add, flat81, List.flatMap_cons, List.getElem?_append_left (by simp [enc81]; omega)]
  | x :: l, k + 1, j, p, h, hj => by
    have := flat81_get l k j p (by simpa using h) hj
    rw [flat81, List.flatMap_cons, List.getElem?_append_right (by simp [enc81]; omega), ← this]
    simp only [enc81, List.length_cons, List.length_nil, flat81]
    congr 1
    omega
theorem flat81_take (l : List S81) (m : Nat) : (flat81 l).take (m * 6) = flat81 (l.take m) := by
  induction l generalizing m with
  | nil => simp [flat81]
  | cons x l ih =>
    cases m with
    | zero => simp [flat81]
    | succ m =>
      have h6 : (enc81 x).length = 6 := rfl
      have := ih m
      simp only [flat81, List.flatMap_cons, List.take_succ_cons] at this ⊢
      rw [List.take_append, h6, List.take_of_length_le (by rw [h6]; omega), ← this]
      congr 2
      omega
theorem flat81_drop (l : List S81) (m : Nat) : (flat81 l).drop (m * 6) = flat81 (l.drop m) := by
  induction l generalizing m with
  | nil => simp [flat81]
  | cons x l ih =>
    cases m with
    | zero => simp
    | succ m =>
      have h6 : (enc81 x).length = 6 := rfl
      have := ih m
      simp only [flat81, List.flatMap_cons, List.drop_succ_cons] at this ⊢
      rw [List.drop_append, h6, List.drop_of_length_le (by rw [h6]; omega), ← this, List.nil_append]
      congr 1
      omega
/-- A row of letters of the call's own is read as such. -/
theorem lies81 {w : World} {base : Nat} {e : TypeId} {v : Value} {l : List S81} (h : Lies w base e 6 v l.length (flat81 l)) (hl : l.length ≤ 9223372036854775807) : ∃ A c, v = .slice A l.length c ∧ l.length ≤ c ∧ Kd.C k81 w A l.length l := by
  obtain ⟨A, c, rfl, hle⟩ := h.form
  refine ⟨A, c, rfl, hle, rfl, by omega, fun hpos => ?_⟩
  obtain ⟨a, c', he, _, hc⟩ := h.cell hpos
  injection he with h1 h2 h3
  refine ⟨a, h1, fun j p hj => ⟨enc81 p, rfl, k81_mk w p, fun i u hu => ?_⟩⟩
  have hi : i < 6 := by have := (List.getElem?_eq_some_iff.1 hu).1; simpa [enc81] using this
  exact hc _ _ ((flat81_get l j i p hj hi).trans hu)
/-- A row of pieces, in a block of its own. -/
def In42 (w : World) (v : Value) (l : List S42) : Prop := Lies w 0 42 6 v l.length (flat l)
theorem In42.reads {w : World} {v : Value} {l : List S42} (h : In42 w v l) (hl : l.length ≤ 9223372036854775807) : ∃ A c, v = .slice A l.length c ∧ l.length ≤ c ∧ Kd.C k42 w A l.length l := by
  obtain ⟨A, c, rfl, hle⟩ := h.form
  refine ⟨A, c, rfl, hle, rfl, by omega, fun hpos => ?_⟩
  obtain ⟨a, c', he, _, hc⟩ := h.cell hpos
  injection he with h1 h2 h3
  refine ⟨a, h1, fun j p hj => ⟨enc p, rfl, k42_mk w p, fun i u hu => ?_⟩⟩
  have hi : i < 6 := by have := (List.getElem?_eq_some_iff.1 hu).1; simpa [enc] using this
  exact hc _ _ ((flat_get l j i p hj hi).trans hu)
theorem In42.kb' {w w' : World} {v : Value} {l : List S42} (h : In42 w v l) (hk : KB [107] w w') : In42 w' v l := h.kb hk (by decide)
theorem R_in42 {w : World} {base : Nat} {ok : Nat → Prop} {v : Value} {l : List S42} (h : Kd.R k42 42 w base ok v l) : In42 w v l := by
  obtain ⟨A, c, rfl, hle, hC⟩ := Kd.R_reads h
  obtain ⟨inner, ho⟩ := Kd.R_own h
  have hL := Lies.of_owns ho
  have : inner = flat l := by
    apply List.ext_getElem?
    intro j
    by_cases hj : j < l.length * 6
    · obtain ⟨q, r, hr, rfl⟩ : ∃ q r, r < 6 ∧ j = q * 6 + r := ⟨j / 6, j % 6, Nat.mod_lt _ (by omega), by omega⟩
      have hq : q < l.length := by omega
      obtain ⟨a, ha, hcs⟩ := hC.2.2 (by omega)
      obtain ⟨cs, hc6, hK, hcell⟩ := hcs q l[q] (List.getElem?_eq_getElem hq)
      obtain rfl := k42_open hK
      obtain ⟨a', c', he, _, hc⟩ := hL.cell (by omega)
      injection he with h1 h2 h3
      obtain rfl : a = a' := by rw [ha] at h1; injection h1
      have hlt : q * 6 + r < inner.length := by rw [ho.1]; exact hj
      have e1 := hc (q * 6 + r) _ (List.getElem?_eq_getElem hlt)
      have hr6 : r < (enc l[q]).length := hr
      have e2 := hcell r _ (List.getElem?_eq_getElem hr6)
      rw [flat_get l q r l[q] (List.getElem?_eq_getElem hq) hr, List.getElem?_eq_getElem hlt, List.getElem?_eq_getElem hr6]
      have e3 := e1.symm.trans e2
      exact e3
    · rw [List.getElem?_eq_none (by rw [ho.1]; exact Nat.not_lt.1 hj), List.getElem?_eq_none (by rw [flat_length]; omega)]
  subst this
  exact hL.mono (Nat.zero_le _)
/-- The lines of a cue: a row of their own, each with its pieces in a block of its own. -/
def cells107 (vs : List Value) (O : List (List S81 × Int)) : List Value := (List.zip vs O).flatMap fun p => [p.1, .int .i64 (sumW p.2.1 0), .int .i64 p.2.2]
def Outs (w : World) (base : Nat) (v : Value) (O : List (List S81 × Int)) : Prop := ∃ vs : List Value, vs.length = O.length ∧ Lies w base 107 3 v O.length (cells107 vs O) ∧ ∀ (i : Nat) (u : Value) (p : List S81 × Int), vs[i]? = some u → O[i]? = some p → In42 w u (piecesS p.1)
theorem Outs.nil (w : World) (base : Nat) : Outs w base (.slice none 0 0) [] := ⟨[], rfl, Lies.nil w base 107 3, fun i u p h => by simp at h⟩
theorem Outs.kb {ts : List TypeId} {w w' : World} {base : Nat} {v : Value} {O : List (List S81 × Int)} (h : Outs w base v O) (hk : KB ts w w') (h1 : 107 ∉ ts) (h2 : 42 ∉ ts) : Outs w' base v O := by
  obtain ⟨vs, h3, h4, h5⟩ := h
  exact ⟨vs, h3, h4.kb hk h1, fun i u p hu hp => (h5 i u p hu hp).kb hk h2⟩
theorem cells107_snoc (vs : List Value) (O : List (List S81 × Int)) (u : Value) (p : List S81 × Int) (h : vs.length = O.length) : cells107 (vs ++ [u]) (O ++ [p]) = cells107 vs O ++ [u, .int .i64 (sumW p.1 0), .int .i64 p.2] := by
  unfold cells107
  rw [List.zip_append h, List.flatMap_append]
  rfl
/-- One line more. -/
theorem Outs.snoc {w w' : World} {base : Nat} {v' u : Value} {O : List (List S81 × Int)} {p : List S81 × Int} {vs : List Value} (h1 : vs.length = O.length) (h2 : ∀ (i : Nat) (u : Value) (p : List S81 × Int), vs[i]? = some u → O[i]? = some p → In42 w u (piecesS p.1))
    (h3 : Lies w' base 107 3 v' (O.length + 1) (cells107 vs O ++ [u, .int .i64 (sumW p.1 0), .int .i64 p.2])) (h4 : In42 w u (piecesS p.1)) (hk : KB [107] w w') : Outs w' base v' (O ++ [p]) := by
  refine ⟨vs ++ [u], by simp [h1], ?_, fun i u' q hu hq => ?_⟩
  · rw [cells107_snoc vs O u p h1, List.length_append]
    exact h3
  · refine In42.kb' ?_ hk
    rcases Nat.lt_trichotomy i O.length with hi | hi | hi
    · rw [List.getElem?_append_left (by omega)] at hu
      rw [List.getElem?_append_left hi] at hq
      exact h2 i u' q hu hq
    · subst hi
      rw [← h1, List.getElem?_concat_length] at hu
      rw [List.getElem?_concat_length] at hq
      injection hu with hu
      injection hq with hq
      subst hu hq
      exact h4
    · rw [List.getElem?_eq_none (by simp; omega)] at hq
      cases hq
end Go.Proofs.YtogidacejbjljaaGreatDoor.PTextChecks
end
section
/- text.broken's closure flush: the letters at hand into lines. -/
set_option linter.unusedVariables false
set_option linter.unusedSimpArgs false
namespace Go.Proofs.YtogidacejbjljaaGreatDoor.PTextChecks
open Go.RowKit Go.Mix Go.Own Go.Proofs.YtogidacejbjljaaGreatDoorW.PrintWords Go.Proofs.YtogidacejbjljaaGreatDoorW.PrintLast Go.Proofs.YtogidacejbjljaaGreatDoorW.PrintMore
theorem infoLine : (Tryz.prog.info? 107).map (fun i => (i.zero, i.size, i.bytes)) = some (some (.agg #[.slice none 0 0, .int .i64 0, .int .i64 0]), 3, 40) := by kernel_rfl
def Boxes (w : World) (bL bR bO bS : Nat) (vl vo : Value) (room sz : Int) : Prop :=
  w.heap[bL]? = some (.cells #[vl] 147 (0, 0)) ∧ w.heap[bR]? = some (.cells #[.int .i64 room] 3 (0, 0)) ∧ w.heap[bO]? = some (.cells #[vo] 104 (0, 0)) ∧ w.heap[bS]? = some (.cells #[.int .i64 sz] 3 (0, 0))
theorem blk1 {W : World} {b : Nat} {v0 : Value} {t : TypeId} (h : W.heap[b]? = some (.cells #[v0] t (0, 0))) : W.cell? ⟨b, 0, none⟩ = some v0 ∧ W.frozen? ⟨b, 0, none⟩ = false := by
  refine ⟨?_, ?_⟩ <;> simp [World.cell?, World.frozen?, h]
def lenAt (w : World) (b : Nat) : Nat := match w.cell? ⟨b, 0, none⟩ with | some (.slice _ n _) => n | _ => 0
def firstN : Value → Nat | .bool true => 1 | _ => 0
/-- The worlds in which all blocks but those of lines lie as they lay. -/
def KX (W : World) : Type := { w' : World // KB [107] W w' }
instance (W : World) : Nonempty (KX W) := ⟨⟨W, KB.refl _ W⟩⟩
def KX.w {W : World} (x : KX W) : World := x.1
theorem KX.cell {W : World} (x : KX W) {b : Nat} {v : Value} {t : TypeId} (h : W.heap[b]? = some (.cells #[v] t (0, 0))) (ht : t ∉ [107]) : x.w.cell? ⟨b, 0, none⟩ = some v := (blk1 (x.2.2 b _ t ht h)).1
/-- What is still to come. -/
def toCome (first : Bool) (room : Int) (l : List S81) (sz : Int) : List (List S81 × Int) := if first then flushS room l sz else (brk room l).map fun r => (r, heightS r)
theorem toCome_step (first : Bool) (room : Int) (l : List S81) (sz : Int) (h : first = true ∨ l ≠ []) : toCome first room l sz = (l.take (takenS l room), highS (l.take (takenS l room)) sz) :: toCome false room (l.drop (takenS l room)) sz := by
  cases l with
  | nil =>
    obtain rfl : first = true := by simpa using h
    simp [toCome, flushS, highS, brk_nil, takenS_nil]
  | cons x r =>
    have hb := brk_cons (l := x :: r) (by simp) room
    have hp := takenS_pos (l := x :: r) (by simp) room
    have hh : highS ((x :: r).take (takenS (x :: r) room)) sz = heightS ((x :: r).take (takenS (x :: r) room)) := by
      unfold highS
      rw [if_neg]
      obtain ⟨m, hm⟩ : ∃ m, takenS (x :: r) room = m + 1 := ⟨takenS (x :: r) room - 1, by omega⟩
      rw [hm]
      simp
    have he : toCome first room (x :: r) sz = (brk room (x :: r)).map fun r => (r, heightS r) := by cases first <;> simp [toCome, flushS]
    rw [he, hb, List.map_cons, hh]
    simp [toCome]
def FRel (w : World) (base bL bR bO bS : Nat) (room sz : Int) (T : List (List S81 × Int)) (first : Bool) (l : List S81) (O : List (List S81 × Int)) (vl vo : Value) (wr : World) : Prop :=
  Boxes wr bL bR bO bS vl vo room sz ∧ Lies wr base 151 6 vl l.length (flat81 l) ∧ Outs wr base vo O ∧ KB [147, 104, 107] w wr ∧ Below base w wr ∧ O ++ toCome first room l sz = T
set_option maxHeartbeats 4000000 in
set_option maxRecDepth 100000 in
theorem flush_calls (w : World) (base bL bR bO bS : Nat) (room sz : Int) (l : List S81) (O : List (List S81 × Int)) (vl vo : Value) (hbx : Boxes w bL bR bO bS vl vo room sz) (hl : Lies w base 151 6 vl l.length (flat81 l)) (hO : Outs w base vo O)
    (hb : base ≤ bL ∧ base ≤ bO) (ho : Okl l) (hsz : 0 ≤ sz ∧ sz ≤ 8) (hlen : O.length + l.length + 1 ≤ 1000000) :
    Calls Tryz.prog 105 #[.pointer (some ⟨bL, 0, none⟩), .pointer (some ⟨bR, 0, none⟩), .pointer (some ⟨bO, 0, none⟩), .pointer (some ⟨bS, 0, none⟩)] w fun e w' => ∃ vl' vo' u, e = .returned u ∧ Boxes w' bL bR bO bS vl' vo' room sz ∧ Lies w' base 151 6 vl' 0 [] ∧ Outs w' base vo' (O ++ flushS room l sz) ∧ KB [147, 104, 107] w w' ∧ Below base w w' := by
  obtain ⟨i0, hi, hii⟩ := Option.map_eq_some_iff.1 infoLine
  simp only [Prod.mk.injEq] at hii
  obtain ⟨hz0, hz1, hz2⟩ := hii
  go_enter Tryz.func105, Tryz.ntmps105
  go_wp2
  go_loopw [4] (fun t wr => ∃ (first : Bool) (l' : List S81) (O' : List (List S81 × Int)) (vl' vo' : Value), t = .bool first ∧ Okl l' ∧ l'.length ≤ l.length ∧ FRel w base bL bR bO bS room sz (O ++ flushS room l sz) first l' O' vl' vo' wr) (fun t wr => lenAt wr bL + firstN t)
  case atStart => exact ⟨true, l, O, vl, vo, rfl, ho, Nat.le_refl _, hbx, hl, hO, KB.refl _ _, Below.refl _ _, rfl⟩
  case round =>
    obtain ⟨first, l', O', vl', vo', rfl, ho', hll, ⟨b1, b2, b3, b4⟩, hl', hO', hk, hbw, hT⟩ := hrel
    have hlen2 : O'.length + l'.length ≤ 2000000 := by
      have h1 := congrArg List.length hT
      rw [List.length_append, List.length_append] at h1
      have h2 := flushS_len room l sz
      omega
    have hBs : base ≤ wr.heap.size := by have := (Array.getElem?_eq_some_iff.1 b1).1; omega
    cases first with
    | true =>
      have hst : toCome true room l' sz = _ := toCome_step true room l' sz (.inl rfl)
      rw [hst] at hT
      obtain ⟨A, c, rfl, hle, hC⟩ := lies81 hl' (by omega)
      have hnl := takenS_le l' room
      have cT := taken_calls A c l' room wr hC (by omega) ho'.byt
      obtain ⟨m1, m1'⟩ := blk1 b1
      obtain ⟨m2, m2'⟩ := blk1 b2
      obtain ⟨m3, m3'⟩ := blk1 b3
      obtain ⟨m4, m4'⟩ := blk1 b4
      obtain ⟨n, hn⟩ : ∃ n, takenS l' room = n := ⟨_, rfl⟩
      rw [hn] at hT hnl cT
      have HT := Lib.hid hT
      have HLA := Lib.hid (show lenAt wr bL = l'.length from by simp [lenAt, m1])
      have HLN := Lib.hid hlen2
      clear hT hst hn hlen2
      go_wp2_with (go_at_call 106; refine cT.mono ?_; rintro e W1 ⟨rfl, hb1⟩)
      have k1 : W1.heap[bL]? = _ := (hb1.block _ (Array.getElem?_eq_some_iff.1 b1).1).trans b1
      have k2 : W1.heap[bR]? = _ := (hb1.block _ (Array.getElem?_eq_some_iff.1 b2).1).trans b2
      have k3 : W1.heap[bO]? = _ := (hb1.block _ (Array.getElem?_eq_some_iff.1 b3).1).trans b3
      have k4 : W1.heap[bS]? = _ := (hb1.block _ (Array.getElem?_eq_some_iff.1 b4).1).trans b4
      have hl1 := hl'.kb (KB.below (ts := []) hb1) (by simp)
      have hO1 := hO'.kb (KB.below (ts := []) hb1) (by simp) (by simp)
      have hk1 := hk.trans (KB.below hb1)
      have hBs1 : base ≤ W1.heap.size := Nat.le_trans hBs hb1.size
      have hbw1 : Below base w W1 := hbw.trans (hb1.mono hBs)
      clear m1 m1' m2 m2' m3 m3' m4 m4' hb1 b1 b2 b3 b4 hk hbw hC cT hl' hO'
      have x1 := fun x : KX W1 => x.cell k1 (by decide)
      have x3 := fun x : KX W1 => x.cell k3 (by decide)
      have x4 := fun x : KX W1 => x.cell k4 (by decide)
      have hnc : n ≤ c := by omega
      refine wp_region_mix_last' (C := fun w' => ∃ x : KX W1, w' = x.w) 8 rfl [5, 6, 7] 2 (by kernel_rfl) (by kernel_rfl) (by kernel_rfl) (by kernel_rfl) ⟨⟨W1.drew, KB.below (Below.refl _ W1).drew⟩, rfl⟩ ?_
      refine mix_pure rfl (fun K hK => ?_)
      go_simp
      refine hK _ _ ?_
      clear hK K
      refine mix_pure rfl (fun K hK => ?_)
      go_simp
      refine hK _ _ ?_
      clear hK K
      refine mix_pure rfl (fun K hK => ?_)
      go_simp
      refine hK _ _ ?_
      clear hK K
      refine mix_pure rfl (fun K hK => ?_)
      go_simp
      refine hK _ _ ?_
      clear hK K
      refine mix_pure rfl (fun K hK => ?_)
      go_simp
      refine hK _ _ ?_
      clear hK K
      have htl : (l'.take n).length = n := by rw [List.length_take]; omega
      have hLt : Lies W1 base 151 6 (.slice A n c) (l'.take n).length (flat81 (l'.take n)) := by rw [htl, ← flat81_take]; exact hl1.take hnl
      have hM : Kd.C k81 W1 A (l'.take n).length (l'.take n) := by
        obtain ⟨A', c', he, _, h⟩ := lies81 hLt (by have := HLN.out; omega)
        injection he with h1 h2 h3
        rw [h1]
        exact h
      have cM := makeLine_calls A c (l'.take n) sz W1.drew (Kd.C_drew hM) (by have := HLN.out; omega) (ho'.take n) hsz
      rw [htl] at cM
      obtain ⟨vs, hv1, hv2, hv3⟩ := hO1
      refine mix_eff rfl (fun K hK => ?_)
      go_simp
      simp only [effUpon_enter]
      refine cM.mono ?_
      rintro e W2 ⟨A2, c2, rfl, hR2, hb2⟩
      have hI2 := R_in42 hR2
      have hb2' : Below W1.heap.size W1 W2 := (Below.refl _ W1).drew.trans hb2
      have hx2 : KB [107] W1 W2 := KB.below hb2'
      refine ⟨_, rfl, ⟨⟨W2, hx2⟩, rfl⟩, hK _ _ ?_⟩
      clear hK K cM hR2
      generalize hpl : (piecesS (l'.take n)).length = pl at *
      generalize hsu : sumW (l'.take n) 0 = su at *
      generalize hhi : highS (l'.take n) sz = high at *
      refine mix_eff rfl (fun K hK => ?_)
      go_simp
      simp only [effUpon_value]
      have hx3 : KB [107] W1 (W2.alloc (.cells #[.slice A2 pl c2, .int .i64 su, .int .i64 high] 107)) := hx2.trans (KB.below ((Below.refl _ W2).alloc (Nat.le_refl _) _))
      have hx3' : KB [107] W2 (W2.alloc (.cells #[.slice A2 pl c2, .int .i64 su, .int .i64 high] 107)) := KB.below ((Below.refl _ W2).alloc (Nat.le_refl _) _)
      refine ⟨⟨⟨_, hx3⟩, rfl⟩, hK _ _ ?_⟩
      clear hK K
      have hL3 : Lies (W2.alloc (.cells #[.slice A2 pl c2, .int .i64 su, .int .i64 high] 107)) base 107 3 vo' O'.length (cells107 vs O') := (hv2.kb (KB.below (ts := []) hb2') (by simp)).kb (KB.below (ts := []) ((Below.refl _ W2).alloc (Nat.le_refl _) _)) (by simp)
      have hOl : O'.length ≤ 2000000 := by have := HLN.out; omega
      refine mix_append rfl rfl _ _ 104 rfl base 107 i0 _ 3 40 Tryz.underlying104 hi hz0 hz1 hz2 rfl (by decide) vo' O'.length (cells107 vs O') rfl hL3 ⟨W2.heap.size, 0, none⟩ 1 1 [.slice A2 pl c2, .int .i64 su, .int .i64 high] rfl rfl ?qc2 ?qc3 ?qc4 ?qc5 ?qc6 (by decide) ?_
      case qc2 =>
        intro j u hj
        rw [add0, cell_of_row _ _ j _ 107 (0, 0) (heap_alloc_new W2 _)]
        simpa using hj
      case qc3 => intro u hu; simp only [List.mem_cons, List.mem_nil_iff, or_false] at hu; rcases hu with rfl | rfl | rfl <;> rfl
      case qc4 => unfold maxLen; omega
      case qc5 => omega
      case qc6 => have := hb2'.size; simp; omega
      intro v3 W3 hL4 hg3
      have hx4 : KB [107] W1 W3 := hx3.trans (KB.grown hg3 fun k hk => by obtain ⟨_, _, cur, hc⟩ := hL3.lt k hk; exact ⟨cur, 107, by simp, hc⟩)
      have hO4 : Outs W3 base v3 (O' ++ [(l'.take n, high)]) := by
        refine Outs.snoc hv1 (fun i u p h1 h2 => (hv3 i u p h1 h2).kb (KB.below (ts := []) hb2') (by simp)) ?_ ?_ (hx3'.trans (KB.grown hg3 fun k hk => by obtain ⟨_, _, cur, hc⟩ := hL3.lt k hk; exact ⟨cur, 107, by simp, hc⟩)) (u := .slice A2 pl c2)
        · rw [hsu]; exact hL4
        · rw [← hpl] at hI2 ⊢; exact hI2
      have hb4 : Below base w W3 := (hbw1.trans ((hb2'.mono hBs1).alloc (Nat.le_trans hBs1 hb2'.size) _)).grown hg3 (by have := hb2'.size; simp; omega) (fun k hk => (hL3.lt k hk).1)
      obtain ⟨A3, c3, rfl, hle3⟩ := hL4.form
      refine ⟨⟨⟨W3, hx4⟩, rfl⟩, ?_⟩
      have hl4 := hl1.kb hx4 (by decide)
      have p1 := hx4.2 bL _ 147 (by decide) k1
      have p2 := hx4.2 bR _ 3 (by decide) k2
      have p3 := hx4.2 bO _ 104 (by decide) k3
      have p4 := hx4.2 bS _ 3 (by decide) k4
      have hk4 : KB [147, 104, 107] w W3 := hk1.trans (hx4.mono (by simp))
      clear hx3 hx2 hg3 hL3 hL4 hb2 hb2' hv1 hv2 hv3 hI2 x1 x3 x4 k1 k2 k3 k4 hk1 hbw1 hx4 hx3'
      have hne1 : ¬ bL = bO := by rintro rfl; rw [p1] at p3; simp at p3
      have hne2 : ¬ bO = bL := fun h => hne1 h.symm
      obtain ⟨m1, m1'⟩ := blk1 p1
      obtain ⟨m2, m2'⟩ := blk1 p2
      obtain ⟨m3, m3'⟩ := blk1 p3
      obtain ⟨m4, m4'⟩ := blk1 p4
      refine mix_nil ?_
      intro _
      go_wp2
      go_roundw
      case rel =>
        have q3 : (W3.setCell ⟨bO, 0, none⟩ (.slice A3 (O'.length + 1) c3)).heap[bL]? = some (.cells #[.slice A l'.length c] 147 (0, 0)) := (setCell_far _ _ hne1).trans p1
        have s1 : KB [104] W3 (W3.setCell ⟨bO, 0, none⟩ (.slice A3 (O'.length + 1) c3)) := KB.set p3 (by simp) _
        have s2 := fun u : Value => KB.set (ts := [147]) (i := 0) q3 (by simp) u
        refine ⟨false, l'.drop n, O' ++ [(l'.take n, high)], _, .slice A3 (O'.length + 1) c3, rfl, ho'.drop n, by rw [List.length_drop]; omega, ⟨heap_set (i := 0) q3, ?_, ?_, ?_⟩, ?_, ?_, ?_, ?_, ?_⟩
        · exact (setCell_far _ _ (by rintro rfl; rw [p1] at p2; simp at p2)).trans ((setCell_far _ _ (by rintro rfl; rw [p3] at p2; simp at p2)).trans p2)
        · exact (setCell_far _ _ hne2).trans (heap_set (i := 0) p3)
        · exact (setCell_far _ _ (by rintro rfl; rw [p1] at p4; simp at p4)).trans ((setCell_far _ _ (by rintro rfl; rw [p3] at p4; simp at p4)).trans p4)
        · have := (((hl4.kb s1 (by decide)).kb (s2 (.slice (if c = n then A else Option.map (fun x => x.add (n * 6)) A) (l'.length - n) (c - n))) (by decide)).drop hnl)
          rw [List.length_drop, ← flat81_drop]
          exact this
        · exact (hO4.kb s1 (by decide) (by decide)).kb (s2 _) (by decide) (by decide)
        · exact hk4.trans ((s1.mono (by simp)).trans ((s2 _).mono (by simp)))
        · exact (hb4.setCell (p := ⟨bO, 0, none⟩) hb.2 _).setCell (p := ⟨bL, 0, none⟩) hb.1 _
        · rw [← HT.out, List.append_assoc]
          rfl
      case measure =>
        have q3 : (W3.setCell ⟨bO, 0, none⟩ (.slice A3 (O'.length + 1) c3)).heap[bL]? = some (.cells #[.slice A l'.length c] 147 (0, 0)) := (setCell_far _ _ hne1).trans p1
        rw [HLA.out]
        unfold lenAt
        rw [(blk1 (heap_set (i := 0) q3)).1]
        simp [firstN]
        omega
    | false =>
      by_cases hne : l' = []
      · subst hne
        have hT2 : O' = O ++ flushS room l sz := by simpa [toCome, brk_nil] using hT
        have HT := Lib.hid hT2
        have hA : ∃ A c, vl' = .slice A 0 c := by obtain ⟨A, c, h, _⟩ := hl'.form; exact ⟨A, c, h⟩
        obtain ⟨A, c, rfl⟩ := hA
        obtain ⟨m1, m1'⟩ := blk1 b1
        clear hT hT2
        go_wp2
        refine bodyPost_end (v := .tuple #[]) (by simp [results, show Tryz.f105.results = #[] from rfl]) rfl ?_
        rw [← HT.out]
        exact ⟨_, _, _, rfl, ⟨b1, b2, b3, b4⟩, hl', hO', hk, hbw⟩
      · have hpos := List.length_pos_iff.2 hne
        have hst : toCome false room l' sz = _ := toCome_step false room l' sz (.inr hne)
        rw [hst] at hT
        obtain ⟨A, c, rfl, hle, hC⟩ := lies81 hl' (by omega)
        have hnl := takenS_le l' room
        have cT := taken_calls A c l' room wr hC (by omega) ho'.byt
        obtain ⟨m1, m1'⟩ := blk1 b1
        obtain ⟨m2, m2'⟩ := blk1 b2
        obtain ⟨m3, m3'⟩ := blk1 b3
        obtain ⟨m4, m4'⟩ := blk1 b4
        obtain ⟨n, hn⟩ : ∃ n, takenS l' room = n := ⟨_, rfl⟩
        rw [hn] at hT hnl cT
        have HT := Lib.hid hT
        have HLA := Lib.hid (show lenAt wr bL = l'.length from by simp [lenAt, m1])
        have hpn : 0 < n := hn ▸ takenS_pos hne room
        have HLN := Lib.hid hlen2
        clear hT hst hn hlen2
        have hp1 : decide ((0 : Int) < (l'.length : Int)) = true := decide_eq_true (by omega)
        go_wp2_with (go_at_call 106; refine cT.mono ?_; rintro e W1 ⟨rfl, hb1⟩)
        have k1 : W1.heap[bL]? = _ := (hb1.block _ (Array.getElem?_eq_some_iff.1 b1).1).trans b1
        have k2 : W1.heap[bR]? = _ := (hb1.block _ (Array.getElem?_eq_some_iff.1 b2).1).trans b2
        have k3 : W1.heap[bO]? = _ := (hb1.block _ (Array.getElem?_eq_some_iff.1 b3).1).trans b3
        have k4 : W1.heap[bS]? = _ := (hb1.block _ (Array.getElem?_eq_some_iff.1 b4).1).trans b4
        have hl1 := hl'.kb (KB.below (ts := []) hb1) (by simp)
        have hO1 := hO'.kb (KB.below (ts := []) hb1) (by simp) (by simp)
        have hk1 := hk.trans (KB.below hb1)
        have hBs1 : base ≤ W1.heap.size := Nat.le_trans hBs hb1.size
        have hbw1 : Below base w W1 := hbw.trans (hb1.mono hBs)
        clear m1 m1' m2 m2' m3 m3' m4 m4' hb1 b1 b2 b3 b4 hk hbw hC cT hl' hO'
        have x1 := fun x : KX W1 => x.cell k1 (by decide)
        have x3 := fun x : KX W1 => x.cell k3 (by decide)
        have x4 := fun x : KX W1 => x.cell k4 (by decide)
        have hnc : n ≤ c := by omega
        refine wp_region_mix_last' (C := fun w' => ∃ x : KX W1, w' = x.w) 8 rfl [5, 6, 7] 2 (by kernel_rfl) (by kernel_rfl) (by kernel_rfl) (by kernel_rfl) ⟨⟨W1.drew, KB.below (Below.refl _ W1).drew⟩, rfl⟩ ?_
        refine mix_pure rfl (fun K hK => ?_)
        go_simp
        refine hK _ _ ?_
        clear hK K
        refine mix_pure rfl (fun K hK => ?_)
        go_simp
        refine hK _ _ ?_
        clear hK K
        refine mix_pure rfl (fun K hK => ?_)
        go_simp
        refine hK _ _ ?_
        clear hK K
        refine mix_pure rfl (fun K hK => ?_)
        go_simp
        refine hK _ _ ?_
        clear hK K
        refine mix_pure rfl (fun K hK => ?_)
        go_simp
        refine hK _ _ ?_
        clear hK K
        have htl : (l'.take n).length = n := by rw [List.length_take]; omega
        have hLt : Lies W1 base 151 6 (.slice A n c) (l'.take n).length (flat81 (l'.take n)) := by rw [htl, ← flat81_take]; exact hl1.take hnl
        have hM : Kd.C k81 W1 A (l'.take n).length (l'.take n) := by
          obtain ⟨A', c', he, _, h⟩ := lies81 hLt (by have := HLN.out; omega)
          injection he with h1 h2 h3
          rw [h1]
          exact h
        have cM := makeLine_calls A c (l'.take n) sz W1.drew (Kd.C_drew hM) (by have := HLN.out; omega) (ho'.take n) hsz
        rw [htl] at cM
        obtain ⟨vs, hv1, hv2, hv3⟩ := hO1
        refine mix_eff rfl (fun K hK => ?_)
        go_simp
        simp only [effUpon_enter]
        refine cM.mono ?_
        rintro e W2 ⟨A2, c2, rfl, hR2, hb2⟩
        have hI2 := R_in42 hR2
        have hb2' : Below W1.heap.size W1 W2 := (Below.refl _ W1).drew.trans hb2
        have hx2 : KB [107] W1 W2 := KB.below hb2'
        refine ⟨_, rfl, ⟨⟨W2, hx2⟩, rfl⟩, hK _ _ ?_⟩
        clear hK K cM hR2
        generalize hpl : (piecesS (l'.take n)).length = pl at *
        generalize hsu : sumW (l'.take n) 0 = su at *
        generalize hhi : highS (l'.take n) sz = high at *
        refine mix_eff rfl (fun K hK => ?_)
        go_simp
        simp only [effUpon_value]
        have hx3 : KB [107] W1 (W2.alloc (.cells #[.slice A2 pl c2, .int .i64 su, .int .i64 high] 107)) := hx2.trans (KB.below ((Below.refl _ W2).alloc (Nat.le_refl _) _))
        have hx3' : KB [107] W2 (W2.alloc (.cells #[.slice A2 pl c2, .int .i64 su, .int .i64 high] 107)) := KB.below ((Below.refl _ W2).alloc (Nat.le_refl _) _)
        refine ⟨⟨⟨_, hx3⟩, rfl⟩, hK _ _ ?_⟩
        clear hK K
        have hL3 : Lies (W2.alloc (.cells #[.slice A2 pl c2, .int .i64 su, .int .i64 high] 107)) base 107 3 vo' O'.length (cells107 vs O') := (hv2.kb (KB.below (ts := []) hb2') (by simp)).kb (KB.below (ts := []) ((Below.refl _ W2).alloc (Nat.le_refl _) _)) (by simp)
        have hOl : O'.length ≤ 2000000 := by have := HLN.out; omega
        refine mix_append rfl rfl _ _ 104 rfl base 107 i0 _ 3 40 Tryz.underlying104 hi hz0 hz1 hz2 rfl (by decide) vo' O'.length (cells107 vs O') rfl hL3 ⟨W2.heap.size, 0, none⟩ 1 1 [.slice A2 pl c2, .int .i64 su, .int .i64 high] rfl rfl ?qc2 ?qc3 ?qc4 ?qc5 ?qc6 (by decide) ?_
        case qc2 =>
          intro j u hj
          rw [add0, cell_of_row _ _ j _ 107 (0, 0) (heap_alloc_new W2 _)]
          simpa using hj
        case qc3 => intro u hu; simp only [List.mem_cons, List.mem_nil_iff, or_false] at hu; rcases hu with rfl | rfl | rfl <;> rfl
        case qc4 => unfold maxLen; omega
        case qc5 => omega
        case qc6 => have := hb2'.size; simp; omega
        intro v3 W3 hL4 hg3
        have hx4 : KB [107] W1 W3 := hx3.trans (KB.grown hg3 fun k hk => by obtain ⟨_, _, cur, hc⟩ := hL3.lt k hk; exact ⟨cur, 107, by simp, hc⟩)
        have hO4 : Outs W3 base v3 (O' ++ [(l'.take n, high)]) := by
          refine Outs.snoc hv1 (fun i u p h1 h2 => (hv3 i u p h1 h2).kb (KB.below (ts := []) hb2') (by simp)) ?_ ?_ (hx3'.trans (KB.grown hg3 fun k hk => by obtain ⟨_, _, cur, hc⟩ := hL3.lt k hk; exact ⟨cur, 107, by simp, hc⟩)) (u := .slice A2 pl c2)
          · rw [hsu]; exact hL4
          · rw [← hpl] at hI2 ⊢; exact hI2
        have hb4 : Below base w W3 := (hbw1.trans ((hb2'.mono hBs1).alloc (Nat.le_trans hBs1 hb2'.size) _)).grown hg3 (by have := hb2'.size; simp; omega) (fun k hk => (hL3.lt k hk).1)
        obtain ⟨A3, c3, rfl, hle3⟩ := hL4.form
        refine ⟨⟨⟨W3, hx4⟩, rfl⟩, ?_⟩
        have hl4 := hl1.kb hx4 (by decide)
        have p1 := hx4.2 bL _ 147 (by decide) k1
        have p2 := hx4.2 bR _ 3 (by decide) k2
        have p3 := hx4.2 bO _ 104 (by decide) k3
        have p4 := hx4.2 bS _ 3 (by decide) k4
        have hk4 : KB [147, 104, 107] w W3 := hk1.trans (hx4.mono (by simp))
        clear hx3 hx2 hg3 hL3 hL4 hb2 hb2' hv1 hv2 hv3 hI2 x1 x3 x4 k1 k2 k3 k4 hk1 hbw1 hx4 hx3'
        have hne1 : ¬ bL = bO := by rintro rfl; rw [p1] at p3; simp at p3
        have hne2 : ¬ bO = bL := fun h => hne1 h.symm
        obtain ⟨m1, m1'⟩ := blk1 p1
        obtain ⟨m2, m2'⟩ := blk1 p2
        obtain ⟨m3, m3'⟩ := blk1 p3
        obtain ⟨m4, m4'⟩ := blk1 p4
        refine mix_nil ?_
        intro _
        go_wp2
        go_roundw
        case rel =>
          have q3 : (W3.setCell ⟨bO, 0, none⟩ (.slice A3 (O'.length + 1) c3)).heap[bL]? = some (.cells #[.slice A l'.length c] 147 (0, 0)) := (setCell_far _ _ hne1).trans p1
          have s1 : KB [104] W3 (W3.setCell ⟨bO, 0, none⟩ (.slice A3 (O'.length + 1) c3)) := KB.set p3 (by simp) _
          have s2 := fun u : Value => KB.set (ts := [147]) (i := 0) q3 (by simp) u
          refine ⟨false, l'.drop n, O' ++ [(l'.take n, high)], _, .slice A3 (O'.length + 1) c3, rfl, ho'.drop n, by rw [List.length_drop]; omega, ⟨heap_set (i := 0) q3, ?_, ?_, ?_⟩, ?_, ?_, ?_, ?_, ?_⟩
          · exact (setCell_far _ _ (by rintro rfl; rw [p1] at p2; simp at p2)).trans ((setCell_far _ _ (by rintro rfl; rw [p3] at p2; simp at p2)).trans p2)
          · exact (setCell_far _ _ hne2).trans (heap_set (i := 0) p3)
          · exact (setCell_far _ _ (by rintro rfl; rw [p1] at p4; simp at p4)).trans ((setCell_far _ _ (by rintro rfl; rw [p3] at p4; simp at p4)).trans p4)
          · have := (((hl4.kb s1 (by decide)).kb (s2 (.slice (if c = n then A else Option.map (fun x => x.add (n * 6)) A) (l'.length - n) (c - n))) (by decide)).drop hnl)
            rw [List.length_drop, ← flat81_drop]
            exact this
          · exact (hO4.kb s1 (by decide) (by decide)).kb (s2 _) (by decide) (by decide)
          · exact hk4.trans ((s1.mono (by simp)).trans ((s2 _).mono (by simp)))
          · exact (hb4.setCell (p := ⟨bO, 0, none⟩) hb.2 _).setCell (p := ⟨bL, 0, none⟩) hb.1 _
          · rw [← HT.out, List.append_assoc]
            rfl
        case measure =>
          have q3 : (W3.setCell ⟨bO, 0, none⟩ (.slice A3 (O'.length + 1) c3)).heap[bL]? = some (.cells #[.slice A l'.length c] 147 (0, 0)) := (setCell_far _ _ hne1).trans p1
          rw [HLA.out]
          unfold lenAt
          rw [(blk1 (heap_set (i := 0) q3)).1]
          simp [firstN]
          omega
end Go.Proofs.YtogidacejbjljaaGreatDoor.PTextChecks
end
section
/- text.broken: the lines of a valid cue. -/
set_option linter.unusedVariables false
set_option linter.unusedSimpArgs false
namespace Go.Proofs.YtogidacejbjljaaGreatDoor.PTextChecks
open Go.RowKit Go.Mix Go.Own Go.Proofs.YtogidacejbjljaaGreatDoorW.PrintWords Go.Proofs.YtogidacejbjljaaGreatDoorW.PrintLast Go.Proofs.YtogidacejbjljaaGreatDoorW.PrintMore
theorem infoLetter : (Tryz.prog.info? 151).map (fun i => (i.zero, i.size, i.bytes)) = some (some (.agg #[.int .u8 0, .bool false, .bool false, .bool false, .int .i64 0, .int .i64 0]), 6, 32) := by kernel_rfl
def roomS (c canvas : Int) : Int := max 1 (canvas - 2 * c)
theorem five_new (w : World) (o0 o1 o2 o3 o4 : Obj) (W : World) (hW : W = ((((w.alloc o0).alloc o1).alloc o2).alloc o3).alloc o4) : W.heap[w.heap.size]? = some o0 ∧ W.heap[w.heap.size + 1]? = some o1 ∧ W.heap[w.heap.size + 1 + 1]? = some o2 ∧ W.heap[w.heap.size + 1 + 1 + 1]? = some o3 ∧ W.heap[w.heap.size + 1 + 1 + 1 + 1]? = some o4 ∧ W.heap.size = w.heap.size + 5 ∧ Below w.heap.size w W := by
  subst hW
  have s1 : ∀ (W : World) (o : Obj), (W.alloc o).heap.size = W.heap.size + 1 := fun W o => by simp
  have n1 : ∀ (W : World) (o : Obj) (k : Nat), k = W.heap.size → (W.alloc o).heap[k]? = some o := fun W o k h => by rw [h]; exact heap_alloc_new W o
  have o1' : ∀ (W : World) (o : Obj) (k : Nat) (x : Obj), W.heap[k]? = some x → (W.alloc o).heap[k]? = some x := fun W o k x h => (heap_alloc_old W o (Array.getElem?_eq_some_iff.1 h).1).trans h
  refine ⟨?_, ?_, ?_, ?_, ?_, ?_, ?_⟩
  · exact o1' _ _ _ _ (o1' _ _ _ _ (o1' _ _ _ _ (o1' _ _ _ _ (n1 _ _ _ rfl))))
  · exact o1' _ _ _ _ (o1' _ _ _ _ (o1' _ _ _ _ (n1 _ _ _ (s1 _ _).symm)))
  · exact o1' _ _ _ _ (o1' _ _ _ _ (n1 _ _ _ (by rw [s1, s1])))
  · exact o1' _ _ _ _ (n1 _ _ _ (by rw [s1, s1, s1]))
  · exact n1 _ _ _ (by rw [s1, s1, s1, s1])
  · rw [s1, s1, s1, s1, s1]
  · exact (((((Below.refl _ w).alloc (Nat.le_refl _) _).alloc (by rw [s1]; omega) _).alloc (by rw [s1, s1]; omega) _).alloc (by rw [s1, s1, s1]; omega) _).alloc (by rw [s1, s1, s1, s1]; omega) _
theorem okl_letters {l : List S42} (h : ∀ p ∈ l, isTextB p.f0 = true ∧ styB p.f1 = true) : Okl (lettersOf l) := by
  intro x hx
  obtain ⟨p, hp, hx⟩ := List.mem_flatMap.1 hx
  obtain ⟨u, hu, rfl⟩ := List.mem_map.1 hx
  obtain ⟨h1, h2⟩ := h p hp
  unfold isTextB at h1
  rw [Bool.and_eq_true] at h1
  have h3 := List.all_eq_true.1 h1.1 u hu
  unfold okByte at h3
  unfold styB inB at h2
  simp only [Bool.and_eq_true, Bool.or_eq_true, beq_iff_eq, decide_eq_true_iff] at h2 h3
  refine ⟨⟨?_, ?_⟩, ?_, ?_⟩ <;> simp only <;> omega
/-- The worlds in which all blocks but those of some types lie as they lay. -/
def KZ (ts : List TypeId) (W : World) : Type := { w' : World // KB ts W w' }
instance (ts : List TypeId) (W : World) : Nonempty (KZ ts W) := ⟨⟨W, KB.refl _ W⟩⟩
def KZ.w {ts : List TypeId} {W : World} (x : KZ ts W) : World := x.1
theorem KZ.blk {ts : List TypeId} {W : World} (x : KZ ts W) {b : Nat} {cs : Array Value} {t : TypeId} (h : W.heap[b]? = some (.cells cs t (0, 0))) (ht : t ∉ ts) : x.w.heap[b]? = some (.cells cs t (0, 0)) := x.2.2 b _ t ht h
def BRel (w : World) (bC bL bR bO bS : Nat) (room sz : Int) (cs : Array Value) (T : List (List S81 × Int)) (rest cur : List S81) (O : List (List S81 × Int)) (vl vo : Value) (wr : World) : Prop :=
  Boxes wr bL bR bO bS vl vo room sz ∧ wr.heap[bC]? = some (.cells cs 25 (0, 0)) ∧ Lies wr w.heap.size 151 6 vl cur.length (flat81 cur) ∧ Outs wr w.heap.size vo O ∧ Below w.heap.size w wr ∧
    O ++ restS room rest cur sz = T ∧ Okl cur ∧ Okl rest ∧ cur.length + rest.length ≤ 2000 ∧ O.length ≤ 5000 ∧ 0 ≤ sz ∧ sz ≤ 8
set_option maxHeartbeats 4000000 in
set_option maxRecDepth 100000 in
theorem broken_calls (a b c : Int) (A : Option Addr) (cap : Nat) (l : List S42) (canvas : Int) (w : World) (hr : Kd.C k42 w A l.length l) (hc : l.length ≤ cap) (hl : l.length ≤ 100) (hw : wordsLen l ≤ 2000)
    (hok : ∀ p ∈ l, isTextB p.f0 = true ∧ styB p.f1 = true) (hm : 0 ≤ c ∧ c ≤ 100) (hcv : 1 ≤ canvas ∧ canvas ≤ 1000) :
    Calls Tryz.prog 74 #[.agg #[.int .i64 a, .int .i64 b, .int .i64 c, .slice A l.length cap], .int .i64 canvas] w fun e w' => ∃ v, e = .returned v ∧ Outs w' w.heap.size v (linesS (roomS c canvas) (lettersOf l)) ∧ Below w.heap.size w w' := by
  obtain ⟨i0, hi, hii⟩ := Option.map_eq_some_iff.1 infoLetter
  simp only [Prod.mk.injEq] at hii
  obtain ⟨hz0, hz1, hz2⟩ := hii
  have wr1 : IntKind.i64.wrap (2 * c) = 2 * c := IntWalk.i64_in _ (by omega)
  have wr2 : IntKind.i64.wrap (canvas - 2 * c) = canvas - 2 * c := IntWalk.i64_in _ (by omega)
  go_enter Tryz.func74, Tryz.ntmps74
  go_wp2
  obtain ⟨f0, f1, f2, f3, f4, fs, fb⟩ := five_new w _ _ _ _ _ _ rfl
  generalize hW : World.alloc _ _ = W at f0 f1 f2 f3 f4 fs fb
  go_loopw [23] (fun i wr => ∃ (n : Nat) (sz : Int) (cur : List S81) (O : List (List S81 × Int)) (vl vo : Value), n ≤ l.length ∧ i = .int .i64 n ∧ BRel w w.heap.size (w.heap.size + 1 + 1 + 1) (w.heap.size + 1) (w.heap.size + 1 + 1) (w.heap.size + 1 + 1 + 1 + 1) (roomS c canvas) sz #[.int .i64 a, .int .i64 b, .int .i64 c, .slice A l.length cap] (linesS (roomS c canvas) (lettersOf l)) (lettersOf (l.drop n)) cur O vl vo wr) (fun i _ => l.length - (intOf i).toNat)
  case atStart =>
    have hol := okl_letters hok
    have hll : (lettersOf l).length ≤ 2000 := by rw [lettersOf_length]; exact hw
    exact ⟨0, 2, [], [], .slice none 0 0, .slice none 0 0, by omega, rfl, ⟨f3, f1, f2, f4⟩, f0, Lies.nil _ _ _ _, Outs.nil _ _, fb, rfl, fun x hx => by simp at hx, hol, by simpa using hll, by simp, by omega, by omega⟩
  case round =>
    obtain ⟨n, sz, cur, O, vl, vo, hn, rfl, ⟨b1, b2, b3, b4⟩, hcb, hl1, hO1, hbw, hT, hoc, hor, hlc, hOl, hsz⟩ := hrel
    obtain ⟨T, hT0⟩ : ∃ T, linesS (roomS c canvas) (lettersOf l) = T := ⟨_, rfl⟩
    have hTl : T.length ≤ 5000 := by
      rw [← hT0]
      have := linesS_len (roomS c canvas) (lettersOf l)
      rw [lettersOf_length] at this
      omega
    rw [hT0] at hT ⊢
    by_cases hlt : n < l.length
    · have hr3 := Kd.C_below hr hbw
      obtain ⟨ad, rfl, d0, d1, d2, d3, d4, d5⟩ := at_T42 hr3 (n : Int) (by omega) (by omega)
      obtain ⟨p, hp⟩ : ∃ p, rd_T42 l (n : Int) = p := ⟨_, rfl⟩
      rw [hp] at d0 d1 d2 d3 d4 d5
      have hdr : l.drop n = p :: l.drop (n + 1) := by rw [rd42_drop l n hlt, hp]
      have hpm : p ∈ l := List.mem_of_mem_drop (i := n) (by rw [hdr]; exact List.mem_cons_self ..)
      obtain ⟨hpt, hps⟩ := hok p hpm
      rw [hdr, lettersOf_cons] at hT hor hlc
      simp only [Int.toNat_natCast] at d0 d1 d2 d3 d4 d5
      have HT := Lib.hid hT
      clear hT hp hdr
      obtain ⟨m4, m4'⟩ := blk1 b4
      have m4a := fun o => Lib.cell?_alloc_some o m4
      have h4lt := (Array.getElem?_eq_some_iff.1 b4).1
      have m4b : ∀ o, (wr.alloc o).frozen? ⟨w.heap.size + 1 + 1 + 1 + 1, 0, none⟩ = false := fun o => by
        have := (heap_alloc_old wr o h4lt).trans b4
        simp [World.frozen?, this]
      have hne1 : ¬ wr.heap.size = w.heap.size + 1 + 1 + 1 + 1 := by omega
      have hne2 : ¬ w.heap.size + 1 + 1 + 1 + 1 = wr.heap.size := by omega
      go_wp2_with fail
      obtain ⟨W0, hW0⟩ : ∃ W0, (wr.setCell ⟨w.heap.size + 1 + 1 + 1 + 1, 0, none⟩ (.int .i64 p.f1.f3)).alloc (.cells #[.string p.f0, .bool p.f1.f0, .bool p.f1.f1, .bool p.f1.f2, .int .i64 p.f1.f3, .int .i64 p.f1.f4] 42) = W0 := ⟨_, rfl⟩
      rw [hW0]
      have hzs : (wr.setCell ⟨w.heap.size + 1 + 1 + 1 + 1, 0, none⟩ (.int .i64 p.f1.f3)).heap.size = wr.heap.size := by simp [World.setCell]
      have hold : ∀ k, k < wr.heap.size → k ≠ w.heap.size + 1 + 1 + 1 + 1 → W0.heap[k]? = wr.heap[k]? := fun k h1 h2 => by rw [← hW0, heap_alloc_old _ _ (by rw [hzs]; exact h1)]; exact setCell_far _ _ h2
      have g1 := (hold _ (Array.getElem?_eq_some_iff.1 b1).1 (by omega)).trans b1
      have g2 := (hold _ (Array.getElem?_eq_some_iff.1 b2).1 (by omega)).trans b2
      have g3 := (hold _ (Array.getElem?_eq_some_iff.1 b3).1 (by omega)).trans b3
      have gc := (hold _ (Array.getElem?_eq_some_iff.1 hcb).1 (by omega)).trans hcb
      have g4 : W0.heap[w.heap.size + 1 + 1 + 1 + 1]? = some (.cells #[.int .i64 p.f1.f3] 3 (0, 0)) := by rw [← hW0, heap_alloc_old _ _ (by rw [hzs]; exact h4lt)]; exact heap_set (i := 0) b4
      have gp : W0.heap[wr.heap.size]? = some (.cells #[.string p.f0, .bool p.f1.f0, .bool p.f1.f1, .bool p.f1.f2, .int .i64 p.f1.f3, .int .i64 p.f1.f4] 42 (0, 0)) := by rw [← hW0, ← hzs]; exact heap_alloc_new _ _
      have sA : KB [3] wr W0 := by rw [← hW0]; exact (KB.set b4 (by simp) _).trans (KB.below ((Below.refl _ _).alloc (Nat.le_refl _) _))
      have gb : Below w.heap.size w W0 := by rw [← hW0]; exact (hbw.setCell (p := ⟨w.heap.size + 1 + 1 + 1 + 1, 0, none⟩) (by show w.heap.size ≤ w.heap.size + 1 + 1 + 1 + 1; omega) _).alloc (by rw [hzs]; exact hbw.size) _
      have hl2 := hl1.kb sA (by decide)
      have hO2 := hO1.kb sA (by decide) (by decide)
      have hps2 : 0 ≤ p.f1.f3 ∧ p.f1.f3 ≤ 8 := by unfold styB inB at hps; simp only [Bool.and_eq_true, decide_eq_true_iff] at hps; omega
      have hrne : rowOf p ++ lettersOf (l.drop (n + 1)) ≠ [] := by
        unfold isTextB at hpt
        rw [Bool.and_eq_true, decide_eq_true_iff] at hpt
        intro h
        have h0 : (rowOf p).length = 0 := by rw [(List.append_eq_nil_iff.1 h).1]; rfl
        rw [rowOf_length] at h0
        omega
      have hT2 : O ++ restS (roomS c canvas) (rowOf p ++ lettersOf (l.drop (n + 1))) cur p.f1.f3 = T := by rw [restS_sz _ _ _ p.f1.f3 sz hrne]; exact HT.out
      clear hold m4 m4' m4a m4b hne1 hne2 h4lt hW0 hzs b1 b2 b3 b4 hcb hl1 hO1 sA HT d0 d1 d2 d3 d4 d5
      have hpsz : p.f0.size ≤ 2000 := Nat.le_trans (wordsLen_mem hpm) hw
      obtain ⟨bP, hbP⟩ : ∃ bP, wr.heap.size = bP := ⟨_, rfl⟩
      rw [hbP] at gp ⊢
      go_loopw [33] (fun i wi => ∃ (j : Nat) (cur : List S81) (O : List (List S81 × Int)) (vl vo : Value), j ≤ p.f0.size ∧ i = .int .i64 j ∧ wi.heap[bP]? = some (.cells #[.string p.f0, .bool p.f1.f0, .bool p.f1.f1, .bool p.f1.f2, .int .i64 p.f1.f3, .int .i64 p.f1.f4] 42 (0, 0)) ∧
        BRel w w.heap.size (w.heap.size + 1 + 1 + 1) (w.heap.size + 1) (w.heap.size + 1 + 1) (w.heap.size + 1 + 1 + 1 + 1) (roomS c canvas) p.f1.f3 #[.int .i64 a, .int .i64 b, .int .i64 c, .slice (some ad) l.length cap] T ((rowOf p).drop j ++ lettersOf (l.drop (n + 1))) cur O vl vo wi) (fun i _ => p.f0.size - (intOf i).toNat)
      case atStart => exact ⟨0, cur, O, vl, vo, by omega, rfl, gp, ⟨g1, g2, g3, g4⟩, gc, hl2, hO2, gb, hT2, hoc, hor, hlc, hOl, hps2.1, hps2.2⟩
      case round =>
        obtain ⟨j, cur', O', vl', vo', hj, rfl, hpb, ⟨e1, e2, e3, e4⟩, ecb, el, eo, eb, eT, ec, er, elc, eol, _, _⟩ := hrel
        obtain ⟨y0, y1, y2, y3, y4, y5⟩ := blk6 hpb
        by_cases hjl : j < p.f0.size
        · have hdj := rowOf_drop p j hjl
          have hub : byteAt p.f0 j hjl = p.f0[j] := rfl
          rw [hub] at hdj
          have hx : (⟨((p.f0[j]).toNat : Int), p.f1⟩ : S81) ∈ (rowOf p).drop j ++ lettersOf (l.drop (n + 1)) := by rw [hdj]; simp
          have hxo := er _ hx
          rw [hdj, List.cons_append] at eT er elc
          have hjs : IntKind.i64.wrap ((j : Int) + 1) = (j : Int) + 1 := IntWalk.i64_in _ (by omega)
          cases hnl : ((((p.f0[j]).toNat : Int)) == 10)
          case true =>
            have hnl' : (((p.f0[j]).toNat : Int)) = 10 := by simpa using hnl
            rw [restS_nl _ _ _ _ _ hnl', ← List.append_assoc] at eT
            have HT := Lib.hid eT
            have cF := flush_calls wr w.heap.size (w.heap.size + 1 + 1 + 1) (w.heap.size + 1) (w.heap.size + 1 + 1) (w.heap.size + 1 + 1 + 1 + 1) (roomS c canvas) p.f1.f3 cur' O' vl' vo' ⟨e1, e2, e3, e4⟩ el eo ⟨by omega, by omega⟩ ec hps2 (by omega)
            clear eT hnl'
            go_wp2_with (go_at_call 105; refine cF.mono ?_; rintro e W1 ⟨vl1, vo1, u1, rfl, hbx1, hl1, hO1, hk1, hb1⟩)
            have hfl := congrArg List.length HT.out
            go_roundw
            case rel =>
              refine ⟨j + 1, [], O' ++ flushS (roomS c canvas) cur' p.f1.f3, vl1, vo1, by omega, by go_num, hk1.2 _ _ 42 (by decide) hpb, hbx1, hk1.2 _ _ 25 (by decide) ecb, hl1, hO1, eb.trans hb1, HT.out, fun x hx => by simp at hx, ?_, ?_, ?_, hps2.1, hps2.2⟩
              · intro x hx'; exact er x (List.mem_cons_of_mem _ hx')
              · simp only [List.length_cons, List.length_nil] at elc ⊢; omega
              · rw [List.length_append] at hfl; omega
            case measure => simp [intOf]; omega
          case false =>
            have hnl' : (((p.f0[j]).toNat : Int)) ≠ 10 := by simpa using hnl
            rw [restS_no _ _ _ _ _ hnl'] at eT
            have HT := Lib.hid eT
            clear eT hnl'
            obtain ⟨Al, cl, rfl, hlel⟩ := el.form
            go_wp2_with fail
            have x1 := fun z : KZ [151] wr => (blk1 (z.blk e1 (by decide))).1
            have xp := fun z : KZ [151] wr => blk6 (z.blk hpb (by decide))
            have xp0 := fun z : KZ [151] wr => (xp z).1
            have xp1 := fun z : KZ [151] wr => (xp z).2.1
            have xp2 := fun z : KZ [151] wr => (xp z).2.2.1
            have xp3 := fun z : KZ [151] wr => (xp z).2.2.2.1
            have xp4 := fun z : KZ [151] wr => (xp z).2.2.2.2.1
            have xp5 := fun z : KZ [151] wr => (xp z).2.2.2.2.2
            clear xp
            refine wp_region_mix_last' (C := fun w' => ∃ z : KZ [151] wr, w' = z.w) 10 rfl [8, 9] 2 (by kernel_rfl) (by kernel_rfl) (by kernel_rfl) (by kernel_rfl) ⟨⟨wr.drew, KB.below (Below.refl _ wr).drew⟩, rfl⟩ ?_
            refine mix_pure rfl (fun K hK => ?_)
            go_simp
            refine hK _ _ ?_
            clear hK K
            refine mix_pure rfl (fun K hK => ?_)
            go_simp
            refine hK _ _ ?_
            clear hK K
            refine mix_pure rfl (fun K hK => ?_)
            go_simp
            refine hK _ _ ?_
            clear hK K
            refine mix_pure rfl (fun K hK => ?_)
            go_simp
            refine hK _ _ ?_
            clear hK K
            refine mix_pure rfl (fun K hK => ?_)
            go_simp
            refine hK _ _ ?_
            clear hK K
            refine mix_pure rfl (fun K hK => ?_)
            go_simp
            refine hK _ _ ?_
            clear hK K
            refine mix_pure rfl (fun K hK => ?_)
            go_simp
            refine hK _ _ ?_
            clear hK K
            refine mix_pure rfl (fun K hK => ?_)
            go_simp
            refine hK _ _ ?_
            clear hK K
            refine mix_eff rfl (fun K hK => ?_)
            go_simp
            simp only [effUpon_value]
            have hx3 : KB [151] wr (wr.drew.alloc (.cells #[.int .u8 (p.f0[j].toNat : Int), .bool p.f1.f0, .bool p.f1.f1, .bool p.f1.f2, .int .i64 p.f1.f3, .int .i64 p.f1.f4] 151)) := KB.below ((Below.refl _ wr).drew.alloc (Nat.le_refl _) _)
            refine ⟨⟨⟨_, hx3⟩, rfl⟩, hK _ _ ?_⟩
            clear hK K
            have hL3 : Lies (wr.drew.alloc (.cells #[.int .u8 (p.f0[j].toNat : Int), .bool p.f1.f0, .bool p.f1.f1, .bool p.f1.f2, .int .i64 p.f1.f3, .int .i64 p.f1.f4] 151)) w.heap.size 151 6 (.slice Al cur'.length cl) cur'.length (flat81 cur') := el.kb (KB.below (ts := []) ((Below.refl _ wr).drew.alloc (Nat.le_refl _) _)) (by simp)
            have hcl : cur'.length ≤ 2000 := by simp only [List.length_cons] at elc; omega
            refine mix_append rfl rfl _ _ 147 rfl w.heap.size 151 i0 _ 6 32 Tryz.underlying147 hi hz0 hz1 hz2 rfl (by decide) _ cur'.length (flat81 cur') rfl hL3 ⟨wr.heap.size, 0, none⟩ 1 1 (enc81 ⟨(p.f0[j].toNat : Int), p.f1⟩) rfl rfl ?qc2 ?qc3 ?qc4 ?qc5 ?qc6 (by decide) ?_
            case qc2 =>
              intro k u hk
              rw [add0]
              show (wr.alloc (.cells #[.int .u8 (p.f0[j].toNat : Int), .bool p.f1.f0, .bool p.f1.f1, .bool p.f1.f2, .int .i64 p.f1.f3, .int .i64 p.f1.f4] 151)).cell? ⟨wr.heap.size, k, none⟩ = some u
              rw [cell_of_row _ _ k _ 151 (0, 0) (heap_alloc_new wr _)]
              simpa [enc81] using hk
            case qc3 => intro u hu; simp only [enc81, List.mem_cons, List.mem_nil_iff, or_false] at hu; rcases hu with rfl | rfl | rfl | rfl | rfl | rfl <;> rfl
            case qc4 => unfold maxLen; omega
            case qc5 => omega
            case qc6 => have := eb.size; simp; omega
            intro v3 W3 hL4 hg3
            have hx4 : KB [151] wr W3 := (KB.below ((Below.refl _ wr).drew.alloc (Nat.le_refl _) _)).trans (KB.grown hg3 fun k hk => by obtain ⟨_, _, cu, hc⟩ := hL3.lt k hk; exact ⟨cu, 151, by simp, hc⟩)
            have hb4 : Below w.heap.size w W3 := (eb.drew.alloc (by have := eb.size; simpa using this) _).grown hg3 (by have := eb.size; simp; omega) (fun k hk => (hL3.lt k hk).1)
            obtain ⟨A3, c3, rfl, hle3⟩ := hL4.form
            refine ⟨⟨⟨W3, hx4⟩, rfl⟩, ?_⟩
            have q1 := hx4.2 _ _ 147 (by decide) e1
            have q2 := hx4.2 _ _ 3 (by decide) e2
            have q3 := hx4.2 _ _ 104 (by decide) e3
            have q4 := hx4.2 _ _ 3 (by decide) e4
            have qc := hx4.2 _ _ 25 (by decide) ecb
            have qp := hx4.2 _ _ 42 (by decide) hpb
            have eo4 := eo.kb hx4 (by decide) (by decide)
            clear hx3 hg3 hL3 x1 xp0 xp1 xp2 xp3 xp4 xp5 hx4
            have hnb : ¬ bP = w.heap.size + 1 + 1 + 1 := by rintro rfl; rw [q1] at qp; simp at qp
            obtain ⟨m1, m1'⟩ := blk1 q1
            refine mix_nil ?_
            intro _
            go_wp2
            go_roundw
            case rel =>
              have s1 := fun u : Value => KB.set (ts := [147]) (i := 0) q1 (by simp) u
              refine ⟨j + 1, cur' ++ [⟨((p.f0[j]).toNat : Int), p.f1⟩], O', .slice A3 (cur'.length + 1) c3, _, by omega, by go_num, (setCell_far _ _ hnb).trans qp, ⟨heap_set (i := 0) q1, (setCell_far _ _ (by omega)).trans q2, (setCell_far _ _ (by omega)).trans q3, (setCell_far _ _ (by omega)).trans q4⟩, (setCell_far _ _ (by omega)).trans qc, ?_, eo4.kb (s1 _) (by decide) (by decide), hb4.setCell (p := ⟨w.heap.size + 1 + 1 + 1, 0, none⟩) (by show w.heap.size ≤ w.heap.size + 1 + 1 + 1; omega) _, HT.out, ?_, ?_, ?_, eol, hps2.1, hps2.2⟩
              · have := hL4.kb (s1 (.slice A3 (cur'.length + 1) c3)) (by decide)
                rw [List.length_append, show flat81 (cur' ++ [⟨((p.f0[j]).toNat : Int), p.f1⟩]) = flat81 cur' ++ enc81 ⟨((p.f0[j]).toNat : Int), p.f1⟩ from by simp [flat81]]
                exact this
              · intro x hx'
                rcases List.mem_append.1 hx' with h | h
                · exact ec x h
                · rw [List.mem_singleton.1 h]; exact hxo
              · intro x hx'; exact er x (List.mem_cons_of_mem _ hx')
              · simp only [List.length_cons, List.length_append, List.length_nil] at elc ⊢; omega
            case measure => simp [intOf]; omega
        · have hjs : j = p.f0.size := by omega
          have hd0 : (rowOf p).drop j = [] := List.drop_of_length_le (by rw [rowOf_length]; omega)
          rw [hd0, List.nil_append] at eT er elc
          have HT := Lib.hid eT
          have wr5 : IntKind.i64.wrap ((n : Int) + 1) = (n : Int) + 1 := IntWalk.i64_in _ (by omega)
          clear eT hd0
          go_wp2
          go_roundw
          case rel => exact ⟨n + 1, p.f1.f3, cur', O', vl', vo', by omega, by go_num, ⟨e1, e2, e3, e4⟩, ecb, el, eo, eb, HT.out, ec, er, elc, eol, hps2.1, hps2.2⟩
          case measure => simp [intOf]; omega
    · have hnl : l.drop n = [] := List.drop_of_length_le (by omega)
      rw [hnl, show lettersOf [] = [] from rfl, restS_nil] at hT
      have HT := Lib.hid hT
      have cF := flush_calls wr w.heap.size (w.heap.size + 1 + 1 + 1) (w.heap.size + 1) (w.heap.size + 1 + 1) (w.heap.size + 1 + 1 + 1 + 1) (roomS c canvas) sz cur O vl vo ⟨b1, b2, b3, b4⟩ hl1 hO1 ⟨by omega, by omega⟩ hoc hsz (by omega)
      clear hT hnl
      go_wp2_with (go_at_call 105; refine cF.mono ?_; rintro e W1 ⟨vl1, vo1, u1, rfl, ⟨x1, x2, x3, x4⟩, hl1', hO1', hk1, hb1⟩; obtain ⟨m3, m3'⟩ := blk1 x3)
      go_ret
      exact ⟨_, rfl, by have h9 := hO1'; rw [HT.out, ← hT0] at h9; exact h9, hbw.trans hb1⟩
end Go.Proofs.YtogidacejbjljaaGreatDoor.PTextChecks
end
section
/- The reference's lines of letters: height, broken. -/
set_option linter.unusedVariables false
set_option linter.unusedSimpArgs false
namespace Go.Proofs.YtogidacejbjljaaGreatDoor.PTextChecks
open Go.RowKit Go.Mix Go.Own Go.Proofs.YtogidacejbjljaaGreatDoorW.PrintWords Go.Proofs.YtogidacejbjljaaGreatDoorW.PrintLast Go.Proofs.YtogidacejbjljaaGreatDoorW.PrintMore
/-- The value is a row that reads as these letters. -/
def Rd81 (w : World) (u : Value) (l : List S81) : Prop := ∃ A c, u = .slice A l.length c ∧ l.length ≤ c ∧ Kd.C k81 w A l.length l
def cells111 (vs : List Value) (O : List (List S81 × Int)) : List Value := (List.zip vs O).flatMap fun p => [p.1, .int .i64 p.2.2]
/-- A row of lines, each of which reads as its letters in the world w0. -/
def Rows (w0 w : World) (base : Nat) (v : Value) (vs : List Value) (O : List (List S81 × Int)) : Prop := vs.length = O.length ∧ Lies w base 111 2 v O.length (cells111 vs O) ∧ ∀ (i : Nat) (u : Value) (p : List S81 × Int), vs[i]? = some u → O[i]? = some p → Rd81 w0 u p.1
def lenOf : Value → Nat | .slice _ n _ => n | _ => 0
end Go.Proofs.YtogidacejbjljaaGreatDoor.PTextChecks
end
section
/- The reference's rows: the lines of a valid cue. -/
set_option linter.unusedVariables false
set_option linter.unusedSimpArgs false
namespace Go.Proofs.YtogidacejbjljaaGreatDoor.PTextChecks
open Go.RowKit Go.Mix Go.Own Go.Proofs.YtogidacejbjljaaGreatDoorW.PrintWords Go.Proofs.YtogidacejbjljaaGreatDoorW.PrintLast Go.Proofs.YtogidacejbjljaaGreatDoorW.PrintMore
end Go.Proofs.YtogidacejbjljaaGreatDoor.PTextChecks
end
section
/- Break, the program's and the reference's: the lines of a cue as rows of pieces. -/
set_option linter.unusedVariables false
set_option linter.unusedSimpArgs false
namespace Go.Own
open Go.RowKit
theorem Lies.at {w : World} {base : Nat} {e : TypeId} {size : Nat} {A : Option Addr} {n c : Nat} {xs : List Value} (h : Lies w base e size (.slice A n c) n xs) (hn : 0 < n) :
    ∃ ad, A = some ad ∧ ∀ (k i : Nat) (u : Value), xs[k + i]? = some u → (i = 0 → w.cell? (ad.add k) = some u) ∧ w.cell? ⟨(ad.add k).block, (ad.add k).off + i, none⟩ = some u := by
  rcases h.2 with ⟨_, h0⟩ | ⟨g, off, cap, cur, hv, hb, hg, hnc, hcm, hcs, ht⟩
  · omega
  · injection hv with h1 h2 h3
    subst h1
    refine ⟨_, rfl, fun k i u hu => ?_⟩
    have hadd : (⟨g, off, none⟩ : Addr).add k = ⟨g, off + k, none⟩ := by unfold Addr.add; split <;> simp_all
    rw [hadd]
    rw [← ht, List.getElem?_take] at hu
    split at hu
    · rw [List.getElem?_drop] at hu
      have h9 : w.cell? ⟨g, off + k + i, none⟩ = some u := by
        rw [← Nat.add_assoc] at hu
        simpa [World.cell?, hg] using hu
      exact ⟨fun h => by subst h; exact h9, h9⟩
    · cases hu
theorem flatMap_get {α β : Type} (f : α → List β) (sz : Nat) (hsz : ∀ x, (f x).length = sz) : ∀ (l : List α) (k i : Nat) (p : α), l[k]? = some p → i < sz → (l.flatMap f)[k * sz + i]? = (f p)[i]?
  | [], _, _, _, h, _ => by simp at h
  | x :: l, 0, i, p, h, hi => by
    obtain rfl : x = p := by simpa using h
    rw [Nat.zero_mul, Nat.zero_add, List.flatMap_cons, List.getElem?_append_left (by rw [hsz]; exact hi)]
  | x :: l, k + 1, i, p, h, hi => by
    have := flatMap_get f sz hsz l k i p (by simpa using h) hi
    rw [List.flatMap_cons, List.getElem?_append_right (by rw [hsz, Nat.succ_mul]; omega), ← this, hsz]
    congr 1
    rw [Nat.succ_mul]
    omega
end Go.Own
namespace Go.Proofs.YtogidacejbjljaaGreatDoor.PTextChecks
open Go.RowKit Go.Mix Go.Own Go.Proofs.YtogidacejbjljaaGreatDoorW.PrintWords Go.Proofs.YtogidacejbjljaaGreatDoorW.PrintLast Go.Proofs.YtogidacejbjljaaGreatDoorW.PrintMore
theorem infoPs : (Tryz.prog.info? 23).map (fun i => (i.zero, i.size, i.bytes)) = some (some (.slice none 0 0), 1, 24) := by kernel_rfl
theorem at_lines {w : World} {base : Nat} {A : Option Addr} {c : Nat} {O : List (List S81 × Int)} {vs : List Value} (h : Lies w base 107 3 (.slice A O.length c) O.length (cells107 vs O)) (hv : vs.length = O.length) (k : Nat) (hk : k < O.length) :
    ∃ ad u p, A = some ad ∧ vs[k]? = some u ∧ O[k]? = some p ∧ w.cell? (ad.add (k * 3)) = some u ∧ w.cell? ⟨(ad.add (k * 3)).block, (ad.add (k * 3)).off + 1, none⟩ = some (.int .i64 (sumW p.1 0)) ∧ w.cell? ⟨(ad.add (k * 3)).block, (ad.add (k * 3)).off + 2, none⟩ = some (.int .i64 p.2) := by
  obtain ⟨ad, rfl, hc⟩ := h.at (by omega)
  have h1 : (List.zip vs O)[k]? = some (vs[k]'(by omega), O[k]) := List.getElem?_zip_eq_some.2 ⟨List.getElem?_eq_getElem _, List.getElem?_eq_getElem _⟩
  have h2 := fun i hi => flatMap_get (fun p : Value × List S81 × Int => [p.1, .int .i64 (sumW p.2.1 0), .int .i64 p.2.2]) 3 (fun _ => rfl) _ k i _ h1 hi
  exact ⟨ad, vs[k]'(by omega), O[k], rfl, List.getElem?_eq_getElem _, List.getElem?_eq_getElem _, (hc (k * 3) 0 _ (h2 0 (by omega))).1 rfl, (hc (k * 3) 1 _ (h2 1 (by omega))).2, (hc (k * 3) 2 _ (h2 2 (by omega))).2⟩
/-- A row of rows of pieces. -/
def Brk (w : World) (base : Nat) (v : Value) (L : List (List S42)) : Prop := ∃ vs : List Value, vs.length = L.length ∧ Lies w base 23 1 v L.length vs ∧ ∀ (i : Nat) (u : Value) (p : List S42), vs[i]? = some u → L[i]? = some p → In42 w u p
theorem Brk.nil (w : World) (base : Nat) : Brk w base (.slice none 0 0) [] := ⟨[], rfl, Lies.nil w base 23 1, fun i u p h => by simp at h⟩
theorem Brk.snoc {w w' : World} {base : Nat} {v' u : Value} {L : List (List S42)} {p : List S42} {vs : List Value} (h1 : vs.length = L.length) (h2 : ∀ (i : Nat) (u : Value) (p : List S42), vs[i]? = some u → L[i]? = some p → In42 w u p)
    (h3 : Lies w' base 23 1 v' (L.length + 1) (vs ++ [u])) (h4 : In42 w u p) (hk : KB [23] w w') : Brk w' base v' (L ++ [p]) := by
  refine ⟨vs ++ [u], by simp [h1], by rw [List.length_append]; exact h3, fun i u' q hu hq => ?_⟩
  refine Lies.kb (ts := [23]) ?_ hk (by decide)
  rcases Nat.lt_trichotomy i L.length with hi | hi | hi
  · rw [List.getElem?_append_left (by omega)] at hu
    rw [List.getElem?_append_left hi] at hq
    exact h2 i u' q hu hq
  · subst hi
    rw [← h1, List.getElem?_concat_length] at hu
    rw [List.getElem?_concat_length] at hq
    injection hu with hu
    injection hq with hq
    subst hu hq
    exact h4
  · rw [List.getElem?_eq_none (by simp; omega)] at hq
    cases hq
theorem chk_cons (q : Option S40) (x : S42) (l : List S42) : ∃ B : Bool, (B = false → styB x.f1 = true) ∧ chk q (x :: l) = bif !isTextB x.f0 then 4 else bif B then 180 else chk (some x.f1) l := by
  refine ⟨_, ?_, rfl⟩
  intro h
  simp only [Bool.or_eq_false_iff, Bool.not_eq_false'] at h
  unfold styB
  rw [h.1.1, h.1.2]
  rfl
theorem chk_ok : ∀ (l : List S42) (q : Option S40), chk q l = 0 → ∀ p ∈ l, isTextB p.f0 = true ∧ styB p.f1 = true
  | [], _, _ => fun p hp => by simp at hp
  | x :: l, q, h => by
    obtain ⟨B, hB, he⟩ := chk_cons q x l
    rw [he] at h
    cases h1 : isTextB x.f0
    · rw [h1] at h; simp at h
    · rw [h1] at h
      cases B
      · intro p hp
        rcases List.mem_cons.1 hp with rfl | hp
        · exact ⟨h1, hB rfl⟩
        · exact chk_ok l _ h p hp
      · simp at h
theorem checkS_ok {a b c : Int} {l : List S42} (h : checkS a b c l = 0) : headB a b c = true ∧ l.length ≤ 100 ∧ wordsLen l ≤ 2000 ∧ ∀ p ∈ l, isTextB p.f0 = true ∧ styB p.f1 = true := by
  unfold checkS at h
  cases h1 : headB a b c
  · rw [h1] at h; simp at h
  · rw [h1] at h
    cases h2 : (decide (100 < l.length) || (decide (2000 < wordsLen l) || decide (20 < nlf (bs (wordsOf l)) + 1)))
    · rw [h2] at h
      simp only [Bool.or_eq_false_iff, decide_eq_false_iff_not] at h2
      exact ⟨rfl, by omega, by omega, chk_ok l none h⟩
    · rw [h2] at h; simp at h
/-- The lines of a cue, or its error. -/
def brkE (a b c : Int) (l : List S42) (canvas : Int) : Int :=
  if checkS a b c l = 0 then (if inB canvas 1 1000 then (if 400 < (linesS (roomS c canvas) (lettersOf l)).length then 2 else 0) else 1) else checkS a b c l
def brkL (a b c : Int) (l : List S42) (canvas : Int) : List (List S42) :=
  if brkE a b c l canvas = 0 then (linesS (roomS c canvas) (lettersOf l)).map fun p => piecesS p.1 else []
def BrkPost (a b c : Int) (l : List S42) (canvas : Int) (w : World) (e : Ending) (w' : World) : Prop :=
  ∃ v, e = .returned (.tuple #[v, .int .i64 (brkE a b c l canvas)]) ∧ Brk w' w.heap.size v (brkL a b c l canvas) ∧ Below w.heap.size w w'
theorem within_calls' (a lo hi : Int) (w : World) : Calls Tryz.prog 57 #[.int .i64 a, .int .i64 lo, .int .i64 hi] w fun e w' => e = .returned (.bool (inB a lo hi)) ∧ w' = w := by
  unfold inB
  by_cases h : lo ≤ a
  · have hd : decide (lo ≤ a) = true := decide_eq_true h
    go_enter Tryz.func57, Tryz.ntmps57
    go_wp2
    go_ret
    simp [h]
  · have hd : decide (lo ≤ a) = false := decide_eq_false h
    go_enter Tryz.func57, Tryz.ntmps57
    go_wp2
    go_ret
    simp [h]
theorem brk_bad {a b c : Int} {l : List S42} {canvas : Int} (h : checkS a b c l ≠ 0) : brkE a b c l canvas = checkS a b c l ∧ brkL a b c l canvas = [] := by
  have h1 : brkE a b c l canvas = checkS a b c l := by unfold brkE; rw [if_neg h]
  exact ⟨h1, by unfold brkL; rw [h1, if_neg h]⟩
theorem brk_range {a b c : Int} {l : List S42} {canvas : Int} (h : checkS a b c l = 0) (h1 : inB canvas 1 1000 = false) : brkE a b c l canvas = 1 ∧ brkL a b c l canvas = [] := by
  have h2 : brkE a b c l canvas = 1 := by unfold brkE; rw [if_pos h, h1]; rfl
  exact ⟨h2, by unfold brkL; rw [h2]; rfl⟩
theorem brk_limit {a b c : Int} {l : List S42} {canvas : Int} (h : checkS a b c l = 0) (h1 : inB canvas 1 1000 = true) (h2 : 400 < (linesS (roomS c canvas) (lettersOf l)).length) : brkE a b c l canvas = 2 ∧ brkL a b c l canvas = [] := by
  have h2 : brkE a b c l canvas = 2 := by unfold brkE; rw [if_pos h, h1, if_pos rfl, if_pos h2]
  exact ⟨h2, by unfold brkL; rw [h2]; rfl⟩
theorem brk_good {a b c : Int} {l : List S42} {canvas : Int} (h : checkS a b c l = 0) (h1 : inB canvas 1 1000 = true) (h2 : ¬ 400 < (linesS (roomS c canvas) (lettersOf l)).length) : brkE a b c l canvas = 0 ∧ brkL a b c l canvas = (linesS (roomS c canvas) (lettersOf l)).map fun p => piecesS p.1 := by
  have h2 : brkE a b c l canvas = 0 := by unfold brkE; rw [if_pos h, h1, if_pos rfl, if_neg h2]
  exact ⟨h2, by unfold brkL; rw [if_pos h2]⟩
theorem inB_true {a lo hi : Int} (h : inB a lo hi = true) : lo ≤ a ∧ a ≤ hi := by
  unfold inB at h
  rw [Bool.and_eq_true, decide_eq_true_iff, decide_eq_true_iff] at h
  exact h
theorem headB_margin {a b c : Int} (h : headB a b c = true) : 0 ≤ c ∧ c ≤ 100 := by
  unfold headB at h
  rw [Bool.and_eq_true, Bool.and_eq_true] at h
  exact inB_true h.2.2
set_option maxHeartbeats 2000000 in
set_option maxRecDepth 100000 in
theorem tBreak_calls (a b c : Int) (A : Option Addr) (cap : Nat) (l : List S42) (canvas : Int) (w : World) (hr : Kd.C k42 w A l.length l) (hc : l.length ≤ cap) (hf : Fit l) :
    Calls Tryz.prog 35 #[.agg #[.int .i64 a, .int .i64 b, .int .i64 c, .slice A l.length cap], .int .i64 canvas] w (BrkPost a b c l canvas w) := by
  unfold BrkPost
  obtain ⟨i0, hi, hii⟩ := Option.map_eq_some_iff.1 infoPs
  simp only [Prod.mk.injEq] at hii
  obtain ⟨hz0, hz1, hz2⟩ := hii
  have cC := fun X h => tCheck_calls a b c A cap l X h hc hf
  have cI := fun X => within_calls' canvas 1 1000 X
  obtain ⟨ec, hec⟩ : ∃ ec, checkS a b c l = ec := ⟨_, rfl⟩
  rw [hec] at cC
  go_enter Tryz.func35, Tryz.ntmps35
  cases hc0 : (ec != 0)
  case true =>
    have hne : checkS a b c l ≠ 0 := by rw [hec]; simpa using hc0
    obtain ⟨hE, hL⟩ := brk_bad (canvas := canvas) hne
    rw [hec] at hE
    have HE := Lib.hid hE
    have HL := Lib.hid hL
    clear hE hL hne
    go_wp2_with (go_at_call 25; refine (cC _ (Kd.C_alloc hr _)).mono ?_; rintro e W1 ⟨rfl, hb1⟩)
    go_ret2
    exact ⟨_, by rw [HE.out]; rfl, by rw [HL.out]; exact Brk.nil _ _, ((Below.refl _ w).alloc (Nat.le_refl _) _).trans (hb1.mono (by simp))⟩
  case false =>
    have hz : checkS a b c l = 0 := by rw [hec]; simpa using hc0
    obtain ⟨hhd, hl, hw, hok⟩ := checkS_ok hz
    have hmg := headB_margin hhd
    have HZ := Lib.hid hz
    clear hz
    cases hin : inB canvas 1 1000
    case false =>
      obtain ⟨hE, hL⟩ := brk_range HZ.out hin
      have HE := Lib.hid hE
      have HL := Lib.hid hL
      clear hE hL
      rw [hin] at cI
      go_wp2_with (first | (go_at_call 25; refine (cC _ (Kd.C_alloc hr _)).mono ?_; rintro e W1 ⟨rfl, hb1⟩) | (go_at_call 57; refine (cI _).mono ?_; rintro e W2 ⟨rfl, rfl⟩))
      go_ret2
      exact ⟨_, by rw [HE.out]; rfl, by rw [HL.out]; exact Brk.nil _ _, ((Below.refl _ w).alloc (Nat.le_refl _) _).trans (hb1.mono (by simp))⟩
    case true =>
      rw [hin] at cI
      have hcv := inB_true hin
      have cB := fun X h => broken_calls a b c A cap l canvas X h hc hl hw hok hmg hcv
      obtain ⟨O, hO⟩ : ∃ O, linesS (roomS c canvas) (lettersOf l) = O := ⟨_, rfl⟩
      have hOl : O.length ≤ 5000 := by rw [← hO]; have := linesS_len (roomS c canvas) (lettersOf l); rw [lettersOf_length] at this; omega
      rw [hO] at cB
      cases h4 : decide ((400 : Int) < (O.length : Int))
      case true =>
        obtain ⟨hE, hL⟩ := brk_limit HZ.out hin (by rw [hO]; have := of_decide_eq_true h4; omega)
        have HE := Lib.hid hE
        have HL := Lib.hid hL
        clear hE hL
        go_wp2_with (first | (go_at_call 25; refine (cC _ (Kd.C_alloc hr _)).mono ?_; rintro e W1 ⟨rfl, hb1⟩; obtain ⟨k0, k1, k2, k3⟩ := box4 hb1; have hr1 := Kd.C_below (Kd.C_alloc hr _) hb1) | (go_at_call 57; refine (cI _).mono ?_; rintro e W2 ⟨rfl, rfl⟩) | (go_at_call 74; refine (cB _ hr1).mono ?_; rintro e W3 ⟨v3, rfl, ⟨vs, hv1, hv2, hv3⟩, hb3⟩; obtain ⟨A3, c3, rfl, hle3⟩ := hv2.form))
        go_ret2
        exact ⟨_, by rw [HE.out]; rfl, by rw [HL.out]; exact Brk.nil _ _, (((Below.refl _ w).alloc (Nat.le_refl _) _).trans (hb1.mono (by simp))).trans (hb3.mono (by have := hb1.size; simp at this; omega))⟩
      case false =>
        obtain ⟨hE, hL⟩ := brk_good HZ.out hin (by rw [hO]; have := of_decide_eq_false h4; omega)
        rw [hO] at hL
        have HE := Lib.hid hE
        have HL := Lib.hid hL
        clear hE hL hO
        go_wp2_with (first | (go_at_call 25; refine (cC _ (Kd.C_alloc hr _)).mono ?_; rintro e W1 ⟨rfl, hb1⟩; obtain ⟨k0, k1, k2, k3⟩ := box4 hb1; have hr1 := Kd.C_below (Kd.C_alloc hr _) hb1) | (go_at_call 57; refine (cI _).mono ?_; rintro e W2 ⟨rfl, rfl⟩) | (go_at_call 74; refine (cB _ hr1).mono ?_; rintro e W3 ⟨v3, rfl, ⟨vs, hv1, hv2, hv3⟩, hb3⟩; obtain ⟨A3, c3, rfl, hle3⟩ := hv2.form))
        have hbw3 : Below w.heap.size w W3 := (((Below.refl _ w).alloc (Nat.le_refl _) _).trans (hb1.mono (by simp))).trans (hb3.mono (by have := hb1.size; simp at this; omega))
        clear hb1 hb3 cC cI cB k0 k1 k2 k3 hr1 hr
        go_loopw [8, 27] (fun vo i wr => ∃ n : Nat, n ≤ O.length ∧ i = .int .i64 n ∧ Brk wr W3.heap.size vo ((O.take n).map fun p => piecesS p.1) ∧ KB [23] W3 wr ∧ Below W3.heap.size W3 wr) (fun _ i _ => O.length - (intOf i).toNat)
        case atStart => exact ⟨0, by omega, rfl, Brk.nil _ _, KB.refl _ _, Below.refl _ _⟩
        case round =>
          obtain ⟨n, hn, rfl, hB, hkb, hbw⟩ := hrel
          by_cases hlt : n < O.length
          · obtain ⟨ad, u, p, rfl, hu, hp, d0, d1, d2⟩ := at_lines (hv2.kb hkb (by decide)) hv1 n hlt
            have hIn := (hv3 n u p hu hp).kb hkb (by decide)
            obtain ⟨Au, cu, rfl, hcu⟩ := hIn.form
            have hmap : ((O.take (n + 1)).map fun p => piecesS p.1) = ((O.take n).map fun p => piecesS p.1) ++ [piecesS p.1] := by
              rw [List.take_succ_eq_append_getElem hlt, List.map_append, List.getElem?_eq_getElem hlt] at *
              rw [Option.some.inj hp]
              rfl
            have hml : ((O.take n).map fun p => piecesS p.1).length = n := by rw [List.length_map, List.length_take]; omega
            obtain ⟨vs2, hw1, hw2, hw3⟩ := hB
            rw [hml] at hw1 hw2
            generalize sumW p.1 0 = su at d1
            generalize p.2 = hg at d2
            generalize hpl : (piecesS p.1).length = pl at *
            have wr1 : IntKind.i64.wrap ((n : Int) + 1) = (n : Int) + 1 := IntWalk.i64_in _ (by omega)
            have HM := Lib.hid hmap
            clear hmap hp hu
            have hb2 : Below wr.heap.size wr ((wr.alloc (.cells #[.slice Au pl cu, .int .i64 su, .int .i64 hg] 107)).alloc (.cells #[.slice Au pl cu] 23)) := ((Below.refl _ wr).alloc (Nat.le_refl _) _).alloc (by simp) _
            have hL3 := hw2.kb (KB.below (ts := []) hb2) (by simp)
            go_wp2_with (at_builtin; refine Go.Own.wpList_append_lies rfl _ _ 48 rfl W3.heap.size 23 i0 _ 1 24 Tryz.underlying48 hi hz0 hz1 hz2 rfl (by decide) _ n vs2 rfl hL3 ⟨wr.heap.size + 1, 0, none⟩ 1 1 [.slice Au pl cu] rfl rfl ?qc2 ?qc3 ?qc4 ?qc5 ?qc6 (by decide) ?_)
            case qc2 =>
              intro k u hk
              rw [add0, newcell2 wr _ #[.slice Au pl cu] 23 k u (by simpa using hk)]
            case qc3 => intro u hu; simp only [List.mem_cons, List.mem_nil_iff, or_false] at hu; rcases hu with rfl; rfl
            case qc4 => unfold maxLen; omega
            case qc5 => omega
            case qc6 => exact Nat.le_trans hbw.size hb2.size
            intro v5 W5 hL5 hg5
            have hk5 : KB [23] wr W5 := (KB.below hb2).trans (KB.grown hg5 fun k hk => by obtain ⟨_, _, cu, hc⟩ := hL3.lt k hk; exact ⟨cu, 23, by simp, hc⟩)
            have hb5 : Below W3.heap.size W3 W5 := (hbw.trans (hb2.mono hbw.size)).grown hg5 (Nat.le_trans hbw.size hb2.size) (fun k hk => (hL3.lt k hk).1)
            clear hg5 hL3 hb2
            go_wp2
            go_roundw
            case rel => exact ⟨n + 1, by omega, by go_num, by rw [HM.out]; exact Brk.snoc (w := wr) (by rw [hml]; exact hw1) hw3 (by rw [hml]; exact hL5) (by subst hpl; exact hIn) hk5, hkb.trans hk5, hb5⟩
            case measure => (simp [intOf]; try omega)
          · obtain rfl : n = O.length := by omega
            rw [List.take_length] at hB
            have HB := Lib.hid hB
            clear hB
            go_wp2_with fail
            go_ret2
            refine ⟨_, by rw [HE.out]; rfl, ?_, hbw3.trans (hbw.mono hbw3.size)⟩
            rw [HL.out]
            obtain ⟨vs2, hw1, hw2, hw3⟩ := HB.out
            exact ⟨vs2, hw1, hw2.mono hbw3.size, hw3⟩
end Go.Proofs.YtogidacejbjljaaGreatDoor.PTextChecks
end
section
/- The reference's Break. -/
set_option linter.unusedVariables false
set_option linter.unusedSimpArgs false
namespace Go.Proofs.YtogidacejbjljaaGreatDoor.PTextChecks
open Go.RowKit Go.Mix Go.Own Go.Proofs.YtogidacejbjljaaGreatDoorW.PrintWords Go.Proofs.YtogidacejbjljaaGreatDoorW.PrintLast Go.Proofs.YtogidacejbjljaaGreatDoorW.PrintMore
theorem brkF_in (room : Int) : ∀ (k : Nat) (l : List S81), ∀ r ∈ brkF room k l, (∀ x ∈ r, x ∈ l) ∧ r.length ≤ l.length
  | 0, _ => fun r hr => by simp [brkF] at hr
  | k + 1, l => fun r hr => by
    unfold brkF at hr
    split at hr
    · simp at hr
    · rcases List.mem_cons.1 hr with rfl | hr
      · exact ⟨fun x hx => List.mem_of_mem_take hx, by rw [List.length_take]; omega⟩
      · obtain ⟨h1, h2⟩ := brkF_in room k _ r hr
        exact ⟨fun x hx => List.mem_of_mem_drop (h1 x hx), by rw [List.length_drop] at h2; omega⟩
theorem flushS_in (room : Int) (l : List S81) (sz : Int) : ∀ p ∈ flushS room l sz, (∀ x ∈ p.1, x ∈ l) ∧ p.1.length ≤ l.length := by
  intro p hp
  unfold flushS at hp
  split at hp
  · obtain rfl := List.mem_singleton.1 hp
    exact ⟨fun x hx => by simp at hx, by simp⟩
  · obtain ⟨r, hr, rfl⟩ := List.mem_map.1 hp
    exact brkF_in room _ l r hr
theorem restS_in (room : Int) : ∀ (l cur : List S81) (sz : Int), ∀ p ∈ restS room l cur sz, (∀ x ∈ p.1, x ∈ cur ∨ x ∈ l) ∧ p.1.length ≤ cur.length + l.length
  | [], cur, sz => fun p hp => by
    rw [restS_nil] at hp
    obtain ⟨h1, h2⟩ := flushS_in room cur sz p hp
    exact ⟨fun x hx => .inl (h1 x hx), by simpa using h2⟩
  | y :: r, cur, sz => fun p hp => by
    by_cases h : y.f0 = 10
    · rw [restS_nl room y r cur sz h] at hp
      rcases List.mem_append.1 hp with hp | hp
      · obtain ⟨h1, h2⟩ := flushS_in room cur y.f1.f3 p hp
        exact ⟨fun x hx => .inl (h1 x hx), by omega⟩
      · obtain ⟨h1, h2⟩ := restS_in room r [] y.f1.f3 p hp
        exact ⟨fun x hx => by rcases h1 x hx with h | h; · simp at h
                              · exact .inr (List.mem_cons_of_mem _ h), by simp only [List.length_nil, List.length_cons] at h2 ⊢; omega⟩
    · rw [restS_no room y r cur sz h] at hp
      obtain ⟨h1, h2⟩ := restS_in room r (cur ++ [y]) y.f1.f3 p hp
      refine ⟨fun x hx => ?_, by simp only [List.length_append, List.length_cons, List.length_nil] at h2 ⊢; omega⟩
      rcases h1 x hx with h | h
      · rcases List.mem_append.1 h with h | h
        · exact .inl h
        · obtain rfl := List.mem_singleton.1 h
          exact .inr (List.mem_cons_self ..)
      · exact .inr (List.mem_cons_of_mem _ h)
theorem linesS_in (room : Int) (l : List S81) : ∀ p ∈ linesS room l, (∀ x ∈ p.1, x ∈ l) ∧ p.1.length ≤ l.length := by
  intro p hp
  obtain ⟨h1, h2⟩ := restS_in room l [] 2 p hp
  exact ⟨fun x hx => by rcases h1 x hx with h | h; · simp at h
                        · exact h, by simpa using h2⟩
end Go.Proofs.YtogidacejbjljaaGreatDoor.PTextChecks
end
section
/- The plain side of TextWords: the lines of a cue have its letters but the line feeds, each fits, and its pieces are well joined. -/
set_option linter.unusedVariables false
set_option linter.unusedSimpArgs false
namespace Go.Proofs.YtogidacejbjljaaGreatDoor.PTextChecks
open Go.RowKit Go.Proofs.YtogidacejbjljaaGreatDoorW.PrintWords Go.Proofs.YtogidacejbjljaaGreatDoorW.PrintLast Go.Proofs.YtogidacejbjljaaGreatDoorW.PrintMore
theorem lettersOf_app (a b : List S42) : lettersOf (a ++ b) = lettersOf a ++ lettersOf b := by simp [lettersOf]
theorem rowOf_app (a b : ByteArray) (s : S40) : rowOf ⟨a ++ b, s⟩ = rowOf ⟨a, s⟩ ++ rowOf ⟨b, s⟩ := by simp [rowOf, bs_append]
theorem set_last {α : Type} (l : List α) (x : α) (h : 0 < l.length) : l.set (l.length - 1) x = l.take (l.length - 1) ++ [x] := by
  rw [List.set_eq_take_append_cons_drop, if_pos (by omega), List.drop_of_length_le (by omega)]
theorem take_last (l : List S42) (h : 0 < l.length) : l = l.take (l.length - 1) ++ [lastP l] := by
  have h1 : lastP l = l[l.length - 1]'(by omega) := by simp [lastP, List.getElem?_eq_getElem (show l.length - 1 < l.length by omega)]
  conv => lhs; rw [← List.take_append_drop (l.length - 1) l]
  congr 1
  rw [List.drop_eq_getElem_cons (by omega), List.drop_of_length_le (by omega), h1]
theorem letters_join (out : List S42) (p : S42) : lettersOf (joinP out p) = lettersOf out ++ rowOf p := by
  unfold joinP
  split
  · rename_i h
    split
    · rename_i he
      have hs : (lastP out).f1 = p.f1 := (eqS_iff _ _).1 he
      rw [set_last out _ h, lettersOf_app]
      conv => rhs; rw [take_last out h, lettersOf_app]
      have e1 : ∀ q : S42, lettersOf [q] = rowOf q := fun q => by simp [lettersOf, rowOf]
      rw [e1, e1, rowOf_app, List.append_assoc]
      have h3 : (⟨p.f0, (lastP out).f1⟩ : S42) = p := by rw [hs]
      rw [h3]
    · rw [lettersOf_app]; simp [lettersOf, rowOf]
  · rw [lettersOf_app]; simp [lettersOf, rowOf]
theorem rowOf_chP (x : S81) (h : 0 ≤ x.f0 ∧ x.f0 < 256) : rowOf (chP x) = [x] := by
  have h1 : ((x.f0.toNat.toUInt8).toNat : Int) = x.f0 := by
    rw [UInt8.toNat_ofNat', Nat.mod_eq_of_lt (by omega)]
    omega
  simp only [rowOf, chP, bs, List.map_cons, List.map_nil]
  rw [h1]
theorem letters_pieces {r : List S81} (h : Byt r) : lettersOf (piecesS r) = r := by
  have : ∀ (r : List S81) (out : List S42), Byt r → lettersOf (r.foldl (fun out x => joinP out (chP x)) out) = lettersOf out ++ r := by
    intro r
    induction r with
    | nil => intro out _; simp
    | cons x r ih =>
      intro out h
      rw [List.foldl_cons, ih _ (fun y hy => h y (List.mem_cons_of_mem _ hy)), letters_join, rowOf_chP x (h x (List.mem_cons_self ..)), List.append_assoc]
      rfl
  have h9 := this r [] h
  rw [show lettersOf ([] : List S42) = [] from rfl, List.nil_append] at h9
  exact h9
def bOf (x : S81) : UInt8 := x.f0.toNat.toUInt8
theorem bs_words (l : List S42) : bs (wordsOf l) = (lettersOf l).map bOf := by
  have : ∀ (l : List S42) (s : ByteArray), bs (l.foldl (fun s p => s ++ p.f0) s) = bs s ++ (lettersOf l).map bOf := by
    intro l
    induction l with
    | nil => intro s; simp [lettersOf]
    | cons p l ih =>
      intro s
      rw [List.foldl_cons, ih, bs_append, lettersOf_cons, List.map_append, List.append_assoc]
      congr 2
      unfold rowOf
      rw [List.map_map]
      conv => lhs; rw [← List.map_id (bs p.f0)]
      refine List.map_congr_left fun c _ => ?_
      simp [bOf]
  have := this l ⟨#[]⟩
  simpa [wordsOf, bs] using this
def GoodP (l : List S42) : Prop := (∀ p ∈ l, 0 < p.f0.size) ∧ ∀ (k : Nat) (p q : S42), l[k]? = some p → l[k + 1]? = some q → eqS q.f1 p.f1 = false
theorem joinP_good {out : List S42} {p : S42} (h : GoodP out) (hp : 0 < p.f0.size) : GoodP (joinP out p) := by
  obtain ⟨h1, h2⟩ := h
  have hL : 0 < out.length → out[out.length - 1]? = some (lastP out) := fun h => by simp [lastP, List.getElem?_eq_getElem (show out.length - 1 < out.length by omega)]
  have snoc : (0 < out.length → eqS p.f1 (lastP out).f1 = false) → GoodP (out ++ [p]) := by
    intro hne
    refine ⟨fun q hq => ?_, fun k a b ha hb => ?_⟩
    · rcases List.mem_append.1 hq with hq | hq
      · exact h1 q hq
      · rw [List.mem_singleton.1 hq]; exact hp
    · rcases Nat.lt_trichotomy (k + 1) out.length with hk | hk | hk
      · rw [List.getElem?_append_left (by omega)] at ha hb
        exact h2 k a b ha hb
      · rw [List.getElem?_append_left (by omega)] at ha
        rw [hk, List.getElem?_concat_length] at hb
        have := hL (by omega)
        rw [show out.length - 1 = k by omega, ha] at this
        injection this with e1
        injection hb with e2
        rw [e1, ← e2]
        exact hne (by omega)
      · rw [List.getElem?_eq_none (by simp; omega)] at hb
        cases hb
  unfold joinP
  split
  · rename_i h
    split
    · rename_i he
      refine ⟨fun q hq => ?_, fun k a b ha hb => ?_⟩
      · rcases List.mem_or_eq_of_mem_set hq with hq | rfl
        · exact h1 q hq
        · simp only [ByteArray.size_append]; omega
      · have hst : ∀ (j : Nat) (c : S42), (out.set (out.length - 1) ⟨(lastP out).f0 ++ p.f0, (lastP out).f1⟩)[j]? = some c → ∃ d, out[j]? = some d ∧ d.f1 = c.f1 := by
          intro j c hc
          rw [List.getElem?_set] at hc
          split at hc
          · rename_i hj
            split at hc
            · injection hc with hc
              subst hj
              exact ⟨_, hL h, by rw [← hc]⟩
            · cases hc
          · exact ⟨c, hc, rfl⟩
        obtain ⟨a', ha', ea⟩ := hst _ _ ha
        obtain ⟨b', hb', eb⟩ := hst _ _ hb
        rw [← ea, ← eb]
        exact h2 k a' b' ha' hb'
    · rename_i he
      exact snoc fun _ => by rw [eqS_comm]; simpa using he
  · rename_i h
    exact snoc fun h' => absurd h' h
theorem pieces_good (r : List S81) : GoodP (piecesS r) := by
  have : ∀ (r : List S81) (out : List S42), GoodP out → GoodP (r.foldl (fun out x => joinP out (chP x)) out) := by
    intro r
    induction r with
    | nil => exact fun out h => h
    | cons x r ih => exact fun out h => ih _ (joinP_good h (by show 0 < 1; omega))
  exact this r [] ⟨fun p hp => by simp at hp, fun k p q h => by simp at h⟩
theorem cls_range (n : Nat) : 0 ≤ clsN n ∧ clsN n ≤ 3 := by unfold clsN; split <;> (try split) <;> (try split) <;> omega
theorem wd_range (x : S81) (h : 0 ≤ x.f1.f3 ∧ x.f1.f3 ≤ 8) : 0 ≤ wd x ∧ wd x ≤ 25 := by
  have hc := cls_range x.f0.toNat
  have h1 : 0 ≤ x.f1.f3 * clsN x.f0.toNat := Int.mul_nonneg h.1 hc.1
  have h2 : x.f1.f3 * clsN x.f0.toNat ≤ 8 * 3 := Int.mul_le_mul h.2 hc.2 hc.1 (by omega)
  unfold wd wideS
  generalize x.f1.f3 * clsN x.f0.toNat = z at h1 h2
  unfold wrap64
  split
  · omega
  · split <;> omega
def sumI (l : List S81) : Int := (l.map wd).sum
theorem sumI_app (a b : List S81) : sumI (a ++ b) = sumI a + sumI b := by simp [sumI, List.sum_append]
theorem sumI_range {l : List S81} (h : Okl l) : 0 ≤ sumI l ∧ sumI l ≤ 25 * l.length := by
  induction l with
  | nil => simp [sumI]
  | cons x l ih =>
    have h1 := wd_range x (h x (List.mem_cons_self ..)).2
    have h2 := ih (fun y hy => h y (List.mem_cons_of_mem _ hy))
    simp only [sumI, List.map_cons, List.sum_cons, List.length_cons] at h2 ⊢
    omega
theorem sumW_eq : ∀ (l : List S81) (z : Int), Okl l → 0 ≤ z → z + 25 * l.length ≤ 4611686018427387904 → sumW l z = z + sumI l
  | [], z, _, _, _ => by simp [sumW, sumI]
  | x :: l, z, h, h0, hz => by
    have h1 := wd_range x (h x (List.mem_cons_self ..)).2
    simp only [List.length_cons] at hz
    have hw : wrap64 (z + wideS x.f0.toNat x.f1) = z + wd x := by
      show wrap64 (z + wd x) = z + wd x
      unfold wrap64; omega
    have := sumW_eq l (z + wd x) (fun y hy => h y (List.mem_cons_of_mem _ hy)) (by omega) (by omega)
    show (l.foldl (fun z x => wrap64 (z + wideS x.f0.toNat x.f1)) (wrap64 (z + wideS x.f0.toNat x.f1))) = _
    rw [hw]
    rw [show l.foldl (fun z x => wrap64 (z + wideS x.f0.toNat x.f1)) (z + wd x) = sumW l (z + wd x) from rfl, this]
    simp only [sumI, List.map_cons, List.sum_cons]
    omega
theorem takeF_fit {room : Int} : ∀ (l pre : List S81) (blank : Nat), Okl (pre ++ l) → (pre ++ l).length ≤ 1000000 → blank ≤ pre.length → (pre.length ≤ 1 ∨ sumI pre ≤ room) →
    takeF room l (sumI pre) pre.length blank ≤ 1 ∨ sumI ((pre ++ l).take (takeF room l (sumI pre) pre.length blank)) ≤ room
  | [], pre, blank, ho, hl, hb, hf => by
    unfold takeF
    rcases hf with h | h
    · exact .inl h
    · exact .inr (by rw [List.append_nil, List.take_length]; exact h)
  | x :: l, pre, blank, ho, hl, hb, hf => by
    have hop : Okl pre := fun y hy => ho y (List.mem_append_left _ hy)
    have hx := ho x (by simp)
    have h1 := wd_range x hx.2
    have h2 := sumI_range hop
    simp only [List.length_append, List.length_cons] at hl
    have hw : wrap64 (sumI pre + wd x) = sumI (pre ++ [x]) := by
      rw [sumI_app, show sumI [x] = wd x from by simp [sumI]]
      unfold wrap64; omega
    unfold takeF
    rw [hw]
    split
    · rename_i hc
      rw [Bool.and_eq_true, decide_eq_true_iff, decide_eq_true_iff] at hc
      have key : ∀ n, n ≤ pre.length → n ≤ 1 ∨ sumI ((pre ++ x :: l).take n) ≤ room := by
        intro n hn
        rcases hf with h | h
        · exact .inl (by omega)
        · right
          rw [List.take_append_of_le_length hn]
          have h3 := sumI_app (pre.take n) (pre.drop n)
          rw [List.take_append_drop] at h3
          have h4 := (sumI_range (hop.drop n)).1
          omega
      split
      · exact key _ hb
      · exact key _ (Nat.le_refl _)
    · rename_i hc
      have hc' : ¬ (room < sumI (pre ++ [x]) ∧ 0 < pre.length) := by simpa using hc
      have := takeF_fit (room := room) l (pre ++ [x]) (if x.f0 = 32 then pre.length + 1 else blank) (by simpa using ho) (by simp; omega) (by simp; split <;> omega) (by simp only [List.length_append, List.length_cons, List.length_nil]; omega)
      simpa using this
theorem takenS_fit {room : Int} {l : List S81} (ho : Okl l) (hl : l.length ≤ 1000000) : takenS l room ≤ 1 ∨ sumI (l.take (takenS l room)) ≤ room := by
  have := takeF_fit (room := room) l [] 0 (by simpa using ho) (by simpa using hl) (Nat.le_refl _) (.inl (by simp))
  simpa [takenS, sumI] using this
theorem brkF_fit {room : Int} : ∀ (k : Nat) (l : List S81), Okl l → l.length ≤ 1000000 → ∀ r ∈ brkF room k l, r.length ≤ 1 ∨ sumI r ≤ room
  | 0, _, _, _ => fun r hr => by simp [brkF] at hr
  | k + 1, l, ho, hl => fun r hr => by
    unfold brkF at hr
    split at hr
    · simp at hr
    · rcases List.mem_cons.1 hr with rfl | hr
      · rcases takenS_fit (room := room) ho hl with h | h
        · exact .inl (by rw [List.length_take]; omega)
        · exact .inr h
      · exact brkF_fit k _ (ho.drop _) (by rw [List.length_drop]; omega) r hr
theorem flushS_fit {room : Int} {l : List S81} {sz : Int} (ho : Okl l) (hl : l.length ≤ 1000000) : ∀ p ∈ flushS room l sz, p.1.length ≤ 1 ∨ sumI p.1 ≤ room := by
  intro p hp
  unfold flushS at hp
  split at hp
  · rw [List.mem_singleton.1 hp]; exact .inl (by simp)
  · obtain ⟨r, hr, rfl⟩ := List.mem_map.1 hp
    exact brkF_fit _ l ho hl r hr
theorem restS_fit {room : Int} : ∀ (l cur : List S81) (sz : Int), Okl (cur ++ l) → (cur ++ l).length ≤ 1000000 → ∀ p ∈ restS room l cur sz, p.1.length ≤ 1 ∨ sumI p.1 ≤ room
  | [], cur, sz, ho, hl => fun p hp => by
    rw [restS_nil] at hp
    rw [List.append_nil] at ho hl
    exact flushS_fit ho hl p hp
  | y :: r, cur, sz, ho, hl => fun p hp => by
    have hoc : Okl cur := fun x hx => ho x (List.mem_append_left _ hx)
    have hor : Okl r := fun x hx => ho x (List.mem_append_right _ (List.mem_cons_of_mem _ hx))
    simp only [List.length_append, List.length_cons] at hl
    by_cases h : y.f0 = 10
    · rw [restS_nl room y r cur sz h] at hp
      rcases List.mem_append.1 hp with hp | hp
      · exact flushS_fit hoc (by omega) p hp
      · exact restS_fit r [] y.f1.f3 (by simpa using hor) (by simp; omega) p hp
    · rw [restS_no room y r cur sz h] at hp
      exact restS_fit r (cur ++ [y]) y.f1.f3 (by simpa using ho) (by simp; omega) p hp
theorem linesS_fit {room : Int} {l : List S81} (ho : Okl l) (hl : l.length ≤ 1000000) : ∀ p ∈ linesS room l, p.1.length ≤ 1 ∨ sumI p.1 ≤ room := restS_fit l [] 2 (by simpa using ho) (by simpa using hl)
theorem brkF_flat {room : Int} : ∀ (k : Nat) (l : List S81), l.length ≤ k → (brkF room k l).flatten = l
  | 0, l, h => by
    obtain rfl : l = [] := List.eq_nil_of_length_eq_zero (by omega)
    rfl
  | k + 1, l, h => by
    unfold brkF
    split
    · rename_i he
      rw [List.isEmpty_iff.1 he]; rfl
    · rename_i he
      have hp := takenS_pos (l := l) (by simpa using he) room
      rw [List.flatten_cons, brkF_flat k _ (by rw [List.length_drop]; omega), List.take_append_drop]
theorem flushS_flat (room : Int) (l : List S81) (sz : Int) : ((flushS room l sz).map Prod.fst).flatten = l := by
  unfold flushS
  split
  · rename_i he
    rw [List.isEmpty_iff.1 he]; rfl
  · rw [List.map_map, show (Prod.fst ∘ fun r : List S81 => (r, heightS r)) = id from rfl, List.map_id]
    exact brkF_flat _ l (Nat.le_refl _)
def noNl (x : S81) : Bool := !(decide (x.f0 = 10))
theorem restS_flat (room : Int) : ∀ (l cur : List S81) (sz : Int), ((restS room l cur sz).map Prod.fst).flatten = cur ++ l.filter noNl
  | [], cur, sz => by rw [restS_nil, flushS_flat]; simp
  | y :: r, cur, sz => by
    by_cases h : y.f0 = 10
    · rw [restS_nl room y r cur sz h, List.map_append, List.flatten_append, flushS_flat, restS_flat room r [] _, List.filter_cons, if_neg (by simp [noNl, h])]
      rfl
    · rw [restS_no room y r cur sz h, restS_flat room r _ _, List.filter_cons, if_pos (by simp [noNl, h]), List.append_assoc]
      rfl
theorem linesS_flat (room : Int) (l : List S81) : ((linesS room l).map Prod.fst).flatten = l.filter noNl := by
  unfold linesS
  rw [restS_flat]
  rfl
theorem filter_b {l : List S81} (h : Byt l) : (l.filter noNl).map bOf = (l.map bOf).filter fun c => c != 10 := by
  rw [List.filter_map]
  congr 1
  refine List.filter_congr fun x hx => ?_
  have hx := h x hx
  have key : ∀ n : Fin 256, (!(decide ((n.val : Int) = 10))) = (n.val.toUInt8 != 10) := by decide +kernel
  have := key ⟨x.f0.toNat, by omega⟩
  simp only [Int.toNat_of_nonneg hx.1] at this
  exact this
theorem bs_inj {a b : ByteArray} (h : bs a = bs b) : a = b := by
  cases a; cases b
  congr 1
  exact Array.toList_inj.1 h
end Go.Proofs.YtogidacejbjljaaGreatDoor.PTextChecks
end
section
/- TextChecks' own function (7), by hand. -/
set_option linter.unusedVariables false
set_option linter.unusedSimpArgs false
namespace Go.Proofs.YtogidacejbjljaaGreatDoor.PTextChecks
open Go.RowKit Go.Mix Go.Proofs.YtogidacejbjljaaGreatDoorW.PrintWords Go.Proofs.YtogidacejbjljaaGreatDoorW.PrintLast Go.Proofs.YtogidacejbjljaaGreatDoorW.PrintMore
theorem eqp_self {l : List S42} (hl : l.length ≤ 140737488351232) : ∀ (d i k : Nat), i + d = l.length → d < k → r18_EqPieces.l0 k l l (i : Int) = some true := by
  intro d
  induction d with
  | zero =>
    intro i k hi hk
    obtain ⟨k, rfl⟩ : ∃ m, k = m + 1 := ⟨k - 1, by omega⟩
    unfold r18_EqPieces.l0
    rw [if_neg (by omega)]
  | succ d ih =>
    intro i k hi hk
    obtain ⟨k, rfl⟩ : ∃ m, k = m + 1 := ⟨k - 1, by omega⟩
    have hlt : i < l.length := by omega
    unfold r18_EqPieces.l0
    rw [if_pos (by omega), if_pos (by omega), if_pos (by omega), if_neg (by simp), wsucc hlt (by omega)]
    exact ih (i + 1) k (by omega) (by omega)
theorem same_self (a b c : Int) {l : List S42} (hl : l.length ≤ 140737488351232) : r18_Same.f (l.length + 1) a b c l a b c l = some true := by
  unfold r18_Same.f r18_EqPieces.f
  rw [if_pos rfl, if_pos rfl, if_pos rfl, if_pos rfl]
  rw [show (0 : Int) = ((0 : Nat) : Int) from rfl, eqp_self hl l.length 0 _ (by omega) (by omega)]
  rfl
theorem wordsLen_le {l : List S42} {B : Nat} : (∀ p ∈ l, p.f0.size ≤ B) → wordsLen l ≤ l.length * B := by
  induction l with
  | nil => intro _; simp [wordsLen]
  | cons p l ih =>
    intro h
    have h1 := h p (List.mem_cons_self ..)
    have h2 := ih fun q hq => h q (List.mem_cons_of_mem _ hq)
    simp only [wordsLen, List.map_cons, List.sum_cons, List.length_cons] at h2 ⊢
    rw [Nat.succ_mul]
    omega
def longB (l : List S42) : Bool := decide (400 < l.length) || decide (10000 < wordsLen l)
theorem long_run {l : List S42} (h : ∀ p ∈ l, p.f0.size ≤ 140737488351232) (a b c : Int) : w18_long.f (l.length + 1) a b c l = some (longB l) := by
  unfold w18_long.f longB
  by_cases hl : (l.length : Int) > 400
  · rw [if_pos hl, decide_eq_true (by omega)]; rfl
  · have h1 := wordsLen_le h
    have h2 : l.length * 140737488351232 ≤ 400 * 140737488351232 := Nat.mul_le_mul (by omega) (Nat.le_refl _)
    rw [if_neg hl, rWords_big (by omega) (by omega) a b c _ (by omega), decide_eq_false (p := 400 < l.length) (by omega)]
    simp only [Option.bind_some, wordsOf_size, Bool.false_or]
    congr 1
    rw [Bool.eq_iff_iff, decide_eq_true_iff, decide_eq_true_iff]
    omega
def LRel (w1 : World) (wr : World) : Prop := Below w1.heap.size w1 wr
end Go.Proofs.YtogidacejbjljaaGreatDoor.PTextChecks
end
section
/- TextBreaks' own function (8). -/
set_option linter.unusedVariables false
set_option linter.unusedSimpArgs false
namespace Go.Proofs.YtogidacejbjljaaGreatDoor.PTextChecks
open Go.RowKit Go.Mix Go.Own Go.Proofs.YtogidacejbjljaaGreatDoorW.PrintWords Go.Proofs.YtogidacejbjljaaGreatDoorW.PrintLast Go.Proofs.YtogidacejbjljaaGreatDoorW.PrintMore
theorem at_brk {w : World} {base : Nat} {A : Option Addr} {c : Nat} {L : List (List S42)} (h : Brk w base (.slice A L.length c) L) (k : Nat) (hk : k < L.length) (hL : ∀ p ∈ L, p.length ≤ 9223372036854775807) :
    ∃ ad p Au cu, A = some ad ∧ L[k]? = some p ∧ w.cell? (ad.add k) = some (.slice Au p.length cu) ∧ p.length ≤ cu ∧ Kd.C k42 w Au p.length p := by
  obtain ⟨vs, h1, h2, h3⟩ := h
  obtain ⟨ad, rfl, hc⟩ := h2.at (by omega)
  have hp : L[k]? = some L[k] := List.getElem?_eq_getElem _
  have hu : vs[k]? = some (vs[k]'(by omega)) := List.getElem?_eq_getElem _
  obtain ⟨Au, cu, e, hle, hC⟩ := (h3 k _ _ hu hp).reads (hL _ (List.getElem_mem _))
  exact ⟨ad, L[k], Au, cu, rfl, hp, by rw [← e]; exact (hc k 0 _ hu).1 rfl, hle, hC⟩
theorem brkL_small {a b c : Int} {l : List S42} {canvas : Int} (hw : wordsLen l ≤ 1000000) : (brkL a b c l canvas).length ≤ 2000001 ∧ ∀ p ∈ brkL a b c l canvas, p.length ≤ 1000000 := by
  unfold brkL
  split
  · refine ⟨?_, fun p hp => ?_⟩
    · rw [List.length_map]
      have := linesS_len (roomS c canvas) (lettersOf l)
      rw [lettersOf_length] at this
      omega
    · obtain ⟨q, hq, rfl⟩ := List.mem_map.1 hp
      have h1 := (linesS_in _ _ q hq).2
      have h2 := piecesS_len q.1 q.1.length
      rw [List.take_length] at h2
      rw [lettersOf_length] at h1
      omega
  · exact ⟨by simp, fun p hp => by simp at hp⟩
theorem Brk.keep {w w' : World} {base : Nat} {v : Value} {L : List (List S42)} (h : Brk w base v L) (hb : Below w.heap.size w w') : Brk w' base v L := by
  obtain ⟨vs, h1, h2, h3⟩ := h
  exact ⟨vs, h1, h2.kb (KB.below (ts := []) hb) (by simp), fun i u p hu hp => (h3 i u p hu hp).kb (KB.below (ts := []) hb) (by simp)⟩
end Go.Proofs.YtogidacejbjljaaGreatDoor.PTextChecks
end
section
/- TextWords' own function (9). -/
set_option linter.unusedVariables false
set_option linter.unusedSimpArgs false
namespace Go.Proofs.YtogidacejbjljaaGreatDoor.PTextChecks
open Go.RowKit Go.Mix Go.Own Go.Proofs.YtogidacejbjljaaGreatDoorW.PrintWords Go.Proofs.YtogidacejbjljaaGreatDoorW.PrintLast Go.Proofs.YtogidacejbjljaaGreatDoorW.PrintMore
theorem brkE_zero {a b c : Int} {l : List S42} {canvas : Int} (h : brkE a b c l canvas = 0) : checkS a b c l = 0 ∧ inB canvas 1 1000 = true ∧ brkL a b c l canvas = (linesS (roomS c canvas) (lettersOf l)).map fun p => piecesS p.1 := by
  unfold brkL
  rw [if_pos h]
  unfold brkE at h
  split at h
  · rename_i h1
    split at h
    · rename_i h2
      exact ⟨h1, h2, rfl⟩
    · simp at h
  · contradiction
/-- What the lines of a cue are. -/
def LinesOk (room : Int) (l : List S42) (L : List (List S42)) : Prop :=
  (∀ P ∈ L, GoodP P ∧ Okl (lettersOf P) ∧ wordsLen P ≤ 2000 ∧ (wordsLen P ≤ 1 ∨ sumI (lettersOf P) ≤ room)) ∧ (L.map lettersOf).flatten = (lettersOf l).filter noNl
theorem linesOk {room : Int} {l : List S42} (hok : ∀ p ∈ l, isTextB p.f0 = true ∧ styB p.f1 = true) (hw : wordsLen l ≤ 2000) : LinesOk room l ((linesS room (lettersOf l)).map fun p => piecesS p.1) := by
  have ho := okl_letters hok
  have hl : (lettersOf l).length ≤ 1000000 := by rw [lettersOf_length]; omega
  have hp : ∀ p ∈ linesS room (lettersOf l), Okl p.1 ∧ p.1.length ≤ 2000 := fun p hp => by
    obtain ⟨h1, h2⟩ := linesS_in room _ p hp
    rw [lettersOf_length] at h2
    exact ⟨fun x hx => ho x (h1 x hx), by omega⟩
  refine ⟨fun P hP => ?_, ?_⟩
  · obtain ⟨p, hq, rfl⟩ := List.mem_map.1 hP
    obtain ⟨h1, h2⟩ := hp p hq
    have h3 := letters_pieces h1.byt
    have h4 : wordsLen (piecesS p.1) = p.1.length := by rw [← lettersOf_length, h3]
    rw [h3, h4]
    exact ⟨pieces_good _, h1, h2, linesS_fit ho hl p hq⟩
  · rw [List.map_map]
    have : (linesS room (lettersOf l)).map (lettersOf ∘ fun p => piecesS p.1) = (linesS room (lettersOf l)).map Prod.fst := by
      refine List.map_congr_left fun p hq => ?_
      exact letters_pieces (hp p hq).1.byt
    rw [this, linesS_flat]
def flatB (L : List (List S42)) : List UInt8 := ((L.map lettersOf).flatten).map bOf
theorem flatB_snoc (L : List (List S42)) (n : Nat) (P : List S42) (h : L[n]? = some P) : flatB (L.take (n + 1)) = flatB (L.take n) ++ bs (wordsOf P) := by
  obtain ⟨hn, he⟩ := List.getElem?_eq_some_iff.1 h
  rw [List.take_succ_eq_append_getElem hn, he, bs_words]
  simp [flatB]
theorem flatB_take (L : List (List S42)) (n : Nat) : (flatB (L.take n)).length ≤ (flatB L).length := by
  have h : flatB L = flatB (L.take n) ++ flatB (L.drop n) := by
    conv => lhs; rw [← List.take_append_drop n L]
    unfold flatB
    rw [List.map_append, List.flatten_append, List.map_append]
  rw [h, List.length_append]
  omega
theorem sumI_snoc {P : List S42} {k : Nat} (h : k < P.length) : sumI (lettersOf (P.take (k + 1))) = sumI (lettersOf (P.take k)) + sumI (rowOf (rd_T42 P (k : Int))) := by
  rw [List.take_succ_eq_append_getElem h, lettersOf_app, sumI_app]
  congr 2
  rw [show rd_T42 P (k : Int) = P[k] from by simp [rd_T42, List.getElem?_eq_getElem h]]
  simp [lettersOf, rowOf]
theorem widthS_eq {P : List S42} {p : S42} (hp : p ∈ P) (ho : Okl (lettersOf P)) (hw : wordsLen P ≤ 2000) : widthS p = sumI (rowOf p) := by
  have h1 : Okl (rowOf p) := fun x hx => ho x (List.mem_flatMap.2 ⟨p, hp, hx⟩)
  have h2 := wordsLen_mem hp
  have := sumW_eq (rowOf p) 0 h1 (by omega) (by rw [rowOf_length]; omega)
  unfold widthS
  omega
theorem bs_extract1 (s : ByteArray) (j : Nat) (h : j < s.size) : bs (s.extract j (j + 1)) = [s[j]] := by
  unfold bs
  rw [ByteArray.data_extract, Array.toList_extract, List.extract_eq_take_drop, show j + 1 - j = 1 by omega]
  have h' : j < s.data.toList.length := by rw [Array.length_toList]; exact h
  rw [List.drop_eq_getElem_cons h', List.take_succ_cons, List.take_zero]
  rfl
theorem eqS_cases {p q : S40} (h : eqS p q = false) : p.f0 ≠ q.f0 ∨ (p.f0 = q.f0 ∧ p.f1 ≠ q.f1) ∨ (p.f0 = q.f0 ∧ p.f1 = q.f1 ∧ p.f2 ≠ q.f2) ∨ (p.f0 = q.f0 ∧ p.f1 = q.f1 ∧ p.f2 = q.f2 ∧ p.f3 ≠ q.f3) ∨ (p.f0 = q.f0 ∧ p.f1 = q.f1 ∧ p.f2 = q.f2 ∧ p.f3 = q.f3 ∧ p.f4 ≠ q.f4) := by
  have h' : ¬ p = q := fun e => by rw [(eqS_iff p q).2 e] at h; cases h
  by_cases h0 : p.f0 = q.f0
  · by_cases h1 : p.f1 = q.f1
    · by_cases h2 : p.f2 = q.f2
      · by_cases h3 : p.f3 = q.f3
        · refine .inr (.inr (.inr (.inr ⟨h0, h1, h2, h3, fun h4 => h' ?_⟩)))
          cases p; cases q; simp_all
        · exact .inr (.inr (.inr (.inl ⟨h0, h1, h2, h3⟩)))
      · exact .inr (.inr (.inl ⟨h0, h1, h2⟩))
    · exact .inr (.inl ⟨h0, h1⟩)
  · exact .inl h0
set_option maxHeartbeats 4000000 in
set_option maxRecDepth 100000 in
theorem law9_calls (a b c : Int) (A : Option Addr) (cap : Nat) (l : List S42) (canvas : Int) (w : World) (hr : Kd.C k42 w A l.length l) (hc : l.length ≤ cap) (hs : ∀ p ∈ l, p.f0.size ≤ 140737488351232) :
    Calls Tryz.prog 9 #[.agg #[.int .i64 a, .int .i64 b, .int .i64 c, .slice A l.length cap], .int .i64 canvas] w fun e w' => e = .returned (.bool true) ∧ Below w.heap.size w w' := by
  have cL := fun W (h : Kd.C k42 W A l.length l) => w18_long.calls (l.length + 1) a b c A cap l (longB l) W h hc (long_run hs a b c)
  go_enter Tryz.func9, Tryz.ntmps9
  cases hlg : longB l
  case true =>
    rw [hlg] at cL
    go_wp2_with (first | (go_at_call 17; refine (cL _ ?s1).mono ?_; (case s1 => exact Kd.C_alloc hr _); rintro e W ⟨rfl, hbW⟩) | (go_at_call 13; refine (awake_calls _).mono ?_; rintro e W2 ⟨rfl, hbW2⟩))
    go_ret
    exact ⟨rfl, ((Below.refl _ w).alloc (Nat.le_refl _) _).trans ((hbW.trans (hbW2.mono hbW.size)).mono (by simp))⟩
  case false =>
    rw [hlg] at cL
    unfold longB at hlg
    rw [Bool.or_eq_false_iff, decide_eq_false_iff_not, decide_eq_false_iff_not] at hlg
    obtain ⟨hl4, hw4⟩ := hlg
    have hf : Fit l := ⟨by omega, by omega⟩
    have cT := fun X h => tBreak_calls a b c A cap l canvas X h hc hf
    unfold BrkPost at cT
    cases hE : (brkE a b c l canvas != 0)
    case true =>
      generalize brkE a b c l canvas = E at cT hE
      go_wp2_with (first | (go_at_call 17; refine (cL _ (Kd.C_alloc hr _)).mono ?_; rintro e W ⟨rfl, hbW⟩; obtain ⟨h0, h1, h2, h3⟩ := box4 hbW; have hrW := Kd.C_below (Kd.C_alloc hr _) hbW) | (go_at_call 35; refine (cT _ hrW).mono ?_; rintro e W1 ⟨v1, rfl, hB1, hb1⟩) | (go_at_call 13; refine (awake_calls _).mono ?_; rintro e W2 ⟨rfl, hbW2⟩))
      go_ret
      exact ⟨rfl, ((Below.refl _ w).alloc (Nat.le_refl _) _).trans (((hbW.trans (hb1.mono hbW.size)).trans (hbW2.mono (Nat.le_trans hbW.size hb1.size))).mono (by simp))⟩
    case false =>
      have hE0 : brkE a b c l canvas = 0 := by simpa using hE
      obtain ⟨hck, hin, hLe⟩ := brkE_zero hE0
      obtain ⟨hhd, hl, hw, hok⟩ := checkS_ok hck
      have hmg := headB_margin hhd
      have hcv := inB_true hin
      have hLo := linesOk (room := roomS c canvas) hok hw
      rw [← hLe] at hLo
      obtain ⟨hsm, hsm2⟩ := brkL_small (a := a) (b := b) (c := c) (l := l) (canvas := canvas) (by omega)
      generalize brkL a b c l canvas = L at cT hLo hsm hsm2
      rw [hE0] at cT
      obtain ⟨hLo1, hLo2⟩ := hLo
      have hroom : max (canvas - 2 * c) 1 = roomS c canvas := by unfold roomS; omega
      have wr1 : IntKind.i64.wrap (2 * c) = 2 * c := IntWalk.i64_in _ (by omega)
      have wr2 : IntKind.i64.wrap (canvas - 2 * c) = canvas - 2 * c := IntWalk.i64_in _ (by omega)
      generalize roomS c canvas = room at hroom hLo1
      have hfl : flatB L = ((lettersOf l).filter noNl).map bOf := by unfold flatB; rw [hLo2]
      have hfl2 : (flatB L).length ≤ 2000 := by rw [hfl, List.length_map]; have := List.length_filter_le noNl (lettersOf l); rw [lettersOf_length] at this; omega
      clear hE hE0 hck hin hLe hhd hLo2
      go_wp2_with (first | (go_at_call 17; refine (cL _ (Kd.C_alloc hr _)).mono ?_; rintro e W ⟨rfl, hbW⟩; obtain ⟨h0, h1, h2, h3⟩ := box4 hbW; have hrW := Kd.C_below (Kd.C_alloc hr _) hbW) | (go_at_call 35; refine (cT _ hrW).mono ?_; rintro e W1 ⟨v1, rfl, hB1, hb1⟩; (obtain ⟨A1, c1, rfl, hle1⟩ : ∃ A1 c1, v1 = .slice A1 L.length c1 ∧ L.length ≤ c1 := (by obtain ⟨vs, _, h2, _⟩ := hB1; exact h2.form)); have h0 := cell_later hb1 h0; have h1 := cell_later hb1 h1; have h2 := cell_later hb1 h2; have h3 := cell_later hb1 h3; have hrW1 := Kd.C_below hrW hb1))
      try rw [hroom]
      have hbw1 : Below w.heap.size w W1 := ((Below.refl _ w).alloc (Nat.le_refl _) _).trans ((hbW.trans (hb1.mono hbW.size)).mono (by simp))
      clear hbW hb1 hrW cL cT hr
      go_loopw [8, 9] (fun s i wr => ∃ (n : Nat) (st : ByteArray), n ≤ L.length ∧ s = .string st ∧ i = .int .i64 n ∧ bs st = flatB (L.take n) ∧ Below W1.heap.size W1 wr) (fun _ i _ => L.length - (intOf i).toNat)
      case atStart => exact ⟨0, ⟨#[]⟩, by omega, rfl, rfl, rfl, Below.refl _ _⟩
      case round =>
        obtain ⟨n, st, hn, rfl, rfl, hst, hbr⟩ := hrel
        by_cases hlt : n < L.length
        · obtain ⟨ad1, P, Au, cu, rfl, hp, d1, hle3, hC1⟩ := at_brk (hB1.keep hbr) n hlt (fun p hp => by have := hsm2 p hp; omega)
          obtain ⟨hgd, hoP, hwP, hfit⟩ := hLo1 P (List.mem_of_getElem? hp)
          have hpl := hsm2 P (List.mem_of_getElem? hp)
          have cW := fun X h => tWords_calls 0 0 0 Au cu P X h hle3 ⟨by omega, by omega⟩
          have hln := wordsOf_size P
          have hsn := flatB_snoc L n P hp
          generalize wordsOf P = ln at cW hln hsn
          have hst2 : st.size ≤ 2000 := by rw [← bs_length, hst]; have := flatB_take L n; omega
          have hsz : st.size + ln.size ≤ 9223372036854775807 := by omega
          have HST := Lib.hid hst
          have HSN := Lib.hid hsn
          clear hst hsn
          obtain ⟨wo, hwo⟩ : ∃ wo, wo = wr := ⟨_, rfl⟩
          subst hwo
          go_wp2_with (go_at_call 29; refine (cW _ hC1).mono ?_; rintro e W2 ⟨rfl, hb2⟩)
          have hb2' : Below W1.heap.size W1 W2 := hbr.trans (hb2.mono hbr.size)
          have d2 := cell_later hb2 d1
          have hC2 := Kd.C_below hC1 hb2
          clear hb2 d1 hC1 cW
          go_loopw [11, 12] (fun z k wi => ∃ j : Nat, j ≤ P.length ∧ z = .int .i64 (sumI (lettersOf (P.take j))) ∧ k = .int .i64 j ∧ Below W2.heap.size W2 wi) (fun _ k _ => P.length - (intOf k).toNat)
          case atStart => exact ⟨0, by omega, rfl, rfl, Below.refl _ _⟩
          case round =>
            obtain ⟨j, hj, rfl, rfl, hbi⟩ := hrel
            have d3 := cell_later hbi d2
            have hC3 := Kd.C_below hC2 hbi
            by_cases hjl : j < P.length
            · obtain ⟨ad3, rfl, g0, g1, g2, g3, g4, g5⟩ := at_T42 hC3 (j : Int) (by omega) (by omega)
              obtain ⟨p, hpp⟩ : ∃ p, rd_T42 P (j : Int) = p := ⟨_, rfl⟩
              rw [hpp] at g0 g1 g2 g3 g4 g5
              simp only [Int.toNat_natCast] at g0 g1 g2 g3 g4 g5
              have hpg : P[j]? = some p := by rw [← hpp]; simp [rd_T42, List.getElem?_eq_getElem hjl]
              have hpm := List.mem_of_getElem? hpg
              have hps := hgd.1 p hpm
              have hpw := wordsLen_mem hpm
              have hsu := sumI_snoc hjl
              rw [hpp] at hsu
              have hwe := widthS_eq hpm hoP hwP
              have hs1 := sumI_range (l := lettersOf (P.take j)) (fun x hx => by obtain ⟨q, hq, hx⟩ := List.mem_flatMap.1 hx; exact hoP x (List.mem_flatMap.2 ⟨q, List.mem_of_mem_take hq, hx⟩))
              have hs2 := sumI_range (l := rowOf p) (fun x hx => hoP x (List.mem_flatMap.2 ⟨p, hpm, hx⟩))
              have hs3 := wordsLen_take P j
              rw [lettersOf_length] at hs1
              rw [rowOf_length] at hs2
              generalize sumI (lettersOf (P.take j)) = z at hsu hs1 ⊢
              have cV := fun X => text_Width.calls (p.f0.size + 1) p.f0 p.f1.f0 p.f1.f1 p.f1.f2 p.f1.f3 p.f1.f4 (widthS p) X (width_run p (by omega) _ (by omega))
              rw [hwe] at cV
              generalize sumI (rowOf p) = y at hsu hs2 cV
              have wr3 : IntKind.i64.wrap (z + y) = z + y := IntWalk.i64_in _ (by omega)
              have wr4 : IntKind.i64.wrap ((j : Int) + 1) = (j : Int) + 1 := IntWalk.i64_in _ (by omega)
              have hsz0 : ((p.f0.size : Int) == 0) = false := by rw [beq_eq_false_iff_ne]; omega
              have HSU := Lib.hid hsu
              clear hsu hwe hpp hs1 hs2 hs3 hpw
              go_wp2_with (go_at_call 23; refine (cV _).mono ?_; rintro e W4 ⟨rfl, hb4⟩)
              have hbi4 : Below W2.heap.size W2 W4 := hbi.trans (hb4.mono hbi.size)
              have e1 := cell_later hb4 d3
              have f0 := cell_later hb4 g0
              have f1 := cell_later hb4 g1
              have f2 := cell_later hb4 g2
              have f3 := cell_later hb4 g3
              have f4 := cell_later hb4 g4
              have f5 := cell_later hb4 g5
              have hC4 := Kd.C_below hC3 hb4
              clear g0 g1 g2 g3 g4 g5 d3 hC3 hb4 cV
              rcases Nat.eq_zero_or_pos j with hz | hz
              · have tz : decide ((0 : Int) < (j : Int)) = false := decide_eq_false (by omega)
                have tz' : decide (0 < j) = false := decide_eq_false (by omega)
                clear hz
                go_quiet (fail)
                go_wp2
                go_roundw
                case rel => exact ⟨j + 1, by omega, by rw [HSU.out], by go_num, by first | exact hbi4 | exact bdrewN hbi4 _⟩
                case measure => (simp [intOf]; try omega)
              · have tz : decide ((0 : Int) < (j : Int)) = true := decide_eq_true (by omega)
                have tz' : decide (0 < j) = true := decide_eq_true (by omega)
                obtain ⟨ad4, hae, k0, k1, k2, k3, k4, k5⟩ := at_T42 hC4 ((j - 1 : Nat) : Int) (by omega) (by omega)
                obtain rfl : ad4 = ad3 := by injection hae with hae; exact hae.symm
                obtain ⟨q, hqq⟩ : ∃ q, rd_T42 P ((j - 1 : Nat) : Int) = q := ⟨_, rfl⟩
                rw [hqq] at k0 k1 k2 k3 k4 k5
                simp only [Int.toNat_natCast] at k0 k1 k2 k3 k4 k5
                have hqg : P[j - 1]? = some q := by rw [← hqq]; simp [rd_T42, List.getElem?_eq_getElem (show j - 1 < P.length by omega)]
                have hne := hgd.2 (j - 1) q p hqg (by rw [show j - 1 + 1 = j by omega]; exact hpg)
                clear hqq hqg
                have hcs : p.f1.f0 ≠ q.f1.f0 ∨ (p.f1.f0 = q.f1.f0 ∧ p.f1.f1 ≠ q.f1.f1) ∨ (p.f1.f0 = q.f1.f0 ∧ p.f1.f1 = q.f1.f1 ∧ p.f1.f2 ≠ q.f1.f2) ∨ (p.f1.f0 = q.f1.f0 ∧ p.f1.f1 = q.f1.f1 ∧ p.f1.f2 = q.f1.f2 ∧ p.f1.f3 ≠ q.f1.f3) ∨ (p.f1.f0 = q.f1.f0 ∧ p.f1.f1 = q.f1.f1 ∧ p.f1.f2 = q.f1.f2 ∧ p.f1.f3 = q.f1.f3 ∧ p.f1.f4 ≠ q.f1.f4) := eqS_cases hne
                clear hne hpg hpm hps
                have wr5 : IntKind.i64.wrap ((j : Int) - 1) = (j : Int) - 1 := IntWalk.i64_in _ (by omega)
                have wr6 : (0 : Int) ≤ (j : Int) - 1 := by omega
                have wr7 : (j : Int) - 1 < (P.length : Int) := by omega
                have wr8 : 1 ≤ j := by omega
                have wr12 : (1 : Int) ≤ (j : Int) := by omega
                have wr9 : ¬ ((j : Int) - 1 < 0) := by omega
                have wr10 : ((j : Int) - 1).toNat < P.length := by omega
                have wr11 : j - 1 < P.length := by omega
                rcases hcs with n0 | ⟨n0, n1⟩ | ⟨n0, n1, n2⟩ | ⟨n0, n1, n2, n3⟩ | ⟨n0, n1, n2, n3, n4⟩
                all_goals
                  go_quiet (fail)
                  clear wr5 wr6 wr7 wr8 wr9 wr10 wr11 wr12
                  go_wp2
                  go_roundw
                  case rel => exact ⟨j + 1, by omega, by rw [HSU.out], by go_num, by first | exact hbi4 | exact bdrewN hbi4 _⟩
                  case measure => (simp [intOf]; try omega)
            · obtain rfl : j = P.length := by omega
              rw [List.take_length]
              generalize hzz : sumI (lettersOf P) = z at hfit ⊢
              have wr4 : IntKind.i64.wrap ((n : Int) + 1) = (n : Int) + 1 := IntWalk.i64_in _ (by omega)
              cases hgt : decide (room < z)
              case false =>
                go_wp2_with fail
                go_roundw
                case rel => exact ⟨n + 1, st ++ ln, by omega, rfl, by go_num, by rw [bs_append, HST.out, HSN.out], hb2'.trans (hbi.mono hb2'.size)⟩
                case measure => (simp [intOf]; try omega)
              case true =>
                have hl1 : decide ((1 : Int) < (ln.size : Int)) = false := decide_eq_false (by have := of_decide_eq_true hgt; omega)
                have hl2 : decide ((1 : Int) < (wordsLen P : Int)) = false := decide_eq_false (by have := of_decide_eq_true hgt; omega)
                go_wp2_with fail
                go_roundw
                case rel => exact ⟨n + 1, st ++ ln, by omega, rfl, by go_num, by rw [bs_append, HST.out, HSN.out], hb2'.trans (hbi.mono hb2'.size)⟩
                case measure => (simp [intOf]; try omega)
        · obtain rfl : n = L.length := by omega
          rw [List.take_length, hfl] at hst
          have hrw := Kd.C_below hrW1 hbr
          have k0 := cell_later hbr h0
          have k1 := cell_later hbr h1
          have k2 := cell_later hbr h2
          have k3 := cell_later hbr h3
          have cW := fun X h => tWords_calls a b c A cap l X h hc hf
          have hws := wordsOf_size l
          have hwb := bs_words l
          rw [filter_b (okl_letters hok).byt, ← hwb] at hst
          generalize wordsOf l = ln at cW hws hst
          have HST := Lib.hid hst
          clear hst hwb hfl
          go_wp2_with (go_at_call 29; refine (cW _ hrw).mono ?_; rintro e W2 ⟨rfl, hb2⟩)
          have hb2' : Below w.heap.size w W2 := hbw1.trans ((hbr.trans (hb2.mono hbr.size)).mono hbw1.size)
          clear k0 k1 k2 k3 hb2 hrw cW
          go_loopw [14, 15] (fun s i wr => ∃ (j : Nat) (pt : ByteArray), j ≤ ln.size ∧ s = .string pt ∧ i = .int .i64 j ∧ bs pt = ((bs ln).take j).filter (fun c => c != 10) ∧ Below W2.heap.size W2 wr) (fun _ i _ => ln.size - (intOf i).toNat)
          case atStart => exact ⟨0, ⟨#[]⟩, by omega, rfl, rfl, rfl, Below.refl _ _⟩
          case round =>
            obtain ⟨j, pt, hj, rfl, rfl, hpt, hbj⟩ := hrel
            by_cases hjl : j < ln.size
            · have wr4 : IntKind.i64.wrap ((j : Int) + 1) = (j : Int) + 1 := IntWalk.i64_in _ (by omega)
              have hpt2 : pt.size ≤ 2000 := by rw [← bs_length, hpt]; have := List.length_filter_le (fun c => c != 10) ((bs ln).take j); rw [List.length_take, bs_length] at this; omega
              have hbt : bs ln = (bs ln).take j ++ byteAt ln j hjl :: (bs ln).drop (j + 1) := by rw [← drop_bs ln j hjl, List.take_append_drop]
              have htk : (bs ln).take (j + 1) = (bs ln).take j ++ [ln[j]] := by
                rw [List.take_succ_eq_append_getElem (by rw [bs_length]; exact hjl)]
                rfl
              have w1 : (0 : Int) ≤ (j : Int) := by omega
              have w2 : (j : Int) ≤ (j : Int) + 1 := by omega
              have w3 : (j : Int) + 1 ≤ (ln.size : Int) := by omega
              have w4 : j + 1 ≤ ln.size := by omega
              have HPT := Lib.hid hpt
              have HTK := Lib.hid htk
              clear hpt htk hbt
              cases hnl : ((((ln[j]).toNat : Int)) == 10)
              case true =>
                have hn0 : (ln[j] != 10) = false := by
                  have h1 : (((ln[j]).toNat : Int)) = 10 := by simpa using hnl
                  have h2 : ln[j] = 10 := UInt8.toNat_inj.1 (by show ln[j].toNat = 10; omega)
                  rw [h2]; rfl
                go_wp2_with fail
                go_roundw
                case rel => exact ⟨j + 1, pt, by omega, rfl, by go_num, by rw [HPT.out, HTK.out, List.filter_append, List.filter_cons, hn0]; simp, hbj⟩
                case measure => (simp [intOf]; try omega)
              case false =>
                have hn0 : (ln[j] != 10) = true := by
                  have h1 : (((ln[j]).toNat : Int)) ≠ 10 := by simpa using hnl
                  have h2 : ln[j] ≠ 10 := fun h => h1 (by rw [h]; rfl)
                  simpa using h2
                go_wp2_with fail
                go_roundw
                case rel => exact ⟨j + 1, pt ++ ln.extract j (j + 1), by omega, rfl, by go_num, by rw [bs_append, bs_extract1 ln j hjl, HPT.out, HTK.out, List.filter_append, List.filter_cons, hn0]; rfl, hbj⟩
                case measure => (simp [intOf]; try omega)
            · obtain rfl : j = ln.size := by omega
              rw [List.take_of_length_le (by rw [bs_length]; omega)] at hpt
              obtain rfl : st = pt := bs_inj (HST.out.trans hpt.symm)
              clear hpt
              go_wp2_with (go_at_call 13; refine (awake_calls _).mono ?_; rintro e W3 ⟨rfl, hbW3⟩)
              go_ret
              exact ⟨rfl, hb2'.trans ((hbj.trans (hbW3.mono hbj.size)).mono hb2'.size)⟩
end Go.Proofs.YtogidacejbjljaaGreatDoor.PTextChecks
end
