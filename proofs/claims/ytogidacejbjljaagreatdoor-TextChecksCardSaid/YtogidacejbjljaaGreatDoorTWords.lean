/- The program's Words and Lines: what they compute. -/
import Derived.Outline
import Derived.Lib.UnsafeStr
import Derived.Test.YtogidacejbjljaaGreatDoorTRChk
import Derived.Test.YtogidacejbjljaaGreatDoorTBuilder
import Derived.Test.YtogidacejbjljaaGreatDoorTSh
set_option linter.unusedVariables false
set_option linter.unusedSimpArgs false
namespace Go.Proofs.YtogidacejbjljaaGreatDoor.PTextChecks
open Go.RowKit Go.Proofs.YtogidacejbjljaaGreatDoorW.PrintWords Go.Proofs.YtogidacejbjljaaGreatDoorW.PrintLast Go.Proofs.YtogidacejbjljaaGreatDoorW.PrintMore
theorem BuilderAt_alloc {T e : TypeId} {B b : Nat} {p : Value} {bs : List Value} {w : World} (h : Lib.BuilderAt T e B b p bs w) (o : Obj) : Lib.BuilderAt T e B b p bs (w.alloc o) := by
  have hlt := h.lt
  obtain ⟨hB, v, hb, hown, hne⟩ := h
  exact ⟨hB, v, by simp only [World.alloc, Array.getElem?_push, if_neg (Nat.ne_of_lt hlt)]; exact hb, hown.alloc _, hne⟩
theorem IsBuilder_alloc {T e : TypeId} {B b : Nat} {bs : List Value} {w : World} (h : Lib.IsBuilder T e B b bs w) (o : Obj) : Lib.IsBuilder T e B b bs (w.alloc o) :=
  h.elim (fun h => .inl (BuilderAt_alloc h o)) (fun h => .inr (BuilderAt_alloc h o))
def upto (l : List S42) (n : Nat) : List UInt8 := bs (wordsOf (l.take n))
theorem upto_succ (l : List S42) (n : Nat) (h : n < l.length) : upto l (n + 1) = upto l n ++ bs (rd_T42 l (n : Int)).f0 := by
  unfold upto
  rw [List.take_succ_eq_append_getElem h, wordsOf, List.foldl_append, List.foldl_cons, List.foldl_nil, bs_append, show rd_T42 l (n : Int) = l[n] from by simp [rd_T42, List.getElem?_eq_getElem h]]
  rfl
theorem upto_length (l : List S42) (n : Nat) : (upto l n).length ≤ wordsLen l := by
  unfold upto; rw [bs_length, wordsOf_size]; exact wordsLen_take l n
def WRel (l : List S42) (w : World) (n : Nat) (wr : World) : Prop := Lib.IsBuilder 96 5 (w.heap.size + 1) (w.heap.size + 1) (Lib.byteCells (upto l n)) wr ∧ Below w.heap.size w wr ∧ w.heap.size + 2 ≤ wr.heap.size
set_option maxHeartbeats 4000000 in
set_option maxRecDepth 100000 in
theorem tWords_calls (a b c : Int) (A : Option Addr) (cap : Nat) (l : List S42) (w : World) (hr : Kd.C k42 w A l.length l) (hc : l.length ≤ cap) (hf : Fit l) :
    Calls Tryz.prog 29 #[.agg #[.int .i64 a, .int .i64 b, .int .i64 c, .slice A l.length cap]] w fun e w' => e = .returned (.string (wordsOf l)) ∧ Below w.heap.size w w' := by
  have hl := hf.1
  go_enter Tryz.func29, Tryz.ntmps29
  go_wp2
  go_loopw [9] (fun i wr => ∃ n : Nat, n ≤ l.length ∧ i = .int .i64 n ∧ WRel l w n wr) (fun i wr => l.length - (intOf i).toNat)
  case atStart =>
    refine ⟨0, by omega, rfl, ?_, ((Below.refl _ w).alloc (Nat.le_refl _) _).alloc (by simp) _, by simp⟩
    have h := Lib.fresh_isBuilder 96 5 (w.alloc (.cells #[.int .i64 a, .int .i64 b, .int .i64 c, .slice A l.length cap] 25))
    simpa [upto, wordsOf, bs, Lib.byteCells] using h
  case round =>
    obtain ⟨n, hn, rfl, hI, hb, hz⟩ := hrel
    by_cases hlt : n < l.length
    · have hr3 := Kd.C_below hr hb
      obtain ⟨ad, rfl, d0, d1, d2, d3, d4, d5⟩ := at_T42 hr3 (n : Int) (by omega) (by omega)
      have hup := upto_succ l n hlt
      have hl1 := upto_length l (n + 1)
      obtain ⟨p, hp⟩ : ∃ p, rd_T42 l (n : Int) = p := ⟨_, rfl⟩
      rw [hp] at d0 d1 d2 d3 d4 d5 hup
      simp only [Int.toNat_natCast] at d0 d1 d2 d3 d4 d5
      have hlen : (Lib.byteCells (upto l n)).length + p.f0.size ≤ 140737488355328 := by
        have := hf.2
        rw [Lib.byteCells_length]; rw [hup, List.length_append, bs_length] at hl1; omega
      have HUP := Lib.hid hup
      clear hup hl1 hp hr3
      have cS := fun o => writeString_calls (w.heap.size + 1) (w.heap.size + 1) (Lib.byteCells (upto l n)) p.f0 (wr.alloc o) (IsBuilder_alloc hI o) hlen (by simp; omega)
      have hbo : ∀ o, Below w.heap.size w (wr.alloc o) := fun o => hb.alloc (by omega) o
      clear hI hb
      go_wp2_with (go_at_call 69; refine (cS _).mono ?_; rintro e W ⟨rfl, hI2, hbW⟩)
      go_roundw
      case rel =>
        refine ⟨n + 1, by omega, by go_num, .inr ?_, (hbo _).trans (hbW.mono (by omega)), ?_⟩
        · rw [HUP.out, Lib.byteCells_append]; exact hI2
        · have := hbW.size; simp at this; omega
      case measure => simp [intOf]; omega
    · have hnl : n = l.length := by omega
      have hw : (⟨(upto l n).toArray⟩ : ByteArray) = wordsOf l := by
        rw [hnl]; simp only [upto, List.take_length, bs]
      have HW := Lib.hid hw
      have cS := Tryz.Builder_String_any (w.heap.size + 1) (w.heap.size + 1) (upto l n) wr hI (by omega)
      clear hI hw hnl
      go_wp2_with (go_at_call 70; refine cS.mono ?_; rintro e W ⟨rfl, hbW⟩)
      go_ret
      exact ⟨by rw [HW.out]; rfl, hb.trans (hbW.mono (by omega))⟩
theorem countByte_nlf (l : List UInt8) : Lib.countByte l 10 = nlf l := by
  unfold Lib.countByte nlf List.count
  exact List.countP_eq_length_filter
set_option maxHeartbeats 4000000 in
theorem tLines_calls (a b c : Int) (A : Option Addr) (cap : Nat) (l : List S42) (w : World) (hr : Kd.C k42 w A l.length l) (hc : l.length ≤ cap) (hf : Fit l) :
    Calls Tryz.prog 27 #[.agg #[.int .i64 a, .int .i64 b, .int .i64 c, .slice A l.length cap]] w fun e w' => e = .returned (.int .i64 ((nlf (bs (wordsOf l)) : Int) + 1)) ∧ Below w.heap.size w w' := by
  have hn : nlf (bs (wordsOf l)) ≤ 1000000 := Nat.le_trans (nlf_le _) (by rw [bs_length, wordsOf_size]; exact hf.2)
  have hq : Lib.countByte (wordsOf l).data.toList 10 = nlf (bs (wordsOf l)) := countByte_nlf _
  obtain ⟨q, hqq⟩ : ∃ q : Nat, nlf (bs (wordsOf l)) = q := ⟨_, rfl⟩
  rw [hqq] at hn hq ⊢
  have cW := fun W (h : Kd.C k42 W A l.length l) => tWords_calls a b c A cap l W h hc hf
  have cC := fun W => Tryz.strings_Count_one (wordsOf l) 10 W
  rw [hq] at cC
  generalize wordsOf l = s at cW cC
  clear hq hqq
  go_enter Tryz.func27, Tryz.ntmps27
  go_wp2_with (first | (go_at_call 29; refine (cW _ ?s1).mono ?_; (case s1 => exact Kd.C_alloc hr _); rintro e W ⟨rfl, hbW⟩) | (go_at_call 68; refine (cC _).mono ?_; rintro e W2 ⟨rfl, rfl⟩))
  go_ret
  exact ⟨rfl, ((Below.refl _ w).alloc (Nat.le_refl _) _).trans (hbW.mono (by simp))⟩
end Go.Proofs.YtogidacejbjljaaGreatDoor.PTextChecks
