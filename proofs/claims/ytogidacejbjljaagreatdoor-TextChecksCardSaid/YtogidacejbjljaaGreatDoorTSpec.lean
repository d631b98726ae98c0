/- The text laws' plain side: what the functions compute, in lists and numbers; the printed functions compute it. -/
import Derived.Test.YtogidacejbjljaaGreatDoorTextChecksy2
set_option linter.unusedVariables false
set_option linter.unusedSimpArgs false
namespace Go.Proofs.YtogidacejbjljaaGreatDoor.PTextChecks
open Go.RowKit Go.Proofs.YtogidacejbjljaaGreatDoorW.PrintWords Go.Proofs.YtogidacejbjljaaGreatDoorW.PrintLast Go.Proofs.YtogidacejbjljaaGreatDoorW.PrintMore

/-! ### words of this side -/
theorem leO_up {α : Type} {g : Nat → Option α} (hg : ∀ k, LeO (g k) (g (k + 1))) {n : Nat} {r : α} (h : g n = some r) : ∀ k, n ≤ k → g k = some r := by
  intro k hk
  induction k with
  | zero => obtain rfl : n = 0 := by omega
            exact h
  | succ k ih =>
    rcases Nat.lt_or_ge n (k + 1) with h1 | h1
    · exact hg k r (ih (by omega))
    · obtain rfl : n = k + 1 := by omega
      exact h
def bs (s : ByteArray) : List UInt8 := s.data.toList
theorem bs_length (s : ByteArray) : (bs s).length = s.size := Array.length_toList
theorem bt_bs (s : ByteArray) (i : Nat) (h : i < s.size) : bt s (i : Int) = (((bs s)[i]'(by rw [bs_length]; exact h)).toNat : Int) := by
  have := bt_at s (i : Int) (by simpa using h)
  rw [← this]
  simp only [Int.toNat_natCast]
  rfl
def byteAt (s : ByteArray) (i : Nat) (h : i < s.size) : UInt8 := (bs s)[i]'(by rw [bs_length]; exact h)
theorem bt_at' (s : ByteArray) (i : Nat) (h : i < s.size) : bt s (i : Int) = ((byteAt s i h).toNat : Int) := bt_bs s i h
theorem drop_bs (s : ByteArray) (i : Nat) (h : i < s.size) : (bs s).drop i = byteAt s i h :: (bs s).drop (i + 1) :=
  List.drop_eq_getElem_cons _
theorem wsucc {i n : Nat} (h : i < n) (hn : n ≤ 4611686018427387904) : wrap64 ((i : Int) + 1) = ((i + 1 : Nat) : Int) := by unfold wrap64; omega
theorem bs_append (a b : ByteArray) : bs (a ++ b) = bs a ++ bs b := by simp [bs, ByteArray.data_append]

def inB (a lo hi : Int) : Bool := decide (lo ≤ a) && decide (a ≤ hi)
theorem in_run (a lo hi : Int) : r18_in.f a lo hi = some (inB a lo hi) := by
  unfold r18_in.f inB
  by_cases h : a ≥ lo
  · rw [if_pos h]; simp [show lo ≤ a from h]
  · rw [if_neg h]; simp [show ¬ lo ≤ a from h]
theorem within_run (a lo hi : Int) : text_within.f a lo hi = some (inB a lo hi) := by
  unfold text_within.f inB
  by_cases h : a ≥ lo
  · rw [if_pos h]; simp [show lo ≤ a from h]
  · rw [if_neg h]; simp [show ¬ lo ≤ a from h]
def eqS (a b : S40) : Bool := (a.f0 == b.f0 && (a.f1 == b.f1 && (a.f2 == b.f2 && (a.f3 == b.f3 && (a.f4 == b.f4)))))
theorem eqS_iff (a b : S40) : eqS a b = true ↔ a = b := by
  cases a; cases b
  simp only [eqS, Bool.and_eq_true, beq_iff_eq, S40.mk.injEq]
theorem eqS_comm (a b : S40) : eqS a b = eqS b a := by
  rw [Bool.eq_iff_iff, eqS_iff, eqS_iff]; exact eq_comm
def headB (a b c : Int) : Bool := inB a 0 7 && (inB b 1 9 && inB c 0 100)
def styB (s : S40) : Bool := inB s.f3 1 8 && inB s.f4 0 15
theorem headed_run (a b c : Int) (l : List S42) : text_headed.f a b c l = some (headB a b c) := by
  unfold text_headed.f headB
  rw [within_run, within_run, within_run]
  cases inB a 0 7 <;> cases inB b 1 9 <;> cases inB c 0 100 <;> rfl
theorem styled_run (s : S40) : text_styled.f s.f0 s.f1 s.f2 s.f3 s.f4 = some (styB s) := by
  unfold text_styled.f styB
  rw [within_run, within_run]
  cases inB s.f3 1 8 <;> cases inB s.f4 0 15 <;> rfl

/-! ### the words, the lines -/
def wordsOf (l : List S42) : ByteArray := l.foldl (fun s p => s ++ p.f0) ⟨#[]⟩
def wordsLen (l : List S42) : Nat := (l.map fun p => p.f0.size).sum
theorem foldl_size (l : List S42) (s : ByteArray) : (l.foldl (fun s p => s ++ p.f0) s).size = s.size + wordsLen l := by
  induction l generalizing s with
  | nil => simp [wordsLen]
  | cons p l ih => rw [List.foldl_cons, ih, ByteArray.size_append]; simp [wordsLen, Nat.add_assoc]
theorem wordsOf_size (l : List S42) : (wordsOf l).size = wordsLen l := by rw [wordsOf, foldl_size]; simp [ByteArray.size]
theorem wordsLen_mem {l : List S42} {p : S42} (h : p ∈ l) : p.f0.size ≤ wordsLen l := by
  induction l with
  | nil => simp at h
  | cons q l ih =>
    have e : wordsLen (q :: l) = q.f0.size + wordsLen l := by simp [wordsLen]
    rw [e]
    rcases List.mem_cons.1 h with rfl | h
    · omega
    · have := ih h; omega
theorem wordsLen_take (l : List S42) (n : Nat) : wordsLen (l.take n) ≤ wordsLen l := by
  induction l generalizing n with
  | nil => simp [wordsLen]
  | cons q l ih =>
    cases n with
    | zero => simp [wordsLen]
    | succ n => have := ih n; simp [wordsLen] at *; omega
theorem rd42_drop (l : List S42) (i : Nat) (h : i < l.length) : l.drop i = rd_T42 l (i : Int) :: l.drop (i + 1) := by
  rw [List.drop_eq_getElem_cons h]
  congr 1
  simp [rd_T42, List.getElem?_eq_getElem h]
theorem words_loop {l : List S42} (hl : l.length ≤ 140737488351232) (a b c : Int) :
    ∀ (d i k : Nat) (s : ByteArray), i + d = l.length → s.size + wordsLen (l.drop i) ≤ 9223372036854775807 → d < k → r18_Words.l0 k s (i : Int) a b c l = some ((l.drop i).foldl (fun s p => s ++ p.f0) s) := by
  intro d
  induction d with
  | zero =>
    intro i k s hi hs hk
    obtain ⟨k, rfl⟩ : ∃ m, k = m + 1 := ⟨k - 1, by omega⟩
    unfold r18_Words.l0
    rw [if_neg (by omega), List.drop_of_length_le (by omega)]
    rfl
  | succ d ih =>
    intro i k s hi hs hk
    obtain ⟨k, rfl⟩ : ∃ m, k = m + 1 := ⟨k - 1, by omega⟩
    have hlt : i < l.length := by omega
    rw [rd42_drop l i hlt] at hs ⊢
    have e : wordsLen (rd_T42 l (i : Int) :: l.drop (i + 1)) = (rd_T42 l (i : Int)).f0.size + wordsLen (l.drop (i + 1)) := by simp [wordsLen]
    rw [e] at hs
    unfold r18_Words.l0
    rw [if_pos (by omega), if_pos (by omega), if_pos (by omega), wsucc hlt (by omega), ih (i + 1) k _ (by omega) (by rw [ByteArray.size_append]; omega) (by omega)]
    rfl
theorem rWords_big {l : List S42} (hl : l.length ≤ 140737488351232) (hw : wordsLen l ≤ 9223372036854775807) (a b c : Int) (k : Nat) (hk : l.length < k) : r18_Words.f k a b c l = some (wordsOf l) :=
  words_loop hl a b c l.length 0 k ⟨#[]⟩ (by omega) (by simpa [ByteArray.size] using hw) hk
theorem rWords_run {l : List S42} (hl : l.length ≤ 140737488351232) (hw : wordsLen l ≤ 1000000) (a b c : Int) (k : Nat) (hk : l.length < k) : r18_Words.f k a b c l = some (wordsOf l) := by
  exact rWords_big hl (by omega) a b c k hk
def linesOf (s : ByteArray) : Int := Lib.countByte (bs s) 10 + 1
def nlf (l : List UInt8) : Nat := (l.filter fun c => c == 10).length
theorem nlf_le (l : List UInt8) : nlf l ≤ l.length := List.length_filter_le _ _
theorem lines_loop {s : ByteArray} (hs : s.size ≤ 1000000) :
    ∀ (d i k n : Nat), i + d = s.size → n ≤ i + 1 → d < k → r18_Lines.l0 k s (n : Int) (i : Int) = some (((n + nlf ((bs s).drop i) : Nat) : Int)) := by
  intro d
  induction d with
  | zero =>
    intro i k n hi hn hk
    obtain ⟨k, rfl⟩ : ∃ m, k = m + 1 := ⟨k - 1, by omega⟩
    unfold r18_Lines.l0
    rw [if_neg (by omega), List.drop_of_length_le (by rw [bs_length]; omega)]
    rfl
  | succ d ih =>
    intro i k n hi hn hk
    obtain ⟨k, rfl⟩ : ∃ m, k = m + 1 := ⟨k - 1, by omega⟩
    have hlt : i < s.size := by omega
    rw [drop_bs s i hlt]
    unfold r18_Lines.l0
    rw [if_pos (by omega), if_pos (by omega), bt_at' s i hlt, wsucc hlt (by omega)]
    generalize byteAt s i hlt = c
    by_cases h : c = 10
    · rw [if_pos (by rw [h]; rfl), wsucc (n := s.size + 1) (by omega) (by omega), ih (i + 1) k (n + 1) (by omega) (by omega) (by omega)]
      simp [nlf, h]; omega
    · rw [if_neg (by intro e; exact h (UInt8.toNat_inj.1 (by show c.toNat = 10; omega))), ih (i + 1) k n (by omega) (by omega) (by omega)]
      simp [nlf, h]
theorem rLines_run {l : List S42} (hl : l.length ≤ 140737488351232) (hw : wordsLen l ≤ 1000000) (a b c : Int) (k : Nat) (hk : l.length < k) (hk2 : wordsLen l < k) :
    r18_Lines.f k a b c l = some ((nlf (bs (wordsOf l)) : Int) + 1) := by
  unfold r18_Lines.f
  rw [rWords_run hl hw a b c k hk]
  simp only [Option.bind_some]
  have := lines_loop (s := wordsOf l) (by rw [wordsOf_size]; exact hw) (wordsOf l).size 0 k 1 (by omega) (by omega) (by rw [wordsOf_size]; exact hk2)
  simp only [List.drop_zero] at this
  rw [show ((0 : Nat) : Int) = 0 from rfl, show ((1 : Nat) : Int) = 1 from rfl] at this
  rw [this]
  congr 1; omega

/-! ### valid text -/
def okByte (n : Nat) : Bool := n == 10 || (decide (32 ≤ n) && decide (n ≤ 126))
def isTextB (s : ByteArray) : Bool := (bs s).all (fun b => okByte b.toNat) && decide (0 < s.size)
theorem isText_loop {s : ByteArray} (hs : s.size ≤ 1000000) :
    ∀ (d i k : Nat), i + d = s.size → d < k → r18_isText.l0 k s (i : Int) = some (((bs s).drop i).all (fun b => okByte b.toNat) && decide (0 < s.size)) := by
  intro d
  induction d with
  | zero =>
    intro i k hi hk
    obtain ⟨k, rfl⟩ : ∃ m, k = m + 1 := ⟨k - 1, by omega⟩
    unfold r18_isText.l0
    rw [if_neg (by omega), List.drop_of_length_le (by rw [bs_length]; omega)]
    simp
  | succ d ih =>
    intro i k hi hk
    obtain ⟨k, rfl⟩ : ∃ m, k = m + 1 := ⟨k - 1, by omega⟩
    have hlt : i < s.size := by omega
    rw [drop_bs s i hlt]
    have hb : (byteAt s i hlt).toNat < 256 := UInt8.toNat_lt _
    unfold r18_isText.l0
    rw [if_pos (by omega), if_pos (by omega), bt_at' s i hlt, wsucc hlt (by omega)]
    generalize byteAt s i hlt = c at hb
    by_cases h : (c.toNat : Int) = 10
    · rw [if_pos h, ih (i + 1) k (by omega) (by omega)]
      have : okByte c.toNat = true := by simp [okByte, show c.toNat = 10 from by omega]
      simp [this]
    · rw [if_neg h, in_run, show wrap64 (c.toNat : Int) = (c.toNat : Int) from by unfold wrap64; omega]
      simp only [Option.bind_some]
      have e : okByte c.toNat = inB (c.toNat : Int) 32 126 := by
        simp [okByte, inB, show c.toNat ≠ 10 from by omega]; rw [Bool.eq_iff_iff]; simp; omega
      cases hq : inB (c.toNat : Int) 32 126
      · simp [e, hq]
      · rw [if_pos rfl, ih (i + 1) k (by omega) (by omega)]; simp [e, hq]
theorem isText_run {s : ByteArray} (hs : s.size ≤ 1000000) (k : Nat) (hk : s.size < k) : r18_isText.f k s = some (isTextB s) := by
  have := isText_loop hs s.size 0 k (by omega) hk
  exact this

/-! ### the widths -/
def clsN (n : Nat) : Int := if n = 10 then 0 else if n = 105 ∨ n = 108 ∨ n = 46 ∨ n = 44 ∨ n = 39 ∨ n = 33 ∨ n = 124 ∨ n = 58 ∨ n = 32 then 1 else if (65 ≤ n ∧ n ≤ 90) ∨ n = 109 ∨ n = 119 ∨ n = 64 ∨ n = 35 then 3 else 2
theorem class_run : ∀ n : Fin 256, text_class.f (n.val : Int) = some (clsN n.val) := by decide +kernel
def wideS (n : Nat) (s : S40) : Int := if n = 10 then 0 else if s.f0 = true then wrap64 (wrap64 (s.f3 * clsN n) + 1) else wrap64 (s.f3 * clsN n)
theorem wide_run (n : Nat) (hn : n < 256) (s : S40) : text_wide.f (n : Int) s.f0 s.f1 s.f2 s.f3 s.f4 = some (wideS n s) := by
  unfold text_wide.f wideS
  rw [class_run ⟨n, hn⟩]
  simp only [Option.bind_some]
  by_cases h : n = 10
  · subst h; simp [clsN, wrap64]
  · have h' : ¬ (n : Int) = 10 := by omega
    rw [if_neg h, if_neg h']
    cases s.f0 <;> simp
theorem holds1 : ∀ n : Fin 256, r18_holds.f 12 ⟨#[105, 108, 46, 44, 39, 33, 124, 58, 32]⟩ (n.val : Int) = some (decide (n.val = 105 ∨ n.val = 108 ∨ n.val = 46 ∨ n.val = 44 ∨ n.val = 39 ∨ n.val = 33 ∨ n.val = 124 ∨ n.val = 58 ∨ n.val = 32)) := by decide +kernel
theorem holds2 : ∀ n : Fin 256, r18_holds.f 12 ⟨#[109, 119, 64, 35]⟩ (n.val : Int) = some (decide (n.val = 109 ∨ n.val = 119 ∨ n.val = 64 ∨ n.val = 35)) := by decide +kernel
theorem rwide_run (n : Nat) (hn : n < 256) (s : S40) (k : Nat) (hk : 12 ≤ k) : r18_wide.f (k + 2) (n : Int) s.f0 s.f1 s.f2 s.f3 s.f4 = some (wideS n s) := by
  unfold r18_wide.f wideS
  by_cases h : n = 10
  · rw [if_pos (by omega), if_pos h]
  · rw [if_neg (by omega), if_neg h]
    have g1 := leO_up (r18_holds.mono _ _) (holds1 ⟨n, hn⟩) (k + 2) (by omega)
    have g2 := leO_up (r18_holds.mono _ _) (holds2 ⟨n, hn⟩) (k + 1) (by omega)
    simp only at g1 g2
    rw [g1]
    simp only [Option.bind_some]
    have hw : wrap64 (n : Int) = (n : Int) := by unfold wrap64; omega
    have hj : ∀ x : Int, r18_wide.j0 (k + 2) x (n : Int) s.f0 s.f1 s.f2 s.f3 s.f4 = some (if s.f0 = true then wrap64 (wrap64 (s.f3 * (if (65 ≤ n ∧ n ≤ 90) ∨ n = 109 ∨ n = 119 ∨ n = 64 ∨ n = 35 then 3 else x)) + 1) else wrap64 (s.f3 * (if (65 ≤ n ∧ n ≤ 90) ∨ n = 109 ∨ n = 119 ∨ n = 64 ∨ n = 35 then 3 else x))) := by
      intro x
      rw [show k + 2 = (k + 1) + 1 from rfl]
      unfold r18_wide.j0
      simp only
      rw [hw, in_run, g2]
      simp only [Option.bind_some]
      by_cases q : 65 ≤ n ∧ n ≤ 90
      · rw [if_pos (by simp [inB]; omega)]
        simp only [r18_wide.j1, if_true]
        simp only [if_pos (Or.inl q : (65 ≤ n ∧ n ≤ 90) ∨ n = 109 ∨ n = 119 ∨ n = 64 ∨ n = 35)]
        cases s.f0 <;> simp
      · rw [if_neg (by simp [inB]; omega)]
        by_cases r : n = 109 ∨ n = 119 ∨ n = 64 ∨ n = 35
        · rw [decide_eq_true r]
          simp only [r18_wide.j1, if_true]
          simp only [if_pos (Or.inr r : (65 ≤ n ∧ n ≤ 90) ∨ n = 109 ∨ n = 119 ∨ n = 64 ∨ n = 35)]
          cases s.f0 <;> simp
        · rw [decide_eq_false r]
          simp only [r18_wide.j1]
          have : ¬ ((65 ≤ n ∧ n ≤ 90) ∨ n = 109 ∨ n = 119 ∨ n = 64 ∨ n = 35) := fun e => e.elim q r
          simp only [if_neg this]
          cases s.f0 <;> simp
    by_cases q : n = 105 ∨ n = 108 ∨ n = 46 ∨ n = 44 ∨ n = 39 ∨ n = 33 ∨ n = 124 ∨ n = 58 ∨ n = 32
    · have q2 : ¬ ((65 ≤ n ∧ n ≤ 90) ∨ n = 109 ∨ n = 119 ∨ n = 64 ∨ n = 35) := by omega
      rw [decide_eq_true q, if_pos rfl, hj]
      simp only [clsN, if_neg h, if_pos q, if_neg q2]
    · rw [decide_eq_false q, if_neg (by decide), hj]
      simp only [clsN, if_neg h, if_neg q]
def sumW (l : List S81) (z : Int) : Int := l.foldl (fun z x => wrap64 (z + wideS x.f0.toNat x.f1)) z
def Byt (l : List S81) : Prop := ∀ x ∈ l, 0 ≤ x.f0 ∧ x.f0 < 256
theorem rd81_drop (l : List S81) (i : Nat) (h : i < l.length) : l.drop i = rd_T81 l (i : Int) :: l.drop (i + 1) := by
  rw [List.drop_eq_getElem_cons h]
  congr 1
  simp [rd_T81, List.getElem?_eq_getElem h]
theorem rd81_mem (l : List S81) (i : Nat) (h : i < l.length) : rd_T81 l (i : Int) ∈ l := by
  rw [show rd_T81 l (i : Int) = l[i] from by simp [rd_T81, List.getElem?_eq_getElem h]]
  exact List.getElem_mem h
theorem length_loop {l : List S81} (hl : l.length ≤ 1000000) (hb : Byt l) :
    ∀ (d i k : Nat) (z : Int), i + d = l.length → d + 14 < k → r18_length.l0 k l z (i : Int) = some (sumW (l.drop i) z) := by
  intro d
  induction d with
  | zero =>
    intro i k z hi hk
    obtain ⟨k, rfl⟩ : ∃ m, k = m + 1 := ⟨k - 1, by omega⟩
    unfold r18_length.l0
    rw [if_neg (by omega), List.drop_of_length_le (by omega)]
    rfl
  | succ d ih =>
    intro i k z hi hk
    obtain ⟨k, rfl⟩ : ∃ m, k = m + 1 := ⟨k - 1, by omega⟩
    have hlt : i < l.length := by omega
    rw [rd81_drop l i hlt]
    have hx := hb _ (rd81_mem l i hlt)
    generalize hxx : rd_T81 l (i : Int) = x at hx
    obtain ⟨n, hn⟩ : ∃ n : Nat, x.f0 = (n : Int) := ⟨x.f0.toNat, by omega⟩
    unfold r18_length.l0
    rw [if_pos (by omega), if_pos (by omega), hxx, hn, leO_up (r18_wide.mono _ _ _ _ _ _) (rwide_run n (by omega) x.f1 12 (by omega)) k (by omega)]
    simp only [Option.bind_some]
    rw [wsucc hlt (by omega), ih (i + 1) k _ (by omega) (by omega)]
    simp [sumW, hn]
def lettersOf (l : List S42) : List S81 := l.flatMap fun p => (bs p.f0).map fun c => ⟨(c.toNat : Int), p.f1⟩
theorem lettersOf_byt (l : List S42) : Byt (lettersOf l) := by
  intro x hx
  simp only [lettersOf, List.mem_flatMap, List.mem_map] at hx
  obtain ⟨p, _, c, _, rfl⟩ := hx
  have := UInt8.toNat_lt c
  exact ⟨by show (0 : Int) ≤ (c.toNat : Int); omega, by show (c.toNat : Int) < 256; omega⟩
theorem lettersOf_length (l : List S42) : (lettersOf l).length = wordsLen l := by
  induction l with
  | nil => rfl
  | cons p l ih => simp only [lettersOf, List.flatMap_cons, List.length_append, List.length_map, bs_length, wordsLen, List.map_cons, List.sum_cons] at *; rw [ih]
def rowOf (p : S42) : List S81 := (bs p.f0).map fun c => ⟨(c.toNat : Int), p.f1⟩
theorem letters_loop {l : List S42} (hl : l.length ≤ 140737488351232) (hw : wordsLen l ≤ 1000000) (a b c : Int) :
    ∀ (d i : Nat), i + d = l.length → ∀ (k : Nat) (out : List S81), out.length + wordsLen (l.drop i) ≤ 1000000 → 2 * d + wordsLen (l.drop i) < k →
      r18_letters.l0 k out (i : Int) a b c l = some (out ++ lettersOf (l.drop i)) := by
  intro d
  induction d with
  | zero =>
    intro i hi k out ho hk
    obtain ⟨k, rfl⟩ : ∃ m, k = m + 1 := ⟨k - 1, by omega⟩
    unfold r18_letters.l0
    rw [if_neg (by omega), List.drop_of_length_le (by omega)]
    simp [lettersOf]
  | succ d ih =>
    intro i hi k out ho hk
    obtain ⟨k, rfl⟩ : ∃ m, k = m + 1 := ⟨k - 1, by omega⟩
    have hlt : i < l.length := by omega
    have hd := rd42_drop l i hlt
    rw [hd] at ho hk ⊢
    generalize hp : rd_T42 l (i : Int) = p at ho hk
    have e : wordsLen (p :: l.drop (i + 1)) = p.f0.size + wordsLen (l.drop (i + 1)) := by simp [wordsLen]
    rw [e] at ho hk
    unfold r18_letters.l0
    rw [if_pos (by omega)]
    have inner : ∀ (d2 j : Nat), j + d2 = p.f0.size → ∀ (k : Nat) (out : List S81), out.length + d2 + wordsLen (l.drop (i + 1)) ≤ 1000000 → d2 + 1 + (2 * d + wordsLen (l.drop (i + 1))) < k →
        r18_letters.l1 k out (i : Int) (j : Int) a b c l = some (out ++ ((bs p.f0).drop j).map (fun c => (⟨(c.toNat : Int), p.f1⟩ : S81)) ++ lettersOf (l.drop (i + 1))) := by
      intro d2
      induction d2 with
      | zero =>
        intro j hj k out ho hk
        obtain ⟨k, rfl⟩ : ∃ m, k = m + 1 := ⟨k - 1, by omega⟩
        have e2 : (bs p.f0).drop j = [] := List.drop_of_length_le (by rw [bs_length]; omega)
        unfold r18_letters.l1
        rw [if_pos (by omega), if_pos (by omega), hp, if_neg (by omega), wsucc hlt (by omega), ih (i + 1) (by omega) k out (by omega) (by omega), e2]
        simp
      | succ d2 ih2 =>
        intro j hj k out ho hk
        obtain ⟨k, rfl⟩ : ∃ m, k = m + 1 := ⟨k - 1, by omega⟩
        have hjl : j < p.f0.size := by omega
        unfold r18_letters.l1
        rw [if_pos (by omega), if_pos (by omega), hp, if_pos (by omega), if_pos (by omega), if_pos (by omega), wsucc hjl (by omega), ih2 (j + 1) (by omega) k _ (by simp; omega) (by omega), drop_bs p.f0 j hjl, bt_at' p.f0 j hjl]
        simp
    have := inner p.f0.size 0 (by omega) k out (by omega) (by omega)
    rw [show ((0 : Nat) : Int) = 0 from rfl] at this
    rw [this]
    simp [lettersOf]
theorem rletters_run {l : List S42} (hl : l.length ≤ 140737488351232) (hw : wordsLen l ≤ 1000000) (a b c : Int) (k : Nat) (hk : 2 * l.length + wordsLen l < k) : r18_letters.f k a b c l = some (lettersOf l) := by
  have := letters_loop hl hw a b c l.length 0 (by omega) k [] (by simpa using hw) (by simpa using hk)
  rw [List.nil_append, List.drop_zero] at this
  exact this
def widthS (p : S42) : Int := sumW (rowOf p) 0
theorem rWidth_run (p : S42) (hp : p.f0.size ≤ 1000000) (k : Nat) (hk : p.f0.size + 14 < k) : r18_Width.f k p.f0 p.f1.f0 p.f1.f1 p.f1.f2 p.f1.f3 p.f1.f4 = some (widthS p) := by
  have hw : wordsLen [p] = p.f0.size := by simp [wordsLen]
  have hl : lettersOf [p] = rowOf p := by simp [lettersOf, rowOf]
  unfold r18_Width.f
  rw [show (⟨p.f0, (⟨p.f1.f0, p.f1.f1, p.f1.f2, p.f1.f3, p.f1.f4⟩ : S40)⟩ : S42) = p from rfl, rletters_run (l := [p]) (by simp) (by rw [hw]; exact hp) 0 0 0 k (by rw [hw]; simp; omega), hl]
  simp only [Option.bind_some]
  unfold r18_length.f
  have hlen : (rowOf p).length = p.f0.size := by rw [← hl, lettersOf_length, hw]
  have := length_loop (l := rowOf p) (by rw [hlen]; exact hp) (by rw [← hl]; exact lettersOf_byt _) (rowOf p).length 0 k 0 (by omega) (by rw [hlen]; exact hk)
  rw [show ((0 : Nat) : Int) = 0 from rfl] at this
  rw [this]
  rfl
theorem width_loop (p : S42) (hp : p.f0.size ≤ 1000000) :
    ∀ (d i k : Nat) (z : Int), i + d = p.f0.size → d < k → text_Width.l0 k z (p.f0.size : Int) (i : Int) p.f0 p.f1.f0 p.f1.f1 p.f1.f2 p.f1.f3 p.f1.f4 = some (sumW ((rowOf p).drop i) z) := by
  intro d
  induction d with
  | zero =>
    intro i k z hi hk
    obtain ⟨k, rfl⟩ : ∃ m, k = m + 1 := ⟨k - 1, by omega⟩
    unfold text_Width.l0
    rw [if_neg (by omega), List.drop_of_length_le (by simp [rowOf, bs_length]; omega)]
    rfl
  | succ d ih =>
    intro i k z hi hk
    obtain ⟨k, rfl⟩ : ∃ m, k = m + 1 := ⟨k - 1, by omega⟩
    have hlt : i < p.f0.size := by omega
    have hd : (rowOf p).drop i = ⟨((byteAt p.f0 i hlt).toNat : Int), p.f1⟩ :: (rowOf p).drop (i + 1) := by
      simp only [rowOf, ← List.map_drop]; rw [drop_bs p.f0 i hlt]; rfl
    unfold text_Width.l0
    rw [if_pos (by omega), if_pos (by omega), if_pos (by omega), bt_at' p.f0 i hlt, wide_run _ (UInt8.toNat_lt _)]
    simp only [Option.bind_some]
    rw [wsucc hlt (by omega), ih (i + 1) k _ (by omega) (by omega), hd]
    simp [sumW]
theorem width_run (p : S42) (hp : p.f0.size ≤ 1000000) (k : Nat) (hk : p.f0.size < k) : text_Width.f k p.f0 p.f1.f0 p.f1.f1 p.f1.f2 p.f1.f3 p.f1.f4 = some (widthS p) := by
  have := width_loop p hp p.f0.size 0 k 0 (by omega) hk
  rw [show ((0 : Nat) : Int) = 0 from rfl] at this
  exact this
end Go.Proofs.YtogidacejbjljaaGreatDoor.PTextChecks
