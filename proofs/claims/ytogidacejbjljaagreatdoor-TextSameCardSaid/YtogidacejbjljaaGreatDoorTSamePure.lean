/- TextSame, the plain law: on numbers and lists. -/
import Derived.Test.YtogidacejbjljaaGreatDoorTsx8
namespace Go.Proofs.YtogidacejbjljaaGreatDoor.PTextSame
open Go.RowKit Go.Proofs.YtogidacejbjljaaGreatDoorW.PrintWords Go.Proofs.YtogidacejbjljaaGreatDoorW.PrintLast Go.Proofs.YtogidacejbjljaaGreatDoorW.PrintMore
set_option linter.unusedVariables false

theorem rd_size {l : List S42} (h : ∀ s ∈ l, s.f0.size ≤ 140737488351232) (i : Nat) (hi : i < l.length) : (rd_T42 l (i : Int)).f0.size ≤ 140737488351232 := by
  unfold rd_T42
  rw [Int.toNat_natCast, List.getD_eq_getElem?_getD, List.getElem?_eq_getElem hi]
  exact h _ (List.getElem_mem hi)

theorem words_run {l : List S42} (hl : l.length ≤ 400) (h : ∀ s ∈ l, s.f0.size ≤ 140737488351232) (a b c : Int) :
    ∀ (d i k : Nat) (s : ByteArray), i + d = l.length → s.size ≤ i * 140737488351232 → d < k → ∃ r, dioramaref18_Words.l0 k s (i : Int) a b c l = some r := by
  intro d
  induction d with
  | zero =>
    intro i k s hi hs hk
    obtain ⟨k, rfl⟩ : ∃ m, k = m + 1 := ⟨k - 1, by omega⟩
    unfold dioramaref18_Words.l0
    rw [if_neg (by omega)]
    exact ⟨_, rfl⟩
  | succ d ih =>
    intro i k s hi hs hk
    obtain ⟨k, rfl⟩ : ∃ m, k = m + 1 := ⟨k - 1, by omega⟩
    unfold dioramaref18_Words.l0
    have h1 := rd_size h i (by omega)
    have h2 : s.size + (rd_T42 l (i : Int)).f0.size ≤ (i + 1) * 140737488351232 := by rw [Nat.add_mul, Nat.one_mul]; omega
    have h3 : (i + 1) * 140737488351232 ≤ 400 * 140737488351232 := Nat.mul_le_mul (by omega) (Nat.le_refl _)
    have hw : wrap64 ((i : Int) + 1) = ((i + 1 : Nat) : Int) := by unfold wrap64; omega
    rw [if_pos (by omega), if_pos (by omega), if_pos (by omega), hw]
    refine ih (i + 1) k _ (by omega) ?_ (by omega)
    rw [ByteArray.size_append]
    exact h2

theorem long_run {l : List S42} (h : ∀ s ∈ l, s.f0.size ≤ 140737488351232) (a b c : Int) (k : Nat) (hk : l.length < k) : ∃ r, dioramalaw18_long.f k a b c l = some r := by
  unfold dioramalaw18_long.f
  by_cases hl : (l.length : Int) > 400
  · rw [if_pos hl]; exact ⟨_, rfl⟩
  · rw [if_neg hl]
    obtain ⟨r, hr⟩ := words_run (by omega) h a b c l.length 0 k ⟨#[]⟩ (by omega) (Nat.le_of_eq (by decide)) hk
    unfold dioramaref18_Words.f
    have hr : dioramaref18_Words.l0 k ⟨#[]⟩ 0 a b c l = some r := hr
    rw [hr]
    exact ⟨_, rfl⟩

theorem same_run {l m : List S42} (hlm : l.length = m.length) (hl : l.length ≤ 140737488351232) :
    ∀ (d i k : Nat), i + d = l.length → d < k → ∃ b, dioramaref18_EqPieces.l0 k l m (i : Int) = some b ∧ api_Piece.l0 k l m (l.length : Int) (i : Int) = some b := by
  intro d
  induction d with
  | zero =>
    intro i k hi hk
    obtain ⟨k, rfl⟩ : ∃ m, k = m + 1 := ⟨k - 1, by omega⟩
    unfold dioramaref18_EqPieces.l0 api_Piece.l0
    rw [if_neg (by omega), if_neg (by omega)]
    exact ⟨_, rfl, rfl⟩
  | succ d ih =>
    intro i k hi hk
    obtain ⟨k, rfl⟩ : ∃ m, k = m + 1 := ⟨k - 1, by omega⟩
    unfold dioramaref18_EqPieces.l0 api_Piece.l0
    have hw : wrap64 ((i : Int) + 1) = ((i + 1 : Nat) : Int) := by unfold wrap64; omega
    have c1 : (i : Int) < (l.length : Int) := by omega
    have c2 : (0 : Int) ≤ (i : Int) := by omega
    have c3 : (i : Int) < (m.length : Int) := by omega
    rw [if_pos c1, if_pos c2, if_pos c3, if_pos c1, if_pos c2, if_pos c1, if_pos c3, hw]
    split
    · exact ⟨_, rfl, rfl⟩
    · exact ih (i + 1) k (by omega) (by omega)

theorem text_same_pure (a0 a1 a2 b0 b1 b2 : Int) (l m : List S42) (hl : l.length ≤ 140737488351232) (hm : m.length ≤ 140737488351232) (sl : ∀ s ∈ l, s.f0.size ≤ 140737488351232) (sm : ∀ s ∈ m, s.f0.size ≤ 140737488351232) :
    ∃ k, dioramalaw18_TextSame.f k a0 a1 a2 l b0 b1 b2 m = some true := by
  refine ⟨l.length + m.length + 3, ?_⟩
  obtain ⟨r1, h1⟩ := long_run sl a0 a1 a2 (l.length + m.length + 3) (by omega)
  obtain ⟨r2, h2⟩ := long_run sm b0 b1 b2 (l.length + m.length + 3) (by omega)
  have hj : ∀ x, dioramalaw18_TextSame.j0 (l.length + m.length + 3) x a0 a1 a2 l b0 b1 b2 m = some true := by
    intro x
    rw [show l.length + m.length + 3 = (l.length + m.length + 2) + 1 from rfl]
    unfold dioramalaw18_TextSame.j0
    simp only
    cases x with
    | true => rw [if_pos rfl]; rfl
    | false =>
      rw [if_neg (by decide)]
      unfold text_Same.f dioramaref18_Same.f
      by_cases e0 : a0 = b0
      · rw [if_pos e0, if_pos e0]
        by_cases e1 : a1 = b1
        · rw [if_pos e1, if_pos e1]
          by_cases e2 : a2 = b2
          · rw [if_pos e2, if_pos e2]
            unfold api_Piece.f dioramaref18_EqPieces.f
            by_cases e3 : (l.length : Int) = (m.length : Int)
            · rw [if_pos e3, if_pos e3]
              obtain ⟨b, g1, g2⟩ := same_run (l := l) (m := m) (by omega) hl l.length 0 (l.length + m.length + 2) (by omega) (by omega)
              have g1 : dioramaref18_EqPieces.l0 (l.length + m.length + 2) l m 0 = some b := g1
              have g2 : api_Piece.l0 (l.length + m.length + 2) l m (l.length : Int) 0 = some b := g2
              rw [g1, g2]
              cases b <;> rfl
            · rw [if_neg e3, if_neg e3]; rfl
          · rw [if_neg e2, if_neg e2]; rfl
        · rw [if_neg e1, if_neg e1]; rfl
      · rw [if_neg e0, if_neg e0]; rfl
  unfold dioramalaw18_TextSame.f
  rw [h1]
  simp only [Option.bind_some]
  cases r1 with
  | true => rw [if_pos rfl]; exact hj true
  | false =>
    rw [if_neg (by decide), h2]
    simp only [Option.bind_some]
    exact hj r2
end Go.Proofs.YtogidacejbjljaaGreatDoor.PTextSame
