/- Neighbours of one style joined: pieces and letters. -/
import Derived.Test.YtogidacejbjljaaGreatDoorTSpec
set_option linter.unusedVariables false
set_option linter.unusedSimpArgs false
namespace Go.Proofs.YtogidacejbjljaaGreatDoor.PTextChecks
open Go.RowKit Go.Proofs.YtogidacejbjljaaGreatDoorW.PrintWords Go.Proofs.YtogidacejbjljaaGreatDoorW.PrintLast Go.Proofs.YtogidacejbjljaaGreatDoorW.PrintMore
def lastP (out : List S42) : S42 := out.getD (out.length - 1) z42
def joinP (out : List S42) (p : S42) : List S42 :=
  if 0 < out.length then (if eqS (lastP out).f1 p.f1 = true then out.set (out.length - 1) ⟨(lastP out).f0 ++ p.f0, (lastP out).f1⟩ else out ++ [p]) else out ++ [p]
def joinS (l : List S42) : List S42 := l.foldl joinP []
def nz (p : S42) : Bool := decide (p.f0.size ≠ 0)
def normS (l : List S42) : List S42 := joinS (l.filter nz)
def chP (x : S81) : S42 := ⟨⟨#[x.f0.toNat.toUInt8]⟩, x.f1⟩
def piecesS (ls : List S81) : List S42 := ls.foldl (fun out x => joinP out (chP x)) []

theorem lastP_snoc (out : List S42) (p : S42) : lastP (out ++ [p]) = p := by simp [lastP]
theorem lastP_set (out : List S42) (p : S42) (h : 0 < out.length) : lastP (out.set (out.length - 1) p) = p := by
  unfold lastP
  rw [List.length_set, List.getD_eq_getElem?_getD, List.getElem?_set_self (by omega)]
  rfl
theorem joinP_pos (out : List S42) (p : S42) : 0 < (joinP out p).length := by
  unfold joinP; split
  · split <;> simp <;> omega
  · simp
theorem lastP_join (out : List S42) (p : S42) : (lastP (joinP out p)).f1 = p.f1 := by
  unfold joinP
  split
  · split
    · rename_i h1 h2; rw [lastP_set _ _ h1]; exact (eqS_iff _ _).1 h2
    · rw [lastP_snoc]
  · rw [lastP_snoc]
theorem wl_append (a b : List S42) : wordsLen (a ++ b) = wordsLen a + wordsLen b := by simp [wordsLen]
theorem wl_set : ∀ (out : List S42) (i : Nat) (p : S42), i < out.length → wordsLen (out.set i p) + (out.getD i z42).f0.size = wordsLen out + p.f0.size
  | [], i, p, h => by simp at h
  | q :: l, 0, p, _ => by simp [wordsLen]; omega
  | q :: l, i + 1, p, h => by
    have := wl_set l i p (by simpa using h)
    simp [wordsLen] at this ⊢
    omega
theorem joinP_wl (out : List S42) (p : S42) : wordsLen (joinP out p) = wordsLen out + p.f0.size := by
  unfold joinP
  split
  · rename_i h
    split
    · have := wl_set out (out.length - 1) ⟨(lastP out).f0 ++ p.f0, (lastP out).f1⟩ (by omega)
      simp only [ByteArray.size_append] at this
      unfold lastP at this ⊢
      omega
    · rw [wl_append]; simp [wordsLen]
  · rw [wl_append]; simp [wordsLen]
theorem joinP_len (out : List S42) (p : S42) : (joinP out p).length ≤ out.length + 1 := by
  unfold joinP; split
  · split <;> simp
  · simp
theorem joinP_join (out : List S42) (a b : ByteArray) (st : S40) : joinP (joinP out ⟨a, st⟩) ⟨b, st⟩ = joinP out ⟨a ++ b, st⟩ := by
  have h1 := joinP_pos out ⟨a, st⟩
  have h2 := lastP_join out ⟨a, st⟩
  simp only at h2
  have e : ∀ o : List S42, 0 < o.length → (lastP o).f1 = st → joinP o ⟨b, st⟩ = o.set (o.length - 1) ⟨(lastP o).f0 ++ b, (lastP o).f1⟩ := fun o h1 h2 => by
    unfold joinP
    rw [if_pos h1, if_pos (by rw [eqS_iff]; exact h2)]
  rw [e _ h1 h2]
  unfold joinP
  by_cases h : 0 < out.length
  · rw [if_pos h, if_pos h]
    by_cases he : eqS (lastP out).f1 st = true
    · simp only [if_pos he]
      rw [lastP_set _ _ h]
      simp [List.set_set, ByteArray.append_assoc]
    · simp only [if_neg he]
      rw [lastP_snoc]
      simp
  · rw [if_neg h, if_neg h, lastP_snoc]
    simp
theorem row_fold (st : S40) : ∀ (cs : List UInt8) (out : List S42), cs ≠ [] → (cs.map fun c => (⟨(c.toNat : Int), st⟩ : S81)).foldl (fun out x => joinP out (chP x)) out = joinP out ⟨⟨cs.toArray⟩, st⟩
  | [], out, h => absurd rfl h
  | [c], out, _ => by simp [chP]
  | c :: d :: cs, out, _ => by
    rw [List.map_cons, List.foldl_cons, row_fold st (d :: cs) _ (by simp)]
    have e : chP ⟨(c.toNat : Int), st⟩ = ⟨⟨#[c]⟩, st⟩ := by simp [chP]
    rw [e, joinP_join]
    congr 2
theorem pieces_letters (l : List S42) : piecesS (lettersOf l) = normS l := by
  unfold piecesS normS joinS
  generalize ([] : List S42) = out
  induction l generalizing out with
  | nil => rfl
  | cons p l ih =>
    have e : lettersOf (p :: l) = rowOf p ++ lettersOf l := by simp [lettersOf, rowOf]
    rw [e, List.foldl_append, ih]
    by_cases h : p.f0.size = 0
    · have hb : bs p.f0 = [] := List.eq_nil_of_length_eq_zero (by rw [bs_length]; exact h)
      have hn : nz p = false := by simp [nz, h]
      simp [rowOf, hb, List.filter_cons, hn]
    · have hb : bs p.f0 ≠ [] := by intro e; exact h (by rw [← bs_length, e]; rfl)
      have hn : nz p = true := by simp [nz, h]
      rw [List.filter_cons, if_pos hn, List.foldl_cons]
      unfold rowOf
      rw [row_fold p.f1 (bs p.f0) out hb]
      rfl
theorem joined_loop {l : List S42} (hl : l.length ≤ 1000000) (hw : wordsLen l ≤ 1000000) :
    ∀ (d i k : Nat) (out : List S42), i + d = l.length → out.length ≤ i → wordsLen out + wordsLen (l.drop i) ≤ 1000000 → d < k → text_joined.l0 k out l (l.length : Int) (i : Int) = some ((l.drop i).foldl joinP out) := by
  intro d
  induction d with
  | zero =>
    intro i k out hi ho hs hk
    obtain ⟨k, rfl⟩ : ∃ m, k = m + 1 := ⟨k - 1, by omega⟩
    unfold text_joined.l0
    rw [if_neg (by omega), List.drop_of_length_le (by omega)]
    rfl
  | succ d ih =>
    intro i k out hi ho hs hk
    obtain ⟨k, rfl⟩ : ∃ m, k = m + 1 := ⟨k - 1, by omega⟩
    have hlt : i < l.length := by omega
    have hd := rd42_drop l i hlt
    rw [hd] at hs ⊢
    generalize hp : rd_T42 l (i : Int) = p at hs
    have e : wordsLen (p :: l.drop (i + 1)) = p.f0.size + wordsLen (l.drop (i + 1)) := by simp [wordsLen]
    rw [e] at hs
    have hn := ih (i + 1) k (joinP out p) (by omega) (by have := joinP_len out p; omega) (by rw [joinP_wl]; omega) (by omega)
    unfold text_joined.l0
    rw [if_pos (by omega), if_pos (by omega), if_pos (by omega), hp, wsucc hlt (by omega)]
    rw [List.foldl_cons, ← hn]
    by_cases h : 0 < out.length
    · have hwr : wrap64 ((out.length : Int) - 1) = ((out.length - 1 : Nat) : Int) := by unfold wrap64; omega
      have hlast : rd_T42 out ((out.length - 1 : Nat) : Int) = lastP out := by simp [rd_T42, lastP]
      rw [if_pos (by omega), hwr, if_pos (by omega), if_pos (by omega), hlast]
      have hsz : (lastP out).f0.size ≤ wordsLen out := by
        unfold lastP; rw [List.getD_eq_getElem?_getD, List.getElem?_eq_getElem (by omega)]
        exact wordsLen_mem (List.getElem_mem _)
      by_cases he : eqS (lastP out).f1 p.f1 = true
      · rw [if_pos (by unfold eqS at he; exact he), if_pos (by omega)]
        simp only [joinP, if_pos h, if_pos he, Int.toNat_natCast]
      · rw [if_neg (by unfold eqS at he; exact he), if_pos (by omega)]
        simp only [joinP, if_pos h, if_neg he]
    · rw [if_neg (by omega), if_pos (by omega)]
      simp only [joinP, if_neg h]
theorem joined_run {l : List S42} (hl : l.length ≤ 1000000) (hw : wordsLen l ≤ 1000000) (k : Nat) (hk : l.length < k) : text_joined.f k l = some (joinS l) := by
  have := joined_loop hl hw l.length 0 k [] (by omega) (by simp) (by simpa [wordsLen] using hw) hk
  exact this
theorem wl_filter (l : List S42) : wordsLen (l.filter nz) ≤ wordsLen l := by
  induction l with
  | nil => simp
  | cons p l ih =>
    rw [List.filter_cons]
    split
    · simp [wordsLen] at *; omega
    · simp [wordsLen] at *; omega
theorem joinS_len (l : List S42) : (joinS l).length ≤ l.length := by
  unfold joinS
  have : ∀ (l : List S42) (out : List S42), (l.foldl joinP out).length ≤ out.length + l.length := by
    intro l
    induction l with
    | nil => intro out; simp
    | cons p l ih => intro out; have := ih (joinP out p); have := joinP_len out p; simp; omega
  have := this l []
  simpa using this
end Go.Proofs.YtogidacejbjljaaGreatDoor.PTextChecks
