/- A verified abstract interpreter, part C5: more operations. -/
import Derived.Test.YtogidacejbjljaaGreatDoorDenC4
set_option linter.unusedVariables false
set_option linter.unusedSimpArgs false
namespace Go.Den
open Go.RowKit

/-! ### made slices, literals of slices -/
def zeroRow (z : Array Value) (n : Nat) : Array Value := (Array.range n).map (fun i => z[i % z.size]!)
theorem Rel.newRow {w0 : Base} {w : World} {p : Ren} {s : St} (R : Rel w0 p s w) {P : Program} (e : TypeId) {cs cs' : Array Value} (h : LRel p cs.toList cs'.toList) :
    (newRow e cs').run P w = .ok ⟨w.heap.size, 0, none⟩ (w.alloc (.cells cs' e)) ∧
    Rel w0 (p.ext s.next (w.heap.size, 0)) (s.add (.blk (blkOf e cs.toList 0 0))) (w.alloc (.cells cs' e)) := by
  have hlen : cs'.size = cs.toList.length := by rw [← Array.length_toList]; exact h.length.symm
  refine ⟨?_, R.newBlk e 0 (by decide) (by omega) (fun _ => hlen) (fun e => absurd e (by decide)) fun i u hu => ?_⟩
  · simp [Go.newRow, newObj, Sem.run_bind, Sem.run, Result.andThen]
  · obtain ⟨u', h1, h2⟩ := h.get i u hu
    exact ⟨u', by rw [← Array.getElem?_toList]; exact h1, h2⟩

def makeSliceA (P : Program) (s : St) (t : TypeId) (len cap : Value) : Option (Value × St) :=
  match P.underlying t with
  | some (.slice e) => match P.info? e with
    | some inf => match inf.zero with
      | some z => match len with
        | .int _ n => match cap with
          | .int _ c =>
            bif decide (0 ≤ IntKind.i64.wrap n) && decide (IntKind.i64.wrap n ≤ IntKind.i64.wrap c) && decide ((inf.bytes : Int) * IntKind.i64.wrap c ≤ 281474976710656) && Nat.blt (IntKind.i64.wrap c).toNat U && Nat.blt 0 inf.size
                && flatL (zeroRow z.cells ((IntKind.i64.wrap c).toNat * inf.size)).toList then
              some (.slice (some ⟨s.next, 0, none⟩) (IntKind.i64.wrap n).toNat (IntKind.i64.wrap c).toNat, s.add (.blk (blkOf e (zeroRow z.cells ((IntKind.i64.wrap c).toNat * inf.size)).toList 0 0)))
            else none
          | _ => none
        | _ => none
      | none => none
    | none => none
  | _ => none

theorem makeSliceA_run {P : Program} {w0 : Base} {w : World} {p : Ren} {s s' : St} (R : Rel w0 p s w) {t : TypeId} {l l' c c' v : Value} (hl : VRel p l l') (hc : VRel p c c') (h : makeSliceA P s t l c = some (v, s')) :
    ∃ q v' w', p.le q ∧ (Instr.makeSlice t l' c').run P w = .ok v' w' ∧ VRel q v v' ∧ Rel w0 q s' w' := by
  unfold makeSliceA at h
  split at h
  · rename_i e hu
    split at h
    · rename_i i hi
      split at h
      · rename_i z hz
        split at h
        · rename_i k1 n
          split at h
          · rename_i k2 m
            cases hb : (decide (0 ≤ IntKind.i64.wrap n) && decide (IntKind.i64.wrap n ≤ IntKind.i64.wrap m) && decide ((i.bytes : Int) * IntKind.i64.wrap m ≤ 281474976710656) && Nat.blt (IntKind.i64.wrap m).toNat U && Nat.blt 0 i.size
                && flatL (zeroRow z.cells ((IntKind.i64.wrap m).toNat * i.size)).toList) with
            | false => rw [hb] at h; exact absurd h (by simp)
            | true =>
              rw [hb] at h
              simp only [cond_true, Option.some.injEq, Prod.mk.injEq] at h
              obtain ⟨rfl, rfl⟩ := h
              simp only [Bool.and_eq_true, decide_eq_true_eq] at hb
              obtain ⟨⟨⟨⟨⟨h1, h2⟩, h3⟩, h4⟩, h5⟩, h6⟩ := hb
              cases hl
              cases hc
              obtain ⟨g1, g2⟩ := R.newRow (P := P) e (flatL_rel p h6)
              refine ⟨_, .slice (some ⟨w.heap.size, 0, none⟩) (IntKind.i64.wrap n).toNat (IntKind.i64.wrap m).toNat, _, Ren.le_ext (R.fresh _ (Nat.le_refl _)).2, ?_, .slice _ _ _ _ _ _ _ (Ren.ext_same _ _ _) (cap_keepU (blt_lt h4)) (fun e => absurd (blt_lt h4) (Nat.not_lt.2 e)), g2⟩
              have h7 : ¬ (IntKind.i64.wrap m < 0 ∨ 281474976710656 < (i.bytes : Int) * IntKind.i64.wrap m) := by omega
              have h8 : ¬ IntKind.i64.wrap n < 0 := by omega
              have h9 : ¬ IntKind.i64.wrap m < IntKind.i64.wrap n := by omega
              have hzero : ∀ w1, (if (IntKind.i64.wrap m).toNat * i.size = 0 then pure #[] else do pure (← zeroValue e).cells : Sem (Array Value)).run P w1 = .ok (if (IntKind.i64.wrap m).toNat * i.size = 0 then #[] else z.cells) w1 := by
                intro w1
                split
                · rfl
                · simp only [Sem.run_bind, run_zeroValue hi hz, Result.andThen, Sem.run_pure]
              have hrow : (Array.range ((IntKind.i64.wrap m).toNat * i.size)).map (fun x => (if (IntKind.i64.wrap m).toNat * i.size = 0 then #[] else z.cells)[x % (if (IntKind.i64.wrap m).toNat * i.size = 0 then (#[] : Array Value) else z.cells).size]!) = zeroRow z.cells ((IntKind.i64.wrap m).toNat * i.size) := by
                unfold zeroRow
                split
                · rename_i h0; rw [h0]; simp [Array.range]
                · rfl
              have hask : ∀ w1, (askRoom ((IntKind.i64.wrap m).toNat * i.bytes)).run P w1 = .ok () w1 := by
                intro w1
                unfold askRoom
                split <;> rfl
              have hcond : ¬ ((decide (IntKind.i64.wrap m < 0) || decide ((i.bytes : Int) * IntKind.i64.wrap m > 2 ^ 48)) || decide (IntKind.i64.wrap n < 0) || decide (IntKind.i64.wrap n > IntKind.i64.wrap m)) = true := by
                simp only [Bool.or_eq_true, decide_eq_true_eq]
                omega
              unfold Instr.makeSlice
              simp only [Sem.run_bind, run_underlying hu, Result.andThen, asInt, asIntOf, Sem.run_pure, typeInfo, program, Sem.run, hi]
              rw [if_neg hcond]
              simp only [Sem.run_bind, hask, Result.andThen, run_sizeOf hi]
              by_cases h0 : (IntKind.i64.wrap m).toNat * i.size = 0
              · rw [if_pos h0] at hrow ⊢
                simp only [Sem.run_bind, Sem.run_pure, Result.andThen, hrow, g1]
              · rw [if_neg h0] at hrow ⊢
                simp only [Sem.run_bind, Sem.run_pure, Result.andThen, run_zeroValue hi hz, hrow, g1]
          · exact absurd h (by simp)
        · exact absurd h (by simp)
      · exact absurd h (by simp)
    · exact absurd h (by simp)
  · exact absurd h (by simp)

def buildSliceA (P : Program) (s : St) (t : TypeId) (len : Nat) (parts : List (Nat × Value)) : Option (Value × St) :=
  match P.underlying t with
  | some (.slice e) => match P.info? e with
    | some inf => match inf.zero with
      | some z =>
        bif Nat.ble (len * inf.size) 16777216 && Nat.blt len U && Nat.blt 0 inf.size && flatL (zeroRow z.cells (len * inf.size)).toList then
          match Instr.fill (fun i => some (i * inf.size, inf.size)) (zeroRow z.cells (len * inf.size)) parts with
          | some cells => some (.slice (some ⟨s.next, 0, none⟩) len len, s.add (.blk (blkOf e cells.toList 0 0)))
          | none => none
        else none
      | none => none
    | none => none
  | _ => none

theorem buildSliceA_run {P : Program} {w0 : Base} {w : World} {p : Ren} {s s' : St} (R : Rel w0 p s w) {t : TypeId} {len : Nat} {ps ps' : List (Nat × Value)} {v : Value} (hp : PRel p ps ps') (h : buildSliceA P s t len ps = some (v, s')) :
    ∃ q v' w', p.le q ∧ (Instr.buildSlice t len ps'.toArray).run P w = .ok v' w' ∧ VRel q v v' ∧ Rel w0 q s' w' := by
  unfold buildSliceA at h
  split at h
  · rename_i e hu
    split at h
    · rename_i i hi
      split at h
      · rename_i z hz
        cases hb : (Nat.ble (len * i.size) 16777216 && Nat.blt len U && Nat.blt 0 i.size && flatL (zeroRow z.cells (len * i.size)).toList) with
        | false => rw [hb] at h; exact absurd h (by simp)
        | true =>
          rw [hb] at h
          simp only [cond_true] at h
          simp only [Bool.and_eq_true] at hb
          obtain ⟨⟨⟨h1, h2⟩, h3⟩, h4⟩ := hb
          have h1 := Nat.le_of_ble_eq_true h1
          split at h
          · rename_i cells hc
            simp only [Option.some.injEq, Prod.mk.injEq] at h
            obtain ⟨rfl, rfl⟩ := h
            obtain ⟨out', k1, k2⟩ := fill_rel _ hp (flatL_rel p h4) hc
            obtain ⟨g1, g2⟩ := R.newRow (P := P) e k2
            refine ⟨_, .slice (some ⟨w.heap.size, 0, none⟩) len len, _, Ren.le_ext (R.fresh _ (Nat.le_refl _)).2, ?_, .slice _ _ _ _ _ _ _ (Ren.ext_same _ _ _) (cap_keepU (blt_lt h2)) (fun e => absurd (blt_lt h2) (Nat.not_lt.2 e)), g2⟩
            have hzero : ∀ w1, (if len * i.size = 0 then pure #[] else do pure (← zeroValue e).cells : Sem (Array Value)).run P w1 = .ok (if len * i.size = 0 then #[] else z.cells) w1 := by
              intro w1
              split
              · rfl
              · simp only [Sem.run_bind, run_zeroValue hi hz, Result.andThen, Sem.run_pure]
            have hrow : (Array.range (len * i.size)).map (fun x => (if len * i.size = 0 then #[] else z.cells)[x % (if len * i.size = 0 then (#[] : Array Value) else z.cells).size]!) = zeroRow z.cells (len * i.size) := by
              unfold zeroRow
              split
              · rename_i h0; rw [h0]; simp [Array.range]
              · rfl
            have hn : ¬ (len * i.size > 2 ^ 24) := by omega
            unfold Instr.buildSlice
            simp only [Sem.run_bind, run_underlying hu, Result.andThen, run_sizeOf hi]
            rw [if_neg hn]
            by_cases h0 : len * i.size = 0
            · rw [if_pos h0] at hrow ⊢
              simp only [Sem.run_bind, Sem.run_pure, Result.andThen, hrow, k1, g1]
            · rw [if_neg h0] at hrow ⊢
              simp only [Sem.run_bind, Sem.run_pure, Result.andThen, run_zeroValue hi hz, hrow, k1, g1]
          · exact absurd h (by simp)
      · exact absurd h (by simp)
    · exact absurd h (by simp)
  · exact absurd h (by simp)

/-! ### copy -/
def lenA (x : Value) : Option Nat :=
  match x with
  | .slice _ n _ => some n
  | .string s => some s.size
  | _ => none
/-- The first cells of a source. -/
def headA (s : St) (x : Value) (size n : Nat) : Option (List Value) :=
  match x with
  | .slice none _ _ => bif Nat.beq n 0 then some [] else none
  | .slice (some ⟨b, o, none⟩) _ _ =>
    match s.heap.get b with
    | some (.blk k) => bif Nat.ble (o + n * size) k.n then k.cells.getL o (n * size) else none
    | _ => none
  | _ => none
def copyA (P : Program) (s : St) (t : TypeId) (dst src : Value) : Option (Value × St) :=
  match P.underlying t with
  | some (.slice e) => match P.info? e with
    | some inf => match dst with
      | .slice base dLen dCap => match lenA src with
        | some m => match (match src with | .string str => bif Nat.beq inf.size 1 then some ((strL str).take (Nat.min m dLen)) else none | x => headA s x inf.size (Nat.min m dLen)) with
          | some l => match base with
            | none => some (goInt (Nat.min m dLen), s)
            | some ⟨b, o, none⟩ => match s.heap.get b with
              | some (.blk k) => bif storeOk k o (Nat.min m dLen * inf.size) l then some (goInt (Nat.min m dLen), { s with heap := s.heap.put b (some (.blk (k.putL o l))) }) else none
              | _ => none
            | _ => none
          | none => none
        | none => none
      | _ => none
    | none => none
  | _ => none

theorem lenA_run {P : Program} {p : Ren} {x x' : Value} {n : Nat} (hx : VRel p x x') (h : lenA x = some n) (w : World) : (Builtin.lenOf x').run P w = .ok n w := by
  unfold lenA at h
  split at h
  · injection h with h; subst h; cases hx <;> rfl
  · injection h with h; subst h; cases hx; rfl
  · exact absurd h (by simp)

theorem headA_run {P : Program} {w0 : Base} {w : World} {p : Ren} {s : St} (R : Rel w0 p s w) {x x' : Value} {size n : Nat} {l : List Value} (hx : VRel p x x') (h : headA s x size n = some l) :
    l.length = n * size ∧ ∃ l', LRel p l l' ∧ (Builtin.firstCells size n x').run P w = .ok l'.toArray w := by
  unfold headA at h
  split at h
  · cases hb : Nat.beq n 0 with
    | false => rw [hb] at h; exact absurd h (by simp)
    | true =>
      rw [hb] at h
      simp only [cond_true, Option.some.injEq] at h
      subst h
      have := Nat.eq_of_beq_eq_true hb
      subst this
      cases hx
      exact ⟨by simp, [], .nil, rfl⟩
  · rename_i b o m c
    split at h
    · rename_i k hk
      cases hb : Nat.ble (o + n * size) k.n with
      | false => rw [hb] at h; exact absurd h (by simp)
      | true =>
        rw [hb] at h
        simp only [cond_true] at h
        have hn := Nat.le_of_ble_eq_true hb
        cases hx with
        | slice _ b' y _ _ _ c' hbb _ _ =>
          obtain ⟨bn, cn, ca, fr, hp, hh, r⟩ := R.blk hk
          rw [hbb] at hp
          injection hp with hp
          injection hp with hp _
          subst hp
          exact ⟨(Trie.getL_spec _ _ _ _ h).1, _, getL_rel r h hn, run_loadCells_blk hh o (n * size) (by have := r.2.2.1; omega)⟩
    · exact absurd h (by simp)
  · exact absurd h (by simp)

theorem run_firstCells_str {P : Program} (size n : Nat) (s : ByteArray) (w : World) : (Builtin.firstCells size n (.string s)).run P w = .ok ((strL s).take n).toArray w := by
  unfold Builtin.firstCells strL
  simp only [Sem.run_pure]
  congr 1
  apply Array.toList_inj.1
  have e : (s.extract 0 n).data = s.data.extract 0 n := by rw [ByteArray.data_extract]
  simp [e, List.map_take]

theorem flatL_take {l : List Value} (h : flatL l = true) (n : Nat) : flatL (l.take n) = true := by
  induction l generalizing n with
  | nil => simp [flatL]
  | cons v l ih =>
    simp only [flatL, Bool.and_eq_true] at h
    cases n with
    | zero => rfl
    | succ n => simp only [List.take_succ_cons, flatL, Bool.and_eq_true]; exact ⟨h.1, ih h.2 n⟩
theorem flatL_str (s : ByteArray) : flatL (strL s) = true := by
  unfold strL
  generalize s.data.toList = bs
  induction bs with
  | nil => rfl
  | cons b bs ih => simp [flatL, flat0, ih]

theorem copyA_run {P : Program} {w0 : Base} {w : World} {p : Ren} {s s' : St} (R : Rel w0 p s w) {t : TypeId} {ts : Array TypeId} {ty : TypeId} {d d' x x' v : Value} (hd : VRel p d d') (hx : VRel p x x') (h : copyA P s t d x = some (v, s')) (ht : ts[0]? = some t) :
    ∃ v' w', (Builtin.copy_ ts ty #[d', x']).run P w = .ok v' w' ∧ VRel p v v' ∧ Rel w0 p s' w' := by
  unfold copyA at h
  split at h
  · rename_i e hu
    split at h
    · rename_i i hi
      split at h
      · rename_i base dLen dCap
        split at h
        · rename_i m hm
          split at h
          · rename_i l hl
            have hsrc : ∃ l', LRel p l l' ∧ (Builtin.firstCells i.size (Nat.min m dLen) x').run P w = .ok l'.toArray w := by
              split at hl
              · rename_i str
                cases hb : Nat.beq i.size 1 with
                | false => rw [hb] at hl; exact absurd hl (by simp)
                | true =>
                  rw [hb] at hl
                  simp only [cond_true, Option.some.injEq] at hl
                  subst hl
                  cases hx
                  exact ⟨_, flatL_rel p (flatL_take (flatL_str str) _), run_firstCells_str _ _ _ _⟩
              · obtain ⟨_, l', h1, h2⟩ := headA_run (P := P) R hx hl
                exact ⟨l', h1, h2⟩
            obtain ⟨l', hll, hf⟩ := hsrc
            have hlen := lenA_run (P := P) hx hm w
            split at h
            · simp only [Option.some.injEq, Prod.mk.injEq] at h
              obtain ⟨rfl, rfl⟩ := h
              cases hd
              refine ⟨goInt (Nat.min m dLen), w, ?_, .int _ _, R⟩
              simp [Builtin.copy_, ht, Sem.run_bind, run_underlying hu, Result.andThen, hlen, run_sizeOf hi, hf]
            · rename_i b o
              split at h
              · rename_i k hk
                cases hok : storeOk k o (Nat.min m dLen * i.size) l with
                | false => rw [hok] at h; exact absurd h (by simp)
                | true =>
                  rw [hok] at h
                  simp only [cond_true, Option.some.injEq, Prod.mk.injEq] at h
                  obtain ⟨rfl, rfl⟩ := h
                  obtain ⟨h3, h4, h5, h6, h7⟩ := storeOk_spec hok
                  cases hd with
                  | slice _ b' y _ _ _ c' hbb hc hy =>
                    obtain ⟨bn, cn, c, fr, hp, hh, r⟩ := R.blk hk
                    rw [hbb] at hp
                    injection hp with hp
                    injection hp with hp hp2
                    subst hp
                    subst hp2
                    have hlen2 := hll.length
                    have hfr := r.2.1
                    have h8 : o + 0 + l'.length ≤ c.size := by have := r.2.2.1; omega
                    have h9 : ∀ j, o + 0 ≤ j → j < o + 0 + l'.length → ¬ (fr.1 ≤ j ∧ j < fr.2) := fun j q1 q2 q3 => by
                      have := hfr.1 j q3.1 q3.2 (by omega)
                      omega
                    obtain ⟨w', c2, g1, g2, g3, g4⟩ := run_storeCells_w (P := P) b' o k.elem fr.1 fr.2 l' 0 c w hh h8 h9 (oneL_rel h4 hll)
                    refine ⟨goInt (Nat.min m dLen), w', ?_, .int _ _, R.wrote hk hbb h7 r hll (by omega) g2 g3 (by simpa using g4)⟩
                    simp [Builtin.copy_, ht, Sem.run_bind, run_underlying hu, Result.andThen, hlen, run_sizeOf hi, hf, g1]
              · exact absurd h (by simp)
            · exact absurd h (by simp)
          · exact absurd h (by simp)
        · exact absurd h (by simp)
      · exact absurd h (by simp)
    · exact absurd h (by simp)
  · exact absurd h (by simp)

end Go.Den
