/- A verified abstract interpreter, part C: the operations, one by one. -/
import Derived.Test.YtogidacejbjljaaGreatDoorDenB
set_option linter.unusedVariables false
set_option linter.unusedSimpArgs false
namespace Go.Den
open Go.RowKit

theorem VRel.cells {p : Ren} {v v' : Value} (h : VRel p v v') : LRel p v.cells.toList v'.cells.toList := by
  cases h with
  | agg x x' hx => exact hx
  | _ => exact .cons _ _ _ _ (by constructor <;> assumption) .nil

theorem own_blk {b : Blk} (h : b.mode ≠ 2) : (AObj.blk b).own = true := by
  have : Nat.beq b.mode 2 = false := by
    cases e : Nat.beq b.mode 2 with
    | false => rfl
    | true => exact absurd (Nat.eq_of_beq_eq_true e) h
  simp only [AObj.own, this, Bool.not_false]
theorem blt_lt {a b : Nat} (h : Nat.blt a b = true) : a < b := Nat.le_of_ble_eq_true h
theorem blt_of {a b : Nat} (h : a < b) : Nat.blt a b = true := Nat.ble_eq_true_of_le h

/-! ### store -/
def storeOk (k : Blk) (o m : Nat) (cs : List Value) : Bool :=
  Nat.beq cs.length m && oneL cs && Nat.ble (o + m) k.n && Nat.ble k.hi o && !(Nat.beq k.mode 2)
def Blk.putL (k : Blk) (o : Nat) (cs : List Value) : Blk := { k with cells := k.cells.putL o cs }
def storeA (P : Program) (s : St) (t : TypeId) (a x : Value) : Option St :=
  match a with
  | .pointer (some ⟨b, o, none⟩) =>
    match s.heap.get b with
    | some (.blk k) =>
      match P.info? t with
      | some i => bif storeOk k o i.size x.cells.toList then some { s with heap := s.heap.put b (some (.blk (k.putL o x.cells.toList))) } else none
      | none => none
    | _ => none
  | _ => none

theorem BRel.putL {p : Ren} {cn : Nat} {k : Blk} {c c' : Array Value} {fr : Nat × Nat} (r : BRel p cn k c k.elem fr) {o : Nat} {l l' : List Value} (hl : LRel p l l') (hn : o + l.length ≤ k.n)
    (hs : c'.size = c.size) (hc : ∀ j, c'[j]? = if o ≤ j ∧ j < o + l'.length then l'[j - o]? else c[j]?) : BRel p cn (k.putL o l) c' k.elem fr := by
  obtain ⟨_, h0, h1, h2, h2b, h3⟩ := r
  refine ⟨rfl, ⟨fun j q1 q2 q3 => h0.1 j q1 q2 (by rw [← hs]; exact q3), h0.2⟩, by rw [hs]; exact h1, fun hm => by rw [hs]; exact h2 hm, fun hm => by rw [hs]; exact h2b hm, ?_⟩
  intro i v hv hi
  simp only [Blk.putL] at hv hi
  rw [Trie.get_putL] at hv
  rw [hc i]
  have hlen := hl.length
  by_cases e : o ≤ i ∧ i < o + l.length
  · rw [if_pos e] at hv
    rw [if_pos (by omega)]
    exact hl.get _ _ hv
  · rw [if_neg e] at hv
    rw [if_neg (by omega)]
    exact h3 i v hv hi

/-- Writing cells into an own block, whatever ran. -/
theorem Rel.wrote {w0 : Base} {w w' : World} {p : Ren} {s : St} (R : Rel w0 p s w) {b bn cn o : Nat} {k : Blk} {c c' : Array Value} {fr : Nat × Nat} {l l' : List Value} (hk : s.heap.get b = some (.blk k)) (hp : p b = some (bn, cn))
    (hm : k.mode ≠ 2) (r : BRel p cn k c k.elem fr) (hl : LRel p l l') (hn : o + l.length ≤ k.n) (hW : Wrote w w' bn k.elem fr c') (hs : c'.size = c.size)
    (hc : ∀ j, c'[j]? = if o ≤ j ∧ j < o + l'.length then l'[j - o]? else c[j]?) : Rel w0 p { s with heap := s.heap.put b (some (.blk (k.putL o l))) } w' := by
  have hown : (AObj.blk k).own = true := own_blk hm
  have hge : w0.new bn := by
    obtain ⟨b2, c2, h2, hor⟩ := R.obj b _ hk
    rw [hp] at h2
    injection h2 with h2
    injection h2 with h2
    subst h2
    exact hor.ge hown
  refine R.update hk hown hp hW.os hW.tape hW.output (by rw [hW.size]; exact Nat.le_refl _) (fun j hj _ => hW.other j hj) ?_ (own_blk (b := k.putL o l) hm)
  rw [hW.at_]
  exact ⟨⟨c', _, _, rfl, r.putL hl hn hs hc⟩, fun e => absurd e hm, fun _ => hge⟩

theorem storeOk_spec {k : Blk} {o m : Nat} {cs : List Value} (h : storeOk k o m cs = true) :
    cs.length = m ∧ oneL cs = true ∧ o + m ≤ k.n ∧ k.hi ≤ o ∧ k.mode ≠ 2 := by
  unfold storeOk at h
  simp only [Bool.and_eq_true, Bool.not_eq_true'] at h
  obtain ⟨⟨⟨⟨h1, h2⟩, h3⟩, h4⟩, h5⟩ := h
  exact ⟨Nat.eq_of_beq_eq_true h1, h2, Nat.le_of_ble_eq_true h3, Nat.le_of_ble_eq_true h4, Nat.ne_of_beq_eq_false h5⟩

theorem storeA_run {P : Program} {w0 : Base} {w : World} {p : Ren} {s s' : St} (R : Rel w0 p s w) {t : TypeId} {a a' x x' : Value} (ha : VRel p a a') (hx : VRel p x x') (h : storeA P s t a x = some s') :
    ∃ w', (Instr.storeAt t a' x').run P w = .ok () w' ∧ Rel w0 p s' w' := by
  unfold storeA at h
  split at h
  · rename_i b o
    split at h
    · rename_i k hk
      split at h
      · rename_i i hi
        cases hok : storeOk k o i.size x.cells.toList with
        | false => rw [hok] at h; simp at h
        | true =>
          rw [hok] at h
          simp only [cond_true, Option.some.injEq] at h
          subst h
          obtain ⟨h1, h2, h3, h4, h5⟩ := storeOk_spec hok
          cases ha with
          | ptr _ b' y _ hb =>
            obtain ⟨bn, cn, c, fr, hp, hh, r⟩ := R.blk hk
            rw [hb] at hp
            injection hp with hp
            injection hp with hp hp2
            subst hp
            subst hp2
            have hl := hx.cells
            have hlen := hl.length
            have hfr := r.2.1
            have h6 : o + 0 + x'.cells.toList.length ≤ c.size := by have := r.2.2.1; omega
            have h7 : ∀ j, o + 0 ≤ j → j < o + 0 + x'.cells.toList.length → ¬ (fr.1 ≤ j ∧ j < fr.2) := fun j q1 q2 q3 => by
              have := hfr.1 j q3.1 q3.2 (by omega)
              omega
            obtain ⟨w', c', g1, g2, g3, g4⟩ := run_storeCells_w (P := P) b' o k.elem fr.1 fr.2 x'.cells.toList 0 c w hh h6 h7 (oneL_rel h2 hl)
            refine ⟨w', ?_, R.wrote hk hb h5 r hl (by omega) g2 g3 (by simpa using g4)⟩
            simp only [Instr.storeAt, Instr.sureAddr, Sem.run_bind, Sem.run_pure, Result.andThen, storeVar, run_sizeOf hi]
            have h8 : ¬ (x'.cells.size ≠ i.size) := by rw [← Array.length_toList]; omega
            rw [if_neg h8]
            simp only [Sem.run_bind, Sem.run_pure, Result.andThen, g1]
      · exact absurd h (by simp)
    · exact absurd h (by simp)
  · exact absurd h (by simp)

/-! ### new blocks -/
def blkOf (elem : TypeId) (cs : List Value) (mode esz : Nat) : Blk := { cells := Trie.nil.putL 0 cs, n := cs.length, elem, esz, hi := 0, mode, mark := false }

theorem BRel.of_list {p : Ren} {elem : TypeId} {cs : List Value} {mode esz cn : Nat} {c : Array Value} (hlen : cs.length ≤ c.size) (hm : mode = 0 → c.size = cs.length) (hm1 : mode = 1 → c.size = cn * esz)
    (hr : ∀ (i : Nat) (v : Value), cs[i]? = some v → ∃ v', c[i]? = some v' ∧ VRel p v v') : BRel p cn (blkOf elem cs mode esz) c elem (0, 0) := by
  refine ⟨rfl, ⟨fun j _ q _ => absurd q (Nat.not_lt_zero _), fun _ => Nat.le_refl _⟩, hlen, hm, hm1, fun i v hv hi => ?_⟩
  simp only [blkOf] at hv hi
  rw [Trie.get_putL, if_pos (by omega), Nat.sub_zero] at hv
  exact hr i v hv

theorem Rel.newBlk {w0 : Base} {w : World} {p : Ren} {s : St} (R : Rel w0 p s w) (elem : TypeId) {cs : List Value} {c : Array Value} {mode esz : Nat} (cn : Nat) (hmode : mode ≠ 2) (hlen : cs.length ≤ c.size) (hm : mode = 0 → c.size = cs.length)
    (hm1 : mode = 1 → c.size = cn * esz) (hr : ∀ (i : Nat) (v : Value), cs[i]? = some v → ∃ v', c[i]? = some v' ∧ VRel p v v') :
    Rel w0 (p.ext s.next (w.heap.size, cn)) (s.add (.blk (blkOf elem cs mode esz))) (w.alloc (.cells c elem)) := by
  have hle : p.le (p.ext s.next (w.heap.size, cn)) := Ren.le_ext (R.fresh _ (Nat.le_refl _)).2
  refine R.alloc (own_blk (b := blkOf elem cs mode esz) hmode) ⟨⟨c, elem, (0, 0), rfl, BRel.of_list hlen hm hm1 fun i v h => ?_⟩, fun e => absurd e hmode, fun _ => R.newAt⟩
  obtain ⟨v', h1, h2⟩ := hr i v h
  exact ⟨v', h1, h2.mono hle⟩

theorem Rel.newVar {w0 : Base} {w : World} {p : Ren} {s : St} (R : Rel w0 p s w) {P : Program} (elem : TypeId) {v v' : Value} (hv : VRel p v v') :
    (newVar elem v').run P w = .ok ⟨w.heap.size, 0, none⟩ (w.alloc (.cells v'.cells elem)) ∧
    Rel w0 (p.ext s.next (w.heap.size, 0)) (s.add (.blk (blkOf elem v.cells.toList 0 0))) (w.alloc (.cells v'.cells elem)) := by
  have hl := hv.cells
  have hlen : v'.cells.size = v.cells.toList.length := by rw [← Array.length_toList]; exact hl.length.symm
  refine ⟨?_, R.newBlk elem 0 (by decide) (by omega) (fun _ => hlen) (fun e => absurd e (by decide)) fun i u h => ?_⟩
  · simp [Go.newVar, newRow, newObj, Sem.run_bind, Sem.run, Result.andThen]
  · obtain ⟨u', h1, h2⟩ := hl.get i u h
    exact ⟨u', by rw [← Array.getElem?_toList]; exact h1, h2⟩

def ptrA (b : Nat) : Value := .pointer (some ⟨b, 0, none⟩)

def allocA (P : Program) (s : St) (t : TypeId) : Option (Value × St) :=
  match P.info? t with
  | some i => match i.zero with
    | some z => bif flat1 z then some (ptrA s.next, s.add (.blk (blkOf t z.cells.toList 0 0))) else none
    | none => none
  | none => none

theorem run_zeroValue {P : Program} {t : TypeId} {i : TypeInfo} {z : Value} (h : P.info? t = some i) (hz : i.zero = some z) (w : World) : (zeroValue t).run P w = .ok z w := by
  simp [zeroValue, typeInfo, program, Sem.run_bind, Sem.run, h, hz, Result.andThen]

theorem allocA_run {P : Program} {w0 : Base} {w : World} {p : Ren} {s s' : St} (R : Rel w0 p s w) {t : TypeId} {v : Value} (h : allocA P s t = some (v, s')) :
    ∃ q v' w', p.le q ∧ (Instr.alloc t true (.tuple #[])).run P w = .ok v' w' ∧ VRel q v v' ∧ Rel w0 q s' w' := by
  unfold allocA at h
  split at h
  · rename_i i hi
    split at h
    · rename_i z hz
      cases hf : flat1 z with
      | false => rw [hf] at h; simp at h
      | true =>
        rw [hf] at h
        simp only [cond_true, Option.some.injEq, Prod.mk.injEq] at h
        obtain ⟨rfl, rfl⟩ := h
        obtain ⟨h1, h2⟩ := R.newVar (P := P) t (flat1_rel p hf)
        refine ⟨_, .pointer (some ⟨w.heap.size, 0, none⟩), _, Ren.le_ext (R.fresh _ (Nat.le_refl _)).2, ?_, ?_, h2⟩
        · simp only [Instr.alloc, Sem.run_bind, run_zeroValue hi hz, Result.andThen, h1, Sem.run_pure]
        · exact .ptr _ _ _ _ (Ren.ext_same _ _ _)
    · exact absurd h (by simp)
  · exact absurd h (by simp)

def boxA (s : St) (t : TypeId) (v : Value) : Value × St := (ptrA s.next, s.add (.blk (blkOf t v.cells.toList 0 0)))
theorem boxA_run {P : Program} {w0 : Base} {w : World} {p : Ren} {s : St} (R : Rel w0 p s w) (t : TypeId) {v v' : Value} (hv : VRel p v v') :
    ∃ q u' w', p.le q ∧ (Instr.box t v').run P w = .ok u' w' ∧ VRel q (boxA s t v).1 u' ∧ Rel w0 q (boxA s t v).2 w' := by
  obtain ⟨h1, h2⟩ := R.newVar (P := P) t hv
  refine ⟨_, .pointer (some ⟨w.heap.size, 0, none⟩), _, Ren.le_ext (R.fresh _ (Nat.le_refl _)).2, ?_, ?_, h2⟩
  · simp only [Instr.box, Sem.run_bind, Result.andThen, h1, Sem.run_pure]
  · exact .ptr _ _ _ _ (Ren.ext_same _ _ _)

/-! ### addresses -/
def fieldAtA (P : Program) (t : TypeId) (x : Value) (f : Nat) : Option Value :=
  match P.underlying t with
  | some (.struct fields) => match fields[f]? with
    | some fd => match P.info? fd.type with
      | some i => match x with
        | .pointer (some ⟨b, o, none⟩) => bif Nat.beq i.size 0 then none else some (.pointer (some ⟨b, o + fd.offset, none⟩))
        | _ => none
      | none => none
    | none => none
  | _ => none
theorem run_underlying {P : Program} {t : TypeId} {d : TypeDesc} (h : P.underlying t = some d) (w : World) : (underlying t).run P w = .ok d w := by
  simp [underlying, program, Sem.run_bind, Sem.run, h, Result.andThen]
theorem fieldAtA_run {P : Program} {p : Ren} {t : TypeId} {x x' v : Value} {f : Nat} (hx : VRel p x x') (h : fieldAtA P t x f = some v) (w : World) :
    ∃ v', (Instr.fieldAt t x' f).run P w = .ok v' w ∧ VRel p v v' := by
  unfold fieldAtA at h
  split at h
  · rename_i fields hu
    split at h
    · rename_i fd hfd
      split at h
      · rename_i i hi
        split at h
        · rename_i b o
          cases hz : Nat.beq i.size 0 with
          | true => rw [hz] at h; simp at h
          | false =>
            rw [hz] at h
            simp only [cond_false, Option.some.injEq] at h
            subst h
            cases hx with
            | ptr _ b' y _ hb =>
              refine ⟨.pointer (some ⟨b', o + fd.offset, none⟩), ?_, .ptr _ _ _ _ hb⟩
              have hz' : i.size ≠ 0 := Nat.ne_of_beq_eq_false hz
              simp only [Instr.fieldAt, Sem.run_bind, run_underlying hu, Result.andThen, hfd, Instr.sureAddr, Sem.run_pure, fieldPlace, run_sizeOf hi, if_neg hz', Addr.add_none]
        · exact absurd h (by simp)
      · exact absurd h (by simp)
    · exact absurd h (by simp)
  · exact absurd h (by simp)

def indexAtA (P : Program) (t : TypeId) (x ix : Value) : Option Value :=
  match ix with
  | .int _ i =>
    match P.underlying t, x with
    | some (.slice e), .slice (some ⟨b, o, none⟩) len _ =>
      match P.info? e with
      | some inf => bif decide (0 ≤ i) && decide (i < (len : Int)) then some (.pointer (some ⟨b, o + i.toNat * inf.size, none⟩)) else none
      | none => none
    | some (.array len e), .pointer (some ⟨b, o, none⟩) =>
      match P.info? e with
      | some inf => bif decide (0 ≤ i) && decide (i < (len : Int)) then some (.pointer (some ⟨b, o + i.toNat * inf.size, none⟩)) else none
      | none => none
    | _, _ => none
  | _ => none
theorem indexAtA_run {P : Program} {p : Ren} {t : TypeId} {x x' ix ix' v : Value} (hx : VRel p x x') (hi : VRel p ix ix') (h : indexAtA P t x ix = some v) (w : World) :
    ∃ v', (Instr.indexAt t x' ix').run P w = .ok v' w ∧ VRel p v v' := by
  unfold indexAtA at h
  split at h
  · rename_i k i
    cases hi
    split at h
    · rename_i e b o len cap hu
      split at h
      · rename_i inf hinf
        cases hb : (decide (0 ≤ i) && decide (i < (len : Int))) with
        | false => rw [hb] at h; simp at h
        | true =>
          rw [hb] at h
          simp only [cond_true, Option.some.injEq] at h
          subst h
          simp only [Bool.and_eq_true, decide_eq_true_eq] at hb
          cases hx with
          | slice _ b' y _ _ _ c' hbb _ _ =>
            refine ⟨.pointer (some ⟨b', o + i.toNat * inf.size, none⟩), ?_, .ptr _ _ _ _ hbb⟩
            simp [Instr.indexAt, asIntOf, Sem.run_bind, run_underlying hu, Result.andThen, hb, run_sizeOf hinf, Addr.add_none]
      · exact absurd h (by simp)
    · rename_i len e b o hu
      split at h
      · rename_i inf hinf
        cases hb : (decide (0 ≤ i) && decide (i < (len : Int))) with
        | false => rw [hb] at h; simp at h
        | true =>
          rw [hb] at h
          simp only [cond_true, Option.some.injEq] at h
          subst h
          simp only [Bool.and_eq_true, decide_eq_true_eq] at hb
          cases hx with
          | ptr _ b' y _ hbb =>
            refine ⟨.pointer (some ⟨b', o + i.toNat * inf.size, none⟩), ?_, .ptr _ _ _ _ hbb⟩
            simp [Instr.indexAt, Instr.sureAddr, asIntOf, Sem.run_bind, run_underlying hu, Result.andThen, hb, run_sizeOf hinf, Addr.add_none]
      · exact absurd h (by simp)
    · exact absurd h (by simp)
  · exact absurd h (by simp)

/-! ### slicing -/
def boundA (x : Option Value) (dflt most : Nat) : Option Nat :=
  match x with
  | none => some dflt
  | some (.int _ i) => bif decide (0 ≤ i) && decide (i ≤ (most : Int)) then some i.toNat else none
  | some _ => none
/-- The capacity that is known for sure. -/
def capLowU (u c : Nat) : Nat := bif Nat.blt c u then c else c - u
def capLow (c : Nat) : Nat := capLowU U c
def shiftA (eq : Bool) (d : Nat) (a : Addr) : Option Addr :=
  match a with
  | ⟨b, o, none⟩ => some ⟨b, bif eq then o else o + d, none⟩
  | _ => none
/-- A slice of a slice, two indexes. -/
def slice2 (size : Nat) (a : Option Addr) (len cap : Nat) (lo hi : Option Value) : Option Value :=
  match boundA hi len (capLow cap) with
  | none => none
  | some h => match boundA lo 0 h with
    | none => none
    | some l => match a with
      | none => some (.slice none (h - l) (cap - l))
      | some a =>
        bif Nat.blt cap U then (match shiftA (Nat.beq cap l) (l * size) a with | some b => some (.slice (some b) (h - l) (cap - l)) | none => none)
        else bif Nat.beq l 0 then (match shiftA true 0 a with | some b => some (.slice (some b) h cap) | none => none)
        else bif Nat.blt l (capLow cap) && Nat.blt 0 size then (match shiftA false (l * size) a with | some b => some (.slice (some b) (h - l) (U + (capLow cap - l))) | none => none)
        else none
def slice3 (size : Nat) (a : Option Addr) (len cap : Nat) (lo hi mx : Option Value) : Option Value :=
  match boundA mx (capLow cap) (capLow cap) with
  | none => none
  | some m => match boundA hi len m with
    | none => none
    | some h => match boundA lo 0 h with
      | none => none
      | some l => match a with
        | none => some (.slice none (h - l) (m - l))
        | some a => bif Nat.blt m U then (match shiftA (Nat.beq m l) (l * size) a with | some b => some (.slice (some b) (h - l) (m - l)) | none => none) else none
def sliceA (P : Program) (t : TypeId) (x : Value) (lo hi mx : Option Value) : Option Value :=
  match P.underlying t with
  | some (.slice e) => match x with
    | .slice a len cap => match P.info? e with
      | some inf => match mx with
        | none => slice2 inf.size a len cap lo hi
        | some m => match hi with
          | none => none
          | some h => slice3 inf.size a len cap lo (some h) (some m)
      | none => none
    | _ => none
  | some (.array n e) => match x with
    | .pointer (some a) => match P.info? e with
      | some inf => match mx with
        | none => match boundA hi n n with
          | some h => match boundA lo 0 h with
            | some l => bif Nat.blt n U then (match shiftA (Nat.beq n l) (l * inf.size) a with | some b => some (.slice (some b) (h - l) (n - l)) | none => none) else none
            | none => none
          | none => none
        | some _ => none
      | none => none
    | _ => none
  | _ => none

theorem boundA_run {P : Program} {p : Ren} {x x' : Value} {d m y h : Nat} {code : BoundsCode} (hx : VRel p x x') (hb : boundA (some x) d m = some h) (hm : m ≤ y) (w : World) :
    (Instr.sliceBound x' y code).run P w = .ok h w := by
  unfold boundA at hb
  split at hb
  · rename_i e; exact absurd e (by simp)
  · rename_i k i e
    injection e with e
    subst e
    cases hx
    cases hc : (decide (0 ≤ i) && decide (i ≤ (m : Int))) with
    | false => rw [hc] at hb; simp at hb
    | true =>
      rw [hc] at hb
      simp only [cond_true, Option.some.injEq] at hb
      subst hb
      simp only [Bool.and_eq_true, decide_eq_true_eq] at hc
      have : 0 ≤ i ∧ i ≤ (y : Int) := by omega
      simp [Instr.sliceBound, asIntOf, Sem.run_bind, Result.andThen, this]
  · exact absurd hb (by simp)

theorem boundA_le {x : Option Value} {d m h : Nat} (hb : boundA x d m = some h) (hd : d ≤ m) : h ≤ m := by
  unfold boundA at hb
  split at hb
  · injection hb with hb; omega
  · rename_i k i
    cases hc : (decide (0 ≤ i) && decide (i ≤ (m : Int))) with
    | false => rw [hc] at hb; simp at hb
    | true =>
      rw [hc] at hb
      simp only [cond_true, Option.some.injEq] at hb
      simp only [Bool.and_eq_true, decide_eq_true_eq] at hc
      omega
  · exact absurd hb (by simp)

inductive ORelV (p : Ren) : Option Value → Option Value → Prop where
  | none : ORelV p none none
  | some (v v' : Value) : VRel p v v' → ORelV p (some v) (some v')

theorem blt_not {a b : Nat} (h : Nat.blt a b = false) : ¬ a < b := fun k => by rw [blt_of k] at h; exact absurd h (by simp)
theorem capLowU_le {u c c' : Nat} (h : capRelU u c c') : capLowU u c ≤ c' := by
  unfold capLowU
  unfold capRelU at h
  cases hc : Nat.blt c u with
  | true =>
    have := blt_lt hc
    simp only [cond_true]
    omega
  | false =>
    have := blt_not hc
    simp only [cond_false]
    omega
theorem capLow_le {c c' : Nat} (h : capRel c c') : capLow c ≤ c' := capLowU_le h
/-- An exact capacity. -/
theorem cap_exactU {u c c' : Nat} (h : capRelU u c c') (hc : Nat.blt c u = true) : c' = c ∧ capLowU u c = c := by
  have := blt_lt hc
  unfold capLowU
  unfold capRelU at h
  rw [hc]
  refine ⟨?_, rfl⟩
  rcases h with h | h
  · exact h.2
  · omega
theorem cap_exact {c c' : Nat} (h : capRel c c') (hc : Nat.blt c U = true) : c' = c ∧ capLow c = c := cap_exactU h hc
/-- What is left of a capacity that is known from below. -/
theorem cap_lessU {u c c' l : Nat} (h : capRelU u c c') (hc : Nat.blt c u = false) (hl : l < capLowU u c) : capRelU u (u + (capLowU u c - l)) (c' - l) ∧ l < c' := by
  have := blt_not hc
  unfold capLowU at *
  unfold capRelU at *
  rw [hc] at *
  simp only [cond_false] at *
  omega
theorem cap_less {c c' l : Nat} (h : capRel c c') (hc : Nat.blt c U = false) (hl : l < capLow c) : capRel (U + (capLow c - l)) (c' - l) ∧ l < c' := cap_lessU h hc hl
theorem cap_keepU {u c : Nat} (h : c < u) : capRelU u c c := .inl ⟨h, rfl⟩
theorem cap_subU {u c l : Nat} (h : Nat.blt c u = true) : capRelU u (c - l) (c - l) := .inl ⟨by have := blt_lt h; omega, rfl⟩
theorem cap_sub {c l : Nat} (h : Nat.blt c U = true) : capRel (c - l) (c - l) := cap_subU h

end Go.Den
