/- A verified abstract interpreter, part C6: strings and bytes, tests for equality, interface values, iterators over strings. -/
import Derived.Test.YtogidacejbjljaaGreatDoorDenC5
import Derived.Laws.BytesString
import Derived.Lib.ConvBytes
import Derived.Lib.UnsafeStr
set_option linter.unusedVariables false
set_option linter.unusedSimpArgs false
namespace Go.Den
open Go.RowKit

/-- Cells that are bytes. -/
def intsOf : List Value → Option (List Int)
  | [] => some []
  | .int .u8 n :: l => match intsOf l with
    | some r => some (n :: r)
    | none => none
  | _ => none
theorem intsOf_spec {p : Ren} {l l' : List Value} {r : List Int} (h : intsOf l = some r) (hl : LRel p l l') : l' = r.map (Value.int .u8) := by
  induction l generalizing l' r with
  | nil =>
    cases hl
    simp only [intsOf, Option.some.injEq] at h
    subst h
    rfl
  | cons v l ih =>
    cases hl with
    | cons _ v' _ l' hv hl =>
      unfold intsOf at h
      split at h
      · rename_i heq; exact absurd heq (by simp)
      · rename_i n m heq
        injection heq with h1 h2
        subst h1
        subst h2
        split at h
        · rename_i r' hr'
          injection h with h
          subst h
          cases hv
          rw [ih hr' hl]
          rfl
        · exact absurd h (by simp)
      · exact absurd h (by simp)
def strOf (r : List Int) : ByteArray := r.foldl (fun r n => r.push (UInt8.ofNat n.toNat)) ByteArray.empty
def strOfK (r : List Int) : ByteArray := ⟨(r.map fun n => UInt8.ofNat n.toNat).toArray⟩
theorem strOf_eq (r : List Int) : strOf r = strOfK r := by
  have : ∀ (r : List Int) (a : ByteArray), r.foldl (fun r n => r.push (UInt8.ofNat n.toNat)) a = ⟨a.data ++ (r.map fun n => UInt8.ofNat n.toNat).toArray⟩ := by
    intro r
    induction r with
    | nil => intro a; simp
    | cons n r ih =>
      intro a
      rw [List.foldl_cons, ih]
      apply ByteArray.ext
      simp [ByteArray.push]
  rw [strOf, this]
  apply ByteArray.ext
  simp [strOfK]

/-! ### conversions that meet memory -/
def convA (P : Program) (s : St) (src dst : TypeId) (x : Value) : Option (Value × St) :=
  match P.underlying src, P.underlying dst, x with
  | some (.slice e), some .string, .slice a len _ =>
    match P.underlying e with
    | some (.int .u8) => match a with
      | none => some (.string .empty, s)
      | some ⟨b, o, none⟩ => match s.heap.get b with
        | some (.blk k) => bif Nat.ble (o + len) k.n then (match k.cells.getL o len with | some l => (match intsOf l with | some r => some (.string (strOfK r), s) | none => none) | none => none) else none
        | _ => none
      | _ => none
    | _ => none
  | some .string, some (.slice e), .string str =>
    match P.underlying e with
    | some (.int .u8) => some (.slice (some ⟨s.next, 0, none⟩) str.size (U + str.size), s.add (.blk { grown e (strL str) 1 0 true with mark := true }))
    | _ => none
  | some (.pointer t), some .unsafePointer, .pointer (some ⟨b, o, none⟩) =>
    match s.heap.get b with
    | some (.blk k) => match P.info? t with
      | some i => bif Nat.blt o k.n && !(Nat.beq i.size 0) then some (x, s) else none
      | none => none
    | _ => none
  | some .unsafePointer, some (.pointer u), .pointer (some ⟨b, o, none⟩) =>
    match s.heap.get b with
    | some (.blk k) => match P.info? u with
      | some i => bif Nat.beq k.mode 0 && !(Nat.beq i.size 0) && liesAt P P.depth k.elem (k.n / P.cellsOf k.elem) o u 1 then some (x, s) else none
      | none => none
    | _ => none
  | _, _, _ => none

theorem shape_blk {w : World} {bn : Nat} {c : Array Value} {e : TypeId} {fr : Nat × Nat} (h : w.heap[bn]? = some (.cells c e fr)) : w.shape? bn = some (e, c.size) := by
  simp [World.shape?, h]
theorem run_seenAt {P : Program} {w : World} {bn o : Nat} {c : Array Value} {e : TypeId} {fr : Nat × Nat} (h : w.heap[bn]? = some (.cells c e fr)) : (Conv.seenAt ⟨bn, o, none⟩).run P w = .ok ⟨bn, o, none⟩ w := by
  simp [Conv.seenAt, viewAt, shape, Sem.run_bind, Sem.run, shape_blk h, Result.andThen]

theorem bytesWorld_rel {w0 : Base} {w : World} {p : Ren} {s : St} (R : Rel w0 p s w) (e : TypeId) (str : ByteArray) :
    Rel w0 (p.ext s.next (w.heap.size, grownCap w str.size 0 e)) (s.add (.blk { grown e (strL str) 1 0 true with mark := true })) (Lib.bytesWorld w e str) := by
  have hle : p.le (p.ext s.next (w.heap.size, grownCap w str.size 0 e)) := Ren.le_ext (R.fresh _ (Nat.le_refl _)).2
  have hge := grownCap_ge w str.size 0 e
  have hsz : (Lib.bytesCells w e str).size = grownCap w str.size 0 e := by
    have : str.data.size = str.size := rfl
    simp [Lib.bytesCells]
    omega
  have hlen : (strL str).length = str.size := Lib.strCells_length str
  have hos : (Lib.bytesWorld w e str).os = w.os ∧ (Lib.bytesWorld w e str).tape = w.tape ∧ (Lib.bytesWorld w e str).output = w.output := by
    simp [Lib.bytesWorld, World.freeze, World.alloc, World.drew, -World.alloc_eq, -World.drew_eq]
  refine R.add (bn := w.heap.size) (cn := grownCap w str.size 0 e) rfl ?_ hos.1 hos.2.1 hos.2.2 (by rw [Lib.bytesWorld_size]; omega) R.newAt (fun k hk hlt => Lib.bytesWorld_at_old w e str k hlt) ?_
  · intro i x hi hx d hp
    obtain ⟨b, d', hb, hor⟩ := R.obj i x hi
    rw [hp] at hb
    injection hb with hb
    injection hb with hb
    subst hb
    cases x with
    | blk k =>
      obtain ⟨⟨c, e, fr, hx, _⟩, _⟩ := hor
      have := (Array.getElem?_eq_some_iff.1 hx).1
      omega
    | iter st ps =>
      have := (Array.getElem?_eq_some_iff.1 hor.1).1
      omega
  · rw [Lib.bytesWorld_at_new]
    refine ⟨⟨_, _, _, rfl, rfl, ⟨fun j q1 q2 q3 => ?_, fun q => ?_⟩, ?_, fun q => ?_, fun _ => ?_, fun i v hv hi => ?_⟩, fun q => ?_, fun _ => R.newAt⟩
    · simp only at q1; omega
    · exact absurd q (by simp)
    · simp only [grown]; rw [hsz, hlen]; exact hge
    · exact absurd q (by simp [grown])
    · rw [hsz]; simp [grown]
    · simp only [grown] at hv hi
      rw [Trie.get_putL, if_pos (by omega), Nat.sub_zero] at hv
      refine ⟨v, ?_, ?_⟩
      · have hlt : i < (str.data.map fun b => Value.int .u8 b.toNat).size := by
          have : str.data.size = str.size := rfl
          simp
          omega
        unfold Lib.bytesCells
        rw [Array.getElem?_append_left hlt, ← Array.getElem?_toList, Array.toList_map]
        exact hv
      · have hf := flatL_rel (p.ext s.next (w.heap.size, grownCap w str.size 0 e)) (flatL_str str)
        obtain ⟨v', h1, h2⟩ := hf.get i v hv
        rw [hv] at h1
        injection h1 with h1
        subst h1
        exact h2
    · exact absurd q (by simp [grown])

theorem convA_run {P : Program} {w0 : Base} {w : World} {p : Ren} {s s' : St} (R : Rel w0 p s w) {src dst : TypeId} {x x' v : Value} (hx : VRel p x x') (h : convA P s src dst x = some (v, s')) :
    ∃ q v' w', p.le q ∧ (convert src dst x').run P w = .ok v' w' ∧ VRel q v v' ∧ Rel w0 q s' w' := by
  unfold convA at h
  split at h
  · rename_i e a len cap hs hd
    split at h
    · rename_i he
      split at h
      · simp only [Option.some.injEq, Prod.mk.injEq] at h
        obtain ⟨rfl, rfl⟩ := h
        cases hx
        refine ⟨p, .string .empty, w, Ren.le.refl p, ?_, .string _, R⟩
        rw [run_convert_bytes_string w src dst e _ _ _ hs he hd]
        rfl
      · rename_i b o
        split at h
        · rename_i k hk
          cases hb : Nat.ble (o + len) k.n with
          | false => rw [hb] at h; exact absurd h (by simp)
          | true =>
            rw [hb] at h
            simp only [cond_true] at h
            have hn := Nat.le_of_ble_eq_true hb
            split at h
            · rename_i l hl
              split at h
              · rename_i r hr
                simp only [Option.some.injEq, Prod.mk.injEq] at h
                obtain ⟨rfl, rfl⟩ := h
                cases hx with
                | slice _ b' y _ _ _ c' hbb _ _ =>
                  obtain ⟨bn, cn, ca, fr, hp, hh, rb⟩ := R.blk hk
                  rw [hbb] at hp
                  injection hp with hp
                  injection hp with hp _
                  subst hp
                  have hrel := getL_rel rb hl hn
                  have hcells := run_loadCells_blk (P := P) hh o len (by have := rb.2.2.1; omega)
                  rw [intsOf_spec hr hrel] at hcells
                  refine ⟨p, .string (strOf r), w, Ren.le.refl p, ?_, by rw [← strOf_eq]; exact .string _, R⟩
                  rw [run_convert_bytes_string w src dst e _ _ _ hs he hd]
                  exact run_bytesToString w _ _ _ r hcells
              · exact absurd h (by simp)
            · exact absurd h (by simp)
        · exact absurd h (by simp)
      · exact absurd h (by simp)
    · exact absurd h (by simp)
  · rename_i e str hs hd
    split at h
    · rename_i he
      simp only [Option.some.injEq, Prod.mk.injEq] at h
      obtain ⟨rfl, rfl⟩ := h
      cases hx
      exact ⟨_, _, _, Ren.le_ext (R.fresh _ (Nat.le_refl _)).2, Lib.run_convert_string_bytes w src dst e str hs hd he, .slice _ _ _ _ _ _ _ (Ren.ext_same _ _ _) (capRel_up (grownCap_ge w str.size 0 e)) (fun _ _ => rfl), bytesWorld_rel R e str⟩
    · exact absurd h (by simp)
  · rename_i t b o hs hd
    split at h
    · rename_i k hk
      split at h
      · rename_i i hi
        cases hb : (Nat.blt o k.n && !(Nat.beq i.size 0)) with
        | false => rw [hb] at h; exact absurd h (by simp)
        | true =>
          rw [hb] at h
          simp only [cond_true, Option.some.injEq, Prod.mk.injEq] at h
          obtain ⟨rfl, rfl⟩ := h
          simp only [Bool.and_eq_true, Bool.not_eq_true'] at hb
          have h1 := blt_lt hb.1
          have h2 := Nat.ne_of_beq_eq_false hb.2
          cases hx with
          | ptr _ b' y _ hbb =>
            obtain ⟨bn, cn, ca, fr, hp, hh, rb⟩ := R.blk hk
            rw [hbb] at hp
            injection hp with hp
            injection hp with hp _
            subst hp
            refine ⟨p, _, w, Ren.le.refl p, ?_, .ptr _ _ _ _ hbb, R⟩
            have h3 : ¬ ca.size ≤ o := by have := rb.2.2.1; omega
            simp [convert, run_underlying hs, run_underlying hd, Conv.unsafePointer, Sem.run_bind, Result.andThen, run_seenAt hh, cellsIn, shape, Sem.run, shape_blk hh, run_sizeOf hi, h2, h3]
      · exact absurd h (by simp)
    · exact absurd h (by simp)
  · rename_i u b o hs hd
    split at h
    · rename_i k hk
      split at h
      · rename_i i hi
        cases hb : (Nat.beq k.mode 0 && !(Nat.beq i.size 0) && liesAt P P.depth k.elem (k.n / P.cellsOf k.elem) o u 1) with
        | false => rw [hb] at h; exact absurd h (by simp)
        | true =>
          rw [hb] at h
          simp only [cond_true, Option.some.injEq, Prod.mk.injEq] at h
          obtain ⟨rfl, rfl⟩ := h
          simp only [Bool.and_eq_true, Bool.not_eq_true'] at hb
          have h1 := Nat.eq_of_beq_eq_true hb.1.1
          have hz := Nat.ne_of_beq_eq_false hb.1.2
          cases hx with
          | ptr _ b' y _ hbb =>
            obtain ⟨bn, cn, ca, fr, hp, hh, rb⟩ := R.blk hk
            rw [hbb] at hp
            injection hp with hp
            injection hp with hp _
            subst hp
            refine ⟨p, _, w, Ren.le.refl p, ?_, .ptr _ _ _ _ hbb, R⟩
            have h3 : ca.size = k.n := rb.2.2.2.1 h1
            have hv : (variablesAt ⟨b', o, none⟩ u 1).run P w = .ok true w := by
              simp [variablesAt, program, shape, Sem.run_bind, Sem.run, Result.andThen, shape_blk hh, h3, hb.2]
            simp [convert, run_underlying hs, run_underlying hd, Conv.unsafePointer, Sem.run_bind, Result.andThen, run_seenAt hh, run_sizeOf hi, hz, hv]
      · exact absurd h (by simp)
    · exact absurd h (by simp)
  · exact absurd h (by simp)

/-! ### unsafe.SliceData, unsafe.String -/
def sliceDataA (x : Value) : Option Value :=
  match x with
  | .slice none _ _ => some (.pointer none)
  | .slice (some a) _ c => bif Nat.blt 0 (capLow c) then some (.pointer (some a)) else none
  | _ => none
theorem sliceDataA_run {P : Program} {p : Ren} {x x' v : Value} {ts : Array TypeId} {ty : TypeId} (hx : VRel p x x') (h : sliceDataA x = some v) (w : World) :
    ∃ v', (Builtin.unsafeSliceData_ ts ty #[x']).run P w = .ok v' w ∧ VRel p v v' := by
  unfold sliceDataA at h
  split at h
  · injection h with h
    subst h
    cases hx
    exact ⟨_, rfl, .ptrNil⟩
  · rename_i a n c
    cases hb : Nat.blt 0 (capLow c) with
    | false => rw [hb] at h; exact absurd h (by simp)
    | true =>
      rw [hb] at h
      simp only [cond_true, Option.some.injEq] at h
      subst h
      cases hx with
      | slice b b' y o _ _ c' hbb hc _ =>
        have h1 := blt_lt hb
        have h2 := capLow_le hc
        exact ⟨_, Lib.run_unsafeSliceData_row w ts ty _ n c' (by omega), .ptr _ _ _ _ hbb⟩
  · exact absurd h (by simp)

def stringA (P : Program) (s : St) (pt : TypeId) (x n : Value) : Option (Value × St) :=
  match n with
  | .int .i64 0 => (match x with | .pointer _ => some (.string .empty, s) | _ => none)
  | .int .i64 m =>
    match P.underlying pt with
    | some (.pointer e) => match x with
      | .pointer (some ⟨b, 0, none⟩) => match s.heap.get b with
        | some (.blk k) =>
          bif Nat.beq k.elem e && Nat.beq (P.cellsOf e) 1 && decide (0 < m) && Nat.ble m.toNat k.n && Nat.ble m.toNat 1000000 && !(Nat.beq k.mode 2) && !k.mark then
            match k.cells.getL 0 m.toNat with
            | some l => match intsOf l with
              | some r => bif r.all (fun i => decide (0 ≤ i) && decide (i < 256)) then some (.string (strOfK r), { s with heap := s.heap.put b (some (.blk { k with hi := bif Nat.ble k.hi m.toNat then m.toNat else k.hi })) }) else none
              | none => none
            | none => none
          else none
        | _ => none
      | _ => none
    | _ => none
  | _ => none

theorem freeze_other (w : World) (a : Addr) (n j : Nat) (h : j ≠ a.block) : (w.freeze a n).heap[j]? = w.heap[j]? := by
  unfold World.freeze
  split
  · rfl
  · simp only [Array.getElem?_modify]
    rw [if_neg (by omega)]
theorem freeze_at (w : World) (g n : Nat) (c : Array Value) (e : TypeId) (lo hi : Nat) (hg : w.heap[g]? = some (.cells c e (lo, hi))) (hn : n ≠ 0) :
    (w.freeze ⟨g, 0, none⟩ n).heap[g]? = some (.cells c e (if lo == hi then (0, n) else (min lo 0, max hi n))) := by
  unfold World.freeze
  rw [if_neg hn]
  simp [Array.getElem?_modify, hg]

theorem stringA_run {P : Program} {w0 : Base} {w : World} {p : Ren} {s s' : St} (R : Rel w0 p s w) {pt it ty : TypeId} {x x' n n' v : Value} (hx : VRel p x x') (hn : VRel p n n') (h : stringA P s pt x n = some (v, s')) :
    ∃ v' w', (Builtin.unsafeString_ #[pt, it] ty #[x', n']).run P w = .ok v' w' ∧ VRel p v v' ∧ Rel w0 p s' w' := by
  unfold stringA at h
  split at h
  · split at h
    · simp only [Option.some.injEq, Prod.mk.injEq] at h
      obtain ⟨rfl, rfl⟩ := h
      cases hn
      rcases hx.ptr_inv with ⟨_, rfl⟩ | ⟨_, _, _, _, _, rfl⟩
      · exact ⟨_, w, Lib.run_unsafeString_none w pt it ty _, .string _, R⟩
      · exact ⟨_, w, Lib.run_unsafeString_none w pt it ty _, .string _, R⟩
    · exact absurd h (by simp)
  · rename_i m _
    split at h
    · rename_i e hp
      split at h
      · rename_i b
        split at h
        · rename_i k hk
          cases hb : (Nat.beq k.elem e && Nat.beq (P.cellsOf e) 1 && decide (0 < m) && Nat.ble m.toNat k.n && Nat.ble m.toNat 1000000 && !(Nat.beq k.mode 2) && !k.mark) with
          | false => rw [hb] at h; exact absurd h (by simp)
          | true =>
            rw [hb] at h
            simp only [cond_true] at h
            simp only [Bool.and_eq_true, Bool.not_eq_true', decide_eq_true_eq] at hb
            obtain ⟨⟨⟨⟨⟨⟨h1, h2⟩, h3⟩, h4⟩, h5⟩, h6⟩, h7⟩ := hb
            have h1 := Nat.eq_of_beq_eq_true h1
            have h2 := Nat.eq_of_beq_eq_true h2
            have h4 := Nat.le_of_ble_eq_true h4
            have h5 := Nat.le_of_ble_eq_true h5
            have h6 := Nat.ne_of_beq_eq_false h6
            split at h
            · rename_i l hl
              split at h
              · rename_i r hr
                cases hall : r.all (fun i => decide (0 ≤ i) && decide (i < 256)) with
                | false => rw [hall] at h; exact absurd h (by simp)
                | true =>
                  rw [hall] at h
                  simp only [cond_true, Option.some.injEq, Prod.mk.injEq] at h
                  obtain ⟨rfl, rfl⟩ := h
                  cases hn
                  cases hx with
                  | ptr _ b' y _ hbb =>
                    obtain ⟨bn, cn, c, fr, hp2, hh, rb⟩ := R.blk hk
                    rw [hbb] at hp2
                    injection hp2 with hp2
                    injection hp2 with hp2 hp3
                    subst hp2
                    subst hp3
                    have hrel := getL_rel rb hl (by omega)
                    have hcs := intsOf_spec hr hrel
                    obtain ⟨hll, _⟩ := Trie.getL_spec _ _ _ _ hl
                    have hrlen : r.length = m.toNat := by
                      have e1 := hrel.length
                      rw [hcs, List.length_map] at e1
                      omega
                    let bs : List UInt8 := r.map fun i => UInt8.ofNat i.toNat
                    have hbl : bs.length = m.toNat := by simp [bs, hrlen]
                    have hcell : ∀ (j : Nat) (z : UInt8), bs[j]? = some z → w.cell? ((⟨b', 0, none⟩ : Addr).add j) = some (.int .u8 z.toNat) := by
                      intro j z hz
                      have hj : j < m.toNat := by rw [← hbl]; exact (List.getElem?_eq_some_iff.1 hz).1
                      rw [Addr.add_none, Nat.zero_add, cell_of_row _ _ _ _ _ _ hh, ← Array.getElem?_toList]
                      have e2 : ((c.toList.drop 0).take m.toNat)[j]? = (r.map (Value.int .u8))[j]? := by rw [hcs]
                      rw [List.getElem?_take_of_lt hj, List.drop_zero] at e2
                      rw [e2]
                      simp only [bs, List.getElem?_map] at hz ⊢
                      cases hrj : r[j]? with
                      | none => rw [hrj] at hz; simp at hz
                      | some i =>
                        rw [hrj] at hz
                        simp only [Option.map_some, Option.some.injEq] at hz ⊢
                        subst hz
                        have hmem : i ∈ r := List.mem_of_getElem? hrj
                        have := List.all_eq_true.1 hall i hmem
                        simp only [Bool.and_eq_true, decide_eq_true_eq] at this
                        congr 1
                        have h9 : (UInt8.ofNat i.toNat).toNat = i.toNat := by
                          rw [UInt8.toNat_ofNat']
                          exact Nat.mod_eq_of_lt (by omega)
                        rw [h9]
                        omega
                    have hsz : m.toNat ≤ c.size := by have := rb.2.2.1; omega
                    have hpt : P.underlying pt = some (.pointer k.elem) := by rw [h1]; exact hp
                    have hc1 : P.cellsOf k.elem = 1 := by rw [h1]; exact h2
                    have hrun := Lib.run_unsafeString_row (P := P) (w := w) pt it ty k.elem hpt hc1 b' c.size (shape_blk hh) bs (by intro e0; rw [e0] at hbl; simp at hbl; omega) (by omega) (by omega) hcell
                    rw [hbl] at hrun
                    have hm0 : ((m.toNat : Nat) : Int) = m := by omega
                    rw [hm0] at hrun
                    refine ⟨_, _, hrun, .string _, ?_⟩
                    have hown : (AObj.blk k).own = true := own_blk h6
                    have hge : w0.new b' := by
                      obtain ⟨b2, d2, hb2, hor⟩ := R.obj b _ hk
                      rw [hbb] at hb2
                      injection hb2 with hb2
                      injection hb2 with hb2
                      subst hb2
                      exact hor.ge hown
                    have hm1 : m.toNat ≠ 0 := by omega
                    have hfs : (w.freeze ⟨b', 0, none⟩ m.toNat).heap.size = w.heap.size := by
                      unfold World.freeze
                      rw [if_neg hm1]
                      simp
                    have hfo : (w.freeze ⟨b', 0, none⟩ m.toNat).os = w.os ∧ (w.freeze ⟨b', 0, none⟩ m.toNat).tape = w.tape ∧ (w.freeze ⟨b', 0, none⟩ m.toNat).output = w.output := by
                      unfold World.freeze
                      rw [if_neg hm1]
                      exact ⟨rfl, rfl, rfl⟩
                    refine R.update hk hown hbb hfo.1 hfo.2.1 hfo.2.2 (by rw [hfs]; exact Nat.le_refl _) (fun j hj _ => freeze_other w _ _ j hj) ?_ (own_blk (b := { k with hi := bif Nat.ble k.hi m.toNat then m.toNat else k.hi }) h6)
                    rw [freeze_at w b' m.toNat c k.elem fr.1 fr.2 hh hm1]
                    have hhi : k.hi ≤ (bif Nat.ble k.hi m.toNat then m.toNat else k.hi) ∧ m.toNat ≤ (bif Nat.ble k.hi m.toNat then m.toNat else k.hi) := by
                      cases hq : Nat.ble k.hi m.toNat with
                      | true => have := Nat.le_of_ble_eq_true hq; simp only [cond_true]; omega
                      | false =>
                        have : ¬ k.hi ≤ m.toNat := fun e => by rw [Nat.ble_eq_true_of_le e] at hq; exact absurd hq (by simp)
                        simp only [cond_false]; omega
                    have hfr2 : (if (fr.1 == fr.2) = true then (0, m.toNat) else (min fr.1 0, max fr.2 m.toNat)).2 ≤ (bif Nat.ble k.hi m.toNat then m.toNat else k.hi) := by
                      have := rb.2.1.2 h7
                      split
                      · exact hhi.2
                      · simp only; omega
                    refine ⟨⟨c, _, _, rfl, rfl, ⟨fun j _ q2 _ => by simp only; omega, fun _ => hfr2⟩, rb.2.2.1, rb.2.2.2.1, rb.2.2.2.2.1, rb.2.2.2.2.2⟩, fun q => absurd q h6, fun _ => hge⟩
              · exact absurd h (by simp)
            · exact absurd h (by simp)
        · exact absurd h (by simp)
      · exact absurd h (by simp)
    · exact absurd h (by simp)
  · exact absurd h (by simp)

end Go.Den
