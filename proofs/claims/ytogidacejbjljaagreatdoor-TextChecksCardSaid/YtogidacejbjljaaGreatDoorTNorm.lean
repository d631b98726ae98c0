/- The program's Normal: empty pieces left out, neighbours of one style joined. -/
import Derived.Outline
import Derived.Laws.CopyRow
import Derived.Lib.SliceRun
import Derived.Test.YtogidacejbjljaaGreatDoorTChk
import Derived.Test.YtogidacejbjljaaGreatDoorTJoin
set_option linter.unusedVariables false
set_option linter.unusedSimpArgs false
namespace Go.Proofs.YtogidacejbjljaaGreatDoor.PTextChecks
open Go.RowKit Go.Proofs.YtogidacejbjljaaGreatDoorW.PrintWords Go.Proofs.YtogidacejbjljaaGreatDoorW.PrintLast Go.Proofs.YtogidacejbjljaaGreatDoorW.PrintMore
/-! ### a row of pieces in a block -/
def enc (p : S42) : List Value := [.string p.f0, .bool p.f1.f0, .bool p.f1.f1, .bool p.f1.f2, .int .i64 p.f1.f3, .int .i64 p.f1.f4]
def flat (l : List S42) : List Value := l.flatMap enc
theorem flat_length (l : List S42) : (flat l).length = l.length * 6 := by
  induction l with
  | nil => rfl
  | cons p l ih => simp only [flat, List.flatMap_cons, List.length_append] at *; rw [ih]; simp [enc]; omega
theorem flat_get : ∀ (l : List S42) (k j : Nat) (p : S42), l[k]? = some p → j < 6 → (flat l)[k * 6 + j]? = (enc p)[j]?
  | [], k, j, p, h, _ => by simp at h
  | q :: l, 0, j, p, h, hj => by
    simp at h; subst h
    simp only [flat, List.flatMap_cons]
    rw [List.getElem?_append_left (by simp [enc]; omega)]; simp
  | q :: l, k + 1, j, p, h, hj => by
    rw [List.getElem?_cons_succ] at h
    have := flat_get l k j p h hj
    simp only [flat, List.flatMap_cons] at *
    rw [List.getElem?_append_right (by simp [enc]; omega), ← this]
    congr 1; simp [enc]; omega
def Lays (cur : Array Value) (ys : List S42) : Prop := ∀ k p, ys[k]? = some p → ∀ j u, (enc p)[j]? = some u → cur[k * 6 + j]? = some u
theorem Lays.of_take {cur : Array Value} {l : List S42} (h : cur.toList.take (l.length * 6) = flat l) : Lays cur l := by
  intro k p hk j u hj
  have hj6 : j < 6 := by have := (List.getElem?_eq_some_iff.1 hj).1; simpa [enc] using this
  have hkl : k < l.length := (List.getElem?_eq_some_iff.1 hk).1
  have h1 := flat_get l k j p hk hj6
  rw [← h, List.getElem?_take_of_lt (by omega), hj] at h1
  rw [← Array.getElem?_toList]; exact h1
theorem Lays.take {cur : Array Value} {l : List S42} (h : Lays cur l) (m : Nat) : Lays cur (l.take m) := fun k p hk => h k p (by rw [List.getElem?_take] at hk; split at hk <;> simp_all)
theorem add0 (g i : Nat) : (⟨g, 0, none⟩ : Addr).add i = ⟨g, i, none⟩ := by unfold Addr.add; split <;> simp_all
theorem Lays.C {cur : Array Value} {l : List S42} {w : World} {g : Nat} {fr : Nat × Nat} (h : Lays cur l) (hg : w.heap[g]? = some (.cells cur 42 fr)) (hl : l.length ≤ 9223372036854775807) : Kd.C k42 w (some ⟨g, 0, none⟩) l.length l := by
  refine ⟨rfl, hl, fun _ => ⟨_, rfl, fun k p hk => ⟨enc p, rfl, k42_mk w p, fun j u hj => ?_⟩⟩⟩
  have := h k p hk j u hj
  change w.cell? ((⟨g, 0, none⟩ : Addr).add (k * 6 + j)) = some u
  rw [add0]
  simp [World.cell?, hg, this]
theorem get6 (cur : Array Value) (o : Nat) (v0 v1 v2 v3 v4 v5 : Value) (hs : o + 6 ≤ cur.size) (t : Nat) :
    ((((((cur.setIfInBounds o v0).setIfInBounds (o + 1) v1).setIfInBounds (o + 2) v2).setIfInBounds (o + 3) v3).setIfInBounds (o + 4) v4).setIfInBounds (o + 5) v5)[t]? =
      if t = o then some v0 else if t = o + 1 then some v1 else if t = o + 2 then some v2 else if t = o + 3 then some v3 else if t = o + 4 then some v4 else if t = o + 5 then some v5 else cur[t]? := by
  simp only [Array.getElem?_setIfInBounds, Array.size_setIfInBounds]
  by_cases h5 : o + 5 = t
  · rw [if_pos h5, if_pos (by omega), if_neg (by omega), if_neg (by omega), if_neg (by omega), if_neg (by omega), if_neg (by omega), if_pos (by omega)]
  · rw [if_neg h5]
    by_cases h4 : o + 4 = t
    · rw [if_pos h4, if_pos (by omega), if_neg (by omega), if_neg (by omega), if_neg (by omega), if_neg (by omega), if_pos (by omega)]
    · rw [if_neg h4]
      by_cases h3 : o + 3 = t
      · rw [if_pos h3, if_pos (by omega), if_neg (by omega), if_neg (by omega), if_neg (by omega), if_pos (by omega)]
      · rw [if_neg h3]
        by_cases h2 : o + 2 = t
        · rw [if_pos h2, if_pos (by omega), if_neg (by omega), if_neg (by omega), if_pos (by omega)]
        · rw [if_neg h2]
          by_cases h1 : o + 1 = t
          · rw [if_pos h1, if_pos (by omega), if_neg (by omega), if_pos (by omega)]
          · rw [if_neg h1]
            by_cases h0 : o = t
            · rw [if_pos h0, if_pos (by omega), if_pos (by omega)]
            · rw [if_neg h0, if_neg (by omega), if_neg (by omega), if_neg (by omega), if_neg (by omega), if_neg (by omega), if_neg (by omega)]
theorem enc_cases {p : S42} {j : Nat} {u : Value} (h : (enc p)[j]? = some u) : (j = 0 ∧ u = .string p.f0) ∨ (j = 1 ∧ u = .bool p.f1.f0) ∨ (j = 2 ∧ u = .bool p.f1.f1) ∨ (j = 3 ∧ u = .bool p.f1.f2) ∨ (j = 4 ∧ u = .int .i64 p.f1.f3) ∨ (j = 5 ∧ u = .int .i64 p.f1.f4) := by
  match j, h with
  | 0, h => exact .inl ⟨rfl, (Option.some.inj h).symm⟩
  | 1, h => exact .inr (.inl ⟨rfl, (Option.some.inj h).symm⟩)
  | 2, h => exact .inr (.inr (.inl ⟨rfl, (Option.some.inj h).symm⟩))
  | 3, h => exact .inr (.inr (.inr (.inl ⟨rfl, (Option.some.inj h).symm⟩)))
  | 4, h => exact .inr (.inr (.inr (.inr (.inl ⟨rfl, (Option.some.inj h).symm⟩))))
  | 5, h => exact .inr (.inr (.inr (.inr (.inr ⟨rfl, (Option.some.inj h).symm⟩))))
  | j + 6, h => exact absurd h (by simp [enc])
theorem Lays.set {cur : Array Value} {ys : List S42} (h : Lays cur ys) (hs : ys.length * 6 ≤ cur.size) (i : Nat) (hi : i < ys.length) (p : S42) :
    Lays ((((((cur.setIfInBounds (i * 6) (.string p.f0)).setIfInBounds (i * 6 + 1) (.bool p.f1.f0)).setIfInBounds (i * 6 + 2) (.bool p.f1.f1)).setIfInBounds (i * 6 + 3) (.bool p.f1.f2)).setIfInBounds (i * 6 + 4) (.int .i64 p.f1.f3)).setIfInBounds (i * 6 + 5) (.int .i64 p.f1.f4)) (ys.set i p) := by
  intro k q hk j u hj
  have hj6 : j < 6 := by have := (List.getElem?_eq_some_iff.1 hj).1; simpa [enc] using this
  rw [get6 _ _ _ _ _ _ _ _ (by omega)]
  rw [List.getElem?_set] at hk
  by_cases hki : i = k
  · subst hki
    rw [if_pos rfl, if_pos hi] at hk
    injection hk with hk
    subst hk
    rcases enc_cases hj with ⟨rfl, rfl⟩ | ⟨rfl, rfl⟩ | ⟨rfl, rfl⟩ | ⟨rfl, rfl⟩ | ⟨rfl, rfl⟩ | ⟨rfl, rfl⟩
    · rw [if_pos (by omega)]
    · rw [if_neg (by omega), if_pos rfl]
    · rw [if_neg (by omega), if_neg (by omega), if_pos rfl]
    · rw [if_neg (by omega), if_neg (by omega), if_neg (by omega), if_pos rfl]
    · rw [if_neg (by omega), if_neg (by omega), if_neg (by omega), if_neg (by omega), if_pos rfl]
    · rw [if_neg (by omega), if_neg (by omega), if_neg (by omega), if_neg (by omega), if_neg (by omega), if_pos rfl]
  · rw [if_neg hki] at hk
    have := h k q hk j u hj
    rw [if_neg (by omega), if_neg (by omega), if_neg (by omega), if_neg (by omega), if_neg (by omega), if_neg (by omega)]
    exact this
theorem heap_set {w : World} {g i : Nat} {cs : Array Value} {t : TypeId} {fr : Nat × Nat} {v : Value} (hg : w.heap[g]? = some (.cells cs t fr)) : (w.setCell ⟨g, i, none⟩ v).heap[g]? = some (.cells (cs.setIfInBounds i v) t fr) := by
  simp [World.setCell, Array.getElem?_modify, hg]

/-! ### slices.Clone -/
theorem infoPiece : (Tryz.prog.info? 42).map (fun i => (i.zero, i.size, i.bytes)) = some (some (.agg #[(.string ⟨#[]⟩), (.bool false), (.bool false), (.bool false), (.int .i64 0), (.int .i64 0)]), 6, 40) := by kernel_rfl
def Own (g : Nat) (l : List S42) (cap : Nat) (w : World) : Prop := ∃ cur, w.heap[g]? = some (.cells cur 42 (0, 0)) ∧ cur.size = cap * 6 ∧ l.length ≤ cap ∧ cap ≤ 9223372036854775807 ∧ Lays cur l
set_option maxHeartbeats 1000000 in
set_option maxRecDepth 100000 in
theorem clone_calls (A : Option Addr) (cap : Nat) (l : List S42) (w : World) (hr : Kd.C k42 w A l.length l) (hl : l.length ≤ 1000000) :
    Calls Tryz.prog 58 #[.slice A l.length cap] w fun e w' => ((e = .returned (.slice none 0 0) ∧ l = []) ∨ ∃ g cap', e = .returned (.slice (some ⟨g, 0, none⟩) l.length cap') ∧ w.heap.size ≤ g ∧ g < w'.heap.size ∧ Own g l cap' w') ∧ Below w.heap.size w w' := by
  obtain ⟨i0, hi, hii⟩ := Option.map_eq_some_iff.1 infoPiece
  simp only [Prod.mk.injEq] at hii
  obtain ⟨hz0, hz1, hz2⟩ := hii
  cases A with
  | none =>
    have hl0 : l = [] := by
      obtain ⟨_, _, h⟩ := hr
      rcases Nat.eq_zero_or_pos l.length with h0 | h0
      · exact List.eq_nil_of_length_eq_zero h0
      · obtain ⟨ad, e, _⟩ := h h0; exact absurd e (by simp)
    have q23 := fun (w : World) (a : Option Addr) (n c n' c' : Nat) => Lib.run_eql_slice_nil (P := Tryz.prog) w 23 42 a n c n' c' Tryz.underlying23
    have HL := Lib.hid hl0
    clear hl0
    go_enter Tryz.func58, Tryz.ntmps58
    go_wp2
    go_ret
    exact ⟨.inl ⟨rfl, HL.out⟩, Below.refl _ _⟩
  | some ad =>
    have q23 := fun (w : World) (a : Option Addr) (n c n' c' : Nat) => Lib.run_eql_slice_nil (P := Tryz.prog) w 23 42 a n c n' c' Tryz.underlying23
    have hc : ∀ j u, (flat l)[j]? = some u → w.cell? (ad.add j) = some u := by
      intro j u hj
      have hjl : j < l.length * 6 := by have := (List.getElem?_eq_some_iff.1 hj).1; rwa [flat_length] at this
      obtain ⟨_, _, h⟩ := hr
      obtain ⟨ad', e, hh⟩ := h (by omega)
      injection e with e
      subst e
      have hk : j / 6 < l.length := by omega
      obtain ⟨c, hcl, hK, hcc⟩ := hh (j / 6) _ (List.getElem?_eq_getElem hk)
      have hce : c = enc l[j / 6] := k42_open hK
      subst hce
      have h2 := flat_get l (j / 6) (j % 6) _ (List.getElem?_eq_getElem hk) (by omega)
      rw [show j / 6 * 6 + j % 6 = j from by omega, hj] at h2
      have := hcc (j % 6) u h2.symm
      change w.cell? (ad.add (j / 6 * 6 + j % 6)) = some u at this
      rwa [show j / 6 * 6 + j % 6 = j from by omega] at this
    have hone : ∀ u ∈ flat l, u.oneCell' = true := by
      intro u hu
      simp only [flat, List.mem_flatMap, enc] at hu
      obtain ⟨p, _, hp⟩ := hu
      simp only [List.mem_cons, List.mem_nil_iff, or_false] at hp
      rcases hp with rfl | rfl | rfl | rfl | rfl | rfl <;> rfl
    have HC := Lib.hid hc
    clear hc
    go_enter Tryz.func58, Tryz.ntmps58
    go_wp2_with (at_builtin; go_loud (refine wpList_append_own _ rfl _ _ 23 rfl w.heap.size 42 i0 _ 6 40 Tryz.underlying23 hi hz0 hz1 hz2 rfl (by decide) _ _ _ rfl (World.ownsRow_made w #[] 0 (Nat.le_refl _) (Nat.zero_le _) (by simp)) ad l.length cap (flat l) rfl ?qc1 ?qc2 ?qc3 ?qc4 ?qc5 ?qc6 ?_))
    case qc1 => exact flat_length l
    case qc2 => intro j u hj; exact Lib.cell?_alloc_some _ (HC.out j u hj)
    case qc3 => exact hone
    case qc4 => unfold maxLen; omega
    case qc5 => omega
    case qc6 => simp
    intro v' w1 hown hgrow hnil
    go_wp2
    go_ret
    have hb : Below w.heap.size w w1 := ((Below.refl _ w).alloc (Nat.le_refl _) _).grown hgrow (by simp) (by intro k hk; simp [Value.ownBlock] at hk; omega)
    refine ⟨.inr ?_, hb⟩
    have hnn : ¬ (v' = .slice none 0 0) := hnil
    rcases hown.2 with ⟨h, _⟩ | ⟨g, cap', cur, rfl, hg, hh, hle, hmx, hsz, htk⟩
    · exact absurd h hnn
    · have hlt : g < w1.heap.size := (Array.getElem?_eq_some_iff.1 hh).1
      refine ⟨g, cap', by simp, hg, hlt, cur, hh, hsz, by simpa using hle, by unfold maxLen at hmx; omega, Lays.of_take ?_⟩
      simpa using htk

/-! ### slices.IndexFunc, slices.DeleteFunc at the closure of text.Normal -/
theorem toList_nil (s : ByteArray) (h : s.size = 0) : s.toList = [] := by rw [ByteArray.toList_eq]; exact List.eq_nil_of_length_eq_zero (by rw [Array.length_toList]; exact h)
theorem toList_ne (s : ByteArray) (h : s.size ≠ 0) : s.toList.isEmpty = false := by
  cases hh : s.toList with
  | nil => rw [ByteArray.toList_eq] at hh; exact absurd (by have := congrArg List.length hh; rw [Array.length_toList] at this; exact this) h
  | cons _ _ => rfl
set_option maxHeartbeats 1000000 in
theorem clos73_calls (p : S42) (w : World) :
    Calls Tryz.prog 73 #[.agg #[.string p.f0, .bool p.f1.f0, .bool p.f1.f1, .bool p.f1.f2, .int .i64 p.f1.f3, .int .i64 p.f1.f4]] w fun e w' => e = .returned (.bool (!nz p)) ∧ Below w.heap.size w w' := by
  by_cases h : p.f0.size = 0
  · have h1 := toList_nil p.f0 h
    have h2 : p.f0.toList.isEmpty = true := by rw [h1]; rfl
    have H := Lib.hid h; clear h
    go_enter Tryz.func73, Tryz.ntmps73
    go_wp2
    go_ret
    exact ⟨by simp [nz, H.out], (Below.refl _ w).alloc (Nat.le_refl _) _⟩
  · have h2 := toList_ne p.f0 h
    have h1 : p.f0.toList ≠ [] := by intro e; rw [e] at h2; exact absurd h2 (by decide)
    have H := Lib.hid h; clear h
    go_enter Tryz.func73, Tryz.ntmps73
    go_wp2
    go_ret
    exact ⟨by simp [nz, H.out], (Below.refl _ w).alloc (Nat.le_refl _) _⟩
def IdxRel (l : List S42) (w : World) (n : Nat) (wr : World) : Prop := Below w.heap.size w wr ∧ ∀ p ∈ l.take n, nz p = true
def IdxPost (l : List S42) (w : World) (e : Ending) (w' : World) : Prop :=
  ((e = .returned (.int .i64 (-1)) ∧ ∀ p ∈ l, nz p = true) ∨ ∃ i : Nat, e = .returned (.int .i64 i) ∧ i < l.length ∧ (∀ p ∈ l.take i, nz p = true) ∧ nz (l.getD i z42) = false) ∧ Below w.heap.size w w'
set_option maxHeartbeats 1000000 in
set_option maxRecDepth 100000 in
theorem index_calls (A : Option Addr) (cap : Nat) (l : List S42) (w : World) (hr : Kd.C k42 w A l.length l) (hl : l.length ≤ 1000000) :
    Calls Tryz.prog 104 #[.slice A l.length cap, .func (.func 73) #[] #[]] w (IdxPost l w) := by
  go_enter Tryz.func104, Tryz.ntmps104
  go_wp2
  go_loopw [8] (fun i wr => ∃ n : Nat, n ≤ l.length ∧ i = .int .i64 n ∧ IdxRel l w n wr) (fun i wr => l.length - (intOf i).toNat)
  case atStart => exact ⟨0, by omega, rfl, Below.refl _ _, by simp⟩
  case round =>
    obtain ⟨n, hn, rfl, hb, hall⟩ := hrel
    by_cases hlt : n < l.length
    · have hr3 := Kd.C_below hr hb
      obtain ⟨ad, rfl, d0, d1, d2, d3, d4, d5⟩ := at_T42 hr3 (n : Int) (by omega) (by omega)
      obtain ⟨p, hp⟩ : ∃ p, rd_T42 l (n : Int) = p := ⟨_, rfl⟩
      rw [hp] at d0 d1 d2 d3 d4 d5
      have hlp : l.getD n z42 = p := by rw [← hp]; simp [rd_T42]
      have htk : l.take (n + 1) = l.take n ++ [p] := by rw [List.take_succ_eq_append_getElem hlt, ← hlp]; simp [List.getElem?_eq_getElem hlt]
      have HLP := Lib.hid hlp
      have HTK := Lib.hid htk
      have HALL := Lib.hid hall
      clear hlp htk hp hall
      simp only [Int.toNat_natCast] at d0 d1 d2 d3 d4 d5
      have cS := fun W => clos73_calls p W
      have hbx : ∀ W, Below wr.heap.size wr W → Below w.heap.size w W := fun W h => hb.trans (h.mono hb.size)
      cases hz : nz p
      all_goals
        rw [hz] at cS
        go_wp2_with (go_at_call 73; refine (cS _).mono ?_; rintro e W ⟨rfl, hbW⟩)
      · go_ret
        exact ⟨.inr ⟨n, rfl, hlt, HALL.out, by rw [HLP.out]; exact hz⟩, hbx _ hbW⟩
      · go_roundw
        case rel => exact ⟨n + 1, by omega, by go_num, hbx _ hbW, by rw [HTK.out]; intro q hq; rcases List.mem_append.1 hq with h | h; exact HALL.out q h; rw [List.mem_singleton.1 h]; exact hz⟩
        case measure => simp [intOf]; omega
    · go_wp2
      go_ret
      exact ⟨.inl ⟨rfl, by intro p hp; exact hall p (by rw [List.take_of_length_le (by omega)]; exact hp)⟩, hb⟩

theorem zero42 (w : World) : (zeroValue 42).run Tryz.prog w = .ok (.agg #[(.string ⟨#[]⟩), (.bool false), (.bool false), (.bool false), (.int .i64 0), (.int .i64 0)]) w := by kernel_rfl
theorem clear_run {w : World} {g i n c : Nat} {cur : Array Value} (hg : w.heap[g]? = some (.cells cur 42 (0, 0))) (hn : 0 < n) (hs : (i + n) * 6 ≤ cur.size) (ty : TypeId) :
    ∃ w' cur', (Builtin.clear_ #[23] ty #[.slice (some ⟨g, i * 6, none⟩) n c]).run Tryz.prog w = .ok (.tuple #[]) w' ∧ w'.heap[g]? = some (.cells cur' 42 (0, 0)) ∧ (∀ t, t < i * 6 → cur'[t]? = cur[t]?) ∧ Below g w w' := by
  obtain ⟨m, rfl⟩ : ∃ m, n = m + 1 := ⟨n - 1, by omega⟩
  obtain ⟨zs, hzs⟩ : ∃ zs, (Builtin.zeroCells (Value.agg #[(.string ⟨#[]⟩), (.bool false), (.bool false), (.bool false), (.int .i64 0), (.int .i64 0)]).cells (m + 1)).toList = zs := ⟨_, rfl⟩
  have hlen : zs.length = (m + 1) * 6 := by rw [← hzs]; simp [Builtin.zeroCells, Value.cells]
  have hone : ∀ v ∈ zs, v.oneCell' = true := by
    intro v hv
    rw [← hzs] at hv
    simp only [Builtin.zeroCells, Array.toList_map, List.mem_map] at hv
    obtain ⟨k, _, rfl⟩ := hv
    have h6 : k % 6 = 0 ∨ k % 6 = 1 ∨ k % 6 = 2 ∨ k % 6 = 3 ∨ k % 6 = 4 ∨ k % 6 = 5 := by omega
    have hsz : (Value.agg #[(.string ⟨#[]⟩), (.bool false), (.bool false), (.bool false), (.int .i64 0), (.int .i64 0)]).cells.size = 6 := rfl
    rw [hsz]
    rcases h6 with h | h | h | h | h | h <;> rw [h] <;> rfl
  have hst := run_storeCells_at (P := Tryz.prog) g (i * 6) 42 zs 0 cur w hg (by rw [hlen]; omega) hone
  obtain ⟨F, hF⟩ : ∃ F, (cur.toList.take (i * 6 + 0) ++ zs ++ cur.toList.drop (i * 6 + 0 + zs.length)).toArray = F := ⟨_, rfl⟩
  rw [hF] at hst
  refine ⟨w.setRow g F, F, ?_, setRow_heap w g cur F 42 (0, 0) hg, fun t ht => ?_, ⟨rfl, rfl, rfl, by simp [World.setRow], fun k hk => setRow_other w g k F (by omega)⟩⟩
  · simp only [Builtin.clear_]
    simp [run_underlying Tryz.underlying23, zero42, hzs, hst]
  · rw [← hF, ← Array.getElem?_toList, ← Array.getElem?_toList]
    simp only [Nat.add_zero]
    rw [List.append_assoc, List.getElem?_append_left (by simp; omega), List.getElem?_take_of_lt ht]
structure DelRel (g cap : Nat) (l : List S42) (w : World) (i j : Nat) (wr : World) : Prop where
  ex : ∃ ys cur, wr.heap[g]? = some (.cells cur 42 (0, 0)) ∧ cur.size = cap * 6 ∧ ys.length = l.length ∧ Lays cur ys ∧ ys.take i = (l.take j).filter nz ∧ ys.drop j = l.drop j
  lt : i < j
  le : j ≤ l.length
  below : Below g w wr
def DelPost (g : Nat) (l : List S42) (w : World) (e : Ending) (w' : World) : Prop :=
  ∃ cap', e = .returned (.slice (some ⟨g, 0, none⟩) (l.filter nz).length cap') ∧ (l.filter nz).length ≤ cap' ∧ Kd.C k42 w' (some ⟨g, 0, none⟩) (l.filter nz).length (l.filter nz) ∧ Below g w w'
theorem filter_all {l : List S42} (h : ∀ p ∈ l, nz p = true) : l.filter nz = l := List.filter_eq_self.2 h
theorem filter_take_succ {l : List S42} {j : Nat} (h : j < l.length) : (l.take (j + 1)).filter nz = (l.take j).filter nz ++ (if nz l[j] = true then [l[j]] else []) := by
  rw [List.take_succ_eq_append_getElem h, List.filter_append]
  congr 1
  simp [List.filter_cons]
set_option maxHeartbeats 4000000 in
set_option maxRecDepth 100000 in
theorem delete_calls (g cap : Nat) (l : List S42) (w : World) (hown : Own g l cap w) (hl : l.length ≤ 1000000) :
    Calls Tryz.prog 72 #[.slice (some ⟨g, 0, none⟩) l.length cap, .func (.func 73) #[] #[]] w (DelPost g l w) := by
  obtain ⟨cur0, hg0, hsz0, hle0, hcap, hlay0⟩ := hown
  have hC0 : Kd.C k42 w (some ⟨g, 0, none⟩) l.length l := hlay0.C hg0 (by omega)
  have hlt0 : g < w.heap.size := (Array.getElem?_eq_some_iff.1 hg0).1
  have cI := index_calls (some ⟨g, 0, none⟩) cap l w hC0 hl
  go_enter Tryz.func72, Tryz.ntmps72
  go_wp2_with fail
  go_at_call 104
  refine cI.mono ?_
  rintro e W ⟨⟨rfl, hall⟩ | ⟨i0, rfl, hi0, hpre, hbad⟩, hbW⟩
  · have hfil := filter_all hall
    clear hall
    have HF := Lib.hid hfil
    clear hfil
    go_wp2
    go_ret
    refine ⟨cap, by rw [HF.out]; rfl, by rw [HF.out]; exact hle0, ?_, hbW.mono (by omega)⟩
    rw [HF.out]
    exact Kd.C_below hC0 hbW
  · have hgW : W.heap[g]? = some (.cells cur0 42 (0, 0)) := (hbW.block g hlt0).trans hg0
    have hrel0 : DelRel g cap l w i0 (i0 + 1) W := by
      refine ⟨⟨l, cur0, hgW, hsz0, rfl, hlay0, ?_, rfl⟩, by omega, by omega, hbW.mono (by omega)⟩
      rw [filter_take_succ hi0, filter_all hpre]
      have hb : nz l[i0] = false := by rw [List.getD_eq_getElem?_getD, List.getElem?_eq_getElem hi0] at hbad; exact hbad
      simp [hb]
    clear hpre hbad hC0 cI hgW hg0 hlay0
    have hne : ((i0 : Int) == -1) = false := beq_eq_false_iff_ne.2 (by omega)
    go_wp2
    go_loopw [5, 6] (fun i j wr => ∃ a b : Nat, i = .int .i64 a ∧ j = .int .i64 b ∧ DelRel g cap l w a b wr) (fun _ j wr => l.length - (intOf j).toNat)
    case atStart => exact ⟨i0, i0 + 1, rfl, by go_num, hrel0⟩
    case round =>
      clear hrel0 hne hbW
      obtain ⟨i, j, rfl, rfl, ⟨ys, cur, hg, hsz, hyl, hlay, htk, hdr⟩, hij, hj, hb⟩ := hrel
      by_cases hlt : j < l.length
      · have hgl : g < wr.heap.size := (Array.getElem?_eq_some_iff.1 hg).1
        obtain ⟨p, hp⟩ : ∃ p, l[j] = p := ⟨_, rfl⟩
        have hyj : ys[j]? = some p := by
          have h1 : (ys.drop j)[0]? = (l.drop j)[0]? := by rw [hdr]
          rw [List.getElem?_drop, List.getElem?_drop, Nat.add_zero, List.getElem?_eq_getElem hlt, hp] at h1
          exact h1
        have hft := filter_take_succ hlt
        rw [hp] at hft
        have hyi : ys.length = l.length := hyl
        have dd := hlay j p hyj
        have d0 : wr.cell? ⟨g, j * 6, none⟩ = some (.string p.f0) := by simp only [World.cell?, hg]; exact dd 0 _ rfl
        have d1 : wr.cell? ⟨g, j * 6 + 1, none⟩ = some (.bool p.f1.f0) := by simp only [World.cell?, hg]; exact dd 1 _ rfl
        have d2 : wr.cell? ⟨g, j * 6 + 2, none⟩ = some (.bool p.f1.f1) := by simp only [World.cell?, hg]; exact dd 2 _ rfl
        have d3 : wr.cell? ⟨g, j * 6 + 3, none⟩ = some (.bool p.f1.f2) := by simp only [World.cell?, hg]; exact dd 3 _ rfl
        have d4 : wr.cell? ⟨g, j * 6 + 4, none⟩ = some (.int .i64 p.f1.f3) := by simp only [World.cell?, hg]; exact dd 4 _ rfl
        have d5 : wr.cell? ⟨g, j * 6 + 5, none⟩ = some (.int .i64 p.f1.f4) := by simp only [World.cell?, hg]; exact dd 5 _ rfl
        have cS := fun W => clos73_calls p W
        have bl : ∀ W, Below (wr.alloc (.cells #[.string p.f0, .bool p.f1.f0, .bool p.f1.f1, .bool p.f1.f2, .int .i64 p.f1.f3, .int .i64 p.f1.f4] 42)).heap.size (wr.alloc (.cells #[.string p.f0, .bool p.f1.f0, .bool p.f1.f1, .bool p.f1.f2, .int .i64 p.f1.f3, .int .i64 p.f1.f4] 42)) W → Below wr.heap.size wr W :=
          fun W h => ((Below.refl _ wr).alloc (Nat.le_refl _) _).trans (h.mono (by simp))
        cases hz : nz p
        · rw [hz] at cS hft
          simp only [Bool.false_eq_true, if_false, List.append_nil] at hft
          have hrel1 : ∀ X, Below wr.heap.size wr X → DelRel g cap l w i (j + 1) X := fun X hX =>
            ⟨⟨ys, cur, (hX.block g hgl).trans hg, hsz, hyl, hlay, by rw [hft]; exact htk, by have := congrArg (List.drop 1) hdr; simpa [List.drop_drop, Nat.add_comm] using this⟩, by omega, by omega, hb.trans (hX.mono (by omega))⟩
          clear hp hyj hft dd htk hdr hlay hyi hyl hsz hg
          go_wp2_with (go_at_call 73; refine (cS _).mono ?_; rintro e W1 ⟨rfl, hbW1⟩)
          go_roundw
          case rel => exact ⟨i, j + 1, rfl, by go_num, hrel1 _ (bl _ hbW1)⟩
          case measure => simp [intOf]; omega
        · rw [hz] at cS hft
          simp only [if_true] at hft
          have hil : i < l.length := by omega
          have hcz : cur.size = cap * 6 := hsz
          have hset := hlay.set (by omega) i (by omega) p
          have hlen : ((l.take j).filter nz).length = i := by rw [← htk, List.length_take]; omega
          have htk2 : (ys.set i p).take (i + 1) = (l.take (j + 1)).filter nz := by
            rw [hft, List.take_succ_eq_append_getElem (by rw [List.length_set]; omega), List.getElem_set_self, List.take_set_of_le (Nat.le_refl i), htk]
          have hdr2 : (ys.set i p).drop (j + 1) = l.drop (j + 1) := by
            rw [List.drop_set_of_lt (by omega)]
            have := congrArg (List.drop 1) hdr; simpa [List.drop_drop, Nat.add_comm] using this
          have hrel1 : ∀ X, Below g wr X → X.heap[g]? = some (.cells ((((((cur.setIfInBounds (i * 6) (.string p.f0)).setIfInBounds (i * 6 + 1) (.bool p.f1.f0)).setIfInBounds (i * 6 + 2) (.bool p.f1.f1)).setIfInBounds (i * 6 + 3) (.bool p.f1.f2)).setIfInBounds (i * 6 + 4) (.int .i64 p.f1.f3)).setIfInBounds (i * 6 + 5) (.int .i64 p.f1.f4)) 42 (0, 0)) → DelRel g cap l w (i + 1) (j + 1) X := fun X hX hgX =>
            ⟨⟨ys.set i p, _, hgX, by simp [hcz], by rw [List.length_set]; exact hyl, hset, htk2, hdr2⟩, by omega, by omega, hb.trans hX⟩
          have cells : ∀ W : World, W.heap[g]? = some (.cells cur 42 (0, 0)) → ∀ t, t < 6 → (∃ u, W.cell? ⟨g, i * 6 + t, none⟩ = some u) ∧ W.frozen? ⟨g, i * 6 + t, none⟩ = false := fun W hW t ht => by
            have hb : i * 6 + t < cur.size := by omega
            exact ⟨⟨cur[i * 6 + t], by simp [World.cell?, hW, hb]⟩, by simp [World.frozen?, hW]⟩
          have blk : ∀ W : World, Below wr.heap.size wr W → W.heap[g]? = some (.cells cur 42 (0, 0)) := fun W h => (h.block g hgl).trans hg
          clear hp hyj hft dd htk hdr hlay hyi hyl hsz hg hset htk2 hdr2 hlen hcz
          go_wp2_with (go_at_call 73; refine (cS _).mono ?_; rintro e W1 ⟨rfl, hbW1⟩; have hbX := bl _ hbW1; have hgX := blk _ hbX; obtain ⟨⟨u0, c0⟩, f0⟩ := cells _ hgX 0 (by omega); obtain ⟨⟨u1, c1⟩, f1⟩ := cells _ hgX 1 (by omega); obtain ⟨⟨u2, c2⟩, f2⟩ := cells _ hgX 2 (by omega); obtain ⟨⟨u3, c3⟩, f3⟩ := cells _ hgX 3 (by omega); obtain ⟨⟨u4, c4⟩, f4⟩ := cells _ hgX 4 (by omega); obtain ⟨⟨u5, c5⟩, f5⟩ := cells _ hgX 5 (by omega); obtain ⟨k0, k1, k2, k3, k4, k5⟩ := box6 hbW1; rw [Nat.add_zero] at c0 f0)
          go_roundw
          case rel =>
            refine ⟨i + 1, j + 1, by go_num, by go_num, hrel1 _ ?_ ?_⟩
            · exact ((((((hbX.mono (by omega)).setCell (p := ⟨g, i * 6, none⟩) (Nat.le_refl g) _).setCell (p := ⟨g, i * 6 + 1, none⟩) (Nat.le_refl g) _).setCell (p := ⟨g, i * 6 + 2, none⟩) (Nat.le_refl g) _).setCell (p := ⟨g, i * 6 + 3, none⟩) (Nat.le_refl g) _).setCell (p := ⟨g, i * 6 + 4, none⟩) (Nat.le_refl g) _).setCell (p := ⟨g, i * 6 + 5, none⟩) (Nat.le_refl g) _
            · exact heap_set (heap_set (heap_set (heap_set (heap_set (heap_set hgX)))))
          case measure => simp [intOf]; omega
      · have hjn : j = l.length := by omega
        have hil : i < l.length := by omega
        have hlen : (l.filter nz).length = i := by rw [hjn, List.take_of_length_le (Nat.le_refl _)] at htk; rw [← htk, List.length_take]; omega
        have htk2 : ys.take i = l.filter nz := by rw [hjn, List.take_of_length_le (Nat.le_refl _)] at htk; exact htk
        have hlay2 := hlay.take i
        rw [htk2] at hlay2
        obtain ⟨X, cur', hrun, hgX, hsame, hbX⟩ := clear_run hg (i := i) (n := l.length - i) (c := cap - i) (by omega) (by omega) 0
        have hlay3 : Lays cur' (l.filter nz) := fun k q hk t u ht => by
          have hkl : k < (l.filter nz).length := (List.getElem?_eq_some_iff.1 hk).1
          have ht6 : t < 6 := by have := (List.getElem?_eq_some_iff.1 ht).1; simpa [enc] using this
          rw [hsame _ (by omega)]
          exact hlay2 k q hk t u ht
        have hCX := hlay3.C hgX (by omega)
        have hfin : DelPost g l w (.returned (.slice (some ⟨g, 0, none⟩) i cap)) X := ⟨cap, by rw [hlen], by omega, hCX, hb.trans hbX⟩
        clear hlen htk2 hlay2 hlay3 hCX htk hdr hlay hjn hsame
        have a1 : (i : Int) ≤ (l.length : Int) := by omega
        have a2 : (i : Int) ≤ (cap : Int) := by omega
        have a3 : i ≤ l.length := by omega
        have a4 : i ≤ cap := by omega
        have a5 : ¬ (cap = i) := by omega
        go_wp2
        go_ret
        exact hfin

/-! ### text.Normal -/
theorem delete_nil (w : World) : Calls Tryz.prog 72 #[.slice none 0 0, .func (.func 73) #[] #[]] w fun e w' => e = .returned (.slice none 0 0) ∧ Below w.heap.size w w' := by
  have cI := index_calls none 0 [] w ⟨rfl, by simp, fun h => absurd h (by simp)⟩ (by simp)
  go_enter Tryz.func72, Tryz.ntmps72
  go_wp2_with fail
  go_at_call 104
  refine cI.mono ?_
  rintro e W ⟨⟨rfl, hall⟩ | ⟨i0, rfl, hi0, hpre, hbad⟩, hbW⟩
  · clear hall
    go_wp2
    go_ret
    exact ⟨rfl, hbW⟩
  · exact absurd hi0 (by simp)
/-- What a row of pieces reads as, behind a call. -/
def RowOut (v : Value) (l : List S42) (w : World) : Prop := ∃ A cap, v = .slice A l.length cap ∧ l.length ≤ cap ∧ Kd.C k42 w A l.length l
theorem two_new (w : World) (o1 o2 : Obj) : ((w.alloc o1).alloc o2).heap[w.heap.size]? = some o1 ∧ ((w.alloc o1).alloc o2).heap[w.heap.size + 1]? = some o2 ∧ ((w.alloc o1).alloc o2).heap.size = w.heap.size + 2 := by
  have h1 : ((w.alloc o1).alloc o2).heap = (w.heap.push o1).push o2 := rfl
  rw [h1]
  refine ⟨?_, ?_, by simp⟩
  · rw [Array.getElem?_push_lt (by simp)]; simp
  · rw [show w.heap.size + 1 = (w.heap.push o1).size from by simp, Array.getElem?_push_size]
theorem blk4 {W : World} {b : Nat} {v0 v1 v2 v3 : Value} {t : TypeId} (h : W.heap[b]? = some (.cells #[v0, v1, v2, v3] t (0, 0))) :
    (W.cell? ⟨b, 0, none⟩ = some v0 ∧ W.cell? ⟨b, 1, none⟩ = some v1 ∧ W.cell? ⟨b, 2, none⟩ = some v2 ∧ W.cell? ⟨b, 3, none⟩ = some v3) ∧ (W.frozen? ⟨b, 0, none⟩ = false ∧ W.frozen? ⟨b, 1, none⟩ = false ∧ W.frozen? ⟨b, 2, none⟩ = false ∧ W.frozen? ⟨b, 3, none⟩ = false) := by
  simp [World.cell?, World.frozen?, h]
def NormPost (a b c : Int) (r : List S42) (w : World) (e : Ending) (w' : World) : Prop := ∃ v, e = .returned (.agg #[.int .i64 a, .int .i64 b, .int .i64 c, v]) ∧ RowOut v r w' ∧ Below w.heap.size w w'
def CloneDel (l : List S42) (w : World) (v : Value) (w' : World) : Prop := ((v = .slice none 0 0 ∧ l = []) ∨ ∃ g cap', v = .slice (some ⟨g, 0, none⟩) l.length cap' ∧ w.heap.size ≤ g ∧ g < w'.heap.size ∧ Own g l cap' w') ∧ Below w.heap.size w w'
theorem clone2 (A : Option Addr) (cap : Nat) (l : List S42) (w : World) (hr : Kd.C k42 w A l.length l) (hl : l.length ≤ 1000000) :
    Calls Tryz.prog 58 #[.slice A l.length cap] w fun e w' => ∃ v, e = .returned v ∧ CloneDel l w v w' :=
  (clone_calls A cap l w hr hl).mono fun e w' h => by
    obtain ⟨⟨rfl, hl⟩ | ⟨g, cap', rfl, h1⟩, hb⟩ := h
    · exact ⟨_, rfl, .inl ⟨rfl, hl⟩, hb⟩
    · exact ⟨_, rfl, .inr ⟨g, cap', rfl, h1⟩, hb⟩
/-- Clone's row, cut down: the world that Clone began with lies unturned. -/
theorem delete2 (l : List S42) (w : World) (v : Value) (w1 : World) (h : CloneDel l w v w1) (hl : l.length ≤ 1000000) :
    Calls Tryz.prog 72 #[v, .func (.func 73) #[] #[]] w1 fun e w' => ∃ v', e = .returned v' ∧ RowOut v' (l.filter nz) w' ∧ Below w.heap.size w w' := by
  obtain ⟨⟨rfl, rfl⟩ | ⟨g, cap', rfl, hg, hlt, hown⟩, hb⟩ := h
  · refine (delete_nil w1).mono ?_
    rintro e w' ⟨rfl, hb'⟩
    exact ⟨_, rfl, ⟨none, 0, rfl, Nat.le_refl _, ⟨rfl, by simp, fun h => absurd h (by simp)⟩⟩, hb.trans (hb'.mono hb.size)⟩
  · refine (delete_calls g cap' l w1 hown hl).mono ?_
    rintro e w' ⟨cap2, rfl, hc2, hC, hb'⟩
    exact ⟨_, rfl, ⟨_, cap2, rfl, hc2, hC⟩, hb.trans (hb'.mono hg)⟩
theorem joined2 (v : Value) (l : List S42) (w : World) (h : RowOut v l w) (hl : l.length ≤ 1000000) (hw : wordsLen l ≤ 1000000) :
    Calls Tryz.prog 71 #[v] w fun e w' => ∃ A' c', e = .returned (.slice A' (joinS l).length c') ∧ Kd.R k42 42 w' w.heap.size (fun _ => True) (.slice A' (joinS l).length c') (joinS l) ∧ Below w.heap.size w w' := by
  obtain ⟨A, cap, rfl, hc, hC⟩ := h
  refine (text_joined.calls (l.length + 1) A cap l _ w hC hc (joined_run hl hw _ (by omega))).mono ?_
  rintro e w' ⟨v', rfl, hR, hb⟩
  obtain ⟨A', c', rfl⟩ := Kd.R_slice hR
  exact ⟨A', c', rfl, hR, hb⟩
set_option maxHeartbeats 4000000 in
set_option maxRecDepth 100000 in
theorem tNormal_calls (a b c : Int) (A : Option Addr) (cap : Nat) (l : List S42) (w : World) (hr : Kd.C k42 w A l.length l) (hc : l.length ≤ cap) (hl : l.length ≤ 1000000) (hf : Fit l) :
    Calls Tryz.prog 31 #[.agg #[.int .i64 a, .int .i64 b, .int .i64 c, .slice A l.length cap]] w (NormPost a b c (normS l) w) := by
  have hfl : (l.filter nz).length ≤ 1000000 := Nat.le_trans (List.length_filter_le _ _) hl
  have hfw : wordsLen (l.filter nz) ≤ 1000000 := Nat.le_trans (wl_filter l) hf.2
  have cC := fun W (h : Kd.C k42 W A l.length l) => clone2 A cap l W h hl
  go_enter Tryz.func31, Tryz.ntmps31
  go_wp2_with (first | (go_at_call 58; refine (cC _ ?s1).mono ?_; (case s1 => exact Kd.C_alloc (Kd.C_alloc hr _) _); rintro e W1 ⟨v1, rfl, h1⟩) | (go_at_call 72; refine (delete2 l _ _ _ h1 hl).mono ?_; rintro e W2 ⟨v2, rfl, h2, hb2⟩) | (go_at_call 71; refine (joined2 _ _ _ h2 hfl hfw).mono ?_; rintro e W3 ⟨A3, cap3, rfl, hR3, hb3⟩; have hbT := hb2.trans (hb3.mono hb2.size); obtain ⟨z0, z1, z2⟩ := two_new w (Obj.cells #[.int .i64 a, .int .i64 b, .int .i64 c, .slice A l.length cap] 25) (Obj.cells #[.int .i64 0, .int .i64 0, .int .i64 0, .slice none 0 0] 25); have hg0 := (hbT.block w.heap.size (by rw [z2]; omega)).trans z0; have hg1 := (hbT.block (w.heap.size + 1) (by rw [z2]; omega)).trans z1; clear z0 z1 z2; obtain ⟨⟨p0, p1, p2, p3⟩, q0, q1, q2, q3⟩ := blk4 hg0; obtain ⟨⟨r0, r1, r2, r3⟩, s0, s1, s2, s3⟩ := blk4 hg1))
  have hs2 := hb2.size
  obtain ⟨n3, hn3⟩ : ∃ n, (joinS (l.filter nz)).length = n := ⟨_, rfl⟩
  have fin : ∀ X : World, X = ((((W3.setCell ⟨w.heap.size, 3, none⟩ (.slice A3 (joinS (l.filter nz)).length cap3)).setCell ⟨w.heap.size + 1, 0, none⟩ (.int .i64 a)).setCell ⟨w.heap.size + 1, 1, none⟩ (.int .i64 b)).setCell ⟨w.heap.size + 1, 2, none⟩ (.int .i64 c)).setCell ⟨w.heap.size + 1, 3, none⟩ (.slice A3 (joinS (l.filter nz)).length cap3) →
      X.heap[w.heap.size + 1]? = some (.cells #[.int .i64 a, .int .i64 b, .int .i64 c, .slice A3 (joinS (l.filter nz)).length cap3] 25 (0, 0)) ∧ RowOut (.slice A3 (joinS (l.filter nz)).length cap3) (normS l) X ∧ Below w.heap.size w X := by
    intro X hX
    have hk : ∀ k, k ≠ w.heap.size → k ≠ w.heap.size + 1 → X.heap[k]? = W3.heap[k]? := fun k k1 k2 => by
      rw [hX, Below.heap_setCell _ _ _ _ k2, Below.heap_setCell _ _ _ _ k2, Below.heap_setCell _ _ _ _ k2, Below.heap_setCell _ _ _ _ k2, Below.heap_setCell _ _ _ _ k1]
    refine ⟨?_, ?_, ?_⟩
    · have h0 : (W3.setCell ⟨w.heap.size, 3, none⟩ (.slice A3 (joinS (l.filter nz)).length cap3)).heap[w.heap.size + 1]? = some (Obj.cells #[.int .i64 0, .int .i64 0, .int .i64 0, .slice none 0 0] 25 (0, 0)) :=
        (Below.heap_setCell _ _ _ _ (by show w.heap.size + 1 ≠ w.heap.size; omega)).trans hg1
      rw [hX]
      exact heap_set (i := 3) (heap_set (i := 2) (heap_set (i := 1) (heap_set (i := 0) h0)))
    · have hR := Kd.R_step (w1 := X) (Kd.R_bound hR3) (fun k hk1 hk2 => hk k (by have := hk1.2.1; simp at hs2; omega) (by have := hk1.2.1; simp at hs2; omega))
      obtain ⟨A', c', he, hle, hC⟩ := Kd.R_reads hR
      injection he with e1 e2 e3
      subst e1 e3
      exact ⟨_, _, rfl, hle, hC⟩
    · rw [hX]
      have hb0 : Below w.heap.size w W3 := (((Below.refl _ w).alloc (Nat.le_refl _) _).alloc (by simp) _).trans (hbT.mono (by simp; omega))
      exact ((((hb0.setCell (p := ⟨w.heap.size, 3, none⟩) (Nat.le_refl _) _).setCell (p := ⟨w.heap.size + 1, 0, none⟩) (Nat.le_succ _) _).setCell (p := ⟨w.heap.size + 1, 1, none⟩) (Nat.le_succ _) _).setCell (p := ⟨w.heap.size + 1, 2, none⟩) (Nat.le_succ _) _).setCell (p := ⟨w.heap.size + 1, 3, none⟩) (Nat.le_succ _) _
  obtain ⟨f1, f2, f3⟩ := fin _ rfl
  refine bodyPost_ret (results_cell_row rfl _ _ (w.heap.size + 1) 25 _ (0, 0) _ rfl f1 Tryz.underlying25 rfl (by kernel_rfl)) rfl ?_
  exact ⟨_, rfl, f2, f3⟩
end Go.Proofs.YtogidacejbjljaaGreatDoor.PTextChecks
