/- The reference's pieces: letters joined to pieces. -/
import Derived.Outline
import Derived.BigRegion
import Derived.RegionTactic
import Derived.Test.YtogidacejbjljaaGreatDoorTNorm
set_option linter.unusedVariables false
set_option linter.unusedSimpArgs false
namespace Go.Proofs.YtogidacejbjljaaGreatDoor.PTextChecks
open Go.RowKit Go.Proofs.YtogidacejbjljaaGreatDoorW.PrintWords Go.Proofs.YtogidacejbjljaaGreatDoorW.PrintLast Go.Proofs.YtogidacejbjljaaGreatDoorW.PrintMore
attribute [local go_sem high] eqA40
theorem ownsRow_drewN {w : World} {base : Nat} {e : TypeId} {size n : Nat} {v : Value} {xs : List Value} (h : w.ownsRow base e size v n xs) (k : Nat) : (w.drewN k).ownsRow base e size v n xs := by
  induction k with
  | zero => exact h
  | succ k ih => exact ih.drew
theorem conv1 (c : Int) (W : World) (b : Nat) (h : W.cell? ⟨b, 0, none⟩ = some (.int .u8 c)) : (convert 94 9 (.slice (some ⟨b, 0, none⟩) 1 1)).run Tryz.prog W = .ok (.string ⟨#[c.toNat.toUInt8]⟩) W := by
  have hC : (Kd.int .u8).C W (some ⟨b, 0, none⟩) 1 [c] := by
    refine ⟨rfl, by omega, fun _ => ⟨_, rfl, fun j p hj => ⟨[.int .u8 p], rfl, rfl, fun i u hu => ?_⟩⟩⟩
    match j, hj with
    | 0, hj =>
      match i, hu with
      | 0, hu =>
        obtain rfl : c = p := by simpa using hj
        obtain rfl := Option.some.inj hu
        rw [add0]
        simpa using h
      | i + 1, hu => simp at hu
    | j + 1, hj => simp at hj
  have := Kd.C_string (P := Tryz.prog) (src := 94) (dst := 9) (e := 5) (c := 1) Tryz.underlying94 Tryz.underlying5 Tryz.underlying9 hC
  rw [this]
  rfl
theorem flat_set_text : ∀ (L : List S42) (m : Nat) (q : S42) (t : ByteArray), L[m]? = some q → flat (L.set m ⟨t, q.f1⟩) = (flat L).set (m * 6) (.string t)
  | [], m, q, t, h => by simp at h
  | p :: L, 0, q, t, h => by
    simp at h; subst h
    simp [flat, enc]
  | p :: L, m + 1, q, t, h => by
    rw [List.getElem?_cons_succ] at h
    have ih := flat_set_text L m q t h
    simp only [List.set_cons_succ, flat, List.flatMap_cons] at ih ⊢
    rw [ih, List.set_append_right _ _ (by simp [enc]; omega)]
    congr 2
    simp [enc]; omega
theorem newcell (W : World) (cs : Array Value) (t i : Nat) (u : Value) (h : cs[i]? = some u) : (W.alloc (.cells cs t)).cell? ⟨W.heap.size, i, none⟩ = some u := by
  have e : (W.alloc (.cells cs t)).heap[W.heap.size]? = some (.cells cs t (0, 0)) := by
    show (W.heap.push _)[W.heap.size]? = _
    exact Array.getElem?_push_size
  unfold World.cell?
  rw [e]
  simpa using h
theorem emp_app (s : ByteArray) : (⟨#[]⟩ : ByteArray) ++ s = s := ByteArray.ext (by simp [ByteArray.data_append])
theorem lastStyle (l : List S81) (n : Nat) (h0 : 0 < n) (h : n ≤ l.length) : 0 < (piecesS (l.take n)).length ∧ (lastP (piecesS (l.take n))).f1 = (rd_T81 l ((n - 1 : Nat) : Int)).f1 := by
  obtain ⟨m, rfl⟩ : ∃ m, n = m + 1 := ⟨n - 1, by omega⟩
  have e : piecesS (l.take (m + 1)) = joinP (piecesS (l.take m)) (chP (rd_T81 l (m : Int))) := by
    rw [List.take_succ_eq_append_getElem (by omega), piecesS, List.foldl_append, show rd_T81 l (m : Int) = l[m] from by simp [rd_T81, List.getElem?_eq_getElem (show m < l.length by omega)]]
    rfl
  rw [e]
  exact ⟨joinP_pos _ _, lastP_join _ _⟩
theorem piecesS_len (l : List S81) (n : Nat) : (piecesS (l.take n)).length ≤ n := by
  have : ∀ (l : List S81) (out : List S42), (l.foldl (fun out x => joinP out (chP x)) out).length ≤ out.length + l.length := by
    intro l
    induction l with
    | nil => intro out; simp
    | cons x l ih => intro out; have := ih (joinP out (chP x)); have := joinP_len out (chP x); simp; omega
  have := this (l.take n) []
  simp only [List.length_nil, Nat.zero_add] at this
  exact Nat.le_trans this (List.length_take_le _ _)
theorem piecesS_wl (l : List S81) (n : Nat) : wordsLen (piecesS (l.take n)) ≤ n := by
  have : ∀ (l : List S81) (out : List S42), wordsLen (l.foldl (fun out x => joinP out (chP x)) out) = wordsLen out + l.length := by
    intro l
    induction l with
    | nil => intro out; simp
    | cons x l ih => intro out; rw [List.foldl_cons, ih, joinP_wl, show (chP x).f0.size = 1 from rfl, List.length_cons]; omega
  have := this (l.take n) []
  rw [show wordsLen ([] : List S42) = 0 from rfl, Nat.zero_add] at this
  unfold piecesS
  rw [this]
  exact List.length_take_le _ _
/-- The row that a round leaves. -/
theorem row_left {L : List S42} {m cap g base : Nat} {q : S42} {t : ByteArray} {cur : Array Value} {W X : World} (hL : L.length = m + 1) (hq : L[m]? = some q) (hcap : m + 1 ≤ cap) (hmx : cap ≤ maxLen) (hsz : cur.size = cap * 6)
    (htk : cur.toList.take ((m + 1) * 6) = flat L) (hbase : base ≤ g) (hX : X.heap[g]? = some (.cells (cur.setIfInBounds (m * 6) (.string t)) 42 (0, 0))) :
    X.ownsRow base 42 6 (.slice (some ⟨g, 0, none⟩) (L.set m ⟨t, q.f1⟩).length cap) (L.set m ⟨t, q.f1⟩).length (flat (L.set m ⟨t, q.f1⟩)) := by
  rw [List.length_set, hL]
  refine ⟨by rw [flat_length, List.length_set, hL], .inr ⟨g, cap, _, rfl, hbase, hX, hcap, hmx, by simp [hsz], ?_⟩⟩
  rw [flat_set_text L m q t hq, ← htk, Array.toList_setIfInBounds, List.take_set]
structure PRel (l : List S81) (w : World) (n : Nat) (v : Value) (wr : World) : Prop where
  own : wr.ownsRow w.heap.size 42 6 v (piecesS (l.take n)).length (flat (piecesS (l.take n)))
  below : Below w.heap.size w wr
def RowAt (b : Nat) (v : Value) (l : List S42) (w : World) : Prop := ∃ A cap, v = .slice A l.length cap ∧ l.length ≤ cap ∧ ∀ X : World, (∀ k, b ≤ k → k < w.heap.size → X.heap[k]? = w.heap[k]?) → Kd.C k42 X A l.length l
set_option maxHeartbeats 4000000 in
set_option maxRecDepth 100000 in
theorem pieces_calls (A : Option Addr) (cap : Nat) (l : List S81) (w : World) (hr : Kd.C k81 w A l.length l) (hl : l.length ≤ 1000000) (hbt : Byt l) :
    Calls Tryz.prog 52 #[.slice A l.length cap] w fun e w' => ∃ v, e = .returned v ∧ RowAt w.heap.size v (piecesS l) w' ∧ Below w.heap.size w w' := by
  obtain ⟨i0, hi, hii⟩ := Option.map_eq_some_iff.1 infoPiece
  simp only [Prod.mk.injEq] at hii
  obtain ⟨hz0, hz1, hz2⟩ := hii
  go_enter Tryz.func52, Tryz.ntmps52
  go_wp2
  go_loopw [3, 4] (fun v i wr => ∃ n : Nat, n ≤ l.length ∧ i = .int .i64 n ∧ PRel l w n v wr) (fun _ i wr => l.length - (intOf i).toNat)
  case atStart => exact ⟨0, by omega, rfl, ⟨rfl, .inl ⟨rfl, rfl⟩⟩, Below.refl _ _⟩
  case round =>
    obtain ⟨n, hn, rfl, hown, hb⟩ := hrel
    by_cases hlt : n < l.length
    · have hr3 := Kd.C_below hr hb
      obtain ⟨ad, rfl, dw0, _⟩ := at_T81 hr (n : Int) (by omega) (by omega)
      obtain ⟨ad', hae0, d0, d1, d2, d3, d4, d5⟩ := at_T81 hr3 (n : Int) (by omega) (by omega)
      obtain rfl : ad = ad' := by injection hae0 with e
      clear hae0
      obtain ⟨x, hx⟩ : ∃ x, rd_T81 l (n : Int) = x := ⟨_, rfl⟩
      rw [hx] at dw0 d0 d1 d2 d3 d4 d5
      have htk : piecesS (l.take (n + 1)) = joinP (piecesS (l.take n)) (chP x) := by
        rw [List.take_succ_eq_append_getElem hlt, piecesS, List.foldl_append, ← hx, show rd_T81 l (n : Int) = l[n] from by simp [rd_T81, List.getElem?_eq_getElem hlt]]
        rfl
      have hxb := hbt x (by rw [← hx]; exact rd81_mem l n hlt)
      obtain ⟨out, hout⟩ : ∃ out, piecesS (l.take n) = out := ⟨_, rfl⟩
      rw [hout] at hown htk
      have HTK := Lib.hid htk
      have HOUT := Lib.hid hout
      clear htk hx hout
      simp only [Int.toNat_natCast] at dw0 d0 d1 d2 d3 d4 d5
      rcases Nat.eq_zero_or_pos n with h0 | h0
      · have tz : ((n : Int) == 0) = true := by simp [h0]
        have hjn : joinP out (chP x) = out ++ [chP x] := by
          have : out = [] := by rw [← HOUT.out, h0]; rfl
          rw [this]; rfl
        have HJN := Lib.hid hjn
        have H0 := Lib.hid h0
        clear h0 hjn
        go_wp2_with fail
        go_quiet (fail)
        have hol : out.length ≤ 1000000 := by rw [← HOUT.out]; exact Nat.le_trans (piecesS_len l n) (by omega)
        go_wp2_with (at_builtin; refine wpList_append_own _ rfl _ _ 23 rfl w.heap.size 42 i0 _ 6 40 Tryz.underlying23 hi hz0 hz1 hz2 rfl (by decide) _ _ _ rfl ((ownsRow_drewN hown nq).alloc _) ⟨wr.heap.size, 0, none⟩ 1 1 (enc ⟨⟨#[]⟩, x.f1⟩) rfl ?qc1 ?qc2 ?qc3 ?qc4 ?qc5 ?qc6 ?_)
        case qc1 => rfl
        case qc2 => intro j u hj; rw [add0]; rcases enc_cases hj with ⟨rfl, rfl⟩ | ⟨rfl, rfl⟩ | ⟨rfl, rfl⟩ | ⟨rfl, rfl⟩ | ⟨rfl, rfl⟩ | ⟨rfl, rfl⟩ <;> exact newcell (wr.drewN nq) _ 42 _ _ rfl
        case qc3 => intro u hu; simp only [enc, List.mem_cons, List.mem_nil_iff, or_false] at hu; rcases hu with rfl | rfl | rfl | rfl | rfl | rfl <;> rfl
        case qc4 => unfold maxLen; omega
        case qc5 => omega
        case qc6 => have := hb.size; simp; omega
        intro v' W1 hown1 hgrow hnil
        have hbW : Below w.heap.size w W1 := ((bdrewN hb nq).alloc (by simpa using hb.size) _).grown hgrow (by have := hb.size; simp; omega) (fun k hk => (hown.lt k hk).1)
        have hszW : wr.heap.size ≤ W1.heap.size := by have := hgrow.size; simp at this; omega
        obtain ⟨g, cap', cur, rfl, hg, hh, hle, hmx, hsz, htk⟩ : ∃ g cap' cur, v' = .slice (some ⟨g, 0, none⟩) (out.length + 1) cap' ∧ w.heap.size ≤ g ∧ W1.heap[g]? = some (.cells cur 42 (0, 0)) ∧ out.length + 1 ≤ cap' ∧ cap' ≤ maxLen ∧ cur.size = cap' * 6 ∧ cur.toList.take ((out.length + 1) * 6) = flat (out ++ [⟨⟨#[]⟩, x.f1⟩]) := by
          rcases hown1.2 with ⟨h, h1⟩ | ⟨g, cap', cur, h, hg, hh, hle, hmx, hsz, htk⟩
          · exact absurd h1 (by omega)
          · exact ⟨g, cap', cur, h, hg, hh, hle, hmx, hsz, by rw [htk]; simp [flat]⟩
        have gl : g < W1.heap.size := (Array.getElem?_eq_some_iff.1 hh).1
        have e0 : W1.cell? (ad.add (n * 6)) = some (.int .u8 x.f0) := cell_later hbW dw0
        obtain ⟨m, hm⟩ : ∃ m, out.length = m := ⟨_, rfl⟩
        have hLlen : (out ++ [(⟨⟨#[]⟩, x.f1⟩ : S42)]).length = m + 1 := by simp [hm]
        have hLm : (out ++ [(⟨⟨#[]⟩, x.f1⟩ : S42)])[m]? = some ⟨⟨#[]⟩, x.f1⟩ := by rw [← hm]; simp
        rw [hm] at hle htk hol
        obtain ⟨t, ht⟩ : ∃ t : ByteArray, t = ⟨#[]⟩ := ⟨_, rfl⟩
        have e1 : W1.cell? ⟨g, m * 6, none⟩ = some (.string t) := by
          have := Lays.of_take (l := out ++ [⟨⟨#[]⟩, x.f1⟩]) (cur := cur) (by rw [hLlen]; exact htk) m _ hLm 0 _ rfl
          rw [ht]
          simpa [World.cell?, hh] using this
        have hJ : joinP out (chP x) = (out ++ [(⟨⟨#[]⟩, x.f1⟩ : S42)]).set m ⟨t ++ (chP x).f0, x.f1⟩ := by
          rw [ht, HJN.out, ← hm, emp_app]; simp [chP]
        have HJ := Lib.hid hJ
        have hts : t.size ≤ 1000000 := by rw [ht]; exact Nat.zero_le _
        clear hJ ht
        rw [hm]
        have e0' := fun o => Lib.cell?_alloc_some o e0
        have e1' := fun o => Lib.cell?_alloc_some o e1
        have e2' : ∀ o, (W1.alloc o).frozen? ⟨g, m * 6, none⟩ = false := fun o => by
          have hgo : (W1.alloc o).heap[g]? = some (.cells cur 42 (0, 0)) := (((Below.refl W1.heap.size W1).alloc (Nat.le_refl _) o).block g gl).trans hh
          simp [World.frozen?, hgo]
        have wr1 : IntKind.i64.wrap ((m : Int) + 1 - 1) = (m : Int) := by rw [IntWalk.i64_in _ (by omega)]; omega
        have hcv := conv1 x.f0
        have hts1 : t.size + 1 ≤ 9223372036854775807 := by omega
        have hts2 : t.size + (⟨#[UInt8.ofNat x.f0.toNat]⟩ : ByteArray).size ≤ 9223372036854775807 := hts1
        have hfin : ∀ (X : World), X = (((W1.setCell ⟨g, m * 6, none⟩ (.string (t ++ (chP x).f0))).alloc (.cells #[.int .u8 x.f0] 5)).drew) → PRel l w (n + 1) (.slice (some ⟨g, 0, none⟩) (m + 1) cap') X := by
          rintro X rfl
          have hs0 := heap_set (i := m * 6) (v := .string (t ++ (chP x).f0)) hh
          have hX : (((W1.setCell ⟨g, m * 6, none⟩ (.string (t ++ (chP x).f0))).alloc (.cells #[.int .u8 x.f0] 5)).drew).heap[g]? = _ :=
            ((((Below.refl (W1.setCell ⟨g, m * 6, none⟩ (.string (t ++ (chP x).f0))).heap.size _).alloc (Nat.le_refl _) (.cells #[.int .u8 x.f0] 5)).drew).block g (Array.getElem?_eq_some_iff.1 hs0).1).trans hs0
          refine ⟨?_, ((hbW.setCell (p := ⟨g, m * 6, none⟩) hg _).alloc (Nat.le_trans (Nat.le_trans hb.size hszW) (by simp [World.setCell])) _).drew⟩
          have := row_left (W := W1) hLlen hLm hle hmx hsz htk hg hX
          rw [HTK.out, HJ.out]
          rw [List.length_set, hLlen] at this ⊢
          exact this
        clear htk hh hLm hLlen hsz hmx hbW
        go_wp2
        go_region
        go_wp2
        go_roundw
        case rel => exact ⟨n + 1, by omega, by go_num, hfin _ rfl⟩
        case measure => simp [intOf]; omega
      · have tz : ((n : Int) == 0) = false := beq_eq_false_iff_ne.2 (by omega)
        obtain ⟨hlp, hls⟩ := lastStyle l n h0 (by omega)
        rw [HOUT.out] at hlp hls
        obtain ⟨y, hy⟩ : ∃ y, rd_T81 l ((n - 1 : Nat) : Int) = y := ⟨_, rfl⟩
        rw [hy] at hls
        obtain ⟨ad', hae, g0, g1, g2, g3, g4, g5⟩ := at_T81 hr3 ((n - 1 : Nat) : Int) (by omega) (by omega)
        obtain rfl : ad = ad' := by injection hae with hae
        rw [hy] at g0 g1 g2 g3 g4 g5
        simp only [Int.toNat_natCast] at g0 g1 g2 g3 g4 g5
        clear hy
        have wr1 : IntKind.i64.wrap ((n : Int) - 1) = (n : Int) - 1 := IntWalk.i64_in _ (by omega)
        have wr2 : (0 : Int) ≤ (n : Int) - 1 := by omega
        have wr3 : (n : Int) - 1 < (l.length : Int) := by omega
        have wr4 : 1 ≤ n := by omega
        have wr5 : (1 : Int) ≤ (n : Int) := by omega
        have wr6 : ¬ ((n : Int) - 1 < 0) := by omega
        have wr7 : ((n : Int) - 1).toNat < l.length := by omega
        have wr8 : n - 1 < l.length := by omega
        cases hq : eqS x.f1 y.f1
        · have hjn : joinP out (chP x) = out ++ [chP x] := by
            unfold joinP
            rw [if_pos hlp, if_neg (by rw [hls, eqS_comm]; show ¬ (eqS x.f1 y.f1 = true); rw [hq]; exact Bool.false_ne_true)]
          have HJN := Lib.hid hjn
          have hq' := hq
          unfold eqS at hq'
          clear hjn hls
          go_wp2_with fail
          go_quiet (fail)
          clear wr1 wr2 wr3 wr4 wr5 wr6 wr7 wr8 g0 g1 g2 g3 g4 g5 hq'
          have hol : out.length ≤ 1000000 := by rw [← HOUT.out]; exact Nat.le_trans (piecesS_len l n) (by omega)
          go_wp2_with (at_builtin; refine wpList_append_own _ rfl _ _ 23 rfl w.heap.size 42 i0 _ 6 40 Tryz.underlying23 hi hz0 hz1 hz2 rfl (by decide) _ _ _ rfl ((ownsRow_drewN hown nq).alloc _) ⟨wr.heap.size, 0, none⟩ 1 1 (enc ⟨⟨#[]⟩, x.f1⟩) rfl ?qc1 ?qc2 ?qc3 ?qc4 ?qc5 ?qc6 ?_)
          case qc1 => rfl
          case qc2 => intro j u hj; rw [add0]; rcases enc_cases hj with ⟨rfl, rfl⟩ | ⟨rfl, rfl⟩ | ⟨rfl, rfl⟩ | ⟨rfl, rfl⟩ | ⟨rfl, rfl⟩ | ⟨rfl, rfl⟩ <;> exact newcell (wr.drewN nq) _ 42 _ _ rfl
          case qc3 => intro u hu; simp only [enc, List.mem_cons, List.mem_nil_iff, or_false] at hu; rcases hu with rfl | rfl | rfl | rfl | rfl | rfl <;> rfl
          case qc4 => unfold maxLen; omega
          case qc5 => omega
          case qc6 => have := hb.size; simp; omega
          intro v' W1 hown1 hgrow hnil
          have hbW : Below w.heap.size w W1 := ((bdrewN hb nq).alloc (by simpa using hb.size) _).grown hgrow (by have := hb.size; simp; omega) (fun k hk => (hown.lt k hk).1)
          have hszW : wr.heap.size ≤ W1.heap.size := by have := hgrow.size; simp at this; omega
          obtain ⟨g, cap', cur, rfl, hg, hh, hle, hmx, hsz, htk⟩ : ∃ g cap' cur, v' = .slice (some ⟨g, 0, none⟩) (out.length + 1) cap' ∧ w.heap.size ≤ g ∧ W1.heap[g]? = some (.cells cur 42 (0, 0)) ∧ out.length + 1 ≤ cap' ∧ cap' ≤ maxLen ∧ cur.size = cap' * 6 ∧ cur.toList.take ((out.length + 1) * 6) = flat (out ++ [⟨⟨#[]⟩, x.f1⟩]) := by
            rcases hown1.2 with ⟨h, h1⟩ | ⟨g, cap', cur, h, hg, hh, hle, hmx, hsz, htk⟩
            · exact absurd h1 (by omega)
            · exact ⟨g, cap', cur, h, hg, hh, hle, hmx, hsz, by rw [htk]; simp [flat]⟩
          have gl : g < W1.heap.size := (Array.getElem?_eq_some_iff.1 hh).1
          have e0 : W1.cell? (ad.add (n * 6)) = some (.int .u8 x.f0) := cell_later hbW dw0
          obtain ⟨m, hm⟩ : ∃ m, out.length = m := ⟨_, rfl⟩
          have hLlen : (out ++ [(⟨⟨#[]⟩, x.f1⟩ : S42)]).length = m + 1 := by simp [hm]
          have hLm : (out ++ [(⟨⟨#[]⟩, x.f1⟩ : S42)])[m]? = some ⟨⟨#[]⟩, x.f1⟩ := by rw [← hm]; simp
          rw [hm] at hle htk hol
          obtain ⟨t, ht⟩ : ∃ t : ByteArray, t = ⟨#[]⟩ := ⟨_, rfl⟩
          have e1 : W1.cell? ⟨g, m * 6, none⟩ = some (.string t) := by
            have := Lays.of_take (l := out ++ [⟨⟨#[]⟩, x.f1⟩]) (cur := cur) (by rw [hLlen]; exact htk) m _ hLm 0 _ rfl
            rw [ht]
            simpa [World.cell?, hh] using this
          have hJ : joinP out (chP x) = (out ++ [(⟨⟨#[]⟩, x.f1⟩ : S42)]).set m ⟨t ++ (chP x).f0, x.f1⟩ := by
            rw [ht, HJN.out, ← hm, emp_app]; simp [chP]
          have HJ := Lib.hid hJ
          have hts : t.size ≤ 1000000 := by rw [ht]; exact Nat.zero_le _
          clear hJ ht
          rw [hm]
          have e0' := fun o => Lib.cell?_alloc_some o e0
          have e1' := fun o => Lib.cell?_alloc_some o e1
          have e2' : ∀ o, (W1.alloc o).frozen? ⟨g, m * 6, none⟩ = false := fun o => by
            have hgo : (W1.alloc o).heap[g]? = some (.cells cur 42 (0, 0)) := (((Below.refl W1.heap.size W1).alloc (Nat.le_refl _) o).block g gl).trans hh
            simp [World.frozen?, hgo]
          have wr1 : IntKind.i64.wrap ((m : Int) + 1 - 1) = (m : Int) := by rw [IntWalk.i64_in _ (by omega)]; omega
          have hcv := conv1 x.f0
          have hts1 : t.size + 1 ≤ 9223372036854775807 := by omega
          have hts2 : t.size + (⟨#[UInt8.ofNat x.f0.toNat]⟩ : ByteArray).size ≤ 9223372036854775807 := hts1
          have hfin : ∀ (X : World), X = (((W1.setCell ⟨g, m * 6, none⟩ (.string (t ++ (chP x).f0))).alloc (.cells #[.int .u8 x.f0] 5)).drew) → PRel l w (n + 1) (.slice (some ⟨g, 0, none⟩) (m + 1) cap') X := by
            rintro X rfl
            have hs0 := heap_set (i := m * 6) (v := .string (t ++ (chP x).f0)) hh
            have hX : (((W1.setCell ⟨g, m * 6, none⟩ (.string (t ++ (chP x).f0))).alloc (.cells #[.int .u8 x.f0] 5)).drew).heap[g]? = _ :=
              ((((Below.refl (W1.setCell ⟨g, m * 6, none⟩ (.string (t ++ (chP x).f0))).heap.size _).alloc (Nat.le_refl _) (.cells #[.int .u8 x.f0] 5)).drew).block g (Array.getElem?_eq_some_iff.1 hs0).1).trans hs0
            refine ⟨?_, ((hbW.setCell (p := ⟨g, m * 6, none⟩) hg _).alloc (Nat.le_trans (Nat.le_trans hb.size hszW) (by simp [World.setCell])) _).drew⟩
            have := row_left (W := W1) hLlen hLm hle hmx hsz htk hg hX
            rw [HTK.out, HJ.out]
            rw [List.length_set, hLlen] at this ⊢
            exact this
          clear htk hh hLm hLlen hsz hmx hbW
          go_wp2
          go_region
          go_wp2
          go_roundw
          case rel => exact ⟨n + 1, by omega, by go_num, hfin _ rfl⟩
          case measure => simp [intOf]; omega
        · obtain ⟨g, cap', cur, rfl, hg, hh0, hle, hmx, hsz, htk⟩ : ∃ g cap' cur, u3 = .slice (some ⟨g, 0, none⟩) out.length cap' ∧ w.heap.size ≤ g ∧ wr.heap[g]? = some (.cells cur 42 (0, 0)) ∧ out.length ≤ cap' ∧ cap' ≤ maxLen ∧ cur.size = cap' * 6 ∧ cur.toList.take (out.length * 6) = flat out := by
            rcases hown.2 with ⟨h, h1⟩ | h
            · exact absurd h1 (by omega)
            · exact h
          have hol : out.length ≤ 1000000 := by rw [← HOUT.out]; exact Nat.le_trans (piecesS_len l n) (by omega)
          have hwl : wordsLen out ≤ 1000000 := by rw [← HOUT.out]; exact Nat.le_trans (piecesS_wl l n) (by omega)
          have hjn : joinP out (chP x) = out.set (out.length - 1) ⟨(lastP out).f0 ++ (chP x).f0, (lastP out).f1⟩ := by
            unfold joinP
            rw [if_pos hlp, if_pos (by rw [hls, eqS_comm]; exact hq)]
          have hlm : out[out.length - 1]? = some (lastP out) := by
            unfold lastP
            rw [List.getD_eq_getElem?_getD, List.getElem?_eq_getElem (by omega)]
            rfl
          have htz : (lastP out).f0.size ≤ wordsLen out := by
            unfold lastP
            rw [List.getD_eq_getElem?_getD, List.getElem?_eq_getElem (by omega)]
            exact wordsLen_mem (List.getElem_mem _)
          obtain ⟨m, hm⟩ : ∃ m, out.length = m + 1 := ⟨out.length - 1, by omega⟩
          obtain ⟨q, hqq⟩ : ∃ q, lastP out = q := ⟨_, rfl⟩
          rw [hm, Nat.add_sub_cancel] at hjn hlm
          rw [hqq] at hjn hlm htz
          obtain ⟨t, ht⟩ : ∃ t, q.f0 = t := ⟨_, rfl⟩
          rw [ht] at hjn htz
          have hLlen := hm
          have hLm := hlm
          rw [hm] at hle htk hol
          have HJ := Lib.hid hjn
          have hts : t.size ≤ 1000000 := by omega
          have hq' := hq
          unfold eqS at hq'
          have e1r : wr.cell? ⟨g, m * 6, none⟩ = some (.string t) := by
            have := Lays.of_take (l := out) (cur := cur) (by rw [hLlen]; exact htk) m q hLm 0 _ rfl
            rw [← ht]
            simpa [World.cell?, hh0] using this
          rw [hm]
          clear hjn hlm hm hls hlp ht htz hwl hqq
          go_wp2_with fail
          go_quiet (fail)
          obtain ⟨W1, hW1⟩ : ∃ W1, wr.drewN nq = W1 := ⟨_, rfl⟩
          have hh : W1.heap[g]? = some (.cells cur 42 (0, 0)) := by rw [← hW1]; exact hh0
          have gl : g < W1.heap.size := (Array.getElem?_eq_some_iff.1 hh).1
          have hszW : wr.heap.size ≤ W1.heap.size := by rw [← hW1]; exact Nat.le_refl _
          have hbW : Below w.heap.size w W1 := by rw [← hW1]; exact bdrewN hb nq
          have e0 : W1.cell? (ad.add (n * 6)) = some (.int .u8 x.f0) := cell_later hbW dw0
          have e1 : W1.cell? ⟨g, m * 6, none⟩ = some (.string t) := by rw [← hW1]; exact e1r
          rw [hW1]
          clear wr1 wr2 wr3 wr4 wr5 wr6 wr7 wr8 g0 g1 g2 g3 g4 g5 hq' hW1 hh0 e1r
          have e0' := fun o => Lib.cell?_alloc_some o e0
          have e1' := fun o => Lib.cell?_alloc_some o e1
          have e2' : ∀ o, (W1.alloc o).frozen? ⟨g, m * 6, none⟩ = false := fun o => by
            have hgo : (W1.alloc o).heap[g]? = some (.cells cur 42 (0, 0)) := (((Below.refl W1.heap.size W1).alloc (Nat.le_refl _) o).block g gl).trans hh
            simp [World.frozen?, hgo]
          have wr1 : IntKind.i64.wrap ((m : Int) + 1 - 1) = (m : Int) := by rw [IntWalk.i64_in _ (by omega)]; omega
          have hcv := conv1 x.f0
          have hts1 : t.size + 1 ≤ 9223372036854775807 := by omega
          have hts2 : t.size + (⟨#[UInt8.ofNat x.f0.toNat]⟩ : ByteArray).size ≤ 9223372036854775807 := hts1
          have hfin : ∀ (X : World), X = (((W1.setCell ⟨g, m * 6, none⟩ (.string (t ++ (chP x).f0))).alloc (.cells #[.int .u8 x.f0] 5)).drew) → PRel l w (n + 1) (.slice (some ⟨g, 0, none⟩) (m + 1) cap') X := by
            rintro X rfl
            have hs0 := heap_set (i := m * 6) (v := .string (t ++ (chP x).f0)) hh
            have hX : (((W1.setCell ⟨g, m * 6, none⟩ (.string (t ++ (chP x).f0))).alloc (.cells #[.int .u8 x.f0] 5)).drew).heap[g]? = _ :=
              ((((Below.refl (W1.setCell ⟨g, m * 6, none⟩ (.string (t ++ (chP x).f0))).heap.size _).alloc (Nat.le_refl _) (.cells #[.int .u8 x.f0] 5)).drew).block g (Array.getElem?_eq_some_iff.1 hs0).1).trans hs0
            refine ⟨?_, ((hbW.setCell (p := ⟨g, m * 6, none⟩) hg _).alloc (Nat.le_trans (Nat.le_trans hb.size hszW) (by simp [World.setCell])) _).drew⟩
            have := row_left (W := W1) hLlen hLm hle hmx hsz htk hg hX
            rw [HTK.out, HJ.out]
            rw [List.length_set, hLlen] at this ⊢
            exact this
          clear htk hh hLm hLlen hsz hmx hbW
          go_wp2
          go_region
          go_wp2
          go_roundw
          case rel => exact ⟨n + 1, by omega, by go_num, hfin _ rfl⟩
          case measure => simp [intOf]; omega
    · have hnl : n = l.length := by omega
      have hfin : RowAt w.heap.size u3 (piecesS l) wr := by
        rw [hnl, List.take_length] at hown
        rcases hown.2 with ⟨rfl, h1⟩ | ⟨g, cap', cur, rfl, hg, hh, hle, hmx, hsz, htk⟩
        · have : piecesS l = [] := List.eq_nil_of_length_eq_zero h1
          rw [this]
          exact ⟨none, 0, rfl, Nat.le_refl _, fun X _ => ⟨rfl, by simp, fun h => absurd h (by simp)⟩⟩
        · exact ⟨_, cap', rfl, hle, fun X hX => (Lays.of_take htk).C ((hX g hg (Array.getElem?_eq_some_iff.1 hh).1).trans hh) (by have := piecesS_len l l.length; rw [List.take_length] at this; omega)⟩
      clear hnl hown
      go_wp2
      go_ret
      exact ⟨_, rfl, hfin, hb⟩
end Go.Proofs.YtogidacejbjljaaGreatDoor.PTextChecks
