/- Lemmas on the way to the card of TextFormats, joined from: TSh2 FDig FTag FFmt TLaw BLaw BWLaw FRef FShift FRShift FLaw. Conditions: as each lemma says. -/
import Derived.Test.YtogidacejbjljaaGreatDoorProg
import Derived.Shelf.Strconv.Itoa0
import Derived.Shelf.Strconv.Itoa1
import Derived.Shelf.Strconv.Itoa2
import Derived.Shelf.Strconv.Itoa3
import Derived.Shelf.LaysM
import Derived.Test.YtogidacejbjljaaGreatDoorZTextFormatsd
import Derived.Test.YtogidacejbjljaaGreatDoorZTextFormatsf
import Derived.Lib.LaidTab
import Derived.Lib.AppendIntMem
import Derived.WalkSmall
import Derived.Outline
import Derived.Deep.RegionWith
import Derived.Laws.DeepStrings4
import Derived.Laws.ResultCell
import Derived.Laws.Rows
section
/- Contracts of the library at this dump: each one application of the shelf. -/
namespace Go.Proofs
open Go.Shelf Go.RowKit Go.Lib Go.Sort Go
def Tryz.laysM171_ren : Go.Shelf.Ren := ⟨fun | 171 => 53 | 243 => 92 | 246 => 121 | 283 => 150 | 284 => 151 | 285 => 152 | 286 => 153 | 129 => 142 | 317 => 172 | 318 => 173 | 319 => 174 | 320 => 175 | 337 => 192 | 338 => 193 | n => n, fun | 3 => 3 | 9 => 9 | 2 => 2 | 4 => 4 | 171 => 205 | 0 => 0 | 53 => 201 | 37 => 94 | 5 => 5 | 173 => 207 | 212 => 222 | 51 => 171 | 20 => 20 | 213 => 223 | 46 => 158 | 232 => 271 | 233 => 272 | n => n, fun | 17 => 1 | 18 => 4 | 19 => 5 | n => n⟩
theorem Tryz.laysM171 : Go.Proofs.LaysM.n171 Tryz.prog Tryz.laysM171_ren := {
  mixed := by kernel_rfl
  f129 := Tryz.func142.trans (congrArg some (by kernel_rfl))
  f171 := Tryz.func53.trans (congrArg some (by kernel_rfl))
  f243 := Tryz.func92.trans (congrArg some (by kernel_rfl))
  f246 := Tryz.func121.trans (congrArg some (by kernel_rfl))
  f283 := Tryz.func150.trans (congrArg some (by kernel_rfl))
  f284 := Tryz.func151.trans (congrArg some (by kernel_rfl))
  f285 := Tryz.func152.trans (congrArg some (by kernel_rfl))
  f286 := Tryz.func153.trans (congrArg some (by kernel_rfl))
  f317 := Tryz.func172.trans (congrArg some (by kernel_rfl))
  f318 := Tryz.func173.trans (congrArg some (by kernel_rfl))
  f319 := Tryz.func174.trans (congrArg some (by kernel_rfl))
  f320 := Tryz.func175.trans (congrArg some (by kernel_rfl))
  f337 := Tryz.func192.trans (congrArg some (by kernel_rfl))
  f338 := Tryz.func193.trans (congrArg some (by kernel_rfl))
  t0 := Tryz.underlying0
  a0 := Tryz.isAgg0
  z0 := Tryz.sizeOf0
  v0 := Tryz.zeroValue0
  t2 := Tryz.underlying2
  a2 := Tryz.isAgg2
  z2 := Tryz.sizeOf2
  v2 := Tryz.zeroValue2
  t3 := Tryz.underlying3
  a3 := Tryz.isAgg3
  z3 := Tryz.sizeOf3
  v3 := Tryz.zeroValue3
  t4 := Tryz.underlying4
  a4 := Tryz.isAgg4
  z4 := Tryz.sizeOf4
  v4 := Tryz.zeroValue4
  t5 := Tryz.underlying5
  a5 := Tryz.isAgg5
  z5 := Tryz.sizeOf5
  v5 := Tryz.zeroValue5
  t9 := Tryz.underlying9
  a9 := Tryz.isAgg9
  z9 := Tryz.sizeOf9
  v9 := Tryz.zeroValue9
  t20 := Tryz.underlying20
  a20 := Tryz.isAgg20
  z20 := Tryz.sizeOf20
  v20 := Tryz.zeroValue20
  t37 := Tryz.underlying94
  a37 := Tryz.isAgg94
  z37 := Tryz.sizeOf94
  v37 := Tryz.zeroValue94
  t46 := Tryz.underlying158
  a46 := Tryz.isAgg158
  z46 := Tryz.sizeOf158
  v46 := Tryz.zeroValue158
  t51 := Tryz.underlying171
  a51 := Tryz.isAgg171
  z51 := Tryz.sizeOf171
  v51 := Tryz.zeroValue171
  t53 := Tryz.underlying201
  a53 := Tryz.isAgg201
  z53 := Tryz.sizeOf201
  v53 := Tryz.zeroValue201
  t171 := Tryz.underlying205
  a171 := Tryz.isAgg205
  z171 := Tryz.sizeOf205
  v171 := Tryz.zeroValue205
  t173 := Tryz.underlying207
  a173 := Tryz.isAgg207
  z173 := Tryz.sizeOf207
  v173 := Tryz.zeroValue207
  t212 := Tryz.underlying222
  a212 := Tryz.isAgg222
  z212 := Tryz.sizeOf222
  v212 := Tryz.zeroValue222
  t213 := Tryz.underlying223
  a213 := Tryz.isAgg223
  z213 := Tryz.sizeOf223
  t232 := Tryz.underlying271
  a232 := Tryz.isAgg271
  z232 := Tryz.sizeOf271
  v232 := Tryz.zeroValue271
  t233 := Tryz.underlying272
  a233 := Tryz.isAgg272
  z233 := Tryz.sizeOf272
  v233 := Tryz.zeroValue272
  g17 := by kernel_rfl
  g18 := by kernel_rfl
  g19 := by kernel_rfl
  i0 := by kernel_rfl
  i2 := by kernel_rfl
  i3 := by kernel_rfl
  i4 := by kernel_rfl
  i5 := by kernel_rfl
  i9 := by kernel_rfl
  i20 := by kernel_rfl
  i37 := by kernel_rfl
  i46 := by kernel_rfl
  i51 := by kernel_rfl
  i53 := by kernel_rfl
  i171 := by kernel_rfl
  i173 := by kernel_rfl
  i212 := by kernel_rfl
  i232 := by kernel_rfl
  i233 := by kernel_rfl
  m17 := by kernel_rfl
  m18 := by kernel_rfl
  m19 := by kernel_rfl }
theorem Tryz.strconv_Itoa (n : Int) (h0 : -9223372036854775808 ≤ n) (h1 : n ≤ 9223372036854775807) (w : World) (htab : Lib.TabIs Tryz.prog w "internal/strconv.uint64pow10" .u64 Lib.pow10Tab) :
    Calls Tryz.prog 53 #[.int .i64 n] w fun e w' => e = .returned (.string ⟨(Lib.itoa n).toArray⟩) ∧ ∃ k os, w' = grow (w.drewN k) os := Any.strconv_Itoa Tryz.laysM171 n h0 h1 w htab
end Go.Proofs
end
section
/- Small numbers in digits: strconv.Itoa and the reference's digits, computed. -/
set_option linter.unusedVariables false
set_option linter.unusedSimpArgs false
namespace Go.Proofs.YtogidacejbjljaaGreatDoor.PTextChecks
open Go Go.Den Go.RowKit Go.Proofs.YtogidacejbjljaaGreatDoor
def eqL : List UInt8 → List UInt8 → Bool
  | [], [] => true
  | a :: l, b :: m => Nat.beq a.toNat b.toNat && eqL l m
  | _, _ => false
theorem eqL_spec : ∀ {l m : List UInt8}, eqL l m = true → l = m
  | [], [], _ => rfl
  | [], _ :: _, h => by simp [eqL] at h
  | _ :: _, [], h => by simp [eqL] at h
  | a :: l, b :: m, h => by
    unfold eqL at h
    rw [Bool.and_eq_true] at h
    rw [UInt8.toNat_inj.1 (Nat.eq_of_beq_eq_true h.1), eqL_spec h.2]
noncomputable def saysDig (f n : Nat) : Bool := match runFn Tryz.prog denC 300 f #[.int .i64 (.ofNat n)] noSt with
  | some (.ret (.string x), _) => eqL x.data.toList (digS n).data.toList
  | _ => false
theorem itoaAll : (List.range 100).all (saysDig 53) = true := by kernel_rfl
theorem digitsAll : (List.range 101).all (saysDig 96) = true := by kernel_rfl
theorem says_calls {f n : Nat} (h : saysDig f n = true) (w : World) : Calls Tryz.prog f #[.int .i64 (n : Int)] w fun e w' => e = .returned (.string (digS n)) ∧ Below w.heap.size w w' := by
  unfold saysDig at h
  split at h
  · rename_i x s hb
    have hx := bs_inj (eqL_spec h)
    refine (runFn_ok (by kernel_rfl) denC_ok 300 f _ noSt _ s hb ⟨w, fun _ => none⟩ w (fun _ => none) #[.int .i64 (n : Int)] (noSt_rel w) (.cons _ _ _ _ (.int _ _) .nil)).mono ?_
    rintro e w' ⟨q, _, hR, hc⟩
    refine ⟨?_, hR.below⟩
    cases hc with
    | ret _ v' hv => cases hv; rw [hx]
  · exact absurd h (by simp)
theorem itoa_small (n : Int) (h : 0 ≤ n ∧ n < 100) (w : World) : Calls Tryz.prog 53 #[.int .i64 n] w fun e w' => e = .returned (.string (digS n.toNat)) ∧ Below w.heap.size w w' := by
  have := says_calls (List.all_eq_true.1 itoaAll n.toNat (List.mem_range.2 (by omega))) w
  rw [Int.toNat_of_nonneg h.1] at this
  exact this
/-- The table of the powers of ten is as the program lays it. -/
def Tab (w : World) : Prop := Lib.TabIs Tryz.prog w "internal/strconv.uint64pow10" .u64 Lib.pow10Tab
theorem Tab.below {w w' : World} (h : Tab w) (hb : Below w.heap.size w w') : Tab w' := by
  have hg : Tryz.prog.globalNamed "internal/strconv.uint64pow10" = some 1 := by kernel_rfl
  have hc := Lib.TabIs.cell h hg 0 (by rw [Lib.pow10Tab_length]; omega)
  have h1 : 1 < w.heap.size := by
    rcases Nat.lt_or_ge 1 w.heap.size with h1 | h1
    · exact h1
    · simp [World.cell?, Array.getElem?_eq_none h1] at hc
  unfold Tab Lib.TabIs at h ⊢
  exact var?_below hb hg h1 h
theorem itoa100 : (⟨(Lib.itoa 100).toArray⟩ : ByteArray) = digS (100 : Int).toNat := by
  have : Lib.itoa 100 = [49, 48, 48] := by
    simp [Lib.itoa, Lib.decDigits]
  rw [this]
  rfl
theorem itoa_calls (n : Int) (h : 0 ≤ n ∧ n ≤ 100) (w : World) (hT : Tab w) : Calls Tryz.prog 53 #[.int .i64 n] w fun e w' => e = .returned (.string (digS n.toNat)) ∧ Below w.heap.size w w' := by
  by_cases h1 : n < 100
  · exact itoa_small n ⟨h.1, h1⟩ w
  · obtain rfl : n = 100 := by omega
    refine (Tryz.strconv_Itoa 100 (by omega) (by omega) w hT).mono ?_
    rintro e w' ⟨rfl, k, os, rfl⟩
    exact ⟨by rw [itoa100], Lib.below_grow _ _ (Nat.le_refl _) _ _⟩
theorem digits_calls (n : Int) (h : 0 ≤ n ∧ n ≤ 100) (w : World) : Calls Tryz.prog 96 #[.int .i64 n] w fun e w' => e = .returned (.string (digS n.toNat)) ∧ Below w.heap.size w w' := by
  have := says_calls (List.all_eq_true.1 digitsAll n.toNat (List.mem_range.2 (by omega))) w
  rw [Int.toNat_of_nonneg h.1] at this
  exact this
end Go.Proofs.YtogidacejbjljaaGreatDoor.PTextChecks
end
section
/- text.tagged: a piece in the tags of its style. -/
set_option linter.unusedVariables false
set_option linter.unusedSimpArgs false
namespace Go.Proofs.YtogidacejbjljaaGreatDoor.PTextChecks
open Go Go.Den Go.RowKit Go.Mix Go.Own Go.Proofs.YtogidacejbjljaaGreatDoor Go.Proofs.YtogidacejbjljaaGreatDoorW.PrintWords Go.Proofs.YtogidacejbjljaaGreatDoorW.PrintLast Go.Proofs.YtogidacejbjljaaGreatDoorW.PrintMore
set_option maxHeartbeats 1000000 in
set_option maxRecDepth 100000 in
/-- The closure around. -/
theorem around_calls (W : World) (b3 : Nat) (s : ByteArray) (hb : W.heap[b3]? = some (.cells #[.string s] 9 (0, 0))) (b : Bool) (name value : ByteArray) (n : Nat) (hsn : s.size ≤ n) (hn : n ≤ 900000) (hnm : name.size = 1) (hvl : value.size ≤ 4) :
    Calls Tryz.prog 95 #[.bool b, .string name, .string value, .pointer (some ⟨b3, 0, none⟩)] W fun e W' => ∃ u, e = .returned u ∧ W'.heap[b3]? = some (.cells #[.string (around b name value s)] 9 (0, 0)) ∧ KB [9] W W' ∧ (∀ B w, B ≤ b3 → Below B w W → Below B w W') ∧ (around b name value s).size ≤ n + 20 := by
  have hsz := around_size b name value s
  have hs : s.size + name.size + name.size + value.size ≤ 1000000 := by omega
  obtain ⟨m, m'⟩ := blk1 hb
  have e1 : (⟨#[60]⟩ : ByteArray).size = 1 := rfl
  have e2 : (⟨#[62]⟩ : ByteArray).size = 1 := rfl
  have e3 : (⟨#[60, 47]⟩ : ByteArray).size = 2 := rfl
  have s1 : (⟨#[60]⟩ : ByteArray).size + name.size ≤ 9223372036854775807 := by omega
  have s2 : (⟨#[60]⟩ ++ name : ByteArray).size + value.size ≤ 9223372036854775807 := by rw [ByteArray.size_append]; omega
  have s3 : ((⟨#[60]⟩ ++ name) ++ value : ByteArray).size + (⟨#[62]⟩ : ByteArray).size ≤ 9223372036854775807 := by simp only [ByteArray.size_append]; omega
  have s4 : (((⟨#[60]⟩ ++ name) ++ value) ++ ⟨#[62]⟩ : ByteArray).size + s.size ≤ 9223372036854775807 := by simp only [ByteArray.size_append]; omega
  have s5 : ((((⟨#[60]⟩ ++ name) ++ value) ++ ⟨#[62]⟩) ++ s : ByteArray).size + (⟨#[60, 47]⟩ : ByteArray).size ≤ 9223372036854775807 := by simp only [ByteArray.size_append]; omega
  have s6 : (((((⟨#[60]⟩ ++ name) ++ value) ++ ⟨#[62]⟩) ++ s) ++ ⟨#[60, 47]⟩ : ByteArray).size + name.size ≤ 9223372036854775807 := by simp only [ByteArray.size_append]; omega
  have s7 : ((((((⟨#[60]⟩ ++ name) ++ value) ++ ⟨#[62]⟩) ++ s) ++ ⟨#[60, 47]⟩) ++ name : ByteArray).size + (⟨#[62]⟩ : ByteArray).size ≤ 9223372036854775807 := by simp only [ByteArray.size_append]; omega
  clear e1 e2 e3
  go_enter Tryz.func95, Tryz.ntmps95
  cases b
  case true =>
    go_wp2
    refine bodyPost_end (v := .tuple #[]) (by simp [results, show Tryz.f95.results = #[] from rfl]) rfl ?_
    exact ⟨_, rfl, heap_set (i := 0) hb, KB.set hb (by simp) _, fun B w h1 h2 => h2.setCell (p := ⟨b3, 0, none⟩) h1 _, by omega⟩
  case false =>
    go_wp2
    refine bodyPost_end (v := .tuple #[]) (by simp [results, show Tryz.f95.results = #[] from rfl]) rfl ?_
    exact ⟨_, rfl, hb, KB.refl _ _, fun B w h1 h2 => h2, by omega⟩
/-- NewReplacer over the four texts. -/
def repPost (w0 : Base) (v : Value) (w : World) : Prop := ∃ p s1 s2 u, Rel w0 p s1 w ∧ VRel p p20 v ∧ run122 s1 = some (.ret u, s2) ∧ repOk s2 = true
theorem repSt_rel (W : World) (b : Nat) (w0 : Base) (h0 : Below w0.w.heap.size w0.w W) (hk : ∀ k x, w0.g k = some x → W.heap[k]? = some x) (hn : w0.new b)
    (hb : W.heap[b]? = some (.cells #[.string ⟨#[60]⟩, .string ⟨#[38, 108, 116, 59]⟩, .string ⟨#[38]⟩, .string ⟨#[38, 97, 109, 112, 59]⟩] 9 (0, 0))) :
    Rel w0 (fun i => if i = 0 then some (b, 4) else none) repSt W := by
  have hg : ∀ id o, repSt.heap.get id = some o → id = 0 ∧ o = .blk repBlk := by
    intro id o h
    unfold repSt at h
    simp only at h
    rw [Trie.get_put] at h
    split at h
    · rename_i e; exact ⟨e, (Option.some.inj h).symm⟩
    · rw [Trie.get_nil] at h; cases h
  refine ⟨h0, hk, fun id o h => ?_, fun i j x y bn c d hi hj _ _ _ _ => ?_, fun id hid => ?_⟩
  · obtain ⟨rfl, rfl⟩ := hg id o h
    refine ⟨b, 4, rfl, ⟨_, _, _, hb, rfl, ⟨fun j h1 h2 => by omega, fun _ => Nat.zero_le _⟩, Nat.le_refl 4, fun _ => rfl, fun h => by simp [repBlk] at h, fun i v hv hi => ?_⟩, fun h => by simp [repBlk] at h, fun _ => hn⟩
    have hi' : i < 4 := hi
    rcases i with _ | _ | _ | _ | i
    · obtain rfl := Option.some.inj ((show repBlk.cells.get 0 = some (.string ⟨#[60]⟩) from by kernel_rfl).symm.trans hv); exact ⟨_, rfl, .string _⟩
    · obtain rfl := Option.some.inj ((show repBlk.cells.get 1 = some (.string ⟨#[38, 108, 116, 59]⟩) from by kernel_rfl).symm.trans hv); exact ⟨_, rfl, .string _⟩
    · obtain rfl := Option.some.inj ((show repBlk.cells.get 2 = some (.string ⟨#[38]⟩) from by kernel_rfl).symm.trans hv); exact ⟨_, rfl, .string _⟩
    · obtain rfl := Option.some.inj ((show repBlk.cells.get 3 = some (.string ⟨#[38, 97, 109, 112, 59]⟩) from by kernel_rfl).symm.trans hv); exact ⟨_, rfl, .string _⟩
    · omega
  · rw [(hg i x hi).1, (hg j y hj).1]
  · have h1 : id ≠ 0 := by have : (1 : Nat) ≤ id := hid; omega
    refine ⟨?_, if_neg h1⟩
    unfold repSt
    simp only
    rw [Trie.get_put, if_neg h1, Trie.get_nil]
theorem newRep_calls (W : World) (b : Nat) (w0 : Base) (h0 : Below w0.w.heap.size w0.w W) (hk : ∀ k x, w0.g k = some x → W.heap[k]? = some x) (hn : w0.new b)
    (hb : W.heap[b]? = some (.cells #[.string ⟨#[60]⟩, .string ⟨#[38, 108, 116, 59]⟩, .string ⟨#[38]⟩, .string ⟨#[38, 97, 109, 112, 59]⟩] 9 (0, 0))) :
    Calls Tryz.prog 93 #[.slice (some ⟨b, 0, none⟩) 4 4] W fun e W' => ∃ v, e = .returned v ∧ repPost w0 v W' := by
  obtain ⟨s1, s2, u, h1, h2, h3⟩ := rep_runs
  refine (runFn_ok (by kernel_rfl) denC_ok 2000 93 _ repSt _ s1 h1 w0 W _ #[.slice (some ⟨b, 0, none⟩) 4 4] (repSt_rel W b w0 h0 hk hn hb) (.cons _ _ _ _ (.slice 0 b 4 0 4 4 4 rfl (.inl ⟨by decide, rfl⟩) (fun h => absurd h (by decide))) .nil)).mono ?_
  rintro e W' ⟨q, hq, hR, hc⟩
  cases hc with
  | ret _ v' hv => exact ⟨v', rfl, q, s1, s2, u, hR, hv, h2, h3⟩
theorem method_replace (b : Nat) (w : World) : (method 420 238 (.pointer (some ⟨b, 0, none⟩)) "Replace").run Tryz.prog w = .ok (250, .pointer (some ⟨b, 0, none⟩)) w := by kernel_rfl
set_option maxHeartbeats 1000000 in
set_option maxRecDepth 100000 in
/-- Replace of that replacer. -/
theorem replace_calls (W : World) (w0 : Base) (v : Value) (h : repPost w0 v W) (s : ByteArray) (hs : s.size ≤ 1000000) :
    Calls Tryz.prog 94 #[v, .string s] W fun e W' => e = .returned (.string (escS s)) ∧ Below w0.w.heap.size w0.w W' ∧ ∀ k x, w0.g k = some x → W'.heap[k]? = some x := by
  obtain ⟨p, s1, s2, u, hR, hv, h1, h2⟩ := h
  obtain ⟨bR, x, hp, rfl⟩ : ∃ bR x, p 2 = some (bR, x) ∧ v = .pointer (some ⟨bR, 0, none⟩) := by
    unfold p20 at hv
    cases hv with
    | ptr _ b' x _ h => exact ⟨b', x, h, rfl⟩
  have cD := runFn_ok (P := Tryz.prog) (by kernel_rfl) denC_ok 2000 122 _ s1 _ s2 h1 w0 W p #[.pointer (some ⟨bR, 0, none⟩), .func (.func 123) #[.pointer (some ⟨bR, 0, none⟩)] #[]] hR (.cons _ _ _ _ (.ptr 2 bR x 0 hp) (.cons _ _ _ _ (.func _ _ _ _ _ (.cons _ _ _ _ (.ptr 2 bR x 0 hp) .nil) .nil) .nil))
  have hm := method_replace
  go_enter Tryz.func94, Tryz.ntmps94
  go_wp2_with (first | (go_at_call 122; refine cD.mono ?_; rintro e W2 ⟨q, hq, hR2, hc⟩; (obtain ⟨u', rfl⟩ : ∃ u', e = .returned u' := (by cases hc with | ret _ v' _ => exact ⟨v', rfl⟩)); (obtain ⟨bB, hcell, ⟨R⟩⟩ : ∃ bB, W2.cell? ⟨bR, 3, none⟩ = some (.iface 238 (.pointer (some ⟨bB, 0, none⟩))) ∧ Nonempty (IsRep W2 bB) := (by obtain ⟨bR', bB, cn, g1, g2, g3⟩ := isRep_of hR2 h2; rw [hq _ _ hp] at g1; injection g1 with g1; injection g1 with g1 _; subst g1; exact ⟨bB, g2, g3⟩)); have cR := repl_calls W2 bB R s hs) | (go_at_call 250; refine cR.mono ?_; rintro e W3 ⟨rfl, hb3⟩))
  go_ret
  exact ⟨rfl, hR2.below.trans (hb3.mono hR2.below.size), fun k x hg => by have h := hR2.keep k x hg; exact (hb3.block k (Array.getElem?_eq_some_iff.1 h).1).trans h⟩
def repS : Obj := .cells #[.string ⟨#[60]⟩, .string ⟨#[38, 108, 116, 59]⟩, .string ⟨#[38]⟩, .string ⟨#[38, 97, 109, 112, 59]⟩] 9
def boxS : Obj := .cells #[.string ⟨#[]⟩] 9
noncomputable def gOf (W0 X : World) (b k : Nat) : Option Obj := if W0.heap.size ≤ k ∧ k ≠ b then X.heap[k]? else none
theorem gOf_spec {W0 X : World} {b k : Nat} {o : Obj} (h1 : W0.heap.size ≤ k) (h2 : k ≠ b) (h : X.heap[k]? = some o) : gOf W0 X b k = some o := by
  unfold gOf
  rw [if_pos ⟨h1, h2⟩]
  exact h
theorem new93 (W0 X : World) (b : Nat) (hX : Below W0.heap.size W0 X) (hb : W0.heap.size ≤ b) (hbl : X.heap[b]? = some repS) :
    Calls Tryz.prog 93 #[.slice (some ⟨b, 0, none⟩) 4 4] X fun e W' => ∃ v, e = .returned v ∧ repPost ⟨W0, gOf W0 X b⟩ v W' :=
  newRep_calls X b ⟨W0, gOf W0 X b⟩ hX (fun k x h => by
    unfold gOf at h
    simp only at h
    split at h
    · exact h
    · cases h) ⟨hb, by unfold gOf; exact if_neg (fun h => h.2 rfl)⟩ hbl
theorem repPost.below {w0 : Base} {v : Value} {W : World} (h : repPost w0 v W) : Below w0.w.heap.size w0.w W := by
  obtain ⟨p, s1, s2, u, hR, h⟩ := h
  exact hR.below
theorem repPost.beside {w0 : Base} {v : Value} {W : World} (h : repPost w0 v W) : repPost (w0.ext W.heap.size boxS) v (W.alloc boxS) := by
  obtain ⟨p, s1, s2, u, hR, h⟩ := h
  exact ⟨p, s1, s2, u, rel_beside hR _, h⟩
theorem replace94 (W1 X : World) (w0 : Base) (v : Value) (hP : repPost w0 v W1) (hX : X = W1 ∨ X = W1.alloc boxS) (s : ByteArray) (hs : s.size ≤ 1000000) :
    Calls Tryz.prog 94 #[v, .string s] X fun e W' => e = .returned (.string (escS s)) ∧ Below w0.w.heap.size w0.w W' ∧ (∀ k x, w0.g k = some x → W'.heap[k]? = some x) ∧ (X = W1.alloc boxS → W'.heap[W1.heap.size]? = some boxS) := by
  rcases hX with rfl | rfl
  · refine (replace_calls _ _ _ hP s hs).mono ?_
    rintro e W' ⟨h1, h2, h3⟩
    refine ⟨h1, h2, h3, fun h => ?_⟩
    have := congrArg (fun w : World => w.heap.size) h
    simp at this
  · refine (replace_calls _ _ _ hP.beside s hs).mono ?_
    rintro e W' ⟨h1, h2, h3⟩
    refine ⟨h1, h2, fun k x hk => h3 k x ?_, fun _ => h3 _ _ (if_pos rfl)⟩
    show (if k = W1.heap.size then some boxS else w0.g k) = some x
    rw [if_neg]
    · exact hk
    · intro e
      subst e
      obtain ⟨p, s1, s2, u, hR, _⟩ := hP
      have := (Array.getElem?_eq_some_iff.1 (hR.keep _ _ hk)).1
      omega
theorem blk5 {W : World} {b : Nat} {v0 v1 v2 v3 v4 : Value} {t : TypeId} (h : W.heap[b]? = some (.cells #[v0, v1, v2, v3, v4] t (0, 0))) :
    W.cell? ⟨b, 0, none⟩ = some v0 ∧ W.cell? ⟨b, 1, none⟩ = some v1 ∧ W.cell? ⟨b, 2, none⟩ = some v2 ∧ W.cell? ⟨b, 3, none⟩ = some v3 ∧ W.cell? ⟨b, 4, none⟩ = some v4 := by
  refine ⟨?_, ?_, ?_, ?_, ?_⟩ <;> simp [World.cell?, h]
def TagQ (p : S42) (wsz : Nat) (W0 : World) : Exit → Act → World → Prop
  | .normal, a, w' => ∃ (b3 : Nat) (x6 x7 x8 x9 x10 : Value), a = { tmps := #[.agg #[.string p.f0, .bool p.f1.f0, .bool p.f1.f1, .bool p.f1.f2, .int .i64 p.f1.f3, .int .i64 p.f1.f4], .pointer (some ⟨wsz, 0, none⟩), .string ⟨#[]⟩, .pointer (some ⟨b3, 0, none⟩), undef, undef, x6, x7, x8, x9, x10, undef, undef, undef, undef, undef, undef, undef, undef, undef, undef, undef, undef, undef, undef, undef, undef, undef, undef, undef, undef, undef, undef, undef, undef, undef, undef, undef, undef, undef, undef, undef, undef, undef, undef, undef, undef, undef, undef, undef, undef, undef, undef, undef, undef], defers := [] } ∧ w'.heap[b3]? = some (.cells #[.string (escS p.f0)] 9 (0, 0)) ∧ W0.heap.size ≤ b3 ∧ Below W0.heap.size W0 w'
  | _, _, _ => False
set_option maxHeartbeats 4000000 in
set_option maxRecDepth 100000 in
theorem tagged_calls (p : S42) (hsz : p.f0.size ≤ 10000) (h3 : 0 ≤ p.f1.f3 ∧ p.f1.f3 < 100) (h4 : 0 ≤ p.f1.f4 ∧ p.f1.f4 < 100) (w : World) :
    Calls Tryz.prog 54 #[.agg #[.string p.f0, .bool p.f1.f0, .bool p.f1.f1, .bool p.f1.f2, .int .i64 p.f1.f3, .int .i64 p.f1.f4]] w fun e w' => e = .returned (.string (tagS p)) ∧ Below w.heap.size w w' := by
  go_enter Tryz.func54, Tryz.ntmps54
  go_wp2_with fail
  have hpx : (w.alloc (.cells #[.string p.f0, .bool p.f1.f0, .bool p.f1.f1, .bool p.f1.f2, .int .i64 p.f1.f3, .int .i64 p.f1.f4] 42)).heap[w.heap.size]? = some (.cells #[.string p.f0, .bool p.f1.f0, .bool p.f1.f1, .bool p.f1.f2, .int .i64 p.f1.f3, .int .i64 p.f1.f4] 42 (0, 0)) := heap_alloc_new w _
  have hbw0 : Below w.heap.size w (w.alloc (.cells #[.string p.f0, .bool p.f1.f0, .bool p.f1.f1, .bool p.f1.f2, .int .i64 p.f1.f3, .int .i64 p.f1.f4] 42)) := (Below.refl _ w).alloc (Nat.le_refl _) _
  generalize w.alloc (.cells #[.string p.f0, .bool p.f1.f0, .bool p.f1.f1, .bool p.f1.f2, .int .i64 p.f1.f3, .int .i64 p.f1.f4] 42) = W0 at hpx hbw0 ⊢
  have hpb := (Array.getElem?_eq_some_iff.1 hpx).1
  obtain ⟨m0, m1, m2, m3, m4, m5⟩ := blk6 hpx
  refine Code.wp_mono (Q := TagQ p w.heap.size W0) ?cont ?region
  case region =>
    have m0a := fun o => Lib.cell?_alloc_some o m0
    have m0b := fun o o' => Lib.cell?_alloc_some o' (Lib.cell?_alloc_some o m0)
    have z1 := two_new W0 repS boxS
    have z2 := two_new W0 boxS repS
    have y1 := heap_alloc_new W0 repS
    have b1 : Below W0.heap.size W0 (W0.alloc repS).drew := ((Below.refl _ W0).alloc (Nat.le_refl _) _).drew
    have b2 : Below W0.heap.size W0 ((W0.alloc repS).alloc boxS).drew := (((Below.refl _ W0).alloc (Nat.le_refl _) _).alloc (by simp) _).drew
    have b3 : Below W0.heap.size W0 ((W0.alloc boxS).alloc repS).drew := (((Below.refl _ W0).alloc (Nat.le_refl _) _).alloc (by simp) _).drew
    go_region_with (first
      | (go_at_call 93; refine (new93 W0 _ _ ?_ ?_ ?_).mono ?_; (first | exact b1 | exact b2 | exact b3); (first | exact Nat.le_refl _ | exact Nat.le_succ _); (first | exact y1 | exact z1.1 | exact z2.2.1); rintro e W1 ⟨v1, rfl, hP⟩; have hbP : Below W0.heap.size W0 W1 := hP.below; have m0' := cell_later hbP m0; have m0'' := fun o => Lib.cell?_alloc_some o m0')
      | (go_at_call 94; refine (replace94 W1 _ _ _ hP ?_ p.f0 (by omega)).mono ?_; (first | exact .inl rfl | exact .inr rfl); rintro e W2 ⟨rfl, hb2, hk2, hx2⟩; (first | (have hk3 := hx2 rfl; obtain ⟨k1, k2⟩ := blk1 hk3) | (have hk3 := hk2 (W0.heap.size + 1) boxS (gOf_spec (Nat.le_succ _) (by omega) z1.2.1); obtain ⟨k1, k2⟩ := blk1 hk3) | (have hk3 := hk2 W0.heap.size boxS (gOf_spec (Nat.le_refl _) (by omega) z2.1); obtain ⟨k1, k2⟩ := blk1 hk3) | skip)))
    all_goals
      have hbe : ∀ k x, Below W0.heap.size W0 (W2.setCell ⟨k, 0, none⟩ x) ∨ k < W0.heap.size := fun k x => by
        rcases Nat.lt_or_ge k W0.heap.size with h | h
        · exact .inr h
        · exact .inl (Below.setCell hb2 (p := ⟨k, 0, none⟩) h x)
      first
        | exact ⟨_, _, _, _, _, _, rfl, heap_set (i := 0) hk3, Nat.le_refl _, Below.setCell hb2 (p := ⟨_, 0, none⟩) (Nat.le_refl _) _⟩
        | exact ⟨_, _, _, _, _, _, rfl, heap_set (i := 0) hk3, Nat.le_succ _, Below.setCell hb2 (p := ⟨_, 0, none⟩) (Nat.le_succ _) _⟩
        | exact ⟨_, _, _, _, _, _, rfl, heap_set (i := 0) hk3, hbP.size, Below.setCell hb2 (p := ⟨_, 0, none⟩) hbP.size _⟩
        | exact ⟨_, _, _, _, _, _, rfl, heap_alloc_new W2 _, hb2.size, Below.alloc hb2 hb2.size _⟩
  case cont =>
    rintro e a' W' hQ
    cases e <;> try exact hQ.elim
    obtain ⟨b3, x6, x7, x8, x9, x10, rfl, hb3, hle3, hbW⟩ := hQ
    have hpx1 : W'.heap[w.heap.size]? = _ := (hbW.block _ hpb).trans hpx
    have hbw1 : Below w.heap.size w W' := hbw0.trans (hbW.mono hbw0.size)
    have hsb : w.heap.size < b3 := by omega
    clear hbW hpx hbw0 m0 m1 m2 m3 m4 m5
    dsimp only [Exit.then]
    have hs0 : (escS p.f0).size ≤ 50000 := by
      have := (escL_len (bs p.f0)).2
      rw [bs_length] at this
      rw [← bs_length, bs_escS]
      omega
    go_wp2_with (first | (go_at_call 33; refine (text_Plain.calls _ _ _ _ _ _ rfl).mono ?_; rintro e W2 ⟨rfl, hb2⟩; have hPx := (heap_alloc_old W2 (.cells #[.bool false, .bool false, .bool false, .int .i64 2, .int .i64 15] 40) (Nat.lt_of_lt_of_le (Array.getElem?_eq_some_iff.1 hpx1).1 hb2.size)).trans ((hb2.block _ (Array.getElem?_eq_some_iff.1 hpx1).1).trans hpx1); have hB := (heap_alloc_old W2 (.cells #[.bool false, .bool false, .bool false, .int .i64 2, .int .i64 15] 40) (Nat.lt_of_lt_of_le (Array.getElem?_eq_some_iff.1 hb3).1 hb2.size)).trans ((hb2.block _ (Array.getElem?_eq_some_iff.1 hb3).1).trans hb3); have hSt := heap_alloc_new W2 (.cells #[.bool false, .bool false, .bool false, .int .i64 2, .int .i64 15] 40); have hbX := (hbw1.trans (hb2.mono hbw1.size)).alloc (Nat.le_trans hbw1.size hb2.size) (.cells #[.bool false, .bool false, .bool false, .int .i64 2, .int .i64 15] 40); have hS := hs0; obtain ⟨m0, m1, m2, m3, m4, m5⟩ := blk6 hPx) | (go_at_call 95; refine (around_calls _ b3 _ hB _ _ _ _ hS (by omega) rfl (by show 0 ≤ 4; omega)).mono ?_; rintro e X ⟨u5, rfl, hB, hK, hBl, hS⟩; have hPx := hK.2 _ _ 42 (by decide) hPx; have hSt := hK.2 _ _ 40 (by decide) hSt; have hbX := hBl _ _ (Nat.le_of_lt hsb) hbX; clear hBl hK; obtain ⟨m0, m1, m2, m3, m4, m5⟩ := blk6 hPx))
    clear m0 m1 m2 m3 m4 m5
    have n0 := fun z : KZ [9] X => blk6 (z.blk hPx (by decide))
    have n1 := fun z : KZ [9] X => (n0 z).2.2.2.2.1
    have n2 := fun z : KZ [9] X => (n0 z).2.2.2.2.2
    have q0 := fun z : KZ [9] X => blk5 (z.blk hSt (by decide))
    have q1 := fun z : KZ [9] X => (q0 z).2.2.2.1
    have q2 := fun z : KZ [9] X => (q0 z).2.2.2.2
    clear n0 q0
    refine wp_region_mix (C := fun w' => ∃ z : KZ [9] X, w' = z.w) [10, 12] 2 (by kernel_rfl) (by kernel_rfl) (by kernel_rfl) ⟨⟨World.drew X, KB.below (Below.refl _ X).drew⟩, rfl⟩ ?_
    refine mix_pure rfl (fun K hK => ?_)
    go_simp
    refine hK _ _ ?_
    clear hK K
    refine mix_pure rfl (fun K hK => ?_)
    go_simp
    refine hK _ _ ?_
    clear hK K
    refine mix_pure rfl (fun K hK => ?_)
    go_simp
    refine hK _ _ ?_
    clear hK K
    refine mix_pure rfl (fun K hK => ?_)
    go_simp
    refine hK _ _ ?_
    clear hK K
    refine mix_pure rfl (fun K hK => ?_)
    go_simp
    refine hK _ _ ?_
    clear hK K
    refine mix_pure rfl (fun K hK => ?_)
    go_simp
    refine hK _ _ ?_
    clear hK K
    refine mix_pure rfl (fun K hK => ?_)
    go_simp
    refine hK _ _ ?_
    clear hK K
    refine mix_pure rfl (fun K hK => ?_)
    go_simp
    refine hK _ _ ?_
    clear hK K
    refine mix_pure rfl (fun K hK => ?_)
    go_simp
    refine hK _ _ ?_
    clear hK K
    refine mix_pure rfl (fun K hK => ?_)
    go_simp
    refine hK _ _ ?_
    clear hK K
    refine mix_eff rfl (fun K hK => ?_)
    go_simp
    simp only [effUpon_enter]
    refine (itoa_small p.f1.f3 h3 _).mono ?_
    rintro e Wn ⟨rfl, hbn⟩
    have hbn' : Below X.heap.size X Wn := (Below.refl _ X).drew.trans hbn
    refine ⟨_, rfl, ⟨⟨Wn, KB.below hbn'⟩, rfl⟩, hK _ _ ?_⟩
    clear hK K
    have hd := digS_size p.f1.f3.toNat
    have e61 : (⟨#[61]⟩ : ByteArray).size = 1 := rfl
    have hcat : ¬ (9223372036854775807 < 1 + (digS p.f1.f3.toNat).size) := by omega
    refine mix_pure rfl (fun K hK => ?_)
    go_simp
    refine hK _ _ ?_
    clear hK K hcat
    have hBn : Wn.heap[b3]? = _ := (hbn'.block _ (Array.getElem?_eq_some_iff.1 hB).1).trans hB
    have hbXn := hbX.trans (hbn'.mono hbX.size)
    refine mix_eff rfl (fun K hK => ?_)
    go_simp
    simp only [effUpon_enter]
    have hvl : (⟨#[61]⟩ ++ digS p.f1.f3.toNat : ByteArray).size ≤ 4 := by rw [ByteArray.size_append]; omega
    obtain ⟨val, hval⟩ : ∃ val : ByteArray, ⟨#[61]⟩ ++ digS p.f1.f3.toNat = val := ⟨_, rfl⟩
    rw [hval] at hvl ⊢
    have cA := around_calls Wn b3 _ hBn (p.f1.f3 != 2) ⟨#[115]⟩ val _ hS (by omega) rfl hvl
    refine cA.mono ?_
    rintro e W5 ⟨u5, rfl, hB5, hK5, hBl5, hS5⟩
    have hKX : KB [9] X W5 := (KB.below hbn').trans hK5
    refine ⟨_, rfl, ⟨⟨W5, hKX⟩, rfl⟩, hK _ _ ?_⟩
    clear hK K
    refine mix_nil ?_
    intro _
    have hPx5 := hKX.2 _ _ 42 (by decide) hPx
    have hSt5 := hKX.2 _ _ 40 (by decide) hSt
    have hbX5 := hBl5 _ _ (Nat.le_of_lt hsb) hbXn
    clear n1 n2 q1 q2 hBn hbn hbn' hK5 hKX hBl5 hPx hSt hbX hB hS hbXn
    have hPx := hPx5
    have hSt := hSt5
    have hbX := hbX5
    have hB := hB5
    have hS := hS5
    clear hPx5 hSt5 hbX5 hB5 hS5 cA hvl
    subst hval
    obtain ⟨X, hX⟩ : ∃ X, X = W5 := ⟨_, rfl⟩
    subst hX
    go_wp2_with fail
    have n0 := fun z : KZ [9] X => blk6 (z.blk hPx (by decide))
    have n1 := fun z : KZ [9] X => (n0 z).2.2.2.2.1
    have n2 := fun z : KZ [9] X => (n0 z).2.2.2.2.2
    have q0 := fun z : KZ [9] X => blk5 (z.blk hSt (by decide))
    have q1 := fun z : KZ [9] X => (q0 z).2.2.2.1
    have q2 := fun z : KZ [9] X => (q0 z).2.2.2.2
    clear n0 q0
    refine wp_region_mix (C := fun w' => ∃ z : KZ [9] X, w' = z.w) [10, 12] 2 (by kernel_rfl) (by kernel_rfl) (by kernel_rfl) ⟨⟨World.drew X, KB.below (Below.refl _ X).drew⟩, rfl⟩ ?_
    refine mix_pure rfl (fun K hK => ?_)
    go_simp
    refine hK _ _ ?_
    clear hK K
    refine mix_pure rfl (fun K hK => ?_)
    go_simp
    refine hK _ _ ?_
    clear hK K
    refine mix_pure rfl (fun K hK => ?_)
    go_simp
    refine hK _ _ ?_
    clear hK K
    refine mix_pure rfl (fun K hK => ?_)
    go_simp
    refine hK _ _ ?_
    clear hK K
    refine mix_pure rfl (fun K hK => ?_)
    go_simp
    refine hK _ _ ?_
    clear hK K
    refine mix_pure rfl (fun K hK => ?_)
    go_simp
    refine hK _ _ ?_
    clear hK K
    refine mix_pure rfl (fun K hK => ?_)
    go_simp
    refine hK _ _ ?_
    clear hK K
    refine mix_pure rfl (fun K hK => ?_)
    go_simp
    refine hK _ _ ?_
    clear hK K
    refine mix_pure rfl (fun K hK => ?_)
    go_simp
    refine hK _ _ ?_
    clear hK K
    refine mix_pure rfl (fun K hK => ?_)
    go_simp
    refine hK _ _ ?_
    clear hK K
    refine mix_eff rfl (fun K hK => ?_)
    go_simp
    simp only [effUpon_enter]
    refine (itoa_small p.f1.f4 h4 _).mono ?_
    rintro e Wn ⟨rfl, hbn⟩
    have hbn' : Below X.heap.size X Wn := (Below.refl _ X).drew.trans hbn
    refine ⟨_, rfl, ⟨⟨Wn, KB.below hbn'⟩, rfl⟩, hK _ _ ?_⟩
    clear hK K
    have hd := digS_size p.f1.f4.toNat
    have e61 : (⟨#[61]⟩ : ByteArray).size = 1 := rfl
    have hcat : ¬ (9223372036854775807 < 1 + (digS p.f1.f4.toNat).size) := by omega
    refine mix_pure rfl (fun K hK => ?_)
    go_simp
    refine hK _ _ ?_
    clear hK K hcat
    have hBn : Wn.heap[b3]? = _ := (hbn'.block _ (Array.getElem?_eq_some_iff.1 hB).1).trans hB
    have hbXn := hbX.trans (hbn'.mono hbX.size)
    refine mix_eff rfl (fun K hK => ?_)
    go_simp
    simp only [effUpon_enter]
    have hvl : (⟨#[61]⟩ ++ digS p.f1.f4.toNat : ByteArray).size ≤ 4 := by rw [ByteArray.size_append]; omega
    obtain ⟨val, hval⟩ : ∃ val : ByteArray, ⟨#[61]⟩ ++ digS p.f1.f4.toNat = val := ⟨_, rfl⟩
    rw [hval] at hvl ⊢
    have cA := around_calls Wn b3 _ hBn (p.f1.f4 != 15) ⟨#[99]⟩ val _ hS (by omega) rfl hvl
    refine cA.mono ?_
    rintro e W5 ⟨u5, rfl, hB5, hK5, hBl5, hS5⟩
    have hKX : KB [9] X W5 := (KB.below hbn').trans hK5
    refine ⟨_, rfl, ⟨⟨W5, hKX⟩, rfl⟩, hK _ _ ?_⟩
    clear hK K
    refine mix_nil ?_
    intro _
    have hPx5 := hKX.2 _ _ 42 (by decide) hPx
    have hSt5 := hKX.2 _ _ 40 (by decide) hSt
    have hbX5 := hBl5 _ _ (Nat.le_of_lt hsb) hbXn
    clear n1 n2 q1 q2 hBn hbn hbn' hK5 hKX hBl5 hPx hSt hbX hB hS hbXn
    have hPx := hPx5
    have hSt := hSt5
    have hbX := hbX5
    have hB := hB5
    have hS := hS5
    clear hPx5 hSt5 hbX5 hB5 hS5 cA hvl
    subst hval
    obtain ⟨m, m'⟩ := blk1 hB
    go_wp2_with fail
    go_ret
    exact ⟨rfl, hbX⟩
end Go.Proofs.YtogidacejbjljaaGreatDoor.PTextChecks
end
section
/- Format, the program's and the reference's: the canonical text of a cue. -/
set_option linter.unusedVariables false
set_option linter.unusedSimpArgs false
namespace Go.Proofs.YtogidacejbjljaaGreatDoor.PTextChecks
open Go Go.Den Go.RowKit Go.Mix Go.Own Go.Proofs.YtogidacejbjljaaGreatDoor Go.Proofs.YtogidacejbjljaaGreatDoorW.PrintWords Go.Proofs.YtogidacejbjljaaGreatDoorW.PrintLast Go.Proofs.YtogidacejbjljaaGreatDoorW.PrintMore
def frmE (a b c : Int) (l : List S42) : Int := checkS a b c l
def frmS (a b c : Int) (l : List S42) : ByteArray := if checkS a b c l = 0 then fmtS a b c l else ⟨#[]⟩
theorem head_sizes (a b c : Int) : ¬ (9223372036854775807 < 1 + (digS a.toNat).size) ∧ ¬ (9223372036854775807 < 1 + (digS a.toNat).size + 1) ∧ ¬ (9223372036854775807 < 1 + (digS a.toNat).size + 1 + (digS b.toNat).size) ∧ ¬ (9223372036854775807 < 1 + (digS a.toNat).size + 1 + (digS b.toNat).size + 1) ∧
    ¬ (9223372036854775807 < 1 + (digS a.toNat).size + 1 + (digS b.toNat).size + 1 + (digS c.toNat).size) ∧ ¬ (9223372036854775807 < 1 + (digS a.toNat).size + 1 + (digS b.toNat).size + 1 + (digS c.toNat).size + 1) := by
  have h1 := digS_size a.toNat
  have h2 := digS_size b.toNat
  have h3 := digS_size c.toNat
  omega
theorem headB_all {a b c : Int} (h : headB a b c = true) : (0 ≤ a ∧ a ≤ 100) ∧ (0 ≤ b ∧ b ≤ 100) ∧ 0 ≤ c ∧ c ≤ 100 := by
  unfold headB at h
  rw [Bool.and_eq_true, Bool.and_eq_true] at h
  have h1 := inB_true h.1
  have h2 := inB_true h.2.1
  have h3 := inB_true h.2.2
  omega
set_option maxHeartbeats 2000000 in
set_option maxRecDepth 100000 in
theorem tFormat_calls (a b c : Int) (A : Option Addr) (cap : Nat) (l : List S42) (w : World) (hr : Kd.C k42 w A l.length l) (hc : l.length ≤ cap) (hf : Fit l) (hT : Tab w) :
    Calls Tryz.prog 18 #[.agg #[.int .i64 a, .int .i64 b, .int .i64 c, .slice A l.length cap]] w fun e w' => e = .returned (.tuple #[.string (frmS a b c l), .int .i64 (frmE a b c l)]) ∧ Below w.heap.size w w' := by
  have cC := fun X h => tCheck_calls a b c A cap l X h hc hf
  obtain ⟨ec, hec⟩ : ∃ ec, checkS a b c l = ec := ⟨_, rfl⟩
  rw [hec] at cC
  go_enter Tryz.func18, Tryz.ntmps18
  cases hc0 : (ec != 0)
  case true =>
    have hne : checkS a b c l ≠ 0 := by rw [hec]; simpa using hc0
    have HE := Lib.hid (show frmE a b c l = ec from hec)
    have HN := Lib.hid (show frmS a b c l = ⟨#[]⟩ from if_neg hne)
    clear hec hne
    go_wp2_with (go_at_call 25; refine (cC _ (Kd.C_alloc hr _)).mono ?_; rintro e W1 ⟨rfl, hb1⟩)
    go_ret2
    exact ⟨by rw [HN.out, HE.out]; rfl, ((Below.refl _ w).alloc (Nat.le_refl _) _).trans (hb1.mono (by simp))⟩
  case false =>
    have hz : checkS a b c l = 0 := by rw [hec]; simpa using hc0
    obtain ⟨hhd, hl, hw, hok⟩ := checkS_ok hz
    obtain ⟨ha, hb, hc0'⟩ := headB_all hhd
    have HE := Lib.hid (show frmE a b c l = 0 from hz)
    have HN := Lib.hid (show frmS a b c l = fmtS a b c l from if_pos hz)
    clear hz hec
    go_wp2_with (go_at_call 25; refine (cC _ (Kd.C_alloc hr _)).mono ?_; rintro e W1 ⟨rfl, hb1⟩; obtain ⟨h0, h1, h2, h3⟩ := box4 hb1; have hr1 := Kd.C_below (Kd.C_alloc hr _) hb1)
    have hbw1 : Below w.heap.size w W1 := ((Below.refl _ w).alloc (Nat.le_refl _) _).trans (hb1.mono (by simp))
    have hT1 : Tab W1 := hT.below hbw1
    obtain ⟨z1, z2, z3, z4, z5, z6⟩ := head_sizes a b c
    have x0 := fun z : Ext W1 => z.atv h0
    have x1 := fun z : Ext W1 => z.atv h1
    have x2 := fun z : Ext W1 => z.atv h2
    refine wp_region_mix (C := fun w' => ∃ z : Ext W1, w' = z.w) [2, 7, 12] 2 (by kernel_rfl) (by kernel_rfl) (by kernel_rfl) ⟨⟨World.drew W1, (Below.refl _ _).drew⟩, rfl⟩ ?_
    have hbx : Below (World.heap W1).size W1 (World.drew W1) := (Below.refl _ _).drew
    refine mix_pure rfl (fun K hK => ?_)
    go_simp
    refine hK _ _ ?_
    clear hK K
    refine mix_pure rfl (fun K hK => ?_)
    go_simp
    refine hK _ _ ?_
    clear hK K
    refine mix_eff rfl (fun K hK => ?_)
    go_simp
    simp only [effUpon_enter]
    refine (itoa_calls a ha _ (hT1.below hbx)).mono ?_
    rintro e Wn ⟨rfl, hbn⟩
    have hbx := hbx.trans (hbn.mono hbx.size)
    refine ⟨_, rfl, ⟨⟨Wn, hbx⟩, rfl⟩, hK _ _ ?_⟩
    clear hK K
    refine mix_pure rfl (fun K hK => ?_)
    go_simp
    refine hK _ _ ?_
    clear hK K
    refine mix_pure rfl (fun K hK => ?_)
    go_simp
    refine hK _ _ ?_
    clear hK K
    refine mix_pure rfl (fun K hK => ?_)
    go_simp
    refine hK _ _ ?_
    clear hK K
    refine mix_pure rfl (fun K hK => ?_)
    go_simp
    refine hK _ _ ?_
    clear hK K
    refine mix_eff rfl (fun K hK => ?_)
    go_simp
    simp only [effUpon_enter]
    refine (itoa_calls b hb _ (hT1.below hbx)).mono ?_
    rintro e Wn ⟨rfl, hbn⟩
    have hbx := hbx.trans (hbn.mono hbx.size)
    refine ⟨_, rfl, ⟨⟨Wn, hbx⟩, rfl⟩, hK _ _ ?_⟩
    clear hK K
    refine mix_pure rfl (fun K hK => ?_)
    go_simp
    refine hK _ _ ?_
    clear hK K
    refine mix_pure rfl (fun K hK => ?_)
    go_simp
    refine hK _ _ ?_
    clear hK K
    refine mix_pure rfl (fun K hK => ?_)
    go_simp
    refine hK _ _ ?_
    clear hK K
    refine mix_pure rfl (fun K hK => ?_)
    go_simp
    refine hK _ _ ?_
    clear hK K
    refine mix_eff rfl (fun K hK => ?_)
    go_simp
    simp only [effUpon_enter]
    refine (itoa_calls c hc0' _ (hT1.below hbx)).mono ?_
    rintro e Wn ⟨rfl, hbn⟩
    have hbx := hbx.trans (hbn.mono hbx.size)
    refine ⟨_, rfl, ⟨⟨Wn, hbx⟩, rfl⟩, hK _ _ ?_⟩
    clear hK K
    refine mix_pure rfl (fun K hK => ?_)
    go_simp
    refine hK _ _ ?_
    clear hK K
    refine mix_pure rfl (fun K hK => ?_)
    go_simp
    refine hK _ _ ?_
    clear hK K
    refine mix_pure rfl (fun K hK => ?_)
    go_simp
    refine hK _ _ ?_
    clear hK K
    refine mix_nil ?_
    intro _
    have hbw2 : Below w.heap.size w Wn := hbw1.trans (hbx.mono hbw1.size)
    have k3 := cell_later hbx h3
    have hr2 := Kd.C_below hr1 hbx
    have hhd' : headS a b c = ((((((⟨#[123]⟩ ++ digS a.toNat) ++ ⟨#[44]⟩) ++ digS b.toNat) ++ ⟨#[44]⟩) ++ digS c.toNat) ++ ⟨#[125]⟩) := rfl
    rw [← hhd']
    clear hhd'
    clear hbx h0 h1 h2 h3 hr1 hr hb1 x0 x1 x2 cC z1 z2 z3 z4 z5 z6
    go_wp2_with fail
    go_loopw [5, 31] (fun s i wr => ∃ n : Nat, n ≤ l.length ∧ s = .string (fmtS a b c (l.take n)) ∧ i = .int .i64 n ∧ Below Wn.heap.size Wn wr) (fun _ i _ => l.length - (intOf i).toNat)
    case atStart => exact ⟨0, by omega, rfl, rfl, Below.refl _ _⟩
    case round =>
      obtain ⟨n, hn, rfl, rfl, hbr⟩ := hrel
      by_cases hlt : n < l.length
      · have hr3 := Kd.C_below hr2 hbr
        obtain ⟨ad, rfl, d0, d1, d2, d3, d4, d5⟩ := at_T42 hr3 (n : Int) (by omega) (by omega)
        obtain ⟨p, hp⟩ : ∃ p, rd_T42 l (n : Int) = p := ⟨_, rfl⟩
        rw [hp] at d0 d1 d2 d3 d4 d5
        simp only [Int.toNat_natCast] at d0 d1 d2 d3 d4 d5
        have hpg : l[n]? = some p := by rw [← hp]; simp [rd_T42, List.getElem?_eq_getElem hlt]
        have hpm := List.mem_of_getElem? hpg
        obtain ⟨hpt, hps⟩ := hok p hpm
        have hpsz := wordsLen_mem hpm
        have hb3 : 0 ≤ p.f1.f3 ∧ p.f1.f3 < 100 := by unfold styB at hps; rw [Bool.and_eq_true] at hps; have := inB_true hps.1; omega
        have hb4 : 0 ≤ p.f1.f4 ∧ p.f1.f4 < 100 := by unfold styB at hps; rw [Bool.and_eq_true] at hps; have := inB_true hps.2; omega
        have cT := fun X => tagged_calls p (by omega) hb3 hb4 X
        have hfs := fmtS_size a b c l n
        have hts := tagS_size p
        have hft := fmtS_take a b c l n p hpg
        generalize fmtS a b c (l.take n) = fs at hfs hft ⊢
        generalize tagS p = tp at cT hts hft
        have hcat : ¬ (9223372036854775807 < fs.size + tp.size) := by omega
        have wr1 : IntKind.i64.wrap ((n : Int) + 1) = (n : Int) + 1 := IntWalk.i64_in _ (by omega)
        have HF := Lib.hid hft
        clear hft hp hpg hpm hpt hps hfs hts
        go_wp2_with (go_at_call 54; refine (cT _).mono ?_; rintro e W4 ⟨rfl, hb4'⟩)
        go_roundw
        case rel => exact ⟨n + 1, by omega, by rw [HF.out], by go_num, hbr.trans (((Below.refl _ wr).alloc (Nat.le_refl _) _).mono hbr.size |>.trans (hb4'.mono (by have := hbr.size; simp; omega)))⟩
        case measure => (simp [intOf]; try omega)
      · obtain rfl : n = l.length := by omega
        rw [List.take_length]
        go_wp2_with fail
        go_ret2
        exact ⟨by rw [HN.out, HE.out]; rfl, hbw2.trans (hbr.mono hbw2.size)⟩
end Go.Proofs.YtogidacejbjljaaGreatDoor.PTextChecks
end
section
/- TextChecks' own function (7), by hand. -/
set_option linter.unusedVariables false
set_option linter.unusedSimpArgs false
namespace Go.Proofs.YtogidacejbjljaaGreatDoor.PTextChecks
open Go.RowKit Go.Mix Go.Proofs.YtogidacejbjljaaGreatDoorW.PrintWords Go.Proofs.YtogidacejbjljaaGreatDoorW.PrintLast Go.Proofs.YtogidacejbjljaaGreatDoorW.PrintMore
theorem eqp_self {l : List S42} (hl : l.length ≤ 140737488351232) : ∀ (d i k : Nat), i + d = l.length → d < k → r18_EqPieces.l0 k l l (i : Int) = some true := by
  intro d
  induction d with
  | zero =>
    intro i k hi hk
    obtain ⟨k, rfl⟩ : ∃ m, k = m + 1 := ⟨k - 1, by omega⟩
    unfold r18_EqPieces.l0
    rw [if_neg (by omega)]
  | succ d ih =>
    intro i k hi hk
    obtain ⟨k, rfl⟩ : ∃ m, k = m + 1 := ⟨k - 1, by omega⟩
    have hlt : i < l.length := by omega
    unfold r18_EqPieces.l0
    rw [if_pos (by omega), if_pos (by omega), if_pos (by omega), if_neg (by simp), wsucc hlt (by omega)]
    exact ih (i + 1) k (by omega) (by omega)
theorem same_self (a b c : Int) {l : List S42} (hl : l.length ≤ 140737488351232) : r18_Same.f (l.length + 1) a b c l a b c l = some true := by
  unfold r18_Same.f r18_EqPieces.f
  rw [if_pos rfl, if_pos rfl, if_pos rfl, if_pos rfl]
  rw [show (0 : Int) = ((0 : Nat) : Int) from rfl, eqp_self hl l.length 0 _ (by omega) (by omega)]
  rfl
theorem wordsLen_le {l : List S42} {B : Nat} : (∀ p ∈ l, p.f0.size ≤ B) → wordsLen l ≤ l.length * B := by
  induction l with
  | nil => intro _; simp [wordsLen]
  | cons p l ih =>
    intro h
    have h1 := h p (List.mem_cons_self ..)
    have h2 := ih fun q hq => h q (List.mem_cons_of_mem _ hq)
    simp only [wordsLen, List.map_cons, List.sum_cons, List.length_cons] at h2 ⊢
    rw [Nat.succ_mul]
    omega
def longB (l : List S42) : Bool := decide (400 < l.length) || decide (10000 < wordsLen l)
theorem long_run {l : List S42} (h : ∀ p ∈ l, p.f0.size ≤ 140737488351232) (a b c : Int) : w18_long.f (l.length + 1) a b c l = some (longB l) := by
  unfold w18_long.f longB
  by_cases hl : (l.length : Int) > 400
  · rw [if_pos hl, decide_eq_true (by omega)]; rfl
  · have h1 := wordsLen_le h
    have h2 : l.length * 140737488351232 ≤ 400 * 140737488351232 := Nat.mul_le_mul (by omega) (Nat.le_refl _)
    rw [if_neg hl, rWords_big (by omega) (by omega) a b c _ (by omega), decide_eq_false (p := 400 < l.length) (by omega)]
    simp only [Option.bind_some, wordsOf_size, Bool.false_or]
    congr 1
    rw [Bool.eq_iff_iff, decide_eq_true_iff, decide_eq_true_iff]
    omega
theorem normS_len (l : List S42) : (normS l).length ≤ wordsLen l := by
  rw [← pieces_letters, ← lettersOf_length]
  have := piecesS_len (lettersOf l) (lettersOf l).length
  rwa [List.take_length] at this
def LRel (w1 : World) (wr : World) : Prop := Below w1.heap.size w1 wr
end Go.Proofs.YtogidacejbjljaaGreatDoor.PTextChecks
end
section
/- TextBreaks' own function (8). -/
set_option linter.unusedVariables false
set_option linter.unusedSimpArgs false
namespace Go.Proofs.YtogidacejbjljaaGreatDoor.PTextChecks
open Go.RowKit Go.Mix Go.Own Go.Proofs.YtogidacejbjljaaGreatDoorW.PrintWords Go.Proofs.YtogidacejbjljaaGreatDoorW.PrintLast Go.Proofs.YtogidacejbjljaaGreatDoorW.PrintMore
end Go.Proofs.YtogidacejbjljaaGreatDoor.PTextChecks
end
section
/- TextWords' own function (9). -/
set_option linter.unusedVariables false
set_option linter.unusedSimpArgs false
namespace Go.Proofs.YtogidacejbjljaaGreatDoor.PTextChecks
open Go.RowKit Go.Mix Go.Own Go.Proofs.YtogidacejbjljaaGreatDoorW.PrintWords Go.Proofs.YtogidacejbjljaaGreatDoorW.PrintLast Go.Proofs.YtogidacejbjljaaGreatDoorW.PrintMore
theorem bs_extract1 (s : ByteArray) (j : Nat) (h : j < s.size) : bs (s.extract j (j + 1)) = [s[j]] := by
  unfold bs
  rw [ByteArray.data_extract, Array.toList_extract, List.extract_eq_take_drop, show j + 1 - j = 1 by omega]
  have h' : j < s.data.toList.length := by rw [Array.length_toList]; exact h
  rw [List.drop_eq_getElem_cons h', List.take_succ_cons, List.take_zero]
  rfl
end Go.Proofs.YtogidacejbjljaaGreatDoor.PTextChecks
end
section
/- The reference's Format. -/
set_option linter.unusedVariables false
set_option linter.unusedSimpArgs false
namespace Go.Proofs.YtogidacejbjljaaGreatDoor.PTextChecks
open Go Go.Den Go.RowKit Go.Mix Go.Own Go.Proofs.YtogidacejbjljaaGreatDoor Go.Proofs.YtogidacejbjljaaGreatDoorW.PrintWords Go.Proofs.YtogidacejbjljaaGreatDoorW.PrintLast Go.Proofs.YtogidacejbjljaaGreatDoorW.PrintMore
theorem around_t (n v s : ByteArray) : around true n v s = ((((((⟨#[60]⟩ ++ n) ++ v) ++ ⟨#[62]⟩) ++ s) ++ ⟨#[60, 47]⟩) ++ n) ++ ⟨#[62]⟩ := rfl
theorem around_f (n v s : ByteArray) : around false n v s = s := rfl
theorem bs_lit (a : Array UInt8) : bs ⟨a⟩ = a.toList := rfl
theorem box4' (w : World) (v0 v1 v2 v3 : Value) : (w.alloc (.cells #[v0, v1, v2, v3] 25)).cell? ⟨w.heap.size, 0, none⟩ = some v0 ∧ (w.alloc (.cells #[v0, v1, v2, v3] 25)).cell? ⟨w.heap.size, 1, none⟩ = some v1 ∧ (w.alloc (.cells #[v0, v1, v2, v3] 25)).cell? ⟨w.heap.size, 2, none⟩ = some v2 ∧ (w.alloc (.cells #[v0, v1, v2, v3] 25)).cell? ⟨w.heap.size, 3, none⟩ = some v3 := by
  exact (blk4 (heap_alloc_new w (.cells #[v0, v1, v2, v3] 25))).1
set_option maxHeartbeats 8000000 in
set_option maxRecDepth 100000 in
theorem rformatted_calls (a b c : Int) (A : Option Addr) (cap : Nat) (l : List S42) (w : World) (hr : Kd.C k42 w A l.length l) (hc : l.length ≤ cap) (hhd : headB a b c = true) (hl : l.length ≤ 100) (hw : wordsLen l ≤ 2000) (hok : ∀ p ∈ l, isTextB p.f0 = true ∧ styB p.f1 = true) :
    Calls Tryz.prog 56 #[.agg #[.int .i64 a, .int .i64 b, .int .i64 c, .slice A l.length cap]] w fun e w' => e = .returned (.string (fmtS a b c l)) ∧ Below w.heap.size w w' := by
  obtain ⟨ha, hb, hc0⟩ := headB_all hhd
  go_enter Tryz.func56, Tryz.ntmps56
  go_wp2_with fail
  obtain ⟨h0, h1, h2, h3⟩ := box4' w (.int .i64 a) (.int .i64 b) (.int .i64 c) (.slice A l.length cap)
  have hbw1 : Below w.heap.size w (w.alloc (.cells #[.int .i64 a, .int .i64 b, .int .i64 c, .slice A l.length cap] 25)) := (Below.refl _ w).alloc (Nat.le_refl _) _
  have hr1 := Kd.C_alloc hr (.cells #[.int .i64 a, .int .i64 b, .int .i64 c, .slice A l.length cap] 25)
  generalize w.alloc (.cells #[.int .i64 a, .int .i64 b, .int .i64 c, .slice A l.length cap] 25) = W1 at h0 h1 h2 h3 hbw1 hr1 ⊢
  obtain ⟨z1, z2, z3, z4, z5, z6⟩ := head_sizes a b c
  have x0 := fun z : Ext W1 => z.atv h0
  have x1 := fun z : Ext W1 => z.atv h1
  have x2 := fun z : Ext W1 => z.atv h2
  refine wp_region_mix (C := fun w' => ∃ z : Ext W1, w' = z.w) [2, 7, 12] 2 (by kernel_rfl) (by kernel_rfl) (by kernel_rfl) ⟨⟨World.drew W1, (Below.refl _ _).drew⟩, rfl⟩ ?_
  have hbx : Below (World.heap W1).size W1 (World.drew W1) := (Below.refl _ _).drew
  refine mix_pure rfl (fun K hK => ?_)
  go_simp
  refine hK _ _ ?_
  clear hK K
  refine mix_pure rfl (fun K hK => ?_)
  go_simp
  refine hK _ _ ?_
  clear hK K
  refine mix_eff rfl (fun K hK => ?_)
  go_simp
  simp only [effUpon_enter]
  refine (digits_calls a ha _).mono ?_
  rintro e Wn ⟨rfl, hbn⟩
  have hbx := hbx.trans (hbn.mono hbx.size)
  refine ⟨_, rfl, ⟨⟨Wn, hbx⟩, rfl⟩, hK _ _ ?_⟩
  clear hK K
  refine mix_pure rfl (fun K hK => ?_)
  go_simp
  refine hK _ _ ?_
  clear hK K
  refine mix_pure rfl (fun K hK => ?_)
  go_simp
  refine hK _ _ ?_
  clear hK K
  refine mix_pure rfl (fun K hK => ?_)
  go_simp
  refine hK _ _ ?_
  clear hK K
  refine mix_pure rfl (fun K hK => ?_)
  go_simp
  refine hK _ _ ?_
  clear hK K
  refine mix_eff rfl (fun K hK => ?_)
  go_simp
  simp only [effUpon_enter]
  refine (digits_calls b hb _).mono ?_
  rintro e Wn ⟨rfl, hbn⟩
  have hbx := hbx.trans (hbn.mono hbx.size)
  refine ⟨_, rfl, ⟨⟨Wn, hbx⟩, rfl⟩, hK _ _ ?_⟩
  clear hK K
  refine mix_pure rfl (fun K hK => ?_)
  go_simp
  refine hK _ _ ?_
  clear hK K
  refine mix_pure rfl (fun K hK => ?_)
  go_simp
  refine hK _ _ ?_
  clear hK K
  refine mix_pure rfl (fun K hK => ?_)
  go_simp
  refine hK _ _ ?_
  clear hK K
  refine mix_pure rfl (fun K hK => ?_)
  go_simp
  refine hK _ _ ?_
  clear hK K
  refine mix_eff rfl (fun K hK => ?_)
  go_simp
  simp only [effUpon_enter]
  refine (digits_calls c hc0 _).mono ?_
  rintro e Wn ⟨rfl, hbn⟩
  have hbx := hbx.trans (hbn.mono hbx.size)
  refine ⟨_, rfl, ⟨⟨Wn, hbx⟩, rfl⟩, hK _ _ ?_⟩
  clear hK K
  refine mix_pure rfl (fun K hK => ?_)
  go_simp
  refine hK _ _ ?_
  clear hK K
  refine mix_pure rfl (fun K hK => ?_)
  go_simp
  refine hK _ _ ?_
  clear hK K
  refine mix_pure rfl (fun K hK => ?_)
  go_simp
  refine hK _ _ ?_
  clear hK K
  refine mix_nil ?_
  intro _
  have hbw2 : Below w.heap.size w Wn := hbw1.trans (hbx.mono hbw1.size)
  have k3 := cell_later hbx h3
  have hr2 := Kd.C_below hr1 hbx
  have hhd' : headS a b c = ((((((⟨#[123]⟩ ++ digS a.toNat) ++ ⟨#[44]⟩) ++ digS b.toNat) ++ ⟨#[44]⟩) ++ digS c.toNat) ++ ⟨#[125]⟩) := rfl
  rw [← hhd']
  clear hhd' hbx h0 h1 h2 h3 hr1 hr hbw1 x0 x1 x2 z1 z2 z3 z4 z5 z6
  go_wp2_with fail
  go_loopw [3, 4] (fun s i wr => ∃ n : Nat, n ≤ l.length ∧ s = .string (fmtS a b c (l.take n)) ∧ i = .int .i64 n ∧ Below Wn.heap.size Wn wr) (fun _ i _ => l.length - (intOf i).toNat)
  case atStart => exact ⟨0, by omega, rfl, rfl, Below.refl _ _⟩
  case round =>
    obtain ⟨n, hn, rfl, rfl, hbr⟩ := hrel
    have j3 := cell_later hbr k3
    by_cases hlt : n < l.length
    · have hr3 := Kd.C_below hr2 hbr
      obtain ⟨ad, rfl, d0, d1, d2, d3, d4, d5⟩ := at_T42 hr3 (n : Int) (by omega) (by omega)
      obtain ⟨p, hp⟩ : ∃ p, rd_T42 l (n : Int) = p := ⟨_, rfl⟩
      rw [hp] at d0 d1 d2 d3 d4 d5
      simp only [Int.toNat_natCast] at d0 d1 d2 d3 d4 d5
      have hpg : l[n]? = some p := by rw [← hp]; simp [rd_T42, List.getElem?_eq_getElem hlt]
      have hpm := List.mem_of_getElem? hpg
      obtain ⟨hpt, hps⟩ := hok p hpm
      have hpsz := wordsLen_mem hpm
      have hb3 : 0 ≤ p.f1.f3 ∧ p.f1.f3 ≤ 100 := by unfold styB at hps; rw [Bool.and_eq_true] at hps; have := inB_true hps.1; omega
      have hb4 : 0 ≤ p.f1.f4 ∧ p.f1.f4 ≤ 100 := by unfold styB at hps; rw [Bool.and_eq_true] at hps; have := inB_true hps.2; omega
      have hfs := fmtS_size a b c l n
      have hts := tagS_size p
      have hft := fmtS_take a b c l n p hpg
      generalize fmtS a b c (l.take n) = fs at hfs hft ⊢
      have wr1 : IntKind.i64.wrap ((n : Int) + 1) = (n : Int) + 1 := IntWalk.i64_in _ (by omega)
      have HF := Lib.hid hft
      have hbP := heap_alloc_new wr (.cells #[.string p.f0, .bool p.f1.f0, .bool p.f1.f1, .bool p.f1.f2, .int .i64 p.f1.f3, .int .i64 p.f1.f4] 42)
      have hbr2 : Below Wn.heap.size Wn (wr.alloc (.cells #[.string p.f0, .bool p.f1.f0, .bool p.f1.f1, .bool p.f1.f2, .int .i64 p.f1.f3, .int .i64 p.f1.f4] 42)) := hbr.alloc hbr.size _
      clear hft hp hpg hpm hpt hps
      go_wp2_with fail
      generalize wr.alloc (.cells #[.string p.f0, .bool p.f1.f0, .bool p.f1.f1, .bool p.f1.f2, .int .i64 p.f1.f3, .int .i64 p.f1.f4] 42) = X at hbP hbr2 ⊢
      obtain ⟨bP, hbPe⟩ : ∃ bP, wr.heap.size = bP := ⟨_, rfl⟩
      rw [hbPe] at hbP ⊢
      clear hbr d0 d1 d2 d3 d4 d5 j3
      obtain ⟨m0, m1, m2, m3, m4, m5⟩ := blk6 hbP
      go_loopw [6, 7] (fun t k wi => ∃ (i : Nat) (tx : ByteArray), i ≤ p.f0.size ∧ t = .string tx ∧ k = .int .i64 i ∧ bs tx = escL ((bs p.f0).take i) ∧ wi = X) (fun _ k _ => p.f0.size - (intOf k).toNat)
      case atStart => exact ⟨0, ⟨#[]⟩, by omega, rfl, rfl, rfl, rfl⟩
      case round =>
        obtain ⟨i, tx, hi, rfl, rfl, htx, rfl⟩ := hrel
        have hel := (escL_len ((bs p.f0).take i)).2
        have htl : tx.size ≤ 5 * p.f0.size := by rw [← bs_length, htx]; have : ((bs p.f0).take i).length ≤ p.f0.size := by rw [List.length_take, bs_length]; omega
                                                 omega
        by_cases hil : i < p.f0.size
        · have hsn := take_succ_bs p.f0 i hil
          have wr2 : IntKind.i64.wrap ((i : Int) + 1) = (i : Int) + 1 := IntWalk.i64_in _ (by omega)
          have w1 : (0 : Int) ≤ (i : Int) := by omega
          have w2 : (i : Int) ≤ (i : Int) + 1 := by omega
          have w3 : (i : Int) + 1 ≤ (p.f0.size : Int) := by omega
          have w4 : i + 1 ≤ p.f0.size := by omega
          cases h60 : (((p.f0[i]).toNat : Int) == 60)
          case true =>
            have hsi : p.f0[i] = 60 := c60 (by simpa using h60)
            have hT2 : escL ((bs p.f0).take (i + 1)) = bs tx ++ [38, 108, 116, 59] := by rw [hsn, escL_snoc, hsi, ← htx]; rfl
            have HT2 := Lib.hid hT2
            clear hT2 hsn hsi htx hel
            have hcat : ¬ (9223372036854775807 < tx.size + 4) := by omega
            go_wp2_with fail
            go_roundw
            case rel => exact ⟨i + 1, tx ++ ⟨#[38, 108, 116, 59]⟩, by omega, rfl, by go_num, by rw [HT2.out, bs_append]; rfl, trivial⟩
            case measure => (simp [intOf]; try omega)
          case false =>
            cases h38 : (((p.f0[i]).toNat : Int) == 38)
            case true =>
              have hsi : p.f0[i] = 38 := c38 (by simpa using h38)
              have hT2 : escL ((bs p.f0).take (i + 1)) = bs tx ++ [38, 97, 109, 112, 59] := by rw [hsn, escL_snoc, hsi, ← htx]; rfl
              have HT2 := Lib.hid hT2
              clear hT2 hsn hsi htx hel
              have hcat : ¬ (9223372036854775807 < tx.size + 5) := by omega
              go_wp2_with fail
              go_roundw
              case rel => exact ⟨i + 1, tx ++ ⟨#[38, 97, 109, 112, 59]⟩, by omega, rfl, by go_num, by rw [HT2.out, bs_append]; rfl, trivial⟩
              case measure => (simp [intOf]; try omega)
            case false =>
              have hpl : plainB p.f0[i] = true := by
                have e1 : p.f0[i] ≠ 38 := fun h => by rw [h] at h38; exact absurd h38 (by decide)
                have e2 : p.f0[i] ≠ 60 := fun h => by rw [h] at h60; exact absurd h60 (by decide)
                unfold plainB
                simp [e1, e2]
              have hT2 : escL ((bs p.f0).take (i + 1)) = bs tx ++ [p.f0[i]] := by rw [hsn, escL_snoc, escB_plain hpl, ← htx]
              have HT2 := Lib.hid hT2
              have hx1 : (p.f0.extract i (i + 1)).size = 1 := by rw [← bs_length, bs_extract1 p.f0 i hil]; rfl
              have hcat : ¬ (9223372036854775807 < tx.size + (p.f0.extract i (i + 1)).size) := by omega
              have hcat2 : tx.size + (p.f0.extract i (i + 1)).size ≤ 9223372036854775807 := by omega
              clear hT2 hsn htx hel hpl hx1
              go_wp2_with fail
              go_roundw
              case rel => exact ⟨i + 1, tx ++ p.f0.extract i (i + 1), by omega, rfl, by go_num, by rw [HT2.out, bs_append, bs_extract1 p.f0 i hil], trivial⟩
              case measure => (simp [intOf]; try omega)
        · obtain rfl : i = p.f0.size := by omega
          rw [List.take_of_length_le (by rw [bs_length]; omega)] at htx
          have htx' : tx = escS p.f0 := bs_inj (by rw [htx, bs_escS])
          clear htx hel
          obtain ⟨tg, htg⟩ : ∃ tg, tagS p = tg := ⟨_, rfl⟩
          have HG := Lib.hid htg
          rw [htg] at hts HF
          have HX := Lib.hid htx'
          clear htg htx'
          have d3 := digS_size p.f1.f3.toNat
          have d4 := digS_size p.f1.f4.toNat
          go_wp2_with (go_at_call 96; refine (digits_calls _ ?_ _).mono ?_; (first | exact hb3 | exact hb4); rintro e W3 ⟨rfl, hb3'⟩; have m4 := cell_later hb3' m4; have m5 := cell_later hb3' m5; have hbr2 := hbr2.trans (hb3'.mono hbr2.size))
          all_goals (refine ⟨⟨n + 1, by omega, congrArg Value.string ?_, by go_num, hbr2⟩, by simp [intOf]; try omega⟩)
          all_goals (rw [HF.out, ← HG.out, tagS, ← HX.out])
          all_goals (first | (have q : (p.f1.f4 != 15) = true := by assumption); rw [q]; clear q | (have q : (p.f1.f4 != 15) = false := by assumption); rw [q]; clear q | (have q : (p.f1.f4 != 15) = false := by (apply Bool.eq_false_iff.2; assumption)); rw [q]; clear q)
          all_goals (first | (have q : (p.f1.f3 != 2) = true := by assumption); rw [q]; clear q | (have q : (p.f1.f3 != 2) = false := by assumption); rw [q]; clear q | (have q : (p.f1.f3 != 2) = false := by (apply Bool.eq_false_iff.2; assumption)); rw [q]; clear q)
          all_goals (first | (have q : p.f1.f0 = true := by assumption); rw [q]; clear q | (have q : p.f1.f0 = false := by assumption); rw [q]; clear q | (have q : p.f1.f0 = false := by (apply Bool.eq_false_iff.2; assumption)); rw [q]; clear q)
          all_goals (first | (have q : p.f1.f1 = true := by assumption); rw [q]; clear q | (have q : p.f1.f1 = false := by assumption); rw [q]; clear q | (have q : p.f1.f1 = false := by (apply Bool.eq_false_iff.2; assumption)); rw [q]; clear q)
          all_goals (first | (have q : p.f1.f2 = true := by assumption); rw [q]; clear q | (have q : p.f1.f2 = false := by assumption); rw [q]; clear q | (have q : p.f1.f2 = false := by (apply Bool.eq_false_iff.2; assumption)); rw [q]; clear q)
          all_goals (simp only [around_t, around_f]; try (apply bs_inj; simp [bs_append, bs_lit]))
    · obtain rfl : n = l.length := by omega
      rw [List.take_length]
      go_wp2_with fail
      go_ret
      exact ⟨rfl, hbw2.trans (hbr.mono hbw2.size)⟩
end Go.Proofs.YtogidacejbjljaaGreatDoor.PTextChecks
end
section
/- Shift, the program's: a cue with another colour. -/
set_option linter.unusedVariables false
set_option linter.unusedSimpArgs false
namespace Go.Own
theorem flatMap_set' {α β : Type} (f : α → List β) (sz : Nat) (hsz : ∀ x, (f x).length = sz) : ∀ (l : List α) (k i : Nat) (a a' : α) (u : β), l[k]? = some a → i < sz → f a' = (f a).set i u → (l.flatMap f).set (k * sz + i) u = (l.set k a').flatMap f
  | [], _, _, _, _, _, h, _, _ => by simp at h
  | x :: l, 0, i, a, a', u, h, hi, hf => by
    obtain rfl : x = a := by simpa using h
    rw [List.flatMap_cons, List.set_cons_zero, List.flatMap_cons, hf, Nat.zero_mul, Nat.zero_add, List.set_append_left _ _ (by rw [hsz]; exact hi)]
  | x :: l, k + 1, i, a, a', u, h, hi, hf => by
    have := flatMap_set' f sz hsz l k i a a' u (by simpa using h) hi hf
    rw [List.flatMap_cons, List.set_cons_succ, List.flatMap_cons, ← this, List.set_append_right _ _ (by rw [hsz, Nat.succ_mul]; omega), hsz]
    congr 2
    rw [Nat.succ_mul]
    omega
/-- A row that a call owns, written at one cell. -/
theorem Lies.put' {w : World} {base : Nat} {e : TypeId} {size : Nat} {v : Value} {n : Nat} {xs : List Value} (h : Lies w base e size v n xs) (hn : 0 < n) :
    ∃ g off c, v = .slice (some ⟨g, off, none⟩) n c ∧ n ≤ c ∧ base ≤ g ∧ g < w.heap.size ∧ (∃ cur, w.heap[g]? = some (.cells cur e (0, 0))) ∧ (∀ k, w.frozen? ⟨g, k, none⟩ = false) ∧ (∀ j u, xs[j]? = some u → w.cell? ⟨g, off + j, none⟩ = some u) ∧
      ∀ j u, j < n * size → Lies (w.setCell ⟨g, off + j, none⟩ u) base e size v n (xs.set j u) := by
  rcases h.2 with ⟨_, h0⟩ | ⟨g, off, cap, cur, rfl, hb, hg, hnc, hcm, hcs, ht⟩
  · omega
  · refine ⟨g, off, cap, rfl, hnc, hb, (Array.getElem?_eq_some_iff.1 hg).1, ⟨cur, hg⟩, fun k => by simp [World.frozen?, hg], fun j u hu => ?_, fun j u hj => ?_⟩
    · rw [← ht, List.getElem?_take] at hu
      split at hu
      · rw [List.getElem?_drop] at hu
        simpa [World.cell?, hg] using hu
      · cases hu
    · refine ⟨by rw [List.length_set, h.1], .inr ⟨g, off, cap, _, rfl, hb, set1 hg, hnc, hcm, by simpa using hcs, ?_⟩⟩
      rw [← ht, Array.toList_setIfInBounds, List.drop_set, if_neg (by omega), Nat.add_sub_cancel_left, List.take_set]
end Go.Own
namespace Go.Proofs.YtogidacejbjljaaGreatDoor.PTextChecks
open Go.RowKit Go.Mix Go.Own Go.Proofs.YtogidacejbjljaaGreatDoorW.PrintWords Go.Proofs.YtogidacejbjljaaGreatDoorW.PrintLast Go.Proofs.YtogidacejbjljaaGreatDoorW.PrintMore
/-- Another colour. -/
def recS (f t : Int) (s : S40) : S40 := if s.f4 = f then { s with f4 := t } else s
def recP (f t : Int) (p : S42) : S42 := { p with f1 := recS f t p.f1 }
def recL (f t : Int) (x : S81) : S81 := { x with f1 := recS f t x.f1 }
def shfE (a b c : Int) (l : List S42) (f t : Int) : Int := if checkS a b c l = 0 then (if inB f 0 15 && inB t 0 15 then 0 else 180) else checkS a b c l
def shfL (a b c : Int) (l : List S42) (f t : Int) : List S42 := if shfE a b c l f t = 0 then normS (l.map (recP f t)) else []
def shfN (a b c : Int) (l : List S42) (f t n : Int) : Int := if shfE a b c l f t = 0 then n else 0
def ShfPost (a b c : Int) (l : List S42) (f t : Int) (w : World) (e : Ending) (w' : World) : Prop :=
  ∃ v, e = .returned (.tuple #[.agg #[.int .i64 (shfN a b c l f t a), .int .i64 (shfN a b c l f t b), .int .i64 (shfN a b c l f t c), v], .int .i64 (shfE a b c l f t)]) ∧ RowOut v (shfL a b c l f t) w' ∧ Below w.heap.size w w'
theorem letters_rec (f t : Int) (l : List S42) : lettersOf (l.map (recP f t)) = (lettersOf l).map (recL f t) := by
  unfold lettersOf
  rw [List.flatMap_map, List.map_flatMap]
  unfold List.flatMap
  congr 1
  refine List.map_congr_left fun p _ => ?_
  rw [List.map_map]
  rfl
theorem wl_rec (f t : Int) (l : List S42) : wordsLen (l.map (recP f t)) = wordsLen l := by unfold wordsLen; rw [List.map_map]; rfl
theorem RowOut.empty (w : World) : RowOut (.slice none 0 0) [] w := ⟨none, 0, rfl, Nat.le_refl _, ⟨rfl, by simp, fun h => absurd h (by simp)⟩⟩
/-- Pieces recoloured up to the n-th. -/
def recTo (f t : Int) (n : Nat) (l : List S42) : List S42 := (l.take n).map (recP f t) ++ l.drop n
theorem recTo_zero (f t : Int) (l : List S42) : recTo f t 0 l = l := by simp [recTo]
theorem recTo_all (f t : Int) (l : List S42) : recTo f t l.length l = l.map (recP f t) := by simp [recTo]
theorem recTo_get {f t : Int} {n : Nat} {l : List S42} {p : S42} (hp : l[n]? = some p) : (recTo f t n l)[n]? = some p := by
  have hi : n < l.length := (List.getElem?_eq_some_iff.1 hp).1
  unfold recTo
  rw [List.getElem?_append_right (by simp; omega), List.getElem?_drop]
  simp only [List.length_map, List.length_take]
  rw [show n + (n - min n l.length) = n by omega]
  exact hp
theorem recTo_set {f t : Int} {n : Nat} {l : List S42} {p : S42} (hp : l[n]? = some p) : (recTo f t n l).set n (recP f t p) = recTo f t (n + 1) l := by
  have hi : n < l.length := (List.getElem?_eq_some_iff.1 hp).1
  have he : l[n] = p := by rw [List.getElem?_eq_getElem hi] at hp; exact Option.some.inj hp
  unfold recTo
  rw [List.set_append_right _ _ (by simp; omega), List.take_succ_eq_append_getElem hi, List.map_append, List.append_assoc, he]
  congr 1
  simp only [List.length_map, List.length_take]
  rw [show n - min n l.length = 0 by omega, List.drop_eq_getElem_cons hi, List.set_cons_zero]
  rfl
theorem recTo_same {f t : Int} {n : Nat} {l : List S42} {p : S42} (hp : l[n]? = some p) (hc : p.f1.f4 ≠ f) : recTo f t (n + 1) l = recTo f t n l := by
  rw [← recTo_set hp]
  have e : recP f t p = p := by unfold recP recS; rw [if_neg hc]
  rw [e]
  have h1 := recTo_get (f := f) (t := t) hp
  obtain ⟨h2, h3⟩ := List.getElem?_eq_some_iff.1 h1
  rw [← h3]
  exact List.set_getElem_self h2
theorem flat_colour {L : List S42} {k : Nat} {p : S42} {f t : Int} (hp : L[k]? = some p) (hc : p.f1.f4 = f) : (flat L).set (k * 6 + 5) (.int .i64 t) = flat (L.set k (recP f t p)) := by
  unfold flat
  refine flatMap_set' enc 6 (fun _ => rfl) L k 5 p _ _ hp (by omega) ?_
  unfold recP recS
  rw [if_pos hc]
  rfl
theorem own_lies {w : World} {g : Nat} {l : List S42} {cap base : Nat} (h : Own g l cap w) (hb : base ≤ g) (hc : cap ≤ maxLen) : Lies w base 42 6 (.slice (some ⟨g, 0, none⟩) l.length cap) l.length (flat l) := by
  obtain ⟨cur, hg, hs, hle, _, hl⟩ := h
  refine ⟨flat_length l, .inr ⟨g, 0, cap, cur, rfl, hb, hg, hle, hc, by omega, ?_⟩⟩
  apply List.ext_getElem?
  intro j
  rw [List.drop_zero]
  by_cases hj : j < l.length * 6
  · obtain ⟨q, r, hr, rfl⟩ : ∃ q r, r < 6 ∧ j = q * 6 + r := ⟨j / 6, j % 6, Nat.mod_lt _ (by omega), by omega⟩
    have hq : q < l.length := by omega
    have hgt := flat_get l q r _ (List.getElem?_eq_getElem hq) hr
    have hr6 : r < (enc l[q]).length := hr
    rw [List.getElem?_take_of_lt hj, hgt, List.getElem?_eq_getElem hr6, Array.getElem?_toList]
    exact hl q _ (List.getElem?_eq_getElem hq) r _ (List.getElem?_eq_getElem hr6)
  · rw [List.getElem?_eq_none (by rw [List.length_take]; omega), List.getElem?_eq_none (by rw [flat_length]; omega)]
theorem clone_lies (A : Option Addr) (cap : Nat) (l : List S42) (w : World) (hr : Kd.C k42 w A l.length l) (hl : l.length ≤ 1000000) :
    Calls Tryz.prog 58 #[.slice A l.length cap] w fun e w' => ∃ A' c', e = .returned (.slice A' l.length c') ∧ Lies w' w.heap.size 42 6 (.slice A' l.length c') l.length (flat l) ∧ Below w.heap.size w w' := by
  refine (clone_calls A cap l w hr hl).mono ?_
  rintro e W3 ⟨⟨rfl, rfl⟩ | ⟨g, cap', rfl, hg1, hg2, hown⟩, hb3⟩
  · exact ⟨none, 0, rfl, Lies.nil _ _ _ _, hb3⟩
  · have hcm : cap' ≤ maxLen := by obtain ⟨_, _, _, _, h, _⟩ := hown; unfold maxLen; omega
    exact ⟨_, _, rfl, own_lies hown hg1 hcm, hb3⟩
theorem results_cell_row_tmp {P : Program} {fn : Func} {p u : Tmp} {ty : TypeId} (h : fn.results = #[.cell p ty, .tmp u]) (tmps : Array Value) (w : World) (g : Nat) (t : TypeId) (cs : Array Value) (fr : Nat × Nat) (d : TypeDesc)
    (hp : tmps.getD p undef = .pointer (some ⟨g, 0, none⟩)) (hg : w.heap[g]? = some (.cells cs t fr))
    (hu : P.underlying ty = some d) (hd : (match d with | .struct _ | .array _ _ => true | _ => false) = true) (hi : (P.info? ty).map (·.size) = some cs.size) :
    (results fn tmps).run P w = .ok (.tuple #[.agg cs, tmps.getD u undef]) w := by
  rw [results_cell_tmp h, hp]
  simp [asAddr, run_loadVar_row w g t ty cs fr d hg hu hd hi, Result.andThen]
/-- A row of pieces lies in no block that holds no string. -/
theorem C42_away {W X : World} {A : Option Addr} {n : Nat} {l : List S42} (h : Kd.C k42 W A n l) {b : Nat} {cs : Array Value} {t : TypeId} (hb : W.heap[b]? = some (.cells cs t (0, 0))) (hns : ∀ (i : Nat) (s : ByteArray), cs[i]? ≠ some (.string s)) (hX : ∀ k, k ≠ b → X.heap[k]? = W.heap[k]?) : Kd.C k42 X A n l := by
  obtain ⟨h1, h2, h3⟩ := h
  refine ⟨h1, h2, fun hp => ?_⟩
  obtain ⟨ad, ha, hc⟩ := h3 hp
  refine ⟨ad, ha, fun j p hj => ?_⟩
  obtain ⟨c, hl, hK, hcell⟩ := hc j p hj
  obtain rfl := k42_open hK
  refine ⟨_, hl, k42_mk X p, fun i u hu => ?_⟩
  have hadd : ∀ m, (ad.add m).block = ad.block := fun m => by unfold Addr.add; split <;> rfl
  have hne : ad.block ≠ b := by
    intro e
    have h0 := hcell 0 (.string p.f0) rfl
    unfold World.cell? at h0
    rw [hadd, e, hb] at h0
    simp only at h0
    split at h0
    · cases h0
    · exact hns _ _ h0
  have := hcell i u hu
  unfold World.cell? at this ⊢
  rw [hadd] at this ⊢
  rw [hX _ hne]
  exact this
theorem box_set4 {W : World} {b : Nat} {cs : Array Value} {v0 v1 v2 v3 : Value} (h : W.heap[b]? = some (.cells cs 25 (0, 0))) (hs : cs.size = 4) :
    ((((W.setCell ⟨b, 0, none⟩ v0).setCell ⟨b, 1, none⟩ v1).setCell ⟨b, 2, none⟩ v2).setCell ⟨b, 3, none⟩ v3).heap[b]? = some (.cells #[v0, v1, v2, v3] 25 (0, 0)) := by
  have := heap_set (i := 3) (v := v3) (heap_set (i := 2) (v := v2) (heap_set (i := 1) (v := v1) (heap_set (i := 0) (v := v0) h)))
  rw [this]
  obtain ⟨l⟩ := cs
  match l, hs with
  | [a, b, c, d], _ => rfl
set_option maxHeartbeats 4000000 in
set_option maxRecDepth 100000 in
theorem tShift_calls (a b c : Int) (A : Option Addr) (cap : Nat) (l : List S42) (f t : Int) (w : World) (hr : Kd.C k42 w A l.length l) (hc : l.length ≤ cap) (hf : Fit l) :
    Calls Tryz.prog 21 #[.agg #[.int .i64 a, .int .i64 b, .int .i64 c, .slice A l.length cap], .int .i64 f, .int .i64 t] w (ShfPost a b c l f t w) := by
  unfold ShfPost
  have cC := fun X h => tCheck_calls a b c A cap l X h hc hf
  obtain ⟨ec, hec⟩ : ∃ ec, checkS a b c l = ec := ⟨_, rfl⟩
  rw [hec] at cC
  have g0 : Kd.C k42 ((w.alloc (.cells #[.int .i64 a, .int .i64 b, .int .i64 c, .slice A l.length cap] 25)).alloc (.cells #[.int .i64 0, .int .i64 0, .int .i64 0, .slice none 0 0] 25)) A l.length l := Kd.C_alloc (Kd.C_alloc hr _) _
  obtain ⟨z0, z1, z2⟩ := two_new w (Obj.cells #[.int .i64 a, .int .i64 b, .int .i64 c, .slice A l.length cap] 25) (Obj.cells #[.int .i64 0, .int .i64 0, .int .i64 0, .slice none 0 0] 25)
  have hbW : Below w.heap.size w ((w.alloc (.cells #[.int .i64 a, .int .i64 b, .int .i64 c, .slice A l.length cap] 25)).alloc (.cells #[.int .i64 0, .int .i64 0, .int .i64 0, .slice none 0 0] 25)) := ((Below.refl _ w).alloc (Nat.le_refl _) _).alloc (by simp) _
  go_enter Tryz.func21, Tryz.ntmps21
  go_wp2_with fail
  generalize (w.alloc (.cells #[.int .i64 a, .int .i64 b, .int .i64 c, .slice A l.length cap] 25)).alloc (.cells #[.int .i64 0, .int .i64 0, .int .i64 0, .slice none 0 0] 25) = W at *
  go_at_call 25
  refine (cC _ g0).mono ?_
  rintro e W1 ⟨rfl, hb1⟩
  have hbw1 : Below w.heap.size w W1 := hbW.trans (hb1.mono hbW.size)
  have y0 := (hb1.block w.heap.size (by omega)).trans z0
  have y1 := (hb1.block (w.heap.size + 1) (by omega)).trans z1
  have hr1 := Kd.C_below g0 hb1
  obtain ⟨⟨p0, p1, p2, p3⟩, q0, q1, q2, q3⟩ := blk4 y0
  obtain ⟨⟨r0, r1, r2, r3⟩, s0, s1, s2, s3⟩ := blk4 y1
  have fin0 : ∀ X : World, X = (((W1.setCell ⟨w.heap.size + 1, 0, none⟩ (.int .i64 0)).setCell ⟨w.heap.size + 1, 1, none⟩ (.int .i64 0)).setCell ⟨w.heap.size + 1, 2, none⟩ (.int .i64 0)).setCell ⟨w.heap.size + 1, 3, none⟩ (.slice none 0 0) →
      X.heap[w.heap.size + 1]? = some (.cells #[.int .i64 0, .int .i64 0, .int .i64 0, .slice none 0 0] 25 (0, 0)) ∧ Below w.heap.size w X := by
    rintro X rfl
    exact ⟨box_set4 y1 rfl, (((hbw1.setCell (p := ⟨w.heap.size + 1, 0, none⟩) (Nat.le_succ _) _).setCell (p := ⟨w.heap.size + 1, 1, none⟩) (Nat.le_succ _) _).setCell (p := ⟨w.heap.size + 1, 2, none⟩) (Nat.le_succ _) _).setCell (p := ⟨w.heap.size + 1, 3, none⟩) (Nat.le_succ _) _⟩
  clear g0 z0 z1 hb1 cC hbW hr
  cases hc0 : (ec != 0)
  case true =>
    have hne : checkS a b c l ≠ 0 := by rw [hec]; simpa using hc0
    have hE : shfE a b c l f t = ec := by unfold shfE; rw [if_neg hne, hec]
    have hE0 : ¬ shfE a b c l f t = 0 := by rw [hE, ← hec]; exact hne
    have hL : shfL a b c l f t = [] := if_neg hE0
    have hN : ∀ n, shfN a b c l f t n = 0 := fun n => if_neg hE0
    have HF := Lib.hid (And.intro hE (And.intro hL hN))
    clear hne hE hE0 hL hN hec
    go_wp2_with fail
    obtain ⟨f1, f2⟩ := fin0 _ rfl
    refine bodyPost_ret (results_cell_row_tmp rfl _ _ (w.heap.size + 1) 25 _ (0, 0) _ rfl f1 Tryz.underlying25 rfl (by kernel_rfl)) rfl ?_
    obtain ⟨h1, h2, h3⟩ := HF.out
    exact ⟨_, by rw [h1, h3, h3, h3]; rfl, by rw [h2]; exact RowOut.empty _, f2⟩
  case false =>
    have hz : checkS a b c l = 0 := by rw [hec]; simpa using hc0
    clear hec
    cases hg : (inB f 0 15 && inB t 0 15)
    case false =>
      have hE : shfE a b c l f t = 180 := by unfold shfE; rw [if_pos hz, hg]; rfl
      have hE0 : ¬ shfE a b c l f t = 0 := by rw [hE]; decide
      have hL : shfL a b c l f t = [] := if_neg hE0
      have hN : ∀ n, shfN a b c l f t n = 0 := fun n => if_neg hE0
      have HF := Lib.hid (And.intro hE (And.intro hL hN))
      clear hz hE hE0 hL hN
      cases hi1 : inB f 0 15
      all_goals (rw [hi1] at hg)
      all_goals (cases hi2 : inB t 0 15)
      all_goals (rw [hi2] at hg)
      all_goals (try (exact absurd hg (by decide)))
      all_goals clear hg
      all_goals
        go_wp2_with (go_at_call 57; refine (within_calls' _ _ _ _).mono ?_; rintro e W2 ⟨rfl, rfl⟩)
        obtain ⟨f1, f2⟩ := fin0 _ rfl
        refine bodyPost_ret (results_cell_row_tmp rfl _ _ (w.heap.size + 1) 25 _ (0, 0) _ rfl f1 Tryz.underlying25 rfl (by kernel_rfl)) rfl ?_
        obtain ⟨h1, h2, h3⟩ := HF.out
        exact ⟨_, by rw [h1, h3, h3, h3]; rfl, by rw [h2]; exact RowOut.empty _, f2⟩
    case true =>
      have hE : shfE a b c l f t = 0 := by unfold shfE; rw [if_pos hz, hg]; rfl
      have hL : shfL a b c l f t = normS (l.map (recP f t)) := if_pos hE
      have hN : ∀ n, shfN a b c l f t n = n := fun n => if_pos hE
      have HF := Lib.hid (And.intro hE (And.intro hL hN))
      rw [Bool.and_eq_true] at hg
      have hi1 := hg.1
      have hi2 := hg.2
      obtain ⟨hhd, hl1, hl2, hok⟩ := checkS_ok hz
      clear hE hL hN hz hg hhd hok fin0
      have cK := fun W (h : Kd.C k42 W A l.length l) => clone_lies A cap l W h (by omega)
      go_wp2_with (go_at_call 57; refine (within_calls' _ _ _ _).mono ?_; rintro e W2 ⟨rfl, rfl⟩)
      go_at_call 58
      refine (cK _ hr1).mono ?_
      rintro e W3 ⟨A3, c3, rfl, hL3, hb3⟩
      have hs2 := hb3.size
      have hsz := hbw1.size
      have x0 := (hb3.block w.heap.size (by have := (Array.getElem?_eq_some_iff.1 y0).1; omega)).trans y0
      have x1 := (hb3.block (w.heap.size + 1) (by have := (Array.getElem?_eq_some_iff.1 y1).1; omega)).trans y1
      have hlt1 := (Array.getElem?_eq_some_iff.1 y1).1
      have hbw3 : Below w.heap.size w W3 := hbw1.trans (hb3.mono hsz)
      obtain ⟨⟨p0, p1, p2, p3⟩, q0, q1, q2, q3⟩ := blk4 x0
      clear r0 r1 r2 r3 s0 s1 s2 s3 cK hr1 hb3
      go_wp2_with fail
      have k0 := heap_set (i := 3) (v := .slice A3 l.length c3) x0
      have k1 : (W3.setCell ⟨w.heap.size, 3, none⟩ (.slice A3 l.length c3)).heap[w.heap.size + 1]? = some (.cells #[.int .i64 0, .int .i64 0, .int .i64 0, .slice none 0 0] 25 (0, 0)) := (setCell_far _ _ (by omega)).trans x1
      have kL := hL3.keep (w' := W3.setCell ⟨w.heap.size, 3, none⟩ (.slice A3 l.length c3)) (fun k hk _ => setCell_far _ _ (by omega))
      have kb : Below w.heap.size w (W3.setCell ⟨w.heap.size, 3, none⟩ (.slice A3 l.length c3)) := hbw3.setCell (p := ⟨w.heap.size, 3, none⟩) (Nat.le_refl _) _
      generalize W3.setCell ⟨w.heap.size, 3, none⟩ (.slice A3 l.length c3) = W4 at *
      clear p0 p1 p2 p3 q0 q1 q2 q3 x0 x1 y0 y1 hL3 hbw3
      go_loopw [32] (fun i wr => ∃ n : Nat, n ≤ l.length ∧ i = .int .i64 n ∧ wr.heap[w.heap.size]? = some (.cells #[.int .i64 a, .int .i64 b, .int .i64 c, .slice A3 l.length c3] 25 (0, 0)) ∧ wr.heap[w.heap.size + 1]? = some (.cells #[.int .i64 0, .int .i64 0, .int .i64 0, .slice none 0 0] 25 (0, 0)) ∧ Lies wr W2.heap.size 42 6 (.slice A3 l.length c3) l.length (flat (recTo f t n l)) ∧ Below w.heap.size w wr) (fun i _ => l.length - (intOf i).toNat)
      case atStart => exact ⟨0, by omega, rfl, k0, k1, by rw [recTo_zero]; exact kL, kb⟩
      case round =>
        obtain ⟨n, hn, rfl, j0, j1, jL, jb⟩ := hrel
        obtain ⟨⟨p0, p1, p2, p3⟩, q0, q1, q2, q3⟩ := blk4 j0
        by_cases hlt : n < l.length
        · obtain ⟨g, off, c4, e4, hc4, hg1, hg2, _, hfz, hcl, hput⟩ := jL.put' (by omega)
          injection e4 with e5 e6 e7
          subst e5 e7
          have hpg : l[n]? = some l[n] := List.getElem?_eq_getElem hlt
          generalize l[n] = p at hpg
          have hcl5 := hcl (n * 6 + 5) (.int .i64 p.f1.f4) ((flat_get _ n 5 p (recTo_get hpg) (by omega)).trans rfl)
          have hfz5 := hfz (off + n * 6 + 1 + 4)
          have hp5 := hput (n * 6 + 5) (.int .i64 t) (by omega)
          have eo : off + (n * 6 + 5) = off + n * 6 + 1 + 4 := by omega
          rw [eo] at hcl5 hp5
          have wr1 : IntKind.i64.wrap ((n : Int) + 1) = (n : Int) + 1 := IntWalk.i64_in _ (by omega)
          cases hcol : (p.f1.f4 == f)
          case false =>
            have hsm := recTo_same (t := t) hpg (by simpa using hcol)
            have HS := Lib.hid hsm
            clear hp5 hput hsm hcl hfz
            go_wp2_with fail
            go_roundw
            case rel => exact ⟨n + 1, by omega, by go_num, j0, j1, by rw [HS.out]; exact jL, jb⟩
            case measure => (simp [intOf]; try omega)
          case true =>
            have hset := (flat_colour (t := t) (recTo_get (f := f) (t := t) hpg) (by simpa using hcol)).trans (congrArg flat (recTo_set hpg))
            have HS := Lib.hid hset
            clear hput hset hcl hfz
            go_wp2_with fail
            go_roundw
            case rel => exact ⟨n + 1, by omega, by go_num, (setCell_far _ _ (by omega)).trans j0, (setCell_far _ _ (by omega)).trans j1, by rw [← HS.out]; exact hp5, jb.setCell (p := ⟨g, _, none⟩) (by show w.heap.size ≤ g; omega) _⟩
            case measure => (simp [intOf]; try omega)
        · obtain rfl : n = l.length := by omega
          rw [recTo_all] at jL
          have hI : In42 wr (.slice A3 l.length c3) (l.map (recP f t)) := by unfold In42; rw [List.length_map]; exact jL.mono (Nat.zero_le _)
          obtain ⟨A5, c5, e5, hle5, hC5⟩ := hI.reads (by simp; omega)
          injection e5 with e6 e7 e8
          subst e6 e8
          have cN := tNormal_calls a b c A3 c3 (l.map (recP f t)) wr hC5 hle5 (by simp; omega) ⟨by simp; omega, by rw [wl_rec]; omega⟩
          unfold NormPost at cN
          rw [List.length_map] at cN
          clear hI hC5 hle5 jL e7 kL k0 k1
          go_wp2_with fail
          go_at_call 31
          refine cN.mono ?_
          rintro e W5 ⟨v5, rfl, hv5, hb5⟩
          have y1 := (hb5.block (w.heap.size + 1) (by have := (Array.getElem?_eq_some_iff.1 j1).1; omega)).trans j1
          have hbw5 : Below w.heap.size w W5 := jb.trans (hb5.mono jb.size)
          obtain ⟨⟨r0, r1, r2, r3⟩, s0, s1, s2, s3⟩ := blk4 y1
          obtain ⟨A6, c6, rfl, hle6, hC6⟩ := hv5
          clear cN
          have fin : ∀ X : World, X = (((W5.setCell ⟨w.heap.size + 1, 0, none⟩ (.int .i64 a)).setCell ⟨w.heap.size + 1, 1, none⟩ (.int .i64 b)).setCell ⟨w.heap.size + 1, 2, none⟩ (.int .i64 c)).setCell ⟨w.heap.size + 1, 3, none⟩ (.slice A6 (normS (l.map (recP f t))).length c6) →
              X.heap[w.heap.size + 1]? = some (.cells #[.int .i64 a, .int .i64 b, .int .i64 c, .slice A6 (normS (l.map (recP f t))).length c6] 25 (0, 0)) ∧ RowOut (.slice A6 (normS (l.map (recP f t))).length c6) (normS (l.map (recP f t))) X ∧ Below w.heap.size w X := by
            intro X hX
            refine ⟨?_, ?_, ?_⟩
            · rw [hX]; exact box_set4 y1 rfl
            · refine ⟨A6, c6, rfl, hle6, ?_⟩
              refine C42_away hC6 y1 (fun i s h => ?_) (fun k hk => by rw [hX, setCell_far _ _ hk, setCell_far _ _ hk, setCell_far _ _ hk, setCell_far _ _ hk])
              match i, h with
              | 0, h => exact absurd h (by simp)
              | 1, h => exact absurd h (by simp)
              | 2, h => exact absurd h (by simp)
              | 3, h => exact absurd h (by simp)
              | i + 4, h => exact absurd h (by simp)
            · rw [hX]
              exact (((hbw5.setCell (p := ⟨w.heap.size + 1, 0, none⟩) (Nat.le_succ _) _).setCell (p := ⟨w.heap.size + 1, 1, none⟩) (Nat.le_succ _) _).setCell (p := ⟨w.heap.size + 1, 2, none⟩) (Nat.le_succ _) _).setCell (p := ⟨w.heap.size + 1, 3, none⟩) (Nat.le_succ _) _
          go_wp2_with fail
          obtain ⟨f1, f2, f3⟩ := fin _ rfl
          refine bodyPost_ret (results_cell_row_tmp rfl _ _ (w.heap.size + 1) 25 _ (0, 0) _ rfl f1 Tryz.underlying25 rfl (by kernel_rfl)) rfl ?_
          obtain ⟨h1, h2, h3⟩ := HF.out
          exact ⟨_, by rw [h1, h3, h3, h3]; rfl, by rw [h2]; exact f2, f3⟩
end Go.Proofs.YtogidacejbjljaaGreatDoor.PTextChecks
end
section
/- Shift, the reference's. -/
set_option linter.unusedVariables false
set_option linter.unusedSimpArgs false
namespace Go.Proofs.YtogidacejbjljaaGreatDoor.PTextChecks
open Go.RowKit Go.Mix Go.Own Go.Proofs.YtogidacejbjljaaGreatDoorW.PrintWords Go.Proofs.YtogidacejbjljaaGreatDoorW.PrintLast Go.Proofs.YtogidacejbjljaaGreatDoorW.PrintMore
theorem R_in81 {w : World} {base : Nat} {ok : Nat → Prop} {v : Value} {l : List S81} (h : Kd.R k81 81 w base ok v l) : Lies w base 81 6 v l.length (flat81 l) := by
  obtain ⟨A, c, rfl, hle, hC⟩ := Kd.R_reads h
  obtain ⟨inner, ho⟩ := Kd.R_own h
  have hL := Lies.of_owns ho
  have : inner = flat81 l := by
    apply List.ext_getElem?
    intro j
    by_cases hj : j < l.length * 6
    · obtain ⟨q, r, hr, rfl⟩ : ∃ q r, r < 6 ∧ j = q * 6 + r := ⟨j / 6, j % 6, Nat.mod_lt _ (by omega), by omega⟩
      have hq : q < l.length := by omega
      obtain ⟨a, ha, hcs⟩ := hC.2.2 (by omega)
      obtain ⟨cs, hc6, hK, hcell⟩ := hcs q l[q] (List.getElem?_eq_getElem hq)
      obtain rfl := k81_open hK
      obtain ⟨a', c', he, _, hc⟩ := hL.cell (by omega)
      injection he with h1 h2 h3
      obtain rfl : a = a' := by rw [ha] at h1; injection h1
      have hlt : q * 6 + r < inner.length := by rw [ho.1]; exact hj
      have e1 := hc (q * 6 + r) _ (List.getElem?_eq_getElem hlt)
      have hr6 : r < (enc81 l[q]).length := hr
      have e2 := hcell r _ (List.getElem?_eq_getElem hr6)
      rw [flat81_get l q r l[q] (List.getElem?_eq_getElem hq) hr, List.getElem?_eq_getElem hlt, List.getElem?_eq_getElem hr6]
      have e3 := e1.symm.trans e2
      exact e3
    · rw [List.getElem?_eq_none (by rw [ho.1]; exact Nat.not_lt.1 hj), List.getElem?_eq_none (by rw [flat81_length]; omega)]
  subst this
  exact hL
theorem letters_lies (a b c : Int) (A : Option Addr) (cap : Nat) (l : List S42) (w : World) (hr : Kd.C k42 w A l.length l) (hc : l.length ≤ cap) (hf : Fit l) :
    Calls Tryz.prog 59 #[.agg #[.int .i64 a, .int .i64 b, .int .i64 c, .slice A l.length cap]] w fun e w' => ∃ A' c', e = .returned (.slice A' (lettersOf l).length c') ∧ Lies w' w.heap.size 81 6 (.slice A' (lettersOf l).length c') (lettersOf l).length (flat81 (lettersOf l)) ∧ Below w.heap.size w w' := by
  refine (r18_letters.calls (2 * l.length + wordsLen l + 1) a b c A cap l _ w hr hc (rletters_run hf.1 hf.2 a b c _ (by omega))).mono ?_
  rintro e w' ⟨v', rfl, hR, hb⟩
  obtain ⟨A', c', rfl, hle, hC'⟩ := Kd.R_reads hR
  exact ⟨A', c', rfl, R_in81 hR, hb⟩
/-- Letters recoloured up to the n-th. -/
def recTL (f t : Int) (n : Nat) (l : List S81) : List S81 := (l.take n).map (recL f t) ++ l.drop n
theorem recTL_zero (f t : Int) (l : List S81) : recTL f t 0 l = l := by simp [recTL]
theorem recTL_all (f t : Int) (l : List S81) : recTL f t l.length l = l.map (recL f t) := by simp [recTL]
theorem recTL_get {f t : Int} {n : Nat} {l : List S81} {p : S81} (hp : l[n]? = some p) : (recTL f t n l)[n]? = some p := by
  have hi : n < l.length := (List.getElem?_eq_some_iff.1 hp).1
  unfold recTL
  rw [List.getElem?_append_right (by simp; omega), List.getElem?_drop]
  simp only [List.length_map, List.length_take]
  rw [show n + (n - min n l.length) = n by omega]
  exact hp
theorem recTL_set {f t : Int} {n : Nat} {l : List S81} {p : S81} (hp : l[n]? = some p) : (recTL f t n l).set n (recL f t p) = recTL f t (n + 1) l := by
  have hi : n < l.length := (List.getElem?_eq_some_iff.1 hp).1
  have he : l[n] = p := by rw [List.getElem?_eq_getElem hi] at hp; exact Option.some.inj hp
  unfold recTL
  rw [List.set_append_right _ _ (by simp; omega), List.take_succ_eq_append_getElem hi, List.map_append, List.append_assoc, he]
  congr 1
  simp only [List.length_map, List.length_take]
  rw [show n - min n l.length = 0 by omega, List.drop_eq_getElem_cons hi, List.set_cons_zero]
  rfl
theorem recTL_same {f t : Int} {n : Nat} {l : List S81} {p : S81} (hp : l[n]? = some p) (hc : p.f1.f4 ≠ f) : recTL f t (n + 1) l = recTL f t n l := by
  rw [← recTL_set hp]
  have e : recL f t p = p := by unfold recL recS; rw [if_neg hc]
  rw [e]
  have h1 := recTL_get (f := f) (t := t) hp
  obtain ⟨h2, h3⟩ := List.getElem?_eq_some_iff.1 h1
  rw [← h3]
  exact List.set_getElem_self h2
theorem flat81_colour {L : List S81} {k : Nat} {p : S81} {f t : Int} (hp : L[k]? = some p) (hc : p.f1.f4 = f) : (flat81 L).set (k * 6 + 5) (.int .i64 t) = flat81 (L.set k (recL f t p)) := by
  unfold flat81
  refine flatMap_set' enc81 6 (fun _ => rfl) L k 5 p _ _ hp (by omega) ?_
  unfold recL recS
  rw [if_pos hc]
  rfl
set_option maxHeartbeats 4000000 in
set_option maxRecDepth 100000 in
theorem rShift_calls (a b c : Int) (A : Option Addr) (cap : Nat) (l : List S42) (f t : Int) (w : World) (hr : Kd.C k42 w A l.length l) (hc : l.length ≤ cap) (hf : Fit l) :
    Calls Tryz.prog 22 #[.agg #[.int .i64 a, .int .i64 b, .int .i64 c, .slice A l.length cap], .int .i64 f, .int .i64 t] w (ShfPost a b c l f t w) := by
  unfold ShfPost
  have cC := fun X h => rCheck_calls a b c A cap l X h hc hf
  obtain ⟨ec, hec⟩ : ∃ ec, checkS a b c l = ec := ⟨_, rfl⟩
  rw [hec] at cC
  have g0 : Kd.C k42 ((w.alloc (.cells #[.int .i64 a, .int .i64 b, .int .i64 c, .slice A l.length cap] 25)).alloc (.cells #[.int .i64 0, .int .i64 0, .int .i64 0, .slice none 0 0] 25)) A l.length l := Kd.C_alloc (Kd.C_alloc hr _) _
  obtain ⟨z0, z1, z2⟩ := two_new w (Obj.cells #[.int .i64 a, .int .i64 b, .int .i64 c, .slice A l.length cap] 25) (Obj.cells #[.int .i64 0, .int .i64 0, .int .i64 0, .slice none 0 0] 25)
  have hbW : Below w.heap.size w ((w.alloc (.cells #[.int .i64 a, .int .i64 b, .int .i64 c, .slice A l.length cap] 25)).alloc (.cells #[.int .i64 0, .int .i64 0, .int .i64 0, .slice none 0 0] 25)) := ((Below.refl _ w).alloc (Nat.le_refl _) _).alloc (by simp) _
  go_enter Tryz.func22, Tryz.ntmps22
  go_wp2_with fail
  generalize (w.alloc (.cells #[.int .i64 a, .int .i64 b, .int .i64 c, .slice A l.length cap] 25)).alloc (.cells #[.int .i64 0, .int .i64 0, .int .i64 0, .slice none 0 0] 25) = W at *
  go_at_call 26
  refine (cC _ g0).mono ?_
  rintro e W1 ⟨rfl, hb1⟩
  have hbw1 : Below w.heap.size w W1 := hbW.trans (hb1.mono hbW.size)
  have y0 := (hb1.block w.heap.size (by omega)).trans z0
  have y1 := (hb1.block (w.heap.size + 1) (by omega)).trans z1
  have hr1 := Kd.C_below g0 hb1
  obtain ⟨⟨p0, p1, p2, p3⟩, q0, q1, q2, q3⟩ := blk4 y0
  obtain ⟨⟨r0, r1, r2, r3⟩, s0, s1, s2, s3⟩ := blk4 y1
  have fin0 : ∀ X : World, X = (((W1.setCell ⟨w.heap.size + 1, 0, none⟩ (.int .i64 0)).setCell ⟨w.heap.size + 1, 1, none⟩ (.int .i64 0)).setCell ⟨w.heap.size + 1, 2, none⟩ (.int .i64 0)).setCell ⟨w.heap.size + 1, 3, none⟩ (.slice none 0 0) →
      X.heap[w.heap.size + 1]? = some (.cells #[.int .i64 0, .int .i64 0, .int .i64 0, .slice none 0 0] 25 (0, 0)) ∧ Below w.heap.size w X := by
    rintro X rfl
    exact ⟨box_set4 y1 rfl, (((hbw1.setCell (p := ⟨w.heap.size + 1, 0, none⟩) (Nat.le_succ _) _).setCell (p := ⟨w.heap.size + 1, 1, none⟩) (Nat.le_succ _) _).setCell (p := ⟨w.heap.size + 1, 2, none⟩) (Nat.le_succ _) _).setCell (p := ⟨w.heap.size + 1, 3, none⟩) (Nat.le_succ _) _⟩
  clear g0 z0 z1 hb1 cC hbW hr
  cases hc0 : (ec != 0)
  case true =>
    have hne : checkS a b c l ≠ 0 := by rw [hec]; simpa using hc0
    have hE : shfE a b c l f t = ec := by unfold shfE; rw [if_neg hne, hec]
    have hE0 : ¬ shfE a b c l f t = 0 := by rw [hE, ← hec]; exact hne
    have hL : shfL a b c l f t = [] := if_neg hE0
    have hN : ∀ n, shfN a b c l f t n = 0 := fun n => if_neg hE0
    have HF := Lib.hid (And.intro hE (And.intro hL hN))
    clear hne hE hE0 hL hN hec
    go_wp2_with fail
    obtain ⟨f1, f2⟩ := fin0 _ rfl
    refine bodyPost_ret (results_cell_row_tmp rfl _ _ (w.heap.size + 1) 25 _ (0, 0) _ rfl f1 Tryz.underlying25 rfl (by kernel_rfl)) rfl ?_
    obtain ⟨h1, h2, h3⟩ := HF.out
    exact ⟨_, by rw [h1, h3, h3, h3]; rfl, by rw [h2]; exact RowOut.empty _, f2⟩
  case false =>
    have hz : checkS a b c l = 0 := by rw [hec]; simpa using hc0
    clear hec
    cases hg : (inB f 0 15 && inB t 0 15)
    case false =>
      have hE : shfE a b c l f t = 180 := by unfold shfE; rw [if_pos hz, hg]; rfl
      have hE0 : ¬ shfE a b c l f t = 0 := by rw [hE]; decide
      have hL : shfL a b c l f t = [] := if_neg hE0
      have hN : ∀ n, shfN a b c l f t n = 0 := fun n => if_neg hE0
      have HF := Lib.hid (And.intro hE (And.intro hL hN))
      clear hz hE hE0 hL hN
      cases hi1 : inB f 0 15
      all_goals (rw [hi1] at hg)
      all_goals (cases hi2 : inB t 0 15)
      all_goals (rw [hi2] at hg)
      all_goals (try (exact absurd hg (by decide)))
      all_goals clear hg
      all_goals
        go_wp2_with (go_at_call 51; refine (in_calls' _ _ _ _).mono ?_; rintro e W2 ⟨rfl, rfl⟩)
        obtain ⟨f1, f2⟩ := fin0 _ rfl
        refine bodyPost_ret (results_cell_row_tmp rfl _ _ (w.heap.size + 1) 25 _ (0, 0) _ rfl f1 Tryz.underlying25 rfl (by kernel_rfl)) rfl ?_
        obtain ⟨h1, h2, h3⟩ := HF.out
        exact ⟨_, by rw [h1, h3, h3, h3]; rfl, by rw [h2]; exact RowOut.empty _, f2⟩
    case true =>
      have hE : shfE a b c l f t = 0 := by unfold shfE; rw [if_pos hz, hg]; rfl
      have hL : shfL a b c l f t = normS (l.map (recP f t)) := if_pos hE
      have hN : ∀ n, shfN a b c l f t n = n := fun n => if_pos hE
      have HF := Lib.hid (And.intro hE (And.intro hL hN))
      rw [Bool.and_eq_true] at hg
      have hi1 := hg.1
      have hi2 := hg.2
      obtain ⟨hhd, hl1, hl2, hok⟩ := checkS_ok hz
      clear hE hL hN hz hg hhd hok fin0
      have cK := fun W (h : Kd.C k42 W A l.length l) => letters_lies a b c A cap l W h hc hf
      have hLb := lettersOf_byt l
      have hrec := letters_rec f t l
      have hlw : (lettersOf l).length ≤ 2000 := by rw [lettersOf_length]; exact hl2
      have hpl := pieces_letters (l.map (recP f t))
      rw [hrec] at hpl
      obtain ⟨L, hL⟩ : ∃ L, lettersOf l = L := ⟨_, rfl⟩
      rw [hL] at cK hLb hlw hpl
      have HPL := Lib.hid hpl
      clear hrec hL hpl
      go_wp2_with (go_at_call 51; refine (in_calls' _ _ _ _).mono ?_; rintro e W2 ⟨rfl, rfl⟩)
      go_at_call 59
      refine (cK _ hr1).mono ?_
      rintro e W3 ⟨A3, c3, rfl, hL3, hb3⟩
      have hs2 := hb3.size
      have hsz := hbw1.size
      have x0 := (hb3.block w.heap.size (by have := (Array.getElem?_eq_some_iff.1 y0).1; omega)).trans y0
      have x1 := (hb3.block (w.heap.size + 1) (by have := (Array.getElem?_eq_some_iff.1 y1).1; omega)).trans y1
      have hlt1 := (Array.getElem?_eq_some_iff.1 y1).1
      have hbw3 : Below w.heap.size w W3 := hbw1.trans (hb3.mono hsz)
      clear r0 r1 r2 r3 s0 s1 s2 s3 cK hr1 hb3 p0 p1 p2 p3 q0 q1 q2 q3 y0 y1
      go_wp2_with fail
      go_loopw [10] (fun i wr => ∃ n : Nat, n ≤ L.length ∧ i = .int .i64 n ∧ wr.heap[w.heap.size]? = some (.cells #[.int .i64 a, .int .i64 b, .int .i64 c, .slice A l.length cap] 25 (0, 0)) ∧ wr.heap[w.heap.size + 1]? = some (.cells #[.int .i64 0, .int .i64 0, .int .i64 0, .slice none 0 0] 25 (0, 0)) ∧ Lies wr W2.heap.size 81 6 (.slice A3 L.length c3) L.length (flat81 (recTL f t n L)) ∧ Below w.heap.size w wr) (fun i _ => L.length - (intOf i).toNat)
      case atStart => exact ⟨0, by omega, rfl, x0, x1, by rw [recTL_zero]; exact hL3, hbw3⟩
      case round =>
        obtain ⟨n, hn, rfl, j0, j1, jL, jb⟩ := hrel
        by_cases hlt : n < L.length
        · obtain ⟨g, off, c4, e4, hc4, hg1, hg2, _, hfz, hcl, hput⟩ := jL.put' (by omega)
          injection e4 with e5 e6 e7
          subst e5 e7
          have hpg : L[n]? = some L[n] := List.getElem?_eq_getElem hlt
          generalize L[n] = p at hpg
          have hcl5 := hcl (n * 6 + 5) (.int .i64 p.f1.f4) ((flat81_get _ n 5 p (recTL_get hpg) (by omega)).trans rfl)
          have hfz5 := hfz (off + n * 6 + 1 + 4)
          have hp5 := hput (n * 6 + 5) (.int .i64 t) (by omega)
          have eo : off + (n * 6 + 5) = off + n * 6 + 1 + 4 := by omega
          rw [eo] at hcl5 hp5
          have wr1 : IntKind.i64.wrap ((n : Int) + 1) = (n : Int) + 1 := IntWalk.i64_in _ (by omega)
          cases hcol : (p.f1.f4 == f)
          case false =>
            have hsm := recTL_same (t := t) hpg (by simpa using hcol)
            have HS := Lib.hid hsm
            clear hp5 hput hsm hcl hfz
            go_wp2_with fail
            go_roundw
            case rel => exact ⟨n + 1, by omega, by go_num, j0, j1, by rw [HS.out]; exact jL, jb⟩
            case measure => (simp [intOf]; try omega)
          case true =>
            have hset := (flat81_colour (t := t) (recTL_get (f := f) (t := t) hpg) (by simpa using hcol)).trans (congrArg flat81 (recTL_set hpg))
            have HS := Lib.hid hset
            clear hput hset hcl hfz
            go_wp2_with fail
            go_roundw
            case rel => exact ⟨n + 1, by omega, by go_num, (setCell_far _ _ (by omega)).trans j0, (setCell_far _ _ (by omega)).trans j1, by rw [← HS.out]; exact hp5, jb.setCell (p := ⟨g, _, none⟩) (by show w.heap.size ≤ g; omega) _⟩
            case measure => (simp [intOf]; try omega)
        · obtain rfl : n = L.length := by omega
          rw [recTL_all] at jL
          have hml : (L.map (recL f t)).length = L.length := List.length_map _
          obtain ⟨A5, c5, e5, hle5, hC5⟩ := lies81 (l := L.map (recL f t)) (v := .slice A3 L.length c3) (by rw [hml]; exact jL) (by rw [hml]; omega)
          injection e5 with e6 e7 e8
          subst e6 e8
          have cP := pieces_calls A3 c3 (L.map (recL f t)) wr hC5 (by rw [hml]; omega) (fun x hx => by obtain ⟨y, hy, rfl⟩ := List.mem_map.1 hx; exact hLb y hy)
          rw [hml, HPL.out] at cP
          clear hC5 hle5 jL e7
          go_wp2_with fail
          go_at_call 52
          refine cP.mono ?_
          rintro e W5 ⟨v5, rfl, ⟨A6, c6, rfl, hle6, hC6⟩, hb5⟩
          have hw1 := (Array.getElem?_eq_some_iff.1 j1).1
          have y1 := (hb5.block (w.heap.size + 1) (by omega)).trans j1
          have y0 := (hb5.block w.heap.size (by omega)).trans j0
          have hbw5 : Below w.heap.size w W5 := jb.trans (hb5.mono jb.size)
          obtain ⟨⟨p0, p1, p2, p3⟩, q0, q1, q2, q3⟩ := blk4 y0
          obtain ⟨⟨r0, r1, r2, r3⟩, s0, s1, s2, s3⟩ := blk4 y1
          obtain ⟨R, hR⟩ : ∃ R, normS (l.map (recP f t)) = R := ⟨_, rfl⟩
          rw [hR] at hle6 hC6 HF ⊢
          clear cP
          have fin : ∀ X : World, X = ((((W5.setCell ⟨w.heap.size, 3, none⟩ (.slice A6 R.length c6)).setCell ⟨w.heap.size + 1, 0, none⟩ (.int .i64 a)).setCell ⟨w.heap.size + 1, 1, none⟩ (.int .i64 b)).setCell ⟨w.heap.size + 1, 2, none⟩ (.int .i64 c)).setCell ⟨w.heap.size + 1, 3, none⟩ (.slice A6 R.length c6) →
              X.heap[w.heap.size + 1]? = some (.cells #[.int .i64 a, .int .i64 b, .int .i64 c, .slice A6 R.length c6] 25 (0, 0)) ∧ RowOut (.slice A6 R.length c6) R X ∧ Below w.heap.size w X := by
            intro X hX
            refine ⟨?_, ?_, ?_⟩
            · rw [hX]; exact box_set4 ((setCell_far _ _ (by omega)).trans y1) rfl
            · exact ⟨A6, c6, rfl, hle6, hC6 X fun k hk1 hk2 => by rw [hX, setCell_far _ _ (by omega), setCell_far _ _ (by omega), setCell_far _ _ (by omega), setCell_far _ _ (by omega), setCell_far _ _ (by omega)]⟩
            · rw [hX]
              exact ((((hbw5.setCell (p := ⟨w.heap.size, 3, none⟩) (Nat.le_refl _) _).setCell (p := ⟨w.heap.size + 1, 0, none⟩) (Nat.le_succ _) _).setCell (p := ⟨w.heap.size + 1, 1, none⟩) (Nat.le_succ _) _).setCell (p := ⟨w.heap.size + 1, 2, none⟩) (Nat.le_succ _) _).setCell (p := ⟨w.heap.size + 1, 3, none⟩) (Nat.le_succ _) _
          go_wp2_with fail
          obtain ⟨f1, f2, f3⟩ := fin _ rfl
          refine bodyPost_ret (results_cell_row_tmp rfl _ _ (w.heap.size + 1) 25 _ (0, 0) _ rfl f1 Tryz.underlying25 rfl (by kernel_rfl)) rfl ?_
          obtain ⟨h1, h2, h3⟩ := HF.out
          exact ⟨_, by rw [h1, h3, h3, h3]; rfl, by rw [h2]; exact f2, f3⟩
end Go.Proofs.YtogidacejbjljaaGreatDoor.PTextChecks
end
section
/- The reference's Format; TextFormats' own function (6). -/
set_option linter.unusedVariables false
set_option linter.unusedSimpArgs false
namespace Go.Proofs.YtogidacejbjljaaGreatDoor.PTextChecks
open Go.RowKit Go.Mix Go.Own Go.Proofs.YtogidacejbjljaaGreatDoorW.PrintWords Go.Proofs.YtogidacejbjljaaGreatDoorW.PrintLast Go.Proofs.YtogidacejbjljaaGreatDoorW.PrintMore
set_option maxHeartbeats 2000000 in
set_option maxRecDepth 100000 in
theorem rFormat_calls (a b c : Int) (A : Option Addr) (cap : Nat) (l : List S42) (w : World) (hr : Kd.C k42 w A l.length l) (hc : l.length ≤ cap) (hf : Fit l) :
    Calls Tryz.prog 20 #[.agg #[.int .i64 a, .int .i64 b, .int .i64 c, .slice A l.length cap]] w fun e w' => e = .returned (.tuple #[.string (frmS a b c l), .int .i64 (frmE a b c l)]) ∧ Below w.heap.size w w' := by
  have cC := fun X h => rCheck_calls a b c A cap l X h hc hf
  obtain ⟨ec, hec⟩ : ∃ ec, checkS a b c l = ec := ⟨_, rfl⟩
  rw [hec] at cC
  go_enter Tryz.func20, Tryz.ntmps20
  cases hc0 : (ec != 0)
  case true =>
    have hne : checkS a b c l ≠ 0 := by rw [hec]; simpa using hc0
    have HE := Lib.hid (show frmE a b c l = ec from hec)
    have HN := Lib.hid (show frmS a b c l = ⟨#[]⟩ from if_neg hne)
    clear hec hne
    go_wp2_with (go_at_call 26; refine (cC _ (Kd.C_alloc hr _)).mono ?_; rintro e W1 ⟨rfl, hb1⟩)
    go_ret2
    exact ⟨by rw [HN.out, HE.out]; rfl, ((Below.refl _ w).alloc (Nat.le_refl _) _).trans (hb1.mono (by simp))⟩
  case false =>
    have hz : checkS a b c l = 0 := by rw [hec]; simpa using hc0
    obtain ⟨hhd, hl, hw, hok⟩ := checkS_ok hz
    have HE := Lib.hid (show frmE a b c l = 0 from hz)
    have HN := Lib.hid (show frmS a b c l = fmtS a b c l from if_pos hz)
    have cF := fun X h => rformatted_calls a b c A cap l X h hc hhd hl hw hok
    generalize fmtS a b c l = fs at cF HN
    clear hz hec
    go_wp2_with (first | (go_at_call 26; refine (cC _ (Kd.C_alloc hr _)).mono ?_; rintro e W1 ⟨rfl, hb1⟩; obtain ⟨h0, h1, h2, h3⟩ := box4 hb1; have hr1 := Kd.C_below (Kd.C_alloc hr _) hb1) | (go_at_call 56; refine (cF _ hr1).mono ?_; rintro e W2 ⟨rfl, hb2⟩))
    go_ret2
    exact ⟨by rw [HN.out, HE.out]; rfl, ((Below.refl _ w).alloc (Nat.le_refl _) _).trans ((hb1.trans (hb2.mono hb1.size)).mono (by simp))⟩
theorem shfL_small {a b c : Int} {l : List S42} {f t : Int} (hw : wordsLen l ≤ 1000000) : (shfL a b c l f t).length ≤ 1000000 := by
  unfold shfL
  split
  · have := normS_len (l.map (recP f t))
    rw [wl_rec] at this
    omega
  · simp
set_option maxHeartbeats 4000000 in
set_option maxRecDepth 100000 in
theorem law6_calls (a b c : Int) (A : Option Addr) (cap : Nat) (l : List S42) (f t : Int) (w : World) (hT : Tab w) (hr : Kd.C k42 w A l.length l) (hc : l.length ≤ cap) (hs : ∀ p ∈ l, p.f0.size ≤ 140737488351232) :
    Calls Tryz.prog 6 #[.agg #[.int .i64 a, .int .i64 b, .int .i64 c, .slice A l.length cap], .int .i64 f, .int .i64 t] w fun e w' => e = .returned (.bool true) ∧ Below w.heap.size w w' := by
  have cL := fun W (h : Kd.C k42 W A l.length l) => w18_long.calls (l.length + 1) a b c A cap l (longB l) W h hc (long_run hs a b c)
  go_enter Tryz.func6, Tryz.ntmps6
  cases hlg : longB l
  case true =>
    rw [hlg] at cL
    go_wp2_with (first | (go_at_call 17; refine (cL _ ?s1).mono ?_; (case s1 => exact Kd.C_alloc hr _); rintro e W ⟨rfl, hbW⟩) | (go_at_call 13; refine (awake_calls _).mono ?_; rintro e W2 ⟨rfl, hbW2⟩))
    go_ret
    exact ⟨rfl, ((Below.refl _ w).alloc (Nat.le_refl _) _).trans ((hbW.trans (hbW2.mono hbW.size)).mono (by simp))⟩
  case false =>
    rw [hlg] at cL
    unfold longB at hlg
    rw [Bool.or_eq_false_iff, decide_eq_false_iff_not, decide_eq_false_iff_not] at hlg
    obtain ⟨hl4, hw4⟩ := hlg
    have hf : Fit l := ⟨by omega, by omega⟩
    have cF := fun X hx ht => tFormat_calls a b c A cap l X hx hc hf ht
    have cG := fun X hx => rFormat_calls a b c A cap l X hx hc hf
    have cS := fun X hx => tShift_calls a b c A cap l f t X hx hc hf
    have cR := fun X hx => rShift_calls a b c A cap l f t X hx hc hf
    have hsm := shfL_small (a := a) (b := b) (c := c) (l := l) (f := f) (t := t) (by omega)
    unfold ShfPost at cS cR
    generalize shfL a b c l f t = L at cS cR hsm
    generalize shfE a b c l f t = E at cS cR
    generalize shfN a b c l f t a = na at cS cR
    generalize shfN a b c l f t b = nb at cS cR
    generalize shfN a b c l f t c = nc at cS cR
    generalize frmS a b c l = fs at cF cG
    generalize frmE a b c l = fe at cF cG
    go_wp2_with (go_at_call 17; refine (cL _ (Kd.C_alloc hr _)).mono ?_; rintro e W ⟨rfl, hbW⟩; obtain ⟨h0, h1, h2, h3⟩ := box4 hbW; have hrW := Kd.C_below (Kd.C_alloc hr _) hbW)
    have hbw : Below w.heap.size w W := ((Below.refl _ w).alloc (Nat.le_refl _) _).trans (hbW.mono (by simp))
    have hTW := hT.below hbw
    clear hbW hr cL hT
    go_at_call 18
    refine (cF _ hrW hTW).mono ?_
    rintro e W1 ⟨rfl, hb1⟩
    have h0 := cell_later hb1 h0
    have h1 := cell_later hb1 h1
    have h2 := cell_later hb1 h2
    have h3 := cell_later hb1 h3
    have hrW := Kd.C_below hrW hb1
    have hbw := hbw.trans (hb1.mono hbw.size)
    clear cF hb1 hTW
    go_wp2_with fail
    go_at_call 20
    refine (cG _ hrW).mono ?_
    rintro e W2 ⟨rfl, hb2⟩
    have h0 := cell_later hb2 h0
    have h1 := cell_later hb2 h1
    have h2 := cell_later hb2 h2
    have h3 := cell_later hb2 h3
    have hrW := Kd.C_below hrW hb2
    have hbw := hbw.trans (hb2.mono hbw.size)
    clear cG hb2
    go_wp2_with fail
    go_at_call 21
    refine (cS _ hrW).mono ?_
    rintro e W3 ⟨v3, rfl, ⟨A3, c3, rfl, hle3, hC3⟩, hb3⟩
    have hbX : Below W3.heap.size W3 (W3.alloc (.cells #[.int .i64 na, .int .i64 nb, .int .i64 nc, .slice A3 L.length c3] 25)) := (Below.refl _ W3).alloc (Nat.le_refl _) _
    have hX := heap_alloc_new W3 (.cells #[.int .i64 na, .int .i64 nb, .int .i64 nc, .slice A3 L.length c3] 25)
    have h0 := cell_later hbX (cell_later hb3 h0)
    have h1 := cell_later hbX (cell_later hb3 h1)
    have h2 := cell_later hbX (cell_later hb3 h2)
    have h3 := cell_later hbX (cell_later hb3 h3)
    have hrW := Kd.C_below (Kd.C_below hrW hb3) hbX
    have hC3 := Kd.C_below hC3 hbX
    have hbw : Below w.heap.size w (W3.alloc (.cells #[.int .i64 na, .int .i64 nb, .int .i64 nc, .slice A3 L.length c3] 25)) := (hbw.trans (hb3.mono hbw.size)).trans (hbX.mono (Nat.le_trans hbw.size hb3.size))
    clear cS hb3 hbX
    go_wp2_with fail
    generalize W3.alloc (.cells #[.int .i64 na, .int .i64 nb, .int .i64 nc, .slice A3 L.length c3] 25) = X at hX h0 h1 h2 h3 hrW hC3 hbw ⊢
    go_at_call 22
    refine (cR _ hrW).mono ?_
    rintro e W4 ⟨v4, rfl, ⟨A4, c4, rfl, hle4, hC4⟩, hb4⟩
    have hbY : Below W4.heap.size W4 (W4.alloc (.cells #[.int .i64 na, .int .i64 nb, .int .i64 nc, .slice A4 L.length c4] 25)) := (Below.refl _ W4).alloc (Nat.le_refl _) _
    have hY := heap_alloc_new W4 (.cells #[.int .i64 na, .int .i64 nb, .int .i64 nc, .slice A4 L.length c4] 25)
    have hX2 := (hbY.block _ (Nat.lt_of_lt_of_le (Array.getElem?_eq_some_iff.1 hX).1 hb4.size)).trans ((hb4.block _ (Array.getElem?_eq_some_iff.1 hX).1).trans hX)
    have hC3 := Kd.C_below (Kd.C_below hC3 hb4) hbY
    have hC4 := Kd.C_below hC4 hbY
    have hbw : Below w.heap.size w (W4.alloc (.cells #[.int .i64 na, .int .i64 nb, .int .i64 nc, .slice A4 L.length c4] 25)) := (hbw.trans (hb4.mono hbw.size)).trans (hbY.mono (Nat.le_trans hbw.size hb4.size))
    obtain ⟨⟨p0, p1, p2, p3⟩, _⟩ := blk4 hX2
    obtain ⟨⟨q0, q1, q2, q3⟩, _⟩ := blk4 hY
    have cE := fun W h3 h4 => r18_Same.calls (L.length + 1) na nb nc A3 c3 L na nb nc A4 c4 L true W h3 hle3 h4 hle4 (same_self na nb nc (by omega))
    clear cR hb4 hbY h0 h1 h2 h3 hrW hX hX2 hY
    go_wp2_with fail
    go_at_call 16
    refine (cE _ hC3 hC4).mono ?_
    rintro e W5 ⟨rfl, hb5⟩
    have hbw := hbw.trans (hb5.mono hbw.size)
    clear cE p0 p1 p2 p3 q0 q1 q2 q3 hC3 hC4
    go_wp2_with (go_at_call 13; refine (awake_calls _).mono ?_; rintro e W6 ⟨rfl, hb6⟩)
    go_ret
    exact ⟨rfl, hbw.trans (hb6.mono hbw.size)⟩
end Go.Proofs.YtogidacejbjljaaGreatDoor.PTextChecks
end
