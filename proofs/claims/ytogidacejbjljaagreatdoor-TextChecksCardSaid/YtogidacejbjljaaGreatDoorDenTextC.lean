/- The abstract interpreter set up for the program's text part: the calls that it knows, each held by a law. -/
import Derived.Test.YtogidacejbjljaaGreatDoorChecked
import Derived.Test.YtogidacejbjljaaGreatDoorDenI
import Derived.KernelRfl
import Derived.Laws.LoneSync
set_option linter.unusedVariables false
set_option linter.unusedSimpArgs false
namespace Go.Proofs.YtogidacejbjljaaGreatDoor
open Go Go.Den

noncomputable def denC : Cfg := ⟨[128], [207, 209], [(176, .u32)], [196], [(205, .i32)], [(210, .i32)],
  [(228, "Replace", 238), (230, "Replace", 244), (234, "Replace", 248), (238, "Replace", 250)]⟩

theorem all_names : Tryz.prog.funcs.toList.all (fun fn => !(fn.name == "runtime.NumGoroutine")) = true := by kernel_rfl

theorem denC_ok : CfgOk Tryz.prog denC where
  noGo f fn h := by
    have h1 := List.all_eq_true.1 all_names fn (Array.mem_toList_iff.2 (Array.mem_of_getElem? h))
    simpa using h1
  same f hf x w := by
    simp only [denC, List.mem_cons, List.mem_nil_iff, or_false] at hf
    subst hf
    rw [run_callFunc_extern (e := Extern.AbiNoEscape.same) Tryz.func128 (by kernel_rfl) (by kernel_rfl) (by kernel_rfl) (by kernel_rfl)]
    rfl
  nop f hf a w := by
    simp only [denC, List.mem_cons, List.mem_nil_iff, or_false] at hf
    rcases hf with rfl | rfl
    · exact run_call_marked Tryz.func207 (by kernel_rfl) (by kernel_rfl) (by kernel_rfl) .acquire (by kernel_rfl) a w
    · exact run_call_marked Tryz.func209 (by kernel_rfl) (by kernel_rfl) (by kernel_rfl) .releaseMerge (by kernel_rfl) a w
  ld f k hf a x w hc := by
    simp only [denC, List.mem_cons, List.mem_nil_iff, or_false, Prod.mk.injEq] at hf
    obtain ⟨rfl, rfl⟩ := hf
    exact run_call_load Tryz.func176 (by kernel_rfl) (by kernel_rfl) (by kernel_rfl) .u32 (by kernel_rfl) hc
  st f hf a k y u w hc hz := by
    simp only [denC, List.mem_cons, List.mem_nil_iff, or_false] at hf
    subst hf
    exact run_call_store Tryz.func196 (by kernel_rfl) (by kernel_rfl) (by kernel_rfl) (by kernel_rfl) hc hz
  casHit f k hf a x y w hc hz := by
    simp only [denC, List.mem_cons, List.mem_nil_iff, or_false, Prod.mk.injEq] at hf
    obtain ⟨rfl, rfl⟩ := hf
    exact run_call_cas_hit Tryz.func205 (by kernel_rfl) (by kernel_rfl) (by kernel_rfl) .i32 (by kernel_rfl) hc hz
  casMiss f k hf a x o y w hc hz hne := by
    simp only [denC, List.mem_cons, List.mem_nil_iff, or_false, Prod.mk.injEq] at hf
    obtain ⟨rfl, rfl⟩ := hf
    exact run_call_cas_miss Tryz.func205 (by kernel_rfl) (by kernel_rfl) (by kernel_rfl) .i32 (by kernel_rfl) hc hz hne
  add f k hf a x y s w hc hz hs := by
    simp only [denC, List.mem_cons, List.mem_nil_iff, or_false, Prod.mk.injEq] at hf
    obtain ⟨rfl, rfl⟩ := hf
    exact run_call_add Tryz.func210 (by kernel_rfl) (by kernel_rfl) (by kernel_rfl) .i32 (by kernel_rfl) hc hz hs
  meths t n f hf a w := by
    simp only [denC, List.mem_cons, List.mem_nil_iff, or_false, Prod.mk.injEq] at hf
    rcases hf with ⟨rfl, rfl, rfl⟩ | ⟨rfl, rfl, rfl⟩ | ⟨rfl, rfl, rfl⟩ | ⟨rfl, rfl, rfl⟩
    · kernel_rfl
    · kernel_rfl
    · kernel_rfl
    · kernel_rfl

end Go.Proofs.YtogidacejbjljaaGreatDoor
