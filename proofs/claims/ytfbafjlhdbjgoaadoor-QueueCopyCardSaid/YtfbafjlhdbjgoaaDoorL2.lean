/- The walks of OrderEligible, OrderRespects and OrderLevels. -/
import Derived.Test.YtfbafjlhdbjgoaaDoorE2
import Derived.Test.YtfbafjlhdbjgoaaDoorB7
namespace Go.Proofs.YtfbafjlhdbjgoaaDoor
set_option linter.unusedVariables false
set_option linter.unusedSimpArgs false
open Go.RowKit Go.Sort

theorem few_len {ls : List Cmd} (h : fewB ls = true) : ls.length ≤ 14 := by
  simp [fewB] at h
  exact h.2

set_option maxHeartbeats 2000000 in
set_option maxRecDepth 100000 in
theorem orderEligible_walk (la da : Option Addr) (lc dc : Nat) (ls : List Cmd) (bs : List Bool) (w : World) (h : Cmds w la ls) (hd : Bools w da bs) (hm : (ls.length : Int) ≤ 17592186044416) (hmd : (bs.length : Int) ≤ 140737488355328) :
    Calls Tryd.prog 4 #[.slice la ls.length lc, .slice da bs.length dc] w fun e w' => e = .returned (.bool true) ∧ RowKit.Below w.heap.size w w' := by
  go_enter Tryd.func4, Tryd.ntmps4
  go_wp2_with fail
  refine (awake_any _).mono ?_
  rintro e w1 ⟨rfl, hB1⟩
  go_wp2_with fail
  refine (few_any la lc ls _ (h.mono hB1) hm).mono ?_
  rintro e w2 ⟨rfl, hB2⟩
  have hB := hB1.trans (hB2.mono hB1.size)
  cases hf : fewB ls with
  | false =>
    go_wp2_with fail
    go_ret
    exact ⟨rfl, hB⟩
  | true =>
    have hl := few_len hf
    clear hf
    by_cases h20 : (20 : Int) < bs.length
    · go_wp2_with fail
      go_ret
      exact ⟨rfl, hB⟩
    · go_wp2_with fail
      refine (elig_any la da lc dc ls bs _ (h.mono hB) (hd.mono hB) (by omega)).mono ?_
      rintro e w3 ⟨a, c, rfl, hI, hB3⟩
      have hBc := hB.trans (hB3.mono hB.size)
      go_wp2_with fail
      refine (refElig_any la da lc dc ls bs _ (h.mono hBc) (hd.mono hBc) (by omega)).mono ?_
      rintro e w4 ⟨a', c', rfl, hI', hB4⟩
      have hBd := hBc.trans (hB4.mono hBc.size)
      go_wp2_with fail
      refine (same_ints_any a a' c c' (elig ls bs) (elig ls bs) _ (hI.mono hB4) hI' (by have := eligTo_len ls bs ls.length; unfold elig; omega)).mono ?_
      rintro e w5 ⟨rfl, hB5⟩
      go_wp2_with fail
      go_ret
      exact ⟨by simp, hBd.trans (hB5.mono hBd.size)⟩

set_option maxHeartbeats 2000000 in
set_option maxRecDepth 100000 in
theorem orderRespects_walk (la oa : Option Addr) (lc oc : Nat) (ls : List Cmd) (os : List Int) (w : World) (h : Cmds w la ls) (ho : Ints w oa os) (hm : (ls.length : Int) ≤ 17592186044416) (hmo : (os.length : Int) ≤ 17592186044416) :
    Calls Tryd.prog 5 #[.slice la ls.length lc, .slice oa os.length oc] w fun e w' => e = .returned (.bool true) ∧ RowKit.Below w.heap.size w w' := by
  go_enter Tryd.func5, Tryd.ntmps5
  go_wp2_with fail
  refine (awake_any _).mono ?_
  rintro e w1 ⟨rfl, hB1⟩
  go_wp2_with fail
  refine (few_any la lc ls _ (h.mono hB1) hm).mono ?_
  rintro e w2 ⟨rfl, hB2⟩
  have hB := hB1.trans (hB2.mono hB1.size)
  cases hf : fewB ls with
  | false =>
    go_wp2_with fail
    go_ret
    exact ⟨rfl, hB⟩
  | true =>
    have hl := few_len hf
    clear hf
    by_cases h20 : (20 : Int) < os.length
    · go_wp2_with fail
      go_ret
      exact ⟨rfl, hB⟩
    · go_wp2_with fail
      refine (resp_any la oa lc oc ls os _ (h.mono hB) (ho.mono hB) (by omega)).mono ?_
      rintro e w3 ⟨rfl, hB3⟩
      have hBc := hB.trans (hB3.mono hB.size)
      go_wp2_with fail
      refine (refResp_any la oa lc oc ls os _ (h.mono hBc) (ho.mono hBc) (by omega)).mono ?_
      rintro e w4 ⟨rfl, hB4⟩
      have hBd := hBc.trans (hB4.mono hBc.size)
      rw [resp_eq]
      go_wp2_with fail
      go_ret
      exact ⟨by simp, hBd⟩

set_option maxHeartbeats 2000000 in
set_option maxRecDepth 100000 in
theorem orderLevels_walk (la : Option Addr) (lc : Nat) (ls : List Cmd) (w : World) (h : Cmds w la ls) (hm : (ls.length : Int) ≤ 17592186044416) :
    Calls Tryd.prog 8 #[.slice la ls.length lc] w fun e w' => e = .returned (.bool true) ∧ RowKit.Below w.heap.size w w' := by
  go_enter Tryd.func8, Tryd.ntmps8
  go_wp2_with fail
  refine (awake_any _).mono ?_
  rintro e w1 ⟨rfl, hB1⟩
  go_wp2_with fail
  refine (few_any la lc ls _ (h.mono hB1) hm).mono ?_
  rintro e w2 ⟨rfl, hB2⟩
  have hB := hB1.trans (hB2.mono hB1.size)
  cases hf : fewB ls with
  | false =>
    go_wp2_with fail
    go_ret
    exact ⟨rfl, hB⟩
  | true =>
    have hl := few_len hf
    clear hf
    go_wp2_with fail
    refine (levels_any la lc ls _ (h.mono hB) (by omega)).mono ?_
    rintro e w3 ⟨a, c, rfl, hI, hB3⟩
    have hBc := hB.trans (hB3.mono hB.size)
    go_wp2_with fail
    refine (refLevels_any la lc ls _ (h.mono hBc) (by omega)).mono ?_
    rintro e w4 ⟨a', c', rfl, hI', hB4⟩
    have hBd := hBc.trans (hB4.mono hBc.size)
    go_wp2_with fail
    refine (same_ints_any a a' c c' (levels ls) (levels ls) _ (hI.mono hB4) hI' (by have := (lvTo_ok ls ls.length).1; unfold levels; omega)).mono ?_
    rintro e w5 ⟨rfl, hB5⟩
    go_wp2_with fail
    go_ret
    exact ⟨by simp, hBd.trans (hB5.mono hBd.size)⟩
end Go.Proofs.YtfbafjlhdbjgoaaDoor
