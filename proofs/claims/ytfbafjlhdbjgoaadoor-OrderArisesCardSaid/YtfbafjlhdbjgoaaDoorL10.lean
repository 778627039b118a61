/- The walk of OrderArises. -/
import Derived.Test.YtfbafjlhdbjgoaaDoorL11
namespace Go.Proofs.YtfbafjlhdbjgoaaDoor
set_option linter.unusedVariables false
set_option linter.unusedSimpArgs false
open Go.RowKit Go.Sort

theorem elig_iff {ls : List Cmd} {ds : List Bool} {j : Nat} (hj : j < ls.length) (h0 : doneAt ds j = false) : decide ((j : Int) ∈ elig ls ds) = freeTo ls ds j j := by
  cases hf : freeTo ls ds j j with
  | true => exact decide_eq_true (elig_mem hj h0 hf)
  | false =>
    refine decide_eq_false fun hm => ?_
    obtain ⟨k, hk, _, _, h2⟩ := mem_elig hm
    have : j = k := by omega
    subst this
    rw [hf] at h2; cases h2
theorem respGo_cons {ls : List Cmd} {j : Nat} {os : List Int} {ds : List Bool} (hj : j < ls.length) (h0 : doneAt ds j = false) : respGo ls ((j : Int) :: os) ds = (decide ((j : Int) ∈ elig ls ds) && respGo ls os (ds.set j true)) := by
  rw [elig_iff hj h0]
  have : (0 : Int) ≤ (j : Int) ∧ (j : Int) < ls.length := ⟨by omega, by omega⟩
  simp only [respGo, this, decide_true, Int.toNat_natCast, h0, Bool.not_false, Bool.true_and, and_self]
theorem mem_take_succ {x y : Int} {E : List Int} {m : Nat} (h : E[m]? = some y) : decide (x ∈ E.take (m + 1)) = (decide (x ∈ E.take m) || y == x) := by
  rw [List.take_add_one, h]
  by_cases h1 : x ∈ E.take m
  · simp [h1]
  · by_cases h2 : y = x
    · simp [h1, h2]
    · have h3 : ¬ x = y := fun (e : x = y) => h2 e.symm
      simp [h1, h2, h3]

set_option maxHeartbeats 4000000 in
set_option maxRecDepth 100000 in
theorem orderArises_walk (la oa : Option Addr) (lc oc : Nat) (ls : List Cmd) (os : List Int) (w : World) (h : Cmds w la ls) (ho : Ints w oa os) (hm : (ls.length : Int) ≤ 17592186044416) (hmo : (os.length : Int) ≤ 17592186044416) :
    Calls Tryd.prog 10 #[.slice la ls.length lc, .slice oa os.length oc] w fun e w' => e = .returned (.bool true) ∧ RowKit.Below w.heap.size w w' := by
  go_enter Tryd.func10, Tryd.ntmps10
  go_wp2_with fail
  refine (awake_any _).mono ?_
  rintro e w1 ⟨rfl, hB1⟩
  go_wp2_with fail
  refine (few_any la lc ls _ (h.mono hB1) hm).mono ?_
  rintro e w2 ⟨rfl, hB2⟩
  have hB := hB1.trans (hB2.mono hB1.size)
  cases hf : fewB ls with
  | false =>
    go_wp2_with fail
    go_ret
    exact ⟨rfl, hB⟩
  | true =>
    have hl := few_len hf
    clear hf
    by_cases hlo : os.length = ls.length
    · have hne : ((os.length : Int) != ls.length) = false := by simp [hlo]
      have hmk := run_makeBools ls.length (by omega)
      have HC := Lib.hid (h.mono hB)
      have HO := Lib.hid (ho.mono hB)
      have HLO := Lib.hid hlo
      have hol : os.length ≤ 14 := by omega
      have C25 : Hid (∀ W, RowKit.Below w2.heap.size w2 W → Calls Tryd.prog 25 #[.slice la ls.length lc, .slice oa os.length oc] W fun e w' => e = .returned (.bool (respGo ls os (List.replicate ls.length false))) ∧ RowKit.Below W.heap.size W w') := fun W hW => by
        have := resp_any la oa lc oc ls os W (HC.out.mono hW) (HO.out.mono hW) (by omega)
        rwa [respB, decide_eq_true HLO.out, Bool.true_and] at this
      obtain ⟨R, hR⟩ : ∃ R, respGo ls os (List.replicate ls.length false) = R := ⟨_, rfl⟩
      rw [hR] at C25
      have HR := Lib.hid hR
      clear h ho hB1 hB2 hlo hR
      go_wp2_with fail
      go_loopg [6, 7, 8, 9, 10] (os.length) (fun g al i _ _ _ wr => ∃ k A ds, k ≤ os.length ∧ g = os.length - k ∧ al = .bool A ∧ i = .int .i64 (k : Nat) ∧ ds.length = ls.length ∧ R = (A && respGo ls (os.drop k) ds) ∧ RunD w2 ds wr)
      case atStart => exact ⟨0, true, _, Nat.zero_le _, by simp, rfl, rfl, by simp, by rw [Bool.true_and, List.drop_zero]; exact HR.out.symm, RunD.start w2 _⟩
      case round =>
        clear hmk hne
        obtain ⟨k, A, ds, hk, rfl, rfl, rfl, hdl, hRA, hrun⟩ := hrel
        obtain ⟨wo, hwo⟩ : ∃ wo, wo = wr := ⟨_, rfl⟩
        subst hwo
        have HRA := Lib.hid hRA
        have HDL := Lib.hid hdl
        clear hRA hdl
        by_cases hkl : k < os.length
        · obtain ⟨bo, oo, rfl, hos⟩ := HO.out (by omega)
          obtain ⟨x, hx⟩ : ∃ x, os[k]? = some x := ⟨_, List.getElem?_eq_getElem hkl⟩
          have g0 := cell_keep hrun.bel (hos k x hx)
          have HD : Hid (os.drop k = x :: os.drop (k + 1)) := by
            show os.drop k = _
            rw [List.drop_eq_getElem_cons hkl]
            have : os[k] = x := by rw [List.getElem?_eq_getElem hkl] at hx; exact Option.some.inj hx
            rw [this]
          have HGO := Lib.hid (hos k x hx)
          clear hx hos
          by_cases hx0 : 0 ≤ x
          · obtain ⟨j, rfl⟩ := Int.eq_ofNat_of_zero_le hx0
            clear hx0
            by_cases hxn : j < ls.length
            · obtain ⟨b0, hb0⟩ : ∃ b, ds[j]? = some b := ⟨_, List.getElem?_eq_getElem (by rw [HDL.out]; exact hxn)⟩
              have gd := hrun.row.cell hb0
              have hdj : Hid (doneAt ds j = b0) := doneAt_lt hb0
              clear hb0
              cases b0 with
              | true =>
                have HF : Hid (R = false) := by show R = false; rw [HRA.out, HD.out, respGo_done hdj.out, Bool.and_false]
                have C25' : Calls Tryd.prog 25 #[.slice la ls.length lc, .slice (some ⟨bo, oo, none⟩) os.length oc] wo fun e w' => e = .returned (.bool false) ∧ RowKit.Below wo.heap.size wo w' := by have := C25.out wo hrun.bel; rwa [HF.out] at this
                have hBw := hrun.bel
                clear hrun C25
                go_wp2_with fail
                refine C25'.mono ?_
                rintro e w5 ⟨rfl, hB5⟩
                clear C25'
                go_wp2_with fail
                go_ret
                exact ⟨rfl, hB.trans ((hBw.trans (hB5.mono hBw.size)).mono hB.size)⟩
              | false =>
                have CE : Calls Tryd.prog 23 #[.slice la ls.length lc, .slice (some ⟨w2.heap.size, 0, none⟩) ls.length ls.length] wo fun e w' => ∃ a c, e = .returned (.slice a (elig ls ds).length c) ∧ Ints w' a (elig ls ds) ∧ RowKit.Below wo.heap.size wo w' := by
                  have := elig_any la (some ⟨w2.heap.size, 0, none⟩) lc ls.length ls ds wo (HC.out.mono hrun.bel) hrun.row.bools (by omega)
                  rw [HDL.out] at this
                  exact this
                have HN : Hid (R = (A && (decide ((j : Int) ∈ elig ls ds) && respGo ls (os.drop (k + 1)) (ds.set j true)))) := by show R = _; rw [HRA.out, HD.out, respGo_cons hxn hdj.out]
                have hEl := eligTo_len ls ds ls.length
                rw [show eligTo ls ds ls.length = elig ls ds from rfl] at hEl
                generalize elig ls ds = E at CE hEl HN
                go_wp2_with fail
                refine CE.mono ?_
                rintro e w4 ⟨a, c, rfl, hI, hB4⟩
                have hrun4 := hrun.next hB4
                have HI := Lib.hid hI
                clear CE hrun gd g0 hI
                go_wp2
                go_loopg [9, 10] (E.length) (fun g f i wr => ∃ m F, m ≤ E.length ∧ g = E.length - m ∧ f = .bool F ∧ F = decide ((j : Int) ∈ E.take m) ∧ i = .int .i64 (m : Nat) ∧ RowKit.Below w4.heap.size w4 wr)
                case atStart => exact ⟨0, false, Nat.zero_le _, by simp, rfl, by simp, rfl, RowKit.Below.refl _ _⟩
                case round =>
                  obtain ⟨m, F, hm', rfl, rfl, hF, rfl, hBj⟩ := hrel
                  obtain ⟨wi, hwi⟩ : ∃ wi, wi = wr := ⟨_, rfl⟩
                  subst hwi
                  have HF := Lib.hid hF
                  clear hF
                  by_cases hml : m < E.length
                  · obtain ⟨be, oe, rfl, hce⟩ := HI.out (by omega)
                    obtain ⟨y, hy⟩ : ∃ y, E[m]? = some y := ⟨_, List.getElem?_eq_getElem hml⟩
                    have gy := cell_keep hBj (hce m y hy)
                    have gx := cell_keep (hrun4.bel.trans (hBj.mono hrun4.bel.size)) HGO.out
                    have HS := Lib.hid (mem_take_succ (x := (j : Int)) hy)
                    clear hce hy
                    cases F with
                    | true =>
                      clear gy gx
                      go_wp2_with fail
                      go_quiet (fail)
                      go_wp2
                      go_roundg (E.length - (m + 1))
                      case measure => omega
                      case rel => exact ⟨m + 1, true, by omega, rfl, rfl, by rw [HS.out, ← HF.out]; rfl, by go_num, below_drewN hBj _⟩
                    | false =>
                      by_cases hyj : y = (j : Int)
                      · subst hyj
                        go_wp2_with fail
                        go_quiet (fail)
                        go_wp2
                        go_roundg (E.length - (m + 1))
                        case measure => omega
                        case rel => exact ⟨m + 1, true, by omega, rfl, rfl, by rw [HS.out, ← HF.out]; simp, by go_num, below_drewN hBj _⟩
                      · have hye : (y == (j : Int)) = false := by simpa using hyj
                        clear hyj
                        go_wp2_with fail
                        go_quiet (fail)
                        go_wp2
                        go_roundg (E.length - (m + 1))
                        case measure => omega
                        case rel => exact ⟨m + 1, false, by omega, rfl, rfl, by rw [HS.out, ← HF.out, hye]; rfl, by go_num, below_drewN hBj _⟩
                  · have hFE : Hid (F = decide ((j : Int) ∈ E)) := by
                      show F = _
                      rw [HF.out, List.take_of_length_le (by omega)]
                    have hrun5 := hrun4.next hBj
                    obtain ⟨b1, hb1⟩ : ∃ b, ds[j]? = some b := ⟨_, List.getElem?_eq_getElem (by rw [HDL.out]; exact hxn)⟩
                    have gd := hrun5.row.cell hb1
                    have gf := hrun5.row.free j
                    have gx := cell_keep hrun5.bel HGO.out
                    have hrun6 := hrun5.done j
                    clear hb1
                    cases A with
                    | true =>
                      go_wp2
                      go_roundg (os.length - (k + 1))
                      case measure => omega
                      case rel => exact ⟨k + 1, F, _, by omega, rfl, rfl, by go_num, by simpa using HDL.out, by rw [HN.out, hFE.out, Bool.true_and], hrun6⟩
                    | false =>
                      go_wp2
                      go_roundg (os.length - (k + 1))
                      case measure => omega
                      case rel => exact ⟨k + 1, false, _, by omega, rfl, rfl, by go_num, by simpa using HDL.out, by rw [HN.out, Bool.false_and, Bool.false_and], hrun6⟩
            · have HF : Hid (R = false) := by show R = false; rw [HRA.out, HD.out, respGo_out (by omega), Bool.and_false]
              have C25' : Calls Tryd.prog 25 #[.slice la ls.length lc, .slice (some ⟨bo, oo, none⟩) os.length oc] wo fun e w' => e = .returned (.bool false) ∧ RowKit.Below wo.heap.size wo w' := by have := C25.out wo hrun.bel; rwa [HF.out] at this
              have hBw := hrun.bel
              clear hrun C25
              go_wp2_with fail
              refine C25'.mono ?_
              rintro e w5 ⟨rfl, hB5⟩
              clear C25'
              go_wp2_with fail
              go_ret
              exact ⟨rfl, hB.trans ((hBw.trans (hB5.mono hBw.size)).mono hB.size)⟩
          · have HF : Hid (R = false) := by show R = false; rw [HRA.out, HD.out, respGo_out (by omega), Bool.and_false]
            have C25' : Calls Tryd.prog 25 #[.slice la ls.length lc, .slice (some ⟨bo, oo, none⟩) os.length oc] wo fun e w' => e = .returned (.bool false) ∧ RowKit.Below wo.heap.size wo w' := by have := C25.out wo hrun.bel; rwa [HF.out] at this
            have hBw := hrun.bel
            clear hrun C25
            go_wp2_with fail
            refine C25'.mono ?_
            rintro e w5 ⟨rfl, hB5⟩
            clear C25'
            go_wp2_with fail
            go_ret
            exact ⟨rfl, hB.trans ((hBw.trans (hB5.mono hBw.size)).mono hB.size)⟩
        · have HA : Hid (R = A) := by
            show R = A
            rw [HRA.out, List.drop_of_length_le (by omega), respGo, Bool.and_true]
          have C25' : Calls Tryd.prog 25 #[.slice la ls.length lc, .slice oa os.length oc] wo fun e w' => e = .returned (.bool A) ∧ RowKit.Below wo.heap.size wo w' := by have := C25.out wo hrun.bel; rwa [HA.out] at this
          have hBw := hrun.bel
          clear hrun C25
          go_wp2_with fail
          refine C25'.mono ?_
          rintro e w5 ⟨rfl, hB5⟩
          clear C25'
          go_wp2_with fail
          go_ret
          exact ⟨by simp, hB.trans ((hBw.trans (hB5.mono hBw.size)).mono hB.size)⟩
    · have hne : ((os.length : Int) != ls.length) = true := by simp; omega
      go_wp2_with fail
      go_ret
      exact ⟨rfl, hB⟩
end Go.Proofs.YtfbafjlhdbjgoaaDoor
