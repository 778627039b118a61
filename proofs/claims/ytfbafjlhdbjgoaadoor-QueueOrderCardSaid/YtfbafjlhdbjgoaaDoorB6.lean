/- The reference's Respects. -/
import Derived.Test.YtfbafjlhdbjgoaaDoorB5
namespace Go.Proofs.YtfbafjlhdbjgoaaDoor
set_option linter.unusedVariables false
set_option linter.unusedSimpArgs false
open Go.RowKit Go.Sort

/-- The places that an order gives (from place p on); none where it names a wrong number, or one twice. -/
def plGo (n : Nat) : List Int → Nat → List Int → Option (List Int)
  | [], _, pl => some pl
  | x :: os, p, pl => if (0 ≤ x ∧ x < n) ∧ pl.getD x.toNat 0 = 0 then plGo n os (p + 1) (pl.set x.toNat ((p : Int) + 1)) else none
def pairOk (ls : List Cmd) (pl : List Int) (k i : Nat) : Bool := !(befAt ls i k && decide (pl.getD k 0 < pl.getD i 0))
def rowTo (ls : List Cmd) (pl : List Int) (k m : Nat) : Bool := (List.range m).all (pairOk ls pl k)
def plTo (ls : List Cmd) (pl : List Int) (k : Nat) : Bool := (List.range k).all fun k => rowTo ls pl k k
def plFin (ls : List Cmd) : Option (List Int) → Bool
  | none => false
  | some pl => plTo ls pl ls.length
def refRespGo (ls : List Cmd) (os : List Int) : Bool := plFin ls (plGo ls.length os 0 (List.replicate ls.length 0))

theorem plGo_out {n : Nat} {x : Int} {os : List Int} {p : Nat} {pl : List Int} (h : ¬ (0 ≤ x ∧ x < n)) : plGo n (x :: os) p pl = none := by
  rw [plGo, if_neg (fun hh => h hh.1)]
theorem plGo_twice {n i : Nat} {os : List Int} {p : Nat} {pl : List Int} (h : pl.getD i 0 ≠ 0) : plGo n ((i : Int) :: os) p pl = none := by
  rw [plGo, if_neg (fun hh => h (by simpa using hh.2))]
theorem plGo_on {n i : Nat} {os : List Int} {p : Nat} {pl : List Int} (hi : i < n) (h : pl.getD i 0 = 0) : plGo n ((i : Int) :: os) p pl = plGo n os (p + 1) (pl.set i ((p : Int) + 1)) := by
  rw [plGo, if_pos ⟨⟨by omega, by omega⟩, by simpa using h⟩, Int.toNat_natCast]
theorem rowTo_succ {ls : List Cmd} {pl : List Int} {k m : Nat} (h : rowTo ls pl k m = true) (hc : pairOk ls pl k m = true) : rowTo ls pl k (m + 1) = true := by
  unfold rowTo at *
  simp only [List.range_succ, List.all_append, List.all_cons, List.all_nil, Bool.and_true]
  rw [hc, Bool.and_true]; exact h
theorem plTo_succ {ls : List Cmd} {pl : List Int} {k : Nat} (h : plTo ls pl k = true) (hc : rowTo ls pl k k = true) : plTo ls pl (k + 1) = true := by
  unfold plTo at *
  simp only [List.range_succ, List.all_append, List.all_cons, List.all_nil, Bool.and_true]
  rw [hc, Bool.and_true]; exact h
theorem plTo_hit {ls : List Cmd} {pl : List Int} {n k m : Nat} (hk : k < n) (hm : m < k) (h : pairOk ls pl k m = false) : plTo ls pl n = false := by
  unfold plTo
  rw [List.all_eq_false]
  refine ⟨k, by simpa using hk, ?_⟩
  have : rowTo ls pl k k = false := by
    unfold rowTo
    rw [List.all_eq_false]
    exact ⟨m, by simpa using hm, by simp [h]⟩
  simp [this]
theorem getD_of {α : Type} {xs : List α} {i : Nat} {x d : α} (h : xs[i]? = some x) : xs.getD i d = x := by simp [h]

set_option maxHeartbeats 4000000 in
set_option maxRecDepth 100000 in
theorem refResp_ne (la oa : Option Addr) (lc oc : Nat) (ls : List Cmd) (os : List Int) (w : World) (hp : 0 < ls.length) (h : Cmds w la ls) (ho : Ints w oa os) (hl : os.length = ls.length) (hm : (ls.length : Int) ≤ 1000000) :
    Calls Tryd.prog 26 #[.slice la ls.length lc, .slice oa os.length oc] w fun e w' => e = .returned (.bool (refRespGo ls os)) ∧ Below w.heap.size w w' := by
  obtain ⟨b, o, rfl, hcs⟩ := h.2 hp
  obtain ⟨b2, o2, rfl, hos⟩ := ho (by omega)
  have hmk := run_makeInts ls.length hm
  have hok := h.1
  have hne : ((os.length : Int) != ls.length) = false := by simp [hl]
  have HL := Lib.hid hl
  have hmo : (os.length : Int) ≤ 1000000 := by omega
  clear h ho hl
  obtain ⟨Q, hQ⟩ : ∃ Q, Q = plGo ls.length os 0 (List.replicate ls.length 0) := ⟨_, rfl⟩
  have HR : Hid (refRespGo ls os = plFin ls Q) := by
    show refRespGo ls os = _
    rw [hQ]; rfl
  generalize refRespGo ls os = R at HR ⊢
  have HQ := Lib.hid hQ
  clear hQ
  go_enter Tryd.func26, Tryd.ntmps26
  go_wp2
  go_loopg [6, 7] (os.length) (fun g c _ wr => ∃ p pl, p ≤ os.length ∧ g = os.length - p ∧ c = .int .i64 (p : Nat) ∧ pl.length = ls.length ∧ plGo ls.length (os.drop p) p pl = Q ∧ IntRow wr w.heap.size pl ∧ Below w.heap.size w wr)
  case atStart => exact ⟨0, _, Nat.zero_le _, by simp, rfl, by simp, HQ.out.symm, intRow_made w _, below_box w _ _⟩
  case round =>
    obtain ⟨p, pl, hpl, rfl, rfl, hdl, hgo, hrow, hB⟩ := hrel
    obtain ⟨wo, hwo⟩ : ∃ wo, wo = wr := ⟨_, rfl⟩
    subst hwo
    have HG := Lib.hid hgo
    have HDL := Lib.hid hdl
    clear hgo hdl
    by_cases hlt : p < os.length
    · obtain ⟨x, hx⟩ : ∃ x, os[p]? = some x := ⟨_, List.getElem?_eq_getElem hlt⟩
      have g0 := cell_keep hB (hos p x hx)
      have HD : Hid (os.drop p = x :: os.drop (p + 1)) := by
        show os.drop p = _
        rw [List.drop_eq_getElem_cons hlt]
        have : os[p] = x := by rw [List.getElem?_eq_getElem hlt] at hx; exact Option.some.inj hx
        rw [this]
      clear hx hos
      have HNone : Hid (Q = none → R = false) := fun h => by show R = false; rw [HR.out, h]; rfl
      by_cases hx0 : 0 ≤ x
      · obtain ⟨i, rfl⟩ := Int.eq_ofNat_of_zero_le hx0
        clear hx0
        by_cases hxn : i < ls.length
        · obtain ⟨bi, hbi⟩ : ∃ bi, pl[i]? = some bi := ⟨_, List.getElem?_eq_getElem (by have := HDL.out; omega)⟩
          have gi := hrow.cell hbi
          have HBI : Hid (pl.getD i 0 = bi) := getD_of hbi
          clear hbi
          by_cases hb0 : bi = 0
          · subst hb0
            have fi := hrow.free i
            have HS : Hid (plGo ls.length (os.drop (p + 1)) (p + 1) (pl.set i ((p : Int) + 1)) = Q) := by
              show _ = Q
              rw [← HG.out, HD.out, plGo_on hxn HBI.out]
            have hr2 := hrow.set_ i ((p : Int) + 1)
            have hB2 : Below w.heap.size w (wo.setCell ⟨w.heap.size, i, none⟩ (.int .i64 ((p : Int) + 1))) := hB.setCell (Nat.le_refl _) _
            clear hcs hok
            go_wp2
            go_roundg (os.length - (p + 1))
            case measure => omega
            case rel => exact ⟨p + 1, _, by omega, rfl, by go_num, by rw [List.length_set]; exact HDL.out, HS.out, hr2, hB2⟩
          · have hb1 : (bi != 0) = true := by simpa using hb0
            have HF : Hid (R = false) := HNone.out (by rw [← HG.out, HD.out]; exact plGo_twice (by rw [HBI.out]; exact hb0))
            clear hb0
            go_wp2
            go_ret
            exact ⟨ret_false HF.out, hB⟩
        · have HF : Hid (R = false) := HNone.out (by rw [← HG.out, HD.out]; exact plGo_out (by omega))
          go_wp2
          go_ret
          exact ⟨ret_false HF.out, hB⟩
      · have HF : Hid (R = false) := HNone.out (by rw [← HG.out, HD.out]; exact plGo_out (by omega))
        go_wp2
        go_ret
        exact ⟨ret_false HF.out, hB⟩
    · have HP : Hid (R = plTo ls pl ls.length) := by
        show R = _
        have : Q = some pl := by rw [← HG.out, List.drop_of_length_le (by omega)]; rfl
        rw [HR.out, this]; rfl
      clear HR HG HQ
      go_wp2
      go_loopg [8, 9] (ls.length) (fun g c _ wi => ∃ k, k ≤ ls.length ∧ g = ls.length - k ∧ c = .int .i64 (k : Nat) ∧ plTo ls pl k = true ∧ Below wo.heap.size wo wi)
      case atStart => exact ⟨0, Nat.zero_le _, by simp, rfl, by simp [plTo], Below.refl _ _⟩
      case round =>
        obtain ⟨k, hk, rfl, rfl, hto, hBi⟩ := hrel
        obtain ⟨wi, hwi⟩ : ∃ wi, wi = wr := ⟨_, rfl⟩
        subst hwi
        have HTO := Lib.hid hto
        clear hto
        by_cases hkl : k < ls.length
        · go_wp2
          go_loopg [9] k (fun g c wj => ∃ m, m ≤ k ∧ g = k - m ∧ c = .int .i64 (m : Nat) ∧ rowTo ls pl k m = true ∧ Below wo.heap.size wo wj)
          case atStart => exact ⟨0, Nat.zero_le _, by simp, rfl, by simp [rowTo], hBi⟩
          case round =>
            obtain ⟨m, hmk, rfl, rfl, hrt, hBj⟩ := hrel
            have HRT := Lib.hid hrt
            clear hrt
            have hBw : Below w.heap.size w wr := hB.trans (hBj.mono hB.size)
            by_cases hml : m < k
            · obtain ⟨y, hy⟩ : ∃ y, ls[m]? = some y := ⟨_, List.getElem?_eq_getElem (by omega)⟩
              obtain ⟨z, hz⟩ : ∃ z, ls[k]? = some z := ⟨_, List.getElem?_eq_getElem hkl⟩
              obtain ⟨u, hu⟩ : ∃ u, pl[m]? = some u := ⟨_, List.getElem?_eq_getElem (by have := HDL.out; omega)⟩
              obtain ⟨v, hv⟩ : ∃ v, pl[k]? = some v := ⟨_, List.getElem?_eq_getElem (by have := HDL.out; omega)⟩
              have gu : ∀ d os, (grow (redrawn wr d) os).cell? ⟨w.heap.size, m, none⟩ = some (.int .i64 u) := cell_regrown (cell_keep hBj (hrow.cell hu))
              have gv : ∀ d os, (grow (redrawn wr d) os).cell? ⟨w.heap.size, k, none⟩ = some (.int .i64 v) := cell_regrown (cell_keep hBj (hrow.cell hv))
              have HP2 : Hid (pairOk ls pl k m = !(beforeB y z && decide (v < u))) := by
                show pairOk ls pl k m = _
                rw [pairOk, befAt_some hy hz, getD_of hu, getD_of hv]
              have oy := (hok m y hy).mono hBw
              have oz := (hok k z hz).mono hBw
              obtain ⟨r0, r1, r2, r3, r4, r5, r6, r7, r8⟩ := ((hcs m y hy).mono hBw).grown
              obtain ⟨t0, t1, t2, t3, t4, t5, t6, t7, t8⟩ := ((hcs k z hz).mono hBw).grown
              have hmlen : m < ls.length := by omega
              clear hy hz hu hv hcs hok
              have C20 := Lib.hid (reg_below (wr := wr) fun W hW => refBefore_any y z W (oy.mono hW) (oz.mono hW))
              clear oy oz
              cases hbf : beforeB y z with
              | true =>
                rw [hbf] at C20 HP2
                clear hbf
                by_cases huv : v < u
                · have HF : Hid (R = false) := by
                    show R = false
                    rw [HP.out]; exact plTo_hit hkl hml (by rw [HP2.out]; simp [huv])
                  go_wp2_with fail
                  refine wp_region_quiet_below (by kernel_rfl) (by kernel_rfl) ?_
                  repeat (go_big_quiet_step ((go_at_call 20; exact C20.out _ _)))
                  refine wpQuiet_nil ?_
                  intro _ hw'
                  obtain ⟨⟨d, os'⟩, hw''⟩ := hw'
                  subst hw''
                  have hB2 : Below wo.heap.size wo (grow (redrawn wr d) os') := hBj.trans ((below_regrown wr d os').mono hBj.size)
                  generalize grow (redrawn wr d) os' = w2 at hB2 ⊢
                  go_wp2
                  go_ret
                  exact ⟨ret_false HF.out, hB.trans (hB2.mono hB.size)⟩
                · have HN := Lib.hid (rowTo_succ HRT.out (show pairOk ls pl k m = true by rw [HP2.out]; simp [huv]))
                  go_wp2_with fail
                  refine wp_region_quiet_below (by kernel_rfl) (by kernel_rfl) ?_
                  repeat (go_big_quiet_step ((go_at_call 20; exact C20.out _ _)))
                  refine wpQuiet_nil ?_
                  intro _ hw'
                  obtain ⟨⟨d, os'⟩, hw''⟩ := hw'
                  subst hw''
                  have hB2 : Below wo.heap.size wo (grow (redrawn wr d) os') := hBj.trans ((below_regrown wr d os').mono hBj.size)
                  generalize grow (redrawn wr d) os' = w2 at hB2 ⊢
                  go_wp2
                  go_roundg (k - (m + 1))
                  case measure => omega
                  case rel => exact ⟨m + 1, by omega, rfl, by go_num, HN.out, hB2⟩
              | false =>
                rw [hbf] at C20 HP2
                clear hbf
                have HN := Lib.hid (rowTo_succ HRT.out (show pairOk ls pl k m = true by rw [HP2.out]; simp))
                go_wp2_with fail
                refine wp_region_quiet_below (by kernel_rfl) (by kernel_rfl) ?_
                repeat (go_big_quiet_step ((go_at_call 20; exact C20.out _ _)))
                refine wpQuiet_nil ?_
                intro _ hw'
                obtain ⟨⟨d, os'⟩, hw''⟩ := hw'
                subst hw''
                have hB2 : Below wo.heap.size wo (grow (redrawn wr d) os') := hBj.trans ((below_regrown wr d os').mono hBj.size)
                generalize grow (redrawn wr d) os' = w2 at hB2 ⊢
                go_wp2
                go_roundg (k - (m + 1))
                case measure => omega
                case rel => exact ⟨m + 1, by omega, rfl, by go_num, HN.out, hB2⟩
            · have e : m = k := by omega
              subst e
              have HN := Lib.hid (plTo_succ HTO.out HRT.out)
              clear hcs hok
              go_wp2
              go_roundg (ls.length - (m + 1))
              case measure => omega
              case rel => exact ⟨m + 1, by omega, rfl, by go_num, HN.out, hBj⟩
        · have HF : Hid (R = true) := by
            show R = true
            have e : k = ls.length := by omega
            rw [HP.out, ← e]; exact HTO.out
          clear hcs hok
          go_wp2
          go_ret
          exact ⟨by rw [HF.out]; rfl, hB.trans (hBi.mono hB.size)⟩

def refRespB (ls : List Cmd) (os : List Int) : Bool := decide (os.length = ls.length) && refRespGo ls os
set_option maxHeartbeats 1000000 in
set_option maxRecDepth 100000 in
theorem refResp_any (la oa : Option Addr) (lc oc : Nat) (ls : List Cmd) (os : List Int) (w : World) (h : Cmds w la ls) (ho : Ints w oa os) (hm : (ls.length : Int) ≤ 1000000) :
    Calls Tryd.prog 26 #[.slice la ls.length lc, .slice oa os.length oc] w fun e w' => e = .returned (.bool (refRespB ls os)) ∧ Below w.heap.size w w' := by
  by_cases hl : os.length = ls.length
  · have e : refRespB ls os = refRespGo ls os := by simp [refRespB, hl]
    rw [e]
    by_cases hp : 0 < ls.length
    · exact refResp_ne la oa lc oc ls os w hp h ho hl hm
    · have e1 : ls = [] := List.eq_nil_of_length_eq_zero (by omega)
      have e2 : os = [] := List.eq_nil_of_length_eq_zero (by omega)
      subst e1 e2
      have hmk : ∀ w, (Instr.makeSlice 31 (.int .i64 0) (.int .i64 0)).run Tryd.prog w = .ok (.slice (some ⟨w.heap.size, 0, none⟩) 0 0) (w.alloc (.cells (madeCells #[.int .i64 0] 0) 3)) := fun w => run_makeInts 0 (by omega) w
      clear h ho hm hl e hp
      go_enter Tryd.func26, Tryd.ntmps26
      go_wp2
      refine wp_loop_rounds 1 ?_
      rw [rounds_succ]
      go_wp2
      refine wp_loop_rounds 1 ?_
      rw [rounds_succ]
      go_wp2
      go_ret
      exact ⟨rfl, below_box _ _ _⟩
  · have hne : ((os.length : Int) != ls.length) = true := by simp; omega
    have HE := Lib.hid (show refRespB ls os = false by simp [refRespB, hl])
    clear hl h ho
    go_enter Tryd.func26, Tryd.ntmps26
    go_wp2
    go_ret
    exact ⟨ret_bool HE.out.symm, Below.refl _ _⟩
end Go.Proofs.YtfbafjlhdbjgoaaDoor
