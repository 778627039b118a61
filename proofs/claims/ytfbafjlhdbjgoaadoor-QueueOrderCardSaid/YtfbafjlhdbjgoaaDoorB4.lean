/- Respects. -/
import Derived.Test.YtfbafjlhdbjgoaaDoorB3
namespace Go.Proofs.YtfbafjlhdbjgoaaDoor
set_option linter.unusedVariables false
set_option linter.unusedSimpArgs false
open Go.RowKit Go.Sort

/-- Whether the rest of an order may be carried out where these are done. -/
def respGo (ls : List Cmd) : List Int → List Bool → Bool
  | [], _ => true
  | x :: os, ds => decide (0 ≤ x ∧ x < ls.length) && !doneAt ds x.toNat && freeTo ls ds x.toNat x.toNat && respGo ls os (ds.set x.toNat true)
def respB (ls : List Cmd) (os : List Int) : Bool := decide (os.length = ls.length) && respGo ls os (List.replicate ls.length false)

/-- Block D holds these bools. -/
def BoolRow (w : World) (D : Nat) (ds : List Bool) : Prop := w.heap[D]? = some (.cells (ds.map Value.bool).toArray 4 (0, 0))
theorem BoolRow.cell {w : World} {D : Nat} {ds : List Bool} (h : BoolRow w D ds) {j : Nat} {b : Bool} (hj : ds[j]? = some b) : w.cell? ⟨D, j, none⟩ = some (.bool b) := by
  rw [cell_of_row w D j _ 4 (0, 0) h]
  simp [hj]
theorem BoolRow.free {w : World} {D : Nat} {ds : List Bool} (h : BoolRow w D ds) (j : Nat) : w.frozen? ⟨D, j, none⟩ = false := by
  unfold BoolRow at h
  simp [World.frozen?, h]
theorem BoolRow.lt {w : World} {D : Nat} {ds : List Bool} (h : BoolRow w D ds) : D < w.heap.size := by
  rcases Nat.lt_or_ge D w.heap.size with hlt | hge
  · exact hlt
  · unfold BoolRow at h; rw [Array.getElem?_eq_none hge] at h; cases h
theorem BoolRow.mono {w w' : World} {D : Nat} {ds : List Bool} (h : BoolRow w D ds) (hb : Below w.heap.size w w') : BoolRow w' D ds := (hb.block D h.lt).trans h
theorem BoolRow.set_ {w : World} {D : Nat} {ds : List Bool} (h : BoolRow w D ds) (i : Nat) (b : Bool) : BoolRow (w.setCell ⟨D, i, none⟩ (.bool b)) D (ds.set i b) := by
  unfold BoolRow at h ⊢
  simp [World.setCell, Array.getElem?_modify, h, List.map_set]
theorem boolRow_made (w : World) (n : Nat) : BoolRow (w.alloc (.cells (madeCells #[.bool false] n) 4)) w.heap.size (List.replicate n false) := by
  unfold BoolRow
  rw [heap_alloc_new]
  have : madeCells #[Value.bool false] n = (List.map Value.bool (List.replicate n false)).toArray := by
    apply Array.toList_inj.1
    rw [toList_madeCells_one]
    simp
  rw [this]
theorem BoolRow.bools {w : World} {D : Nat} {ds : List Bool} (h : BoolRow w D ds) : Bools w (some ⟨D, 0, none⟩) ds := fun _ => ⟨D, 0, rfl, fun i x hx => by rw [Nat.zero_add]; exact h.cell hx⟩

theorem run_make_rowN {P : Program} (t e : TypeId) (i : TypeInfo) (z : Value) (ht : P.underlying t = some (.slice e)) (hi : P.info? e = some i) (hz : i.zero = some z)
    (kl kc : IntKind) (n c : Nat) (hnc : n ≤ c) (hbytes : i.bytes * c ≤ 281474976710656) (h63 : c ≤ 9223372036854775807) (w : World) :
    (Instr.makeSlice t (.int kl (n : Int)) (.int kc (c : Int))).run P w = .ok (.slice (some ⟨w.heap.size, 0, none⟩) n c) (w.alloc (.cells (madeCells z.cells (c * i.size)) e)) := by
  have hb : (i.bytes : Int) * (c : Int) ≤ 281474976710656 := by
    have h : ((i.bytes * c : Nat) : Int) ≤ 281474976710656 := by omega
    rwa [Int.natCast_mul] at h
  have hr := run_make (P := P) w t e i z ht hi hz kl kc n c (by omega) (by omega) hb (by omega)
  simp only [Int.toNat_natCast] at hr
  exact hr
theorem info4 : (Tryd.prog.info? 4).map (fun i => (i.zero, i.size, i.bytes)) = some (some (.bool false), 1, 1) := by kernel_rfl
theorem run_makeBools (n : Nat) (hn : (n : Int) ≤ 1000000) (w : World) : (Instr.makeSlice 28 (.int .i64 (n : Int)) (.int .i64 (n : Int))).run Tryd.prog w = .ok (.slice (some ⟨w.heap.size, 0, none⟩) n n) (w.alloc (.cells (madeCells #[.bool false] n) 4)) := by
  obtain ⟨i0, hi, hz0, hz1, hz2⟩ := info_parts info4
  have := run_make_rowN (P := Tryd.prog) 28 4 i0 (.bool false) Tryd.underlying28 hi hz0 .i64 .i64 n n (Nat.le_refl _) (by rw [hz2]; omega) (by omega) w
  rw [hz1, Nat.mul_one] at this
  exact this

theorem respGo_out {ls : List Cmd} {x : Int} {os : List Int} {ds : List Bool} (h : ¬ (0 ≤ x ∧ x < ls.length)) : respGo ls (x :: os) ds = false := by simp [respGo, h]
theorem respGo_done {ls : List Cmd} {i : Nat} {os : List Int} {ds : List Bool} (h : doneAt ds i = true) : respGo ls ((i : Int) :: os) ds = false := by simp [respGo, h]
theorem respGo_hit {ls : List Cmd} {i m : Nat} {os : List Int} {ds : List Bool} (hm : m < i) (h1 : doneAt ds m = false) (h2 : befAt ls m i = true) : respGo ls ((i : Int) :: os) ds = false := by
  have : freeTo ls ds i i = false := by
    unfold freeTo
    rw [List.all_eq_false]
    exact ⟨m, by simpa using hm, by simp [h1, h2]⟩
  simp [respGo, this]
theorem respGo_on {ls : List Cmd} {i : Nat} {os : List Int} {ds : List Bool} (h0 : i < ls.length) (h1 : doneAt ds i = false) (h2 : freeTo ls ds i i = true) : respGo ls ((i : Int) :: os) ds = respGo ls os (ds.set i true) := by
  have : (0 : Int) ≤ (i : Int) ∧ (i : Int) < ls.length := ⟨by omega, by omega⟩
  simp only [respGo, this, decide_true, Int.toNat_natCast, h1, h2, Bool.not_false, Bool.true_and, and_self]

theorem ret_false {R : Bool} (h : R = false) : Ending.returned (.bool false) = Ending.returned (.bool R) := by rw [h]

set_option maxHeartbeats 2000000 in
set_option maxRecDepth 100000 in
theorem resp_ne (la oa : Option Addr) (lc oc : Nat) (ls : List Cmd) (os : List Int) (w : World) (hp : 0 < ls.length) (h : Cmds w la ls) (ho : Ints w oa os) (hl : os.length = ls.length) (hm : (ls.length : Int) ≤ 1000000) :
    Calls Tryd.prog 25 #[.slice la ls.length lc, .slice oa os.length oc] w fun e w' => e = .returned (.bool (respGo ls os (List.replicate ls.length false))) ∧ Below w.heap.size w w' := by
  obtain ⟨b, o, rfl, hcs⟩ := h.2 hp
  obtain ⟨b2, o2, rfl, hos⟩ := ho (by omega)
  have hmk := run_makeBools ls.length hm
  have hok := h.1
  have hne : ((os.length : Int) != ls.length) = false := by simp [hl]
  have HL := Lib.hid hl
  have hmo : (os.length : Int) ≤ 1000000 := by omega
  clear h ho hl
  generalize hR : respGo ls os (List.replicate ls.length false) = R
  have HR := Lib.hid hR
  clear hR
  go_enter Tryd.func25, Tryd.ntmps25
  go_wp2
  go_loopg [7, 19] (os.length) (fun g _ c wr => ∃ p ds, p ≤ os.length ∧ g = os.length - p ∧ c = .int .i64 (p : Nat) ∧ ds.length = ls.length ∧ respGo ls (os.drop p) ds = R ∧ BoolRow wr w.heap.size ds ∧ Below w.heap.size w wr)
  case atStart => exact ⟨0, _, Nat.zero_le _, by simp, rfl, by simp, HR.out, boolRow_made w _, below_box w _ _⟩
  case round =>
    obtain ⟨p, ds, hpl, rfl, rfl, hdl, hgo, hrow, hB⟩ := hrel
    obtain ⟨wo, hwo⟩ : ∃ wo, wo = wr := ⟨_, rfl⟩
    subst hwo
    have HG := Lib.hid hgo
    have HDL := Lib.hid hdl
    clear hgo hdl
    by_cases hlt : p < os.length
    · obtain ⟨x, hx⟩ : ∃ x, os[p]? = some x := ⟨_, List.getElem?_eq_getElem hlt⟩
      have g0 := cell_keep hB (hos p x hx)
      have HD : Hid (os.drop p = x :: os.drop (p + 1)) := by
        show os.drop p = _
        rw [List.drop_eq_getElem_cons hlt]
        have : os[p] = x := by rw [List.getElem?_eq_getElem hlt] at hx; exact Option.some.inj hx
        rw [this]
      clear hx hos
      by_cases hx0 : 0 ≤ x
      · obtain ⟨i, rfl⟩ := Int.eq_ofNat_of_zero_le hx0
        clear hx0
        by_cases hxn : i < ls.length
        · obtain ⟨bi, hbi⟩ : ∃ bi, ds[i]? = some bi := ⟨_, List.getElem?_eq_getElem (by have := HDL.out; omega)⟩
          have gi := hrow.cell hbi
          have HBI : Hid (doneAt ds i = bi) := doneAt_lt hbi
          clear hbi
          cases bi with
          | true =>
            have HF : Hid (R = false) := by
              show R = false
              rw [← HG.out, HD.out]; exact respGo_done HBI.out
            go_wp2
            go_ret
            exact ⟨ret_false HF.out, hB⟩
          | false =>
            go_wp2
            go_loopg [8, 38] i (fun g _ j wi => ∃ m, m ≤ i ∧ g = i - m ∧ j = .int .i64 (m : Nat) ∧ freeTo ls ds i m = true ∧ Below wo.heap.size wo wi)
            case atStart => exact ⟨0, Nat.zero_le _, by simp, rfl, by simp [freeTo], Below.refl _ _⟩
            case round =>
              obtain ⟨m, hmi, rfl, rfl, hfree, hBi⟩ := hrel
              have HF := Lib.hid hfree
              clear hfree
              have hBw : Below w.heap.size w wr := hB.trans (hBi.mono hB.size)
              by_cases hml : m < i
              · obtain ⟨y, hy⟩ : ∃ y, ls[m]? = some y := ⟨_, List.getElem?_eq_getElem (by omega)⟩
                obtain ⟨z, hz⟩ : ∃ z, ls[i]? = some z := ⟨_, List.getElem?_eq_getElem hxn⟩
                obtain ⟨bm, hbm⟩ : ∃ bm, ds[m]? = some bm := ⟨_, List.getElem?_eq_getElem (by have := HDL.out; omega)⟩
                have gm : ∀ d os, (grow (redrawn wr d) os).cell? ⟨w.heap.size, m, none⟩ = some (.bool bm) := cell_regrown (cell_keep hBi (hrow.cell hbm))
                have HBM : Hid (doneAt ds m = bm) := doneAt_lt hbm
                have oy := (hok m y hy).mono hBw
                have oz := (hok i z hz).mono hBw
                obtain ⟨r0, r1, r2, r3, r4, r5, r6, r7, r8⟩ := ((hcs m y hy).mono hBw).grown
                obtain ⟨t0, t1, t2, t3, t4, t5, t6, t7, t8⟩ := ((hcs i z hz).mono hBw).grown
                have HN : Hid (befAt ls m i = beforeB y z) := befAt_some hy hz
                have hmlen : m < ls.length := by omega
                clear hy hz hbm hcs hok gi g0
                have C19 := Lib.hid (reg_below (wr := wr) fun W hW => before_any y z W (oy.mono hW) (oz.mono hW))
                clear oy oz
                cases bm with
                | true =>
                  go_wp2_with fail
                  refine wp_region_quiet_below (by kernel_rfl) (by kernel_rfl) ?_
                  repeat (go_big_quiet_step (fail))
                  refine wpQuiet_nil ?_
                  intro _ hw'
                  obtain ⟨⟨d, os'⟩, hw''⟩ := hw'
                  subst hw''
                  have hB2 : Below wo.heap.size wo (grow (redrawn wr d) os') := hBi.trans ((below_regrown wr d os').mono hBi.size)
                  generalize grow (redrawn wr d) os' = w2 at hB2 ⊢
                  go_wp2
                  go_roundg (i - (m + 1))
                  case measure => omega
                  case rel => exact ⟨m + 1, by omega, rfl, by go_num, freeTo_succ HF.out (by rw [HBM.out]; rfl), hB2⟩
                | false =>
                  cases hbf : beforeB y z with
                  | true =>
                    rw [hbf] at C19 HN
                    clear hbf
                    have HF2 : Hid (R = false) := by
                      show R = false
                      rw [← HG.out, HD.out]; exact respGo_hit hml HBM.out HN.out
                    go_wp2_with fail
                    refine wp_region_quiet_below (by kernel_rfl) (by kernel_rfl) ?_
                    repeat (go_big_quiet_step ((go_at_call 19; exact C19.out _ _)))
                    refine wpQuiet_nil ?_
                    intro _ hw'
                    obtain ⟨⟨d, os'⟩, hw''⟩ := hw'
                    subst hw''
                    have hB2 : Below wo.heap.size wo (grow (redrawn wr d) os') := hBi.trans ((below_regrown wr d os').mono hBi.size)
                    generalize grow (redrawn wr d) os' = w2 at hB2 ⊢
                    go_wp2
                    go_ret
                    exact ⟨ret_false HF2.out, hB.trans (hB2.mono hB.size)⟩
                  | false =>
                    rw [hbf] at C19 HN
                    clear hbf
                    go_wp2_with fail
                    refine wp_region_quiet_below (by kernel_rfl) (by kernel_rfl) ?_
                    repeat (go_big_quiet_step ((go_at_call 19; exact C19.out _ _)))
                    refine wpQuiet_nil ?_
                    intro _ hw'
                    obtain ⟨⟨d, os'⟩, hw''⟩ := hw'
                    subst hw''
                    have hB2 : Below wo.heap.size wo (grow (redrawn wr d) os') := hBi.trans ((below_regrown wr d os').mono hBi.size)
                    generalize grow (redrawn wr d) os' = w2 at hB2 ⊢
                    go_wp2
                    go_roundg (i - (m + 1))
                    case measure => omega
                    case rel => exact ⟨m + 1, by omega, rfl, by go_num, freeTo_succ HF.out (by rw [HN.out]; simp), hB2⟩
              · have e : m = i := by omega
                subst e
                have hr2 := hrow.mono hBi
                have HS : Hid (respGo ls (os.drop (p + 1)) (ds.set m true) = R) := by
                  show _ = R
                  rw [← HG.out, HD.out, respGo_on hxn HBI.out HF.out]
                have gi2 := cell_keep hBi gi
                have fi2 := hr2.free m
                have hB3 : Below w.heap.size w (wr.setCell ⟨w.heap.size, m, none⟩ (.bool true)) := hBw.setCell (Nat.le_refl _) _
                have hr3 := hr2.set_ m true
                clear hcs hok gi g0
                go_wp2
                go_roundg (os.length - (p + 1))
                case measure => omega
                case rel => exact ⟨p + 1, _, by omega, rfl, by go_num, by rw [List.length_set]; exact HDL.out, HS.out, hr3, hB3⟩
        · have HF : Hid (R = false) := by
            show R = false
            rw [← HG.out, HD.out]; exact respGo_out (by omega)
          go_wp2
          go_ret
          exact ⟨ret_false HF.out, hB⟩
      · have HF : Hid (R = false) := by
          show R = false
          rw [← HG.out, HD.out]; exact respGo_out (by omega)
        go_wp2
        go_ret
        exact ⟨ret_false HF.out, hB⟩
    · have HF : Hid (R = true) := by
        show R = true
        rw [← HG.out, List.drop_of_length_le (by omega)]; rfl
      go_wp2
      go_ret
      exact ⟨by rw [HF.out]; rfl, hB⟩

set_option maxHeartbeats 1000000 in
set_option maxRecDepth 100000 in
theorem resp_any (la oa : Option Addr) (lc oc : Nat) (ls : List Cmd) (os : List Int) (w : World) (h : Cmds w la ls) (ho : Ints w oa os) (hm : (ls.length : Int) ≤ 1000000) :
    Calls Tryd.prog 25 #[.slice la ls.length lc, .slice oa os.length oc] w fun e w' => e = .returned (.bool (respB ls os)) ∧ Below w.heap.size w w' := by
  by_cases hl : os.length = ls.length
  · have e : respB ls os = respGo ls os (List.replicate ls.length false) := by simp [respB, hl]
    rw [e]
    by_cases hp : 0 < ls.length
    · exact resp_ne la oa lc oc ls os w hp h ho hl hm
    · have e1 : ls = [] := List.eq_nil_of_length_eq_zero (by omega)
      have e2 : os = [] := List.eq_nil_of_length_eq_zero (by omega)
      subst e1 e2
      have hmk : ∀ w, (Instr.makeSlice 28 (.int .i64 0) (.int .i64 0)).run Tryd.prog w = .ok (.slice (some ⟨w.heap.size, 0, none⟩) 0 0) (w.alloc (.cells (madeCells #[.bool false] 0) 4)) := fun w => run_makeBools 0 (by omega) w
      clear h ho hm hl e hp
      go_enter Tryd.func25, Tryd.ntmps25
      go_wp2
      refine wp_loop_rounds 1 ?_
      rw [rounds_succ]
      go_wp2
      go_ret
      exact ⟨rfl, below_box _ _ _⟩
  · have hne : ((os.length : Int) != ls.length) = true := by simp; omega
    have HE := Lib.hid (show respB ls os = false by simp [respB, hl])
    clear hl h ho
    go_enter Tryd.func25, Tryd.ntmps25
    go_wp2
    go_ret
    exact ⟨ret_bool HE.out.symm, Below.refl _ _⟩
end Go.Proofs.YtfbafjlhdbjgoaaDoor
