/- Levels. -/
import Derived.Test.YtfbafjlhdbjgoaaDoorB4
import Derived.BigRegion
import Derived.WalkLawsBesides
namespace Go.Proofs.YtfbafjlhdbjgoaaDoor
set_option linter.unusedVariables false
set_option linter.unusedSimpArgs false
open Go.RowKit Go.Sort

/-- Block D holds these numbers. -/
def IntRow (w : World) (D : Nat) (xs : List Int) : Prop := w.heap[D]? = some (.cells (xs.map (Value.int .i64)).toArray 3 (0, 0))
theorem IntRow.cell {w : World} {D : Nat} {xs : List Int} (h : IntRow w D xs) {j : Nat} {x : Int} (hj : xs[j]? = some x) : w.cell? ⟨D, j, none⟩ = some (.int .i64 x) := by
  rw [cell_of_row w D j _ 3 (0, 0) h]
  simp [hj]
theorem IntRow.free {w : World} {D : Nat} {xs : List Int} (h : IntRow w D xs) (j : Nat) : w.frozen? ⟨D, j, none⟩ = false := by
  unfold IntRow at h
  simp [World.frozen?, h]
theorem IntRow.lt {w : World} {D : Nat} {xs : List Int} (h : IntRow w D xs) : D < w.heap.size := by
  rcases Nat.lt_or_ge D w.heap.size with hlt | hge
  · exact hlt
  · unfold IntRow at h; rw [Array.getElem?_eq_none hge] at h; cases h
theorem IntRow.mono {w w' : World} {D : Nat} {xs : List Int} (h : IntRow w D xs) (hb : Below w.heap.size w w') : IntRow w' D xs := (hb.block D h.lt).trans h
theorem IntRow.set_ {w : World} {D : Nat} {xs : List Int} (h : IntRow w D xs) (i : Nat) (x : Int) : IntRow (w.setCell ⟨D, i, none⟩ (.int .i64 x)) D (xs.set i x) := by
  unfold IntRow at h ⊢
  simp [World.setCell, Array.getElem?_modify, h, List.map_set]
theorem intRow_made (w : World) (n : Nat) : IntRow (w.alloc (.cells (madeCells #[.int .i64 0] n) 3)) w.heap.size (List.replicate n 0) := by
  unfold IntRow
  rw [heap_alloc_new]
  have : madeCells #[Value.int .i64 0] n = (List.map (Value.int .i64) (List.replicate n 0)).toArray := by
    apply Array.toList_inj.1
    rw [toList_madeCells_one]
    simp
  rw [this]
theorem IntRow.ints {w : World} {D : Nat} {xs : List Int} (h : IntRow w D xs) : Ints w (some ⟨D, 0, none⟩) xs := fun _ => ⟨D, 0, rfl, fun i x hx => by rw [Nat.zero_add]; exact h.cell hx⟩
theorem run_makeInts (n : Nat) (hn : (n : Int) ≤ 1000000) (w : World) : (Instr.makeSlice 31 (.int .i64 (n : Int)) (.int .i64 (n : Int))).run Tryd.prog w = .ok (.slice (some ⟨w.heap.size, 0, none⟩) n n) (w.alloc (.cells (madeCells #[.int .i64 0] n) 3)) := by
  obtain ⟨i0, hi, hz0, hz1, hz2⟩ := info_parts info3
  have := run_make_rowN (P := Tryd.prog) 31 3 i0 (.int .i64 0) Tryd.underlying31 hi hz0 .i64 .i64 n n (Nat.le_refl _) (by rw [hz2]; omega) (by omega) w
  rw [hz1, Nat.mul_one] at this
  exact this

/-- The level of command i behind m rounds. -/
def lvIn (ls : List Cmd) (i : Nat) : Nat → List Int → List Int
  | 0, xs => xs
  | m + 1, xs => if befAt ls m i = true then (lvIn ls i m xs).set i (max ((lvIn ls i m xs).getD i 0) ((lvIn ls i m xs).getD m 0 + 1)) else lvIn ls i m xs
def lvTo (ls : List Cmd) : Nat → List Int
  | 0 => List.replicate ls.length 0
  | k + 1 => lvIn ls k k (lvTo ls k)
/-- The levels. -/
def levels (ls : List Cmd) : List Int := lvTo ls ls.length
/-- Each level is at most the command's place. -/
def LvOk (n : Nat) (xs : List Int) : Prop := xs.length = n ∧ ∀ (j : Nat) (x : Int), xs[j]? = some x → 0 ≤ x ∧ x ≤ j
theorem lvIn_ok {ls : List Cmd} {n i : Nat} {xs : List Int} (h : LvOk n xs) : ∀ m, m ≤ i → LvOk n (lvIn ls i m xs)
  | 0, _ => h
  | m + 1, hm => by
    have ih := lvIn_ok (ls := ls) (i := i) h m (by omega)
    unfold lvIn
    split
    · refine ⟨by rw [List.length_set]; exact ih.1, fun j x hx => ?_⟩
      rw [List.getElem?_set] at hx
      by_cases e : i = j
      · rw [if_pos e] at hx
        subst e
        by_cases hl : i < (lvIn ls i m xs).length
        · rw [if_pos hl] at hx
          injection hx with hx
          have h1 := ih.2 i _ (List.getElem?_eq_getElem hl)
          have hlm : m < (lvIn ls i m xs).length := by omega
          have h2 := ih.2 m _ (List.getElem?_eq_getElem hlm)
          have e1 : (lvIn ls i m xs).getD i 0 = (lvIn ls i m xs)[i] := by simp [hl]
          have e2 : (lvIn ls i m xs).getD m 0 = (lvIn ls i m xs)[m] := by simp [hlm]
          rw [e1, e2] at hx
          omega
        · rw [if_neg hl] at hx; cases hx
      · rw [if_neg e] at hx
        exact ih.2 j x hx
    · exact ih
theorem lvTo_ok (ls : List Cmd) : ∀ k, LvOk ls.length (lvTo ls k)
  | 0 => ⟨by simp [lvTo], fun j x hx => by
      have : x = 0 := by
        simp only [lvTo, List.getElem?_replicate] at hx
        split at hx
        · injection hx with hx; exact hx.symm
        · cases hx
      omega⟩
  | k + 1 => lvIn_ok (lvTo_ok ls k) k (Nat.le_refl _)

set_option maxHeartbeats 2000000 in
set_option maxRecDepth 100000 in
theorem levels_ne (la : Option Addr) (lc : Nat) (ls : List Cmd) (w : World) (hp : 0 < ls.length) (h : Cmds w la ls) (hm : (ls.length : Int) ≤ 1000000) :
    Calls Tryd.prog 39 #[.slice la ls.length lc] w fun e w' => RetInts (levels ls) w e w' := by
  obtain ⟨b, o, rfl, hcs⟩ := h.2 hp
  have hmk := run_makeInts ls.length hm
  have hok := h.1
  clear h
  go_enter Tryd.func39, Tryd.ntmps39
  go_wp2
  go_loopg [4, 11] (ls.length) (fun g _ c wr => ∃ k, k ≤ ls.length ∧ g = ls.length - k ∧ c = .int .i64 (k : Nat) ∧ IntRow wr w.heap.size (lvTo ls k) ∧ Below w.heap.size w wr)
  case atStart => exact ⟨0, Nat.zero_le _, by simp, rfl, intRow_made w _, below_box w _ _⟩
  case round =>
    obtain ⟨k, hk, rfl, rfl, hrow, hB⟩ := hrel
    obtain ⟨wo, hwo⟩ : ∃ wo, wo = wr := ⟨_, rfl⟩
    subst hwo
    by_cases hlt : k < ls.length
    · go_wp2
      go_loopg [5, 15] k (fun g _ c wi => ∃ m, m ≤ k ∧ g = k - m ∧ c = .int .i64 (m : Nat) ∧ IntRow wi w.heap.size (lvIn ls k m (lvTo ls k)) ∧ Below w.heap.size w wi)
      case atStart => exact ⟨0, Nat.zero_le _, by simp, rfl, hrow, hB⟩
      case round =>
        obtain ⟨m, hmk, rfl, rfl, hri, hBi⟩ := hrel
        by_cases hml : m < k
        · obtain ⟨y, hy⟩ : ∃ y, ls[m]? = some y := ⟨_, List.getElem?_eq_getElem (by omega)⟩
          obtain ⟨z, hz⟩ : ∃ z, ls[k]? = some z := ⟨_, List.getElem?_eq_getElem hlt⟩
          have hlv := lvIn_ok (ls := ls) (lvTo_ok ls k) m hmk
          obtain ⟨u, hu⟩ : ∃ u, (lvIn ls k m (lvTo ls k))[m]? = some u := ⟨_, List.getElem?_eq_getElem (by rw [hlv.1]; omega)⟩
          obtain ⟨v, hv⟩ : ∃ v, (lvIn ls k m (lvTo ls k))[k]? = some v := ⟨_, List.getElem?_eq_getElem (by rw [hlv.1]; omega)⟩
          have bu := hlv.2 m u hu
          have bv := hlv.2 k v hv
          have HV : Hid (lvIn ls k (m + 1) (lvTo ls k) = if befAt ls m k = true then (lvIn ls k m (lvTo ls k)).set k (max v (u + 1)) else lvIn ls k m (lvTo ls k)) := by
            show lvIn ls k (m + 1) (lvTo ls k) = _
            rw [lvIn]
            have e1 : (lvIn ls k m (lvTo ls k)).getD k 0 = v := by simp [hv]
            have e2 : (lvIn ls k m (lvTo ls k)).getD m 0 = u := by simp [hu]
            rw [e1, e2]
          have oy := (hok m y hy).mono hBi
          have oz := (hok k z hz).mono hBi
          obtain ⟨r0, r1, r2, r3, r4, r5, r6, r7, r8⟩ := ((hcs m y hy).mono hBi).grown
          obtain ⟨t0, t1, t2, t3, t4, t5, t6, t7, t8⟩ := ((hcs k z hz).mono hBi).grown
          have HN : Hid (befAt ls m k = beforeB y z) := befAt_some hy hz
          have hmlen : m < ls.length := by omega
          have HU := Lib.hid hu
          have HV2 := Lib.hid hv
          clear hy hz hcs hok hu hv hlv
          have C19 := Lib.hid (reg_below (wr := wr) fun W hW => before_any y z W (oy.mono hW) (oz.mono hW))
          clear oy oz
          cases hbf : beforeB y z with
          | true =>
            rw [hbf] at C19 HN
            clear hbf
            go_wp2_with fail
            refine wp_region_quiet_below (by kernel_rfl) (by kernel_rfl) ?_
            repeat (go_big_quiet_step ((go_at_call 19; exact C19.out _ _)))
            refine wpQuiet_nil ?_
            intro _ hw'
            obtain ⟨⟨d, os'⟩, hw''⟩ := hw'
            subst hw''
            have hB2 : Below wr.heap.size wr (grow (redrawn wr d) os') := below_regrown wr d os'
            generalize grow (redrawn wr d) os' = w2 at hB2 ⊢
            have hr2 := hri.mono hB2
            have c1 := hr2.cell HU.out
            have c2 := hr2.cell HV2.out
            have f2 := hr2.free k
            have hne : ¬ m = k := by omega
            go_wp2
            go_region
            go_wp2
            go_roundg (k - (m + 1))
            case measure => omega
            case rel => exact ⟨m + 1, by omega, rfl, by go_num, by rw [HV.out, HN.out]; exact hr2.set_ k _, (((hBi.trans (hB2.mono hBi.size)).setCell (Nat.le_refl _) _).drew)⟩
          | false =>
            rw [hbf] at C19 HN
            clear hbf
            go_wp2_with fail
            refine wp_region_quiet_below (by kernel_rfl) (by kernel_rfl) ?_
            repeat (go_big_quiet_step ((go_at_call 19; exact C19.out _ _)))
            refine wpQuiet_nil ?_
            intro _ hw'
            obtain ⟨⟨d, os'⟩, hw''⟩ := hw'
            subst hw''
            have hB2 : Below wr.heap.size wr (grow (redrawn wr d) os') := below_regrown wr d os'
            generalize grow (redrawn wr d) os' = w2 at hB2 ⊢
            have hr2 := hri.mono hB2
            go_wp2
            go_roundg (k - (m + 1))
            case measure => omega
            case rel => exact ⟨m + 1, by omega, rfl, by go_num, by rw [HV.out, HN.out]; exact hr2, hBi.trans (hB2.mono hBi.size)⟩
        · have e : m = k := by omega
          subst e
          clear hcs hok
          go_wp2
          go_roundg (ls.length - (m + 1))
          case measure => omega
          case rel => exact ⟨m + 1, by omega, rfl, by go_num, hri, hBi⟩
    · have e : k = ls.length := by omega
      rw [e] at hrow
      clear hcs hok e
      go_wp2
      go_ret
      exact ⟨some ⟨w.heap.size, 0, none⟩, ls.length, by rw [show (levels ls).length = ls.length from (lvTo_ok ls ls.length).1]; rfl, hrow.ints, hB⟩
set_option maxHeartbeats 1000000 in
set_option maxRecDepth 100000 in
theorem levels_any (la : Option Addr) (lc : Nat) (ls : List Cmd) (w : World) (h : Cmds w la ls) (hm : (ls.length : Int) ≤ 1000000) :
    Calls Tryd.prog 39 #[.slice la ls.length lc] w fun e w' => RetInts (levels ls) w e w' := by
  by_cases hp : 0 < ls.length
  · exact levels_ne la lc ls w hp h hm
  · have e1 : ls = [] := List.eq_nil_of_length_eq_zero (by omega)
    subst e1
    have hmk : ∀ w, (Instr.makeSlice 31 (.int .i64 0) (.int .i64 0)).run Tryd.prog w = .ok (.slice (some ⟨w.heap.size, 0, none⟩) 0 0) (w.alloc (.cells (madeCells #[.int .i64 0] 0) 3)) := fun w => run_makeInts 0 (by omega) w
    clear h hm hp
    go_enter Tryd.func39, Tryd.ntmps39
    go_wp2
    refine wp_loop_rounds 1 ?_
    rw [rounds_succ]
    go_wp2
    go_ret
    exact ⟨some ⟨w.heap.size, 0, none⟩, 0, rfl, fun h => absurd h (by decide), below_box _ _ _⟩

set_option maxHeartbeats 2000000 in
set_option maxRecDepth 100000 in
theorem refLevels_ne (la : Option Addr) (lc : Nat) (ls : List Cmd) (w : World) (hp : 0 < ls.length) (h : Cmds w la ls) (hm : (ls.length : Int) ≤ 1000000) :
    Calls Tryd.prog 40 #[.slice la ls.length lc] w fun e w' => RetInts (levels ls) w e w' := by
  obtain ⟨b, o, rfl, hcs⟩ := h.2 hp
  have hmk := run_makeInts ls.length hm
  have hok := h.1
  clear h
  go_enter Tryd.func40, Tryd.ntmps40
  go_wp2
  go_loopg [4] (ls.length) (fun g c wr => ∃ k, k ≤ ls.length ∧ g = ls.length - k ∧ c = .int .i64 (k : Nat) ∧ IntRow wr w.heap.size (lvTo ls k) ∧ Below w.heap.size w wr)
  case atStart => exact ⟨0, Nat.zero_le _, by simp, rfl, intRow_made w _, below_box w _ _⟩
  case round =>
    obtain ⟨k, hk, rfl, rfl, hrow, hB⟩ := hrel
    obtain ⟨wo, hwo⟩ : ∃ wo, wo = wr := ⟨_, rfl⟩
    subst hwo
    by_cases hlt : k < ls.length
    · go_wp2
      go_loopg [5] k (fun g c wi => ∃ m, m ≤ k ∧ g = k - m ∧ c = .int .i64 (m : Nat) ∧ IntRow wi w.heap.size (lvIn ls k m (lvTo ls k)) ∧ Below w.heap.size w wi)
      case atStart => exact ⟨0, Nat.zero_le _, by simp, rfl, hrow, hB⟩
      case round =>
        obtain ⟨m, hmk, rfl, rfl, hri, hBi⟩ := hrel
        by_cases hml : m < k
        · obtain ⟨y, hy⟩ : ∃ y, ls[m]? = some y := ⟨_, List.getElem?_eq_getElem (by omega)⟩
          obtain ⟨z, hz⟩ : ∃ z, ls[k]? = some z := ⟨_, List.getElem?_eq_getElem hlt⟩
          have hlv := lvIn_ok (ls := ls) (lvTo_ok ls k) m hmk
          obtain ⟨u, hu⟩ : ∃ u, (lvIn ls k m (lvTo ls k))[m]? = some u := ⟨_, List.getElem?_eq_getElem (by rw [hlv.1]; omega)⟩
          obtain ⟨v, hv⟩ : ∃ v, (lvIn ls k m (lvTo ls k))[k]? = some v := ⟨_, List.getElem?_eq_getElem (by rw [hlv.1]; omega)⟩
          have bu := hlv.2 m u hu
          have bv := hlv.2 k v hv
          have HV : Hid (lvIn ls k (m + 1) (lvTo ls k) = if befAt ls m k = true then (lvIn ls k m (lvTo ls k)).set k (max v (u + 1)) else lvIn ls k m (lvTo ls k)) := by
            show lvIn ls k (m + 1) (lvTo ls k) = _
            rw [lvIn]
            have e1 : (lvIn ls k m (lvTo ls k)).getD k 0 = v := by simp [hv]
            have e2 : (lvIn ls k m (lvTo ls k)).getD m 0 = u := by simp [hu]
            rw [e1, e2]
          have oy := (hok m y hy).mono hBi
          have oz := (hok k z hz).mono hBi
          obtain ⟨r0, r1, r2, r3, r4, r5, r6, r7, r8⟩ := ((hcs m y hy).mono hBi).grown
          obtain ⟨t0, t1, t2, t3, t4, t5, t6, t7, t8⟩ := ((hcs k z hz).mono hBi).grown
          have HN : Hid (befAt ls m k = beforeB y z) := befAt_some hy hz
          have hmlen : m < ls.length := by omega
          have HU := Lib.hid hu
          have HV2 := Lib.hid hv
          clear hy hz hcs hok hu hv hlv
          have C20 := Lib.hid (reg_below (wr := wr) fun W hW => refBefore_any y z W (oy.mono hW) (oz.mono hW))
          clear oy oz
          cases hbf : beforeB y z with
          | true =>
            rw [hbf] at C20 HN
            clear hbf
            go_wp2_with fail
            refine wp_region_quiet_below (by kernel_rfl) (by kernel_rfl) ?_
            repeat (go_big_quiet_step ((go_at_call 20; exact C20.out _ _)))
            refine wpQuiet_nil ?_
            intro _ hw'
            obtain ⟨⟨d, os'⟩, hw''⟩ := hw'
            subst hw''
            have hB2 : Below wr.heap.size wr (grow (redrawn wr d) os') := below_regrown wr d os'
            generalize grow (redrawn wr d) os' = w2 at hB2 ⊢
            have hr2 := hri.mono hB2
            have c1 := hr2.cell HU.out
            have c2 := hr2.cell HV2.out
            have f2 := hr2.free k
            have hne : ¬ m = k := by omega
            go_wp2
            go_region
            go_wp2
            go_roundg (k - (m + 1))
            case measure => omega
            case rel => exact ⟨m + 1, by omega, rfl, by go_num, by rw [HV.out, HN.out]; exact hr2.set_ k _, (((hBi.trans (hB2.mono hBi.size)).setCell (Nat.le_refl _) _).drew)⟩
          | false =>
            rw [hbf] at C20 HN
            clear hbf
            go_wp2_with fail
            refine wp_region_quiet_below (by kernel_rfl) (by kernel_rfl) ?_
            repeat (go_big_quiet_step ((go_at_call 20; exact C20.out _ _)))
            refine wpQuiet_nil ?_
            intro _ hw'
            obtain ⟨⟨d, os'⟩, hw''⟩ := hw'
            subst hw''
            have hB2 : Below wr.heap.size wr (grow (redrawn wr d) os') := below_regrown wr d os'
            generalize grow (redrawn wr d) os' = w2 at hB2 ⊢
            have hr2 := hri.mono hB2
            go_wp2
            go_roundg (k - (m + 1))
            case measure => omega
            case rel => exact ⟨m + 1, by omega, rfl, by go_num, by rw [HV.out, HN.out]; exact hr2, hBi.trans (hB2.mono hBi.size)⟩
        · have e : m = k := by omega
          subst e
          clear hcs hok
          go_wp2
          go_roundg (ls.length - (m + 1))
          case measure => omega
          case rel => exact ⟨m + 1, by omega, rfl, by go_num, hri, hBi⟩
    · have e : k = ls.length := by omega
      rw [e] at hrow
      clear hcs hok e
      go_wp2
      go_ret
      exact ⟨some ⟨w.heap.size, 0, none⟩, ls.length, by rw [show (levels ls).length = ls.length from (lvTo_ok ls ls.length).1]; rfl, hrow.ints, hB⟩
set_option maxHeartbeats 1000000 in
set_option maxRecDepth 100000 in
theorem refLevels_any (la : Option Addr) (lc : Nat) (ls : List Cmd) (w : World) (h : Cmds w la ls) (hm : (ls.length : Int) ≤ 1000000) :
    Calls Tryd.prog 40 #[.slice la ls.length lc] w fun e w' => RetInts (levels ls) w e w' := by
  by_cases hp : 0 < ls.length
  · exact refLevels_ne la lc ls w hp h hm
  · have e1 : ls = [] := List.eq_nil_of_length_eq_zero (by omega)
    subst e1
    have hmk : ∀ w, (Instr.makeSlice 31 (.int .i64 0) (.int .i64 0)).run Tryd.prog w = .ok (.slice (some ⟨w.heap.size, 0, none⟩) 0 0) (w.alloc (.cells (madeCells #[.int .i64 0] 0) 3)) := fun w => run_makeInts 0 (by omega) w
    clear h hm hp
    go_enter Tryd.func40, Tryd.ntmps40
    go_wp2
    refine wp_loop_rounds 1 ?_
    rw [rounds_succ]
    go_wp2
    go_ret
    exact ⟨some ⟨w.heap.size, 0, none⟩, 0, rfl, fun h => absurd h (by decide), below_box _ _ _⟩

end Go.Proofs.YtfbafjlhdbjgoaaDoor
