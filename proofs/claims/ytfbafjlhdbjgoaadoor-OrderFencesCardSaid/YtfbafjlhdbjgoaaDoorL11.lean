/- The walk of OrderFences. -/
import Derived.Test.YtfbafjlhdbjgoaaDoorL12
import Derived.Test.YtfbafjlhdbjgoaaDoorG3
namespace Go.Proofs.YtfbafjlhdbjgoaaDoor
set_option linter.unusedVariables false
set_option linter.unusedSimpArgs false
open Go.RowKit Go.Sort

/-- What is done (block number: the heap's size when it was made). -/
structure RunD (w2 : World) (ds : List Bool) (wr : World) : Prop where
  row : BoolRow wr w2.heap.size ds
  bel : RowKit.Below w2.heap.size w2 wr
theorem RunD.start (w2 : World) (n : Nat) : RunD w2 (List.replicate n false) (w2.alloc (.cells (madeCells #[.bool false] n) 4)) := ⟨boolRow_made w2 n, below_box w2 _ _⟩
theorem RunD.next {w2 : World} {ds : List Bool} {wr wr' : World} (h : RunD w2 ds wr) (hb : RowKit.Below wr.heap.size wr wr') : RunD w2 ds wr' := ⟨h.row.mono hb, h.bel.trans (hb.mono h.bel.size)⟩
theorem RunD.done {w2 : World} {ds : List Bool} {wr : World} (h : RunD w2 ds wr) (k : Nat) : RunD w2 (ds.set k true) (wr.setCell ⟨w2.heap.size, k, none⟩ (.bool true)) := ⟨h.row.set_ k true, h.bel.setCell (Nat.le_refl _) _⟩

set_option maxHeartbeats 4000000 in
set_option maxRecDepth 100000 in
theorem orderFences_walk (la sa : Option Addr) (lc sc : Nat) (ls : List Cmd) (ss : List Nat) (w : World) (h : Cmds w la ls) (hss : BytesAt w sa ss ∧ ∀ x ∈ ss, x ≤ 255) (hm : (ls.length : Int) ≤ 17592186044416) (hms : (ss.length : Int) ≤ 140737488355328) :
    Calls Tryd.prog 11 #[.slice la ls.length lc, .slice sa ss.length sc] w fun e w' => e = .returned (.bool true) ∧ RowKit.Below w.heap.size w w' := by
  go_enter Tryd.func11, Tryd.ntmps11
  go_wp2_with fail
  refine (awake_any _).mono ?_
  rintro e w1 ⟨rfl, hB1⟩
  go_wp2_with fail
  refine (few_any la lc ls _ (h.mono hB1) hm).mono ?_
  rintro e w2 ⟨rfl, hB2⟩
  have hB := hB1.trans (hB2.mono hB1.size)
  cases hf : fewB ls with
  | false =>
    go_wp2_with fail
    go_ret
    exact ⟨rfl, hB⟩
  | true =>
    have hl := few_len hf
    clear hf
    have hmk := run_makeBools ls.length (by omega)
    have HC := Lib.hid (h.mono hB)
    have HS := Lib.hid (hss.1.mono hB)
    have HS2 := Lib.hid hss.2
    clear h hss hB1 hB2
    go_wp2_with fail
    go_loopg [6, 7, 8] (ls.length) (fun g i _ _ wr => ∃ k xs ds, k ≤ ls.length ∧ g = ls.length - k ∧ i = .int .i64 (k : Nat) ∧ xs.length = k ∧ Runs ls xs ds ∧ FenceOk ls ds ∧ RunD w2 ds wr)
    case atStart => exact ⟨0, [], _, Nat.zero_le _, by simp, rfl, rfl, Runs.start ls, FenceOk.start ls, RunD.start w2 _⟩
    case round =>
      clear hmk
      obtain ⟨k, xs, ds, hk, rfl, rfl, hxl, hr, hF, hrun⟩ := hrel
      obtain ⟨wo, hwo⟩ : ∃ wo, wo = wr := ⟨_, rfl⟩
      subst hwo
      have HXL := Lib.hid hxl
      clear hxl
      by_cases hkl : k < ls.length
      · have CE : Calls Tryd.prog 23 #[.slice la ls.length lc, .slice (some ⟨w2.heap.size, 0, none⟩) ls.length ls.length] wo fun e w' => ∃ a c, e = .returned (.slice a (elig ls ds).length c) ∧ Ints w' a (elig ls ds) ∧ RowKit.Below wo.heap.size wo w' := by
          have := elig_any la (some ⟨w2.heap.size, 0, none⟩) lc ls.length ls ds wo (HC.out.mono hrun.bel) hrun.row.bools (by omega)
          rw [hr.len] at this
          exact this
        have hpos := hr.some (by have := HXL.out; omega)
        have hmem := Lib.hid (fun (x : Int) (hx : x ∈ elig ls ds) => mem_elig hx)
        have hEl := eligTo_len ls ds ls.length
        rw [show eligTo ls ds ls.length = elig ls ds from rfl] at hEl
        generalize elig ls ds = E at CE hpos hmem hEl
        go_wp2_with fail
        refine CE.mono ?_
        rintro e w4 ⟨a, c, rfl, hI, hB4⟩
        obtain ⟨be, oe, rfl, hce⟩ := hI hpos
        obtain ⟨bl, ol, rfl, hcl⟩ := HC.out.2 (by omega)
        have hrun4 := hrun.next hB4
        have hne : ((E.length : Int) == 0) = false := beq_eq_false_iff_ne.2 (by omega)
        obtain ⟨x0, hx0⟩ : ∃ x, E[E.length - 1]? = some x := ⟨_, List.getElem?_eq_getElem (by omega)⟩
        have g0 := hce (E.length - 1) x0 hx0
        obtain ⟨l1, hl1⟩ : ∃ l1, l1 + 1 = E.length := ⟨E.length - 1, by omega⟩
        rw [show E.length - 1 = l1 by omega] at g0
        have hsub : (E.length : Int) - 1 = (l1 : Int) := by omega
        have HL1 := Lib.hid hl1
        clear CE hI hrun hl1
        by_cases hks : k < ss.length
        · obtain ⟨bs, os, rfl, hcs⟩ := HS.out (by omega)
          obtain ⟨z, hz⟩ : ∃ z, ss[k]? = some z := ⟨_, List.getElem?_eq_getElem hks⟩
          have gz := cell_keep hrun4.bel (hcs k z hz)
          have hz255 := HS2.out z (List.mem_of_getElem? hz)
          have hjm : z % E.length < E.length := Nat.mod_lt _ hpos
          obtain ⟨xx, hxs⟩ : ∃ x, E[z % E.length]? = some x := ⟨_, List.getElem?_eq_getElem hjm⟩
          have gx := hce (z % E.length) xx hxs
          have hmod : Int.tmod (z : Int) (E.length : Int) = ((z % E.length : Nat) : Int) := by
            rw [Int.tmod_eq_emod_of_nonneg (by omega)]; simp
          generalize z % E.length = q at hjm hxs gx hmod
          have hxm := List.mem_of_getElem? hxs
          clear hcs hz hx0
          obtain ⟨j, rfl, hjl, hj0, hjf⟩ := hmem.out xx hxm
          obtain ⟨x, hx⟩ : ∃ x, ls[j]? = some x := ⟨_, List.getElem?_eq_getElem hjl⟩
          obtain ⟨y, hy⟩ : ∃ y, ls[k]? = some y := ⟨_, List.getElem?_eq_getElem hkl⟩
          obtain ⟨hfe, hfk⟩ := fence_place hr hF hx (by rw [HXL.out]; exact hy) hj0 hjf
          have bx := (hcl j x hx).mono (RowKit.Below.trans hrun4.bel (RowKit.Below.refl _ _))
          have by' := (hcl k y hy).mono (RowKit.Below.trans hrun4.bel (RowKit.Below.refl _ _))
          obtain ⟨r0, r1, r2, r3, r4, r5, r6, r7, r8⟩ := bx.grown
          obtain ⟨t0, t1, t2, t3, t4, t5, t6, t7, t8⟩ := by'.grown
          have C41 : Hid (∀ c : Cmd, (c = x ∨ c = y) → ∀ d os, Calls Tryd.prog 41 #[c.val] (grow (redrawn w4 d) os) fun e w'' => e = .returned (.bool (fenceB y)) ∧ ∃ p : Regrown, w'' = grow (redrawn w4 p.d) p.os) := fun c hc => by
            have := reg_below (wr := w4) fun W _ => refFence_any c W
            rcases hc with rfl | rfl
            · rw [hfe] at this; exact this
            · exact this
          have hr2 := Lib.hid (hr.step hjl hj0 hjf)
          have hF2 := Lib.hid (hF.step hr.len hjl hj0 hjf)
          have hdl := hr.len
          have hb0 : Hid (doneAt ds j = false) := hj0
          have HDL := Lib.hid hdl
          have HXS := Lib.hid hxs
          rw [HXL.out] at hfk
          cases hfy : fenceB y with
          | true =>
            obtain rfl : j = k := hfk hfy
            rw [hfy] at C41
            clear hfk hfe hfy hcl hce hx hy bx by' hr hF hj0 hjf hxs hmem hxm hdl
            have d1 : decide ((j : Int) < 0) = false := decide_eq_false (by omega)
            have d3 : decide (ls.length ≤ j) = false := decide_eq_false (by omega)
            have d2 : decide ((ls.length : Int) ≤ (j : Int)) = false := decide_eq_false (by omega)
            go_wp2_with fail
            refine wp_region_quiet_below (by kernel_rfl) (by kernel_rfl) ?_
            repeat (go_big_quiet_step ((go_at_call 41; exact C41.out _ (by first | exact Or.inl rfl | exact Or.inr rfl) _ _)))
            refine wpQuiet_nil ?_
            intro _ hw'
            obtain ⟨⟨d, os'⟩, hw''⟩ := hw'
            subst hw''
            have hrun5 := hrun4.next (below_regrown w4 d os')
            generalize grow (redrawn w4 d) os' = w5 at hrun5 ⊢
            obtain ⟨b0, hbb⟩ : ∃ b, ds[j]? = some b := ⟨_, List.getElem?_eq_getElem (by rw [HDL.out]; exact hjl)⟩
            have gd := hrun5.row.cell hbb
            have gf := hrun5.row.free j
            have hrun6 := hrun5.done j
            clear hbb r0 r1 r2 r3 r4 r5 r6 r7 r8 t0 t1 t2 t3 t4 t5 t6 t7 t8
            go_wp2
            go_roundg (ls.length - (j + 1))
            case measure => omega
            case rel => exact ⟨j + 1, _, _, by omega, rfl, by go_num, by have := HXL.out; simp; omega, hr2.out, hF2.out, hrun6⟩
          | false =>
            rw [hfy] at C41
            clear hfk hfe hfy hcl hce hx hy bx by' hr hF hj0 hjf hxs hmem hxm hdl
            have d1 : decide ((j : Int) < 0) = false := decide_eq_false (by omega)
            have d3 : decide (ls.length ≤ j) = false := decide_eq_false (by omega)
            have d2 : decide ((ls.length : Int) ≤ (j : Int)) = false := decide_eq_false (by omega)
            go_wp2_with fail
            refine wp_region_quiet_below (by kernel_rfl) (by kernel_rfl) ?_
            repeat (go_big_quiet_step ((go_at_call 41; exact C41.out _ (by first | exact Or.inl rfl | exact Or.inr rfl) _ _)))
            refine wpQuiet_nil ?_
            intro _ hw'
            obtain ⟨⟨d, os'⟩, hw''⟩ := hw'
            subst hw''
            have hrun5 := hrun4.next (below_regrown w4 d os')
            generalize grow (redrawn w4 d) os' = w5 at hrun5 ⊢
            obtain ⟨b0, hbb⟩ : ∃ b, ds[j]? = some b := ⟨_, List.getElem?_eq_getElem (by rw [HDL.out]; exact hjl)⟩
            have gd := hrun5.row.cell hbb
            have gf := hrun5.row.free j
            have hrun6 := hrun5.done j
            clear hbb r0 r1 r2 r3 r4 r5 r6 r7 r8 t0 t1 t2 t3 t4 t5 t6 t7 t8
            go_wp2
            go_roundg (ls.length - (k + 1))
            case measure => omega
            case rel => exact ⟨k + 1, _, _, by omega, rfl, by go_num, by have := HXL.out; simp; omega, hr2.out, hF2.out, hrun6⟩
        · have hxs := hx0
          have hxm := List.mem_of_getElem? hxs
          clear hx0
          obtain ⟨j, rfl, hjl, hj0, hjf⟩ := hmem.out x0 hxm
          obtain ⟨x, hx⟩ : ∃ x, ls[j]? = some x := ⟨_, List.getElem?_eq_getElem hjl⟩
          obtain ⟨y, hy⟩ : ∃ y, ls[k]? = some y := ⟨_, List.getElem?_eq_getElem hkl⟩
          obtain ⟨hfe, hfk⟩ := fence_place hr hF hx (by rw [HXL.out]; exact hy) hj0 hjf
          have bx := (hcl j x hx).mono (RowKit.Below.trans hrun4.bel (RowKit.Below.refl _ _))
          have by' := (hcl k y hy).mono (RowKit.Below.trans hrun4.bel (RowKit.Below.refl _ _))
          obtain ⟨r0, r1, r2, r3, r4, r5, r6, r7, r8⟩ := bx.grown
          obtain ⟨t0, t1, t2, t3, t4, t5, t6, t7, t8⟩ := by'.grown
          have C41 : Hid (∀ c : Cmd, (c = x ∨ c = y) → ∀ d os, Calls Tryd.prog 41 #[c.val] (grow (redrawn w4 d) os) fun e w'' => e = .returned (.bool (fenceB y)) ∧ ∃ p : Regrown, w'' = grow (redrawn w4 p.d) p.os) := fun c hc => by
            have := reg_below (wr := w4) fun W _ => refFence_any c W
            rcases hc with rfl | rfl
            · rw [hfe] at this; exact this
            · exact this
          have hr2 := Lib.hid (hr.step hjl hj0 hjf)
          have hF2 := Lib.hid (hF.step hr.len hjl hj0 hjf)
          have hdl := hr.len
          have hb0 : Hid (doneAt ds j = false) := hj0
          have HDL := Lib.hid hdl
          have HXS := Lib.hid hxs
          rw [HXL.out] at hfk
          cases hfy : fenceB y with
          | true =>
            obtain rfl : j = k := hfk hfy
            rw [hfy] at C41
            clear hfk hfe hfy hcl hce hx hy bx by' hr hF hj0 hjf hxs hmem hxm hdl
            have d1 : decide ((j : Int) < 0) = false := decide_eq_false (by omega)
            have d3 : decide (ls.length ≤ j) = false := decide_eq_false (by omega)
            have d2 : decide ((ls.length : Int) ≤ (j : Int)) = false := decide_eq_false (by omega)
            go_wp2_with fail
            refine wp_region_quiet_below (by kernel_rfl) (by kernel_rfl) ?_
            repeat (go_big_quiet_step ((go_at_call 41; exact C41.out _ (by first | exact Or.inl rfl | exact Or.inr rfl) _ _)))
            refine wpQuiet_nil ?_
            intro _ hw'
            obtain ⟨⟨d, os'⟩, hw''⟩ := hw'
            subst hw''
            have hrun5 := hrun4.next (below_regrown w4 d os')
            generalize grow (redrawn w4 d) os' = w5 at hrun5 ⊢
            obtain ⟨b0, hbb⟩ : ∃ b, ds[j]? = some b := ⟨_, List.getElem?_eq_getElem (by rw [HDL.out]; exact hjl)⟩
            have gd := hrun5.row.cell hbb
            have gf := hrun5.row.free j
            have hrun6 := hrun5.done j
            clear hbb r0 r1 r2 r3 r4 r5 r6 r7 r8 t0 t1 t2 t3 t4 t5 t6 t7 t8
            go_wp2
            go_roundg (ls.length - (j + 1))
            case measure => omega
            case rel => exact ⟨j + 1, _, _, by omega, rfl, by go_num, by have := HXL.out; simp; omega, hr2.out, hF2.out, hrun6⟩
          | false =>
            rw [hfy] at C41
            clear hfk hfe hfy hcl hce hx hy bx by' hr hF hj0 hjf hxs hmem hxm hdl
            have d1 : decide ((j : Int) < 0) = false := decide_eq_false (by omega)
            have d3 : decide (ls.length ≤ j) = false := decide_eq_false (by omega)
            have d2 : decide ((ls.length : Int) ≤ (j : Int)) = false := decide_eq_false (by omega)
            go_wp2_with fail
            refine wp_region_quiet_below (by kernel_rfl) (by kernel_rfl) ?_
            repeat (go_big_quiet_step ((go_at_call 41; exact C41.out _ (by first | exact Or.inl rfl | exact Or.inr rfl) _ _)))
            refine wpQuiet_nil ?_
            intro _ hw'
            obtain ⟨⟨d, os'⟩, hw''⟩ := hw'
            subst hw''
            have hrun5 := hrun4.next (below_regrown w4 d os')
            generalize grow (redrawn w4 d) os' = w5 at hrun5 ⊢
            obtain ⟨b0, hbb⟩ : ∃ b, ds[j]? = some b := ⟨_, List.getElem?_eq_getElem (by rw [HDL.out]; exact hjl)⟩
            have gd := hrun5.row.cell hbb
            have gf := hrun5.row.free j
            have hrun6 := hrun5.done j
            clear hbb r0 r1 r2 r3 r4 r5 r6 r7 r8 t0 t1 t2 t3 t4 t5 t6 t7 t8
            go_wp2
            go_roundg (ls.length - (k + 1))
            case measure => omega
            case rel => exact ⟨k + 1, _, _, by omega, rfl, by go_num, by have := HXL.out; simp; omega, hr2.out, hF2.out, hrun6⟩
      · clear hr hF
        go_wp2
        go_ret
        exact ⟨rfl, hB.trans (hrun.bel.mono hB.size)⟩
end Go.Proofs.YtfbafjlhdbjgoaaDoor
