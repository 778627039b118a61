/- The walk of OrderRuns. -/
import Derived.Test.YtfbafjlhdbjgoaaDoorL12
import Derived.Test.YtfbafjlhdbjgoaaDoorG3
namespace Go.Proofs.YtfbafjlhdbjgoaaDoor
set_option linter.unusedVariables false
set_option linter.unusedSimpArgs false
open Go.RowKit Go.Sort

/-- What the call itself has made: the order so far, and what is done (block number: the heap's size when it began). -/
structure RunW (w2 : World) (out : Value) (xs : List Int) (ds : List Bool) (wr : World) : Prop where
  own : wr.ownsRow (w2.heap.size + 1) 3 1 out xs.length (xs.map (Value.int .i64))
  row : BoolRow wr w2.heap.size ds
  bel : RowKit.Below w2.heap.size w2 wr
theorem RunW.start (w2 : World) (n : Nat) : RunW w2 (.slice none 0 0) [] (List.replicate n false) (w2.alloc (.cells (madeCells #[.bool false] n) 4)) :=
  ⟨World.ownsRow_nil _ _ _ _, boolRow_made w2 n, below_box w2 _ _⟩
theorem RunW.next {w2 : World} {out : Value} {xs : List Int} {ds : List Bool} {wr wr' : World} (h : RunW w2 out xs ds wr) (hb : RowKit.Below wr.heap.size wr wr') : RunW w2 out xs ds wr' :=
  ⟨own_below h.own hb, h.row.mono hb, h.bel.trans (hb.mono h.bel.size)⟩
theorem RunW.done {w2 : World} {out : Value} {xs : List Int} {ds : List Bool} {wr : World} (h : RunW w2 out xs ds wr) (k : Nat) : RunW w2 out xs (ds.set k true) (wr.setCell ⟨w2.heap.size, k, none⟩ (.bool true)) :=
  ⟨ownsRow_setCell_below h.own (Nat.lt_succ_self _) _, h.row.set_ k true, h.bel.setCell (Nat.le_refl _) _⟩
theorem RunW.add {w2 : World} {out v' : Value} {xs : List Int} {ds : List Bool} {x : Int} {wr w4 : World} {o : Obj} (h : RunW w2 out xs ds wr)
    (hown' : w4.ownsRow (w2.heap.size + 1) 3 1 v' (xs.length + 1) (xs.map (Value.int .i64) ++ [.int .i64 x])) (hgrow : (wr.alloc o).grownBy w4 out.ownBlock) : RunW w2 v' (xs ++ [x]) ds w4 := by
  have hs : w2.heap.size + 1 ≤ wr.heap.size := h.row.lt
  have hb : RowKit.Below (w2.heap.size + 1) wr w4 := ((RowKit.Below.refl (w2.heap.size + 1) wr).alloc hs o).grown hgrow (by simp; omega) (fun j hj => (h.own.lt j hj).1)
  exact ⟨by simpa using hown', (hb.block _ (Nat.lt_succ_self _)).trans h.row, h.bel.trans (hb.mono (Nat.le_succ _))⟩

set_option maxHeartbeats 4000000 in
set_option maxRecDepth 100000 in
theorem orderRuns_walk (la sa : Option Addr) (lc sc : Nat) (ls : List Cmd) (ss : List Nat) (w : World) (h : Cmds w la ls) (hss : BytesAt w sa ss ∧ ∀ x ∈ ss, x ≤ 255) (hm : (ls.length : Int) ≤ 17592186044416) (hms : (ss.length : Int) ≤ 140737488355328) :
    Calls Tryd.prog 9 #[.slice la ls.length lc, .slice sa ss.length sc] w fun e w' => e = .returned (.bool true) ∧ RowKit.Below w.heap.size w w' := by
  obtain ⟨i0, hi, hz0, hz1, hz2⟩ := info_parts info3
  go_enter Tryd.func9, Tryd.ntmps9
  go_wp2_with fail
  refine (awake_any _).mono ?_
  rintro e w1 ⟨rfl, hB1⟩
  go_wp2_with fail
  refine (few_any la lc ls _ (h.mono hB1) hm).mono ?_
  rintro e w2 ⟨rfl, hB2⟩
  have hB := hB1.trans (hB2.mono hB1.size)
  cases hf : fewB ls with
  | false =>
    go_wp2_with fail
    go_ret
    exact ⟨rfl, hB⟩
  | true =>
    have hl := few_len hf
    clear hf
    have hmk := run_makeBools ls.length (by omega)
    have HC := Lib.hid (h.mono hB)
    have HS := Lib.hid (hss.1.mono hB)
    have HS2 := Lib.hid hss.2
    clear h hss hB1 hB2
    go_wp2_with fail
    go_loopg [6, 7, 8, 9] (ls.length) (fun g out i _ _ wr => ∃ k xs ds, k ≤ ls.length ∧ g = ls.length - k ∧ i = .int .i64 (k : Nat) ∧ xs.length = k ∧ Runs ls xs ds ∧ RunW w2 out xs ds wr)
    case atStart => exact ⟨0, [], _, Nat.zero_le _, by simp, rfl, rfl, Runs.start ls, RunW.start w2 _⟩
    case round =>
      clear hmk
      obtain ⟨k, xs, ds, hk, rfl, rfl, hxl, hr, hrun⟩ := hrel
      obtain ⟨wo, hwo⟩ : ∃ wo, wo = wr := ⟨_, rfl⟩
      subst hwo
      by_cases hkl : k < ls.length
      · have CE : Calls Tryd.prog 23 #[.slice la ls.length lc, .slice (some ⟨w2.heap.size, 0, none⟩) ls.length ls.length] wo fun e w' => ∃ a c, e = .returned (.slice a (elig ls ds).length c) ∧ Ints w' a (elig ls ds) ∧ RowKit.Below wo.heap.size wo w' := by
          have := elig_any la (some ⟨w2.heap.size, 0, none⟩) lc ls.length ls ds wo (HC.out.mono hrun.bel) hrun.row.bools (by omega)
          rw [hr.len] at this
          exact this
        have hpos := hr.some (by omega)
        have hmem := Lib.hid (fun (x : Int) (hx : x ∈ elig ls ds) => mem_elig hx)
        have hEl := eligTo_len ls ds ls.length
        rw [show eligTo ls ds ls.length = elig ls ds from rfl] at hEl
        generalize elig ls ds = E at CE hpos hmem hEl
        go_wp2_with fail
        refine CE.mono ?_
        rintro e w4 ⟨a, c, rfl, hI, hB4⟩
        obtain ⟨be, oe, rfl, hce⟩ := hI hpos
        have hrun4 := hrun.next hB4
        have hne : ((E.length : Int) == 0) = false := beq_eq_false_iff_ne.2 (by omega)
        obtain ⟨x0, hx0⟩ : ∃ x, E[0]? = some x := ⟨_, List.getElem?_eq_getElem hpos⟩
        have g0 := hce 0 x0 hx0
        rw [Nat.add_zero] at g0
        have HXL := Lib.hid hxl
        clear CE hI hrun hxl
        by_cases hks : k < ss.length
        · obtain ⟨bs, os, rfl, hcs⟩ := HS.out (by omega)
          obtain ⟨z, hz⟩ : ∃ z, ss[k]? = some z := ⟨_, List.getElem?_eq_getElem hks⟩
          have gz := cell_keep hrun4.bel (hcs k z hz)
          have hz255 := HS2.out z (List.mem_of_getElem? hz)
          have hjm : z % E.length < E.length := Nat.mod_lt _ hpos
          obtain ⟨x, hxs⟩ : ∃ x, E[z % E.length]? = some x := ⟨_, List.getElem?_eq_getElem hjm⟩
          have gx := hce (z % E.length) x hxs
          have hmod : Int.tmod (z : Int) (E.length : Int) = ((z % E.length : Nat) : Int) := by
            rw [Int.tmod_eq_emod_of_nonneg (by omega)]; simp
          generalize z % E.length = q at hjm hxs gx hmod
          have hxm := List.mem_of_getElem? hxs
          clear hcs hz hx0
          obtain ⟨j, rfl, hjl, hj0, hjf⟩ := hmem.out x hxm
          obtain ⟨b0, hb0⟩ : ∃ b, ds[j]? = some b := ⟨_, List.getElem?_eq_getElem (by rw [hr.len]; exact hjl)⟩
          obtain rfl : b0 = false := by rw [← doneAt_lt hb0]; exact hj0
          have gd := hrun4.row.cell hb0
          have gf := hrun4.row.free j
          have hr2 := Lib.hid (hr.step hjl hj0 hjf)
          have hrun5 := hrun4.done j
          have hyl : xs.length ≤ 14 := by have := hr.le; omega
          have HXS := Lib.hid hxs
          clear hce hb0 hr hj0 hjf hxs hmem hxm
          go_wp2_with (at_builtin; refine wpList_append_own _ rfl _ _ 31 rfl (w2.heap.size + 1) 3 i0 (.int .i64 0) 1 8 Tryd.underlying31 hi hz0 hz1 hz2 rfl (by decide) _ _ _ rfl (hrun5.own.alloc _) ⟨w4.heap.size, 0, none⟩ 1 1 [.int .i64 (j : Int)] rfl rfl ?c1 ?c2 ?c3 ?c4 ?c5 ?_)
          case c1 => rw [show w4.heap.size = (w4.setCell ⟨w2.heap.size, j, none⟩ (.bool true)).heap.size by simp [World.setCell]]; exact cell_new_one _ _ _
          case c2 => intro u hu; simp at hu; subst hu; rfl
          case c3 => unfold maxLen; omega
          case c4 => omega
          case c5 => have := hrun4.row.lt; simp [World.setCell]; omega
          intro v' w6 hown' hgrow' _
          have hR := hrun5.add hown' hgrow'
          clear hown' hgrow'
          go_wp2
          go_roundg (ls.length - (k + 1))
          case measure => omega
          case rel => exact ⟨k + 1, _, _, by omega, rfl, by go_num, by have := HXL.out; simp; omega, hr2.out, hR⟩
        · have hxs := hx0
          have hxm := List.mem_of_getElem? hxs
          clear hx0
          obtain ⟨j, rfl, hjl, hj0, hjf⟩ := hmem.out x0 hxm
          obtain ⟨b0, hb0⟩ : ∃ b, ds[j]? = some b := ⟨_, List.getElem?_eq_getElem (by rw [hr.len]; exact hjl)⟩
          obtain rfl : b0 = false := by rw [← doneAt_lt hb0]; exact hj0
          have gd := hrun4.row.cell hb0
          have gf := hrun4.row.free j
          have hr2 := Lib.hid (hr.step hjl hj0 hjf)
          have hrun5 := hrun4.done j
          have hyl : xs.length ≤ 14 := by have := hr.le; omega
          have HXS := Lib.hid hxs
          clear hce hb0 hr hj0 hjf hxs hmem hxm
          go_wp2_with (at_builtin; refine wpList_append_own _ rfl _ _ 31 rfl (w2.heap.size + 1) 3 i0 (.int .i64 0) 1 8 Tryd.underlying31 hi hz0 hz1 hz2 rfl (by decide) _ _ _ rfl (hrun5.own.alloc _) ⟨w4.heap.size, 0, none⟩ 1 1 [.int .i64 (j : Int)] rfl rfl ?c1 ?c2 ?c3 ?c4 ?c5 ?_)
          case c1 => rw [show w4.heap.size = (w4.setCell ⟨w2.heap.size, j, none⟩ (.bool true)).heap.size by simp [World.setCell]]; exact cell_new_one _ _ _
          case c2 => intro u hu; simp at hu; subst hu; rfl
          case c3 => unfold maxLen; omega
          case c4 => omega
          case c5 => have := hrun4.row.lt; simp [World.setCell]; omega
          intro v' w6 hown' hgrow' _
          have hR := hrun5.add hown' hgrow'
          clear hown' hgrow'
          go_wp2
          go_roundg (ls.length - (k + 1))
          case measure => omega
          case rel => exact ⟨k + 1, _, _, by omega, rfl, by go_num, by have := HXL.out; simp; omega, hr2.out, hR⟩
      · obtain rfl : k = ls.length := by omega
        have hT := hr.full hxl
        have hN := hr.none hxl
        obtain ⟨a', c', rfl, hI⟩ := ownsInts hrun.own
        have CE : ∀ W, RowKit.Below wo.heap.size wo W → Calls Tryd.prog 23 #[.slice la ls.length lc, .slice (some ⟨w2.heap.size, 0, none⟩) ls.length ls.length] W fun e w' => ∃ a c, e = .returned (.slice a 0 c) ∧ RowKit.Below W.heap.size W w' := fun W hW => by
          have := elig_any la (some ⟨w2.heap.size, 0, none⟩) lc ls.length ls ds W (HC.out.mono (hrun.bel.trans (hW.mono hrun.bel.size))) (hrun.row.bools.mono hW) (by omega)
          rw [hr.len, hN] at this
          exact this.mono fun e w' ⟨a, c, he, _, hb⟩ => ⟨a, c, he, hb⟩
        have hBw := hrun.bel
        have C25 : Calls Tryd.prog 25 #[.slice la ls.length lc, .slice a' xs.length c'] wo fun e w' => e = .returned (.bool true) ∧ RowKit.Below wo.heap.size wo w' := by
          have := resp_any la a' lc c' ls xs wo (HC.out.mono hBw) hI (by omega)
          rwa [hT] at this
        have C26 : ∀ W, RowKit.Below wo.heap.size wo W → Calls Tryd.prog 26 #[.slice la ls.length lc, .slice a' xs.length c'] W fun e w' => e = .returned (.bool true) ∧ RowKit.Below W.heap.size W w' := fun W hW => by
          have := refResp_any la a' lc c' ls xs W (HC.out.mono (hBw.trans (hW.mono hBw.size))) (hI.mono hW) (by omega)
          rwa [← resp_eq, hT] at this
        have HCE := Lib.hid CE
        have H26 := Lib.hid C26
        clear CE C26 hr hrun hN hT hxl hI
        go_wp2_with fail
        refine C25.mono ?_
        rintro e w5 ⟨rfl, hB5⟩
        clear C25
        go_wp2_with fail
        refine (H26.out _ hB5).mono ?_
        rintro e w6 ⟨rfl, hB6⟩
        have hB56 := hB5.trans (hB6.mono hB5.size)
        go_wp2_with fail
        refine (HCE.out _ hB56).mono ?_
        rintro e w7 ⟨a7, c7, rfl, hB7⟩
        have hB57 := hB56.trans (hB7.mono hB56.size)
        go_wp2_with fail
        go_ret
        exact ⟨rfl, hB.trans ((hBw.trans (hB57.mono hBw.size)).mono hB.size)⟩
end Go.Proofs.YtfbafjlhdbjgoaaDoor
