/- The walk of OrderByLevels. -/
import Derived.Test.YtfbafjlhdbjgoaaDoorL2
import Derived.Test.YtfbafjlhdbjgoaaDoorB9
namespace Go.Proofs.YtfbafjlhdbjgoaaDoor
set_option linter.unusedVariables false
set_option linter.unusedSimpArgs false
open Go.RowKit Go.Sort

/-- A slice of numbers that the call itself makes, from block B on. -/
structure OwnI (B : Nat) (w3 : World) (out : Value) (xs : List Int) (wr : World) : Prop where
  own : wr.ownsRow B 3 1 out xs.length (xs.map (Value.int .i64))
  bel : RowKit.Below B w3 wr
  size : B ≤ w3.heap.size
theorem OwnI.start (w3 : World) : OwnI w3.heap.size w3 (.slice none 0 0) [] w3 := ⟨World.ownsRow_nil _ _ _ _, RowKit.Below.refl _ _, Nat.le_refl _⟩
theorem OwnI.add {B : Nat} {w3 : World} {out v' : Value} {xs : List Int} {x : Int} {wr w2 : World} {o : Obj} (h : OwnI B w3 out xs wr)
    (hown' : w2.ownsRow B 3 1 v' (xs.length + 1) (xs.map (Value.int .i64) ++ [.int .i64 x])) (hgrow : (wr.alloc o).grownBy w2 out.ownBlock) : OwnI B w3 v' (xs ++ [x]) w2 := by
  have hs : B ≤ wr.heap.size := Nat.le_trans h.size h.bel.size
  refine ⟨by simpa using hown', ?_, h.size⟩
  exact (h.bel.alloc hs o).grown hgrow (by simp; omega) (fun j hj => (h.own.lt j hj).1)

theorem levels_len (ls : List Cmd) : (levels ls).length = ls.length := (lvTo_ok ls ls.length).1

set_option maxHeartbeats 4000000 in
set_option maxRecDepth 100000 in
theorem orderByLevels_walk (la : Option Addr) (lc : Nat) (ls : List Cmd) (w : World) (h : Cmds w la ls) (hm : (ls.length : Int) ≤ 17592186044416) :
    Calls Tryd.prog 12 #[.slice la ls.length lc] w fun e w' => e = .returned (.bool true) ∧ RowKit.Below w.heap.size w w' := by
  obtain ⟨i0, hi, hz0, hz1, hz2⟩ := info_parts info3
  go_enter Tryd.func12, Tryd.ntmps12
  go_wp2_with fail
  refine (awake_any _).mono ?_
  rintro e w1 ⟨rfl, hB1⟩
  go_wp2_with fail
  refine (few_any la lc ls _ (h.mono hB1) hm).mono ?_
  rintro e w2 ⟨rfl, hB2⟩
  have hB := hB1.trans (hB2.mono hB1.size)
  cases hf : fewB ls with
  | false =>
    go_wp2_with fail
    go_ret
    exact ⟨rfl, hB⟩
  | true =>
    have hl := few_len hf
    clear hf
    have CL : Calls Tryd.prog 39 #[.slice la ls.length lc] w2 fun e w' => ∃ a c, e = .returned (.slice a ls.length c) ∧ Ints w' a (levels ls) ∧ RowKit.Below w2.heap.size w2 w' := by
      have := levels_any la lc ls w2 (h.mono hB) (by omega)
      unfold RetInts at this
      rwa [levels_len] at this
    go_wp2_with fail
    refine CL.mono ?_
    rintro e w3 ⟨a, c, rfl, hI, hB3⟩
    clear CL
    have hBc := hB.trans (hB3.mono hB.size)
    have hne : ((ls.length : Int) != ls.length) = false := by simp
    have HC := Lib.hid (h.mono hBc)
    clear h hB1 hB2 hB hB3
    by_cases hp : 0 < ls.length
    · obtain ⟨b, o, rfl, hcs⟩ := hI (by rw [levels_len]; exact hp)
      clear hI
      go_wp2_with fail
      go_loopg [4, 5, 6] (ls.length) (fun g out n _ wr => ∃ k xs, k ≤ ls.length ∧ g = ls.length - k ∧ n = .int .i64 (k : Nat) ∧ Runs ls xs (dsOf ls k ls.length) ∧ OwnI w3.heap.size w3 out xs wr)
      case atStart => exact ⟨0, [], Nat.zero_le _, by simp, rfl, by rw [dsOf_start]; exact Runs.start ls, OwnI.start w3⟩
      case round =>
        obtain ⟨k, xs, hk, rfl, rfl, hr, hown⟩ := hrel
        obtain ⟨wo, hwo⟩ : ∃ wo, wo = wr := ⟨_, rfl⟩
        subst hwo
        by_cases hkl : k < ls.length
        · go_wp2
          go_loopg [4, 6] (ls.length) (fun g out i wr => ∃ (z : Int) (m : Nat) (xs : List Int), m ≤ ls.length ∧ g = m ∧ i = .int .i64 z ∧ z + 1 = (m : Int) ∧ Runs ls xs (dsOf ls k m) ∧ OwnI w3.heap.size w3 out xs wr)
          case atStart => exact ⟨(ls.length : Int) - 1, ls.length, xs, Nat.le_refl _, rfl, by go_num, by omega, hr, hown⟩
          case round =>
            clear hr hown
            obtain ⟨z, m, ys, hm', hg, rfl, hz, hr, hown⟩ := hrel
            by_cases hzz : 0 ≤ z
            · obtain ⟨j, rfl⟩ := Int.eq_ofNat_of_zero_le hzz
              obtain rfl : m = j + 1 := by omega
              obtain ⟨x, hx⟩ : ∃ x, (levels ls)[j]? = some x := ⟨_, List.getElem?_eq_getElem (by rw [levels_len]; omega)⟩
              have g0 := cell_keep hown.bel (hcs j x hx)
              have HX : Hid (lvAt ls j = x) := by show lvAt ls j = x; simp [lvAt, hx]
              clear hx
              by_cases hxk : x = (k : Int)
              · subst hxk
                have hfr := dsOf_free ls k j (by omega) HX.out
                have hr2 := hr.step (by omega) hfr.1 hfr.2
                rw [dsOf_take ls k j (by omega) HX.out] at hr2
                have hyl := hr.le
                have HR2 := Lib.hid hr2
                clear hcs hfr hr2 hr
                go_wp2_with (at_builtin; refine wpList_append_own _ rfl _ _ 31 rfl w3.heap.size 3 i0 (.int .i64 0) 1 8 Tryd.underlying31 hi hz0 hz1 hz2 rfl (by decide) _ _ _ rfl (hown.own.alloc _) ⟨wr.heap.size, 0, none⟩ 1 1 [.int .i64 (j : Int)] rfl rfl ?c1 ?c2 ?c3 ?c4 ?c5 ?_)
                case c1 => exact cell_new_one _ _ _
                case c2 => intro u hu; simp at hu; subst hu; rfl
                case c3 => unfold maxLen; omega
                case c4 => omega
                case c5 => have := hown.bel.size; simp; omega
                intro v' w4 hown' hgrow' _
                have hR := hown.add hown' hgrow'
                clear hown' hgrow'
                go_wp2
                go_roundg j
                case measure => omega
                case rel => exact ⟨(j : Int) - 1, j, _, by omega, rfl, by go_num, by omega, HR2.out, hR⟩
              · have hxe : (x == (k : Int)) = false := by simpa using hxk
                have hr2 := hr
                rw [dsOf_skip ls k j (by rw [HX.out]; exact hxk)] at hr2
                have HR2 := Lib.hid hr2
                clear hcs hr2 hr hxk
                go_wp2
                go_roundg j
                case measure => omega
                case rel => exact ⟨(j : Int) - 1, j, _, by omega, rfl, by go_num, by omega, HR2.out, hown⟩
            · obtain rfl : m = 0 := by omega
              rw [dsOf_next] at hr
              have HR := Lib.hid hr
              clear hcs hr
              go_wp2
              go_roundg (ls.length - (k + 1))
              case measure => omega
              case rel => exact ⟨k + 1, _, by omega, rfl, by go_num, HR.out, hown⟩
        · obtain rfl : k = ls.length := by omega
          obtain ⟨a', c', rfl, hI⟩ := ownsInts hown.own
          have HT := Lib.hid hr.levels
          have hBw := hown.bel
          clear hcs hr hown
          go_wp2_with fail
          refine (resp_any la a' lc c' ls xs _ (HC.out.mono hBw) hI (by omega)).mono ?_
          rintro e w5 ⟨rfl, hB5⟩
          rw [HT.out]
          go_wp2_with fail
          go_ret
          exact ⟨rfl, hBc.trans ((hBw.trans (hB5.mono hBw.size)).mono hBc.size)⟩
    · obtain rfl : ls = [] := List.eq_nil_of_length_eq_zero (by omega)
      clear hI hp hm hl
      go_wp2_with fail
      refine wp_loop_rounds 1 ?_
      rw [rounds_succ]
      go_wp2_with fail
      refine (resp_any la none lc 0 [] [] _ HC.out (fun h => absurd h (by decide)) (by decide)).mono ?_
      rintro e w5 ⟨rfl, hB5⟩
      go_wp2_with fail
      go_ret
      exact ⟨rfl, hBc.trans (hB5.mono hBc.size)⟩
end Go.Proofs.YtfbafjlhdbjgoaaDoor
