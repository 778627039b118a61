/- The reference's Eligible. -/
import Derived.Test.YtfbafjlhdbjgoaaDoorB2
namespace Go.Proofs.YtfbafjlhdbjgoaaDoor
set_option linter.unusedVariables false
set_option linter.unusedSimpArgs false
open Go.RowKit Go.Sort

/-- The loop over the list. -/
def FRel (w : World) (ls : List Cmd) (ds : List Bool) (k : Nat) (out : Value) (wr : World) : Prop :=
  wr.ownsRow w.heap.size 3 1 out (eligTo ls ds k).length ((eligTo ls ds k).map (Value.int .i64)) ∧ Below w.heap.size w wr
theorem FRel.start (w : World) (ls : List Cmd) (ds : List Bool) : FRel w ls ds 0 (.slice none 0 0) w :=
  ⟨by simpa [eligTo] using World.ownsRow_nil _ _ _ _, Below.refl _ _⟩
theorem FRel.keep {w : World} {ls : List Cmd} {ds : List Bool} {k : Nat} {out : Value} {wr wr' : World} (h : FRel w ls ds k out wr) (hb : Below wr.heap.size wr wr') (hn : eligOk ls ds k = false) : FRel w ls ds (k + 1) out wr' := by
  refine ⟨?_, h.2.trans (hb.mono h.2.size)⟩
  rw [eligTo_no hn]
  exact own_below h.1 hb
theorem FRel.add {w : World} {ls : List Cmd} {ds : List Bool} {k : Nat} {out v' : Value} {wr wr' w2 : World} {o : Obj} (h : FRel w ls ds k out wr) (hb : Below wr.heap.size wr wr') (hn : eligOk ls ds k = true)
    (hown' : w2.ownsRow w.heap.size 3 1 v' ((eligTo ls ds k).length + 1) ((eligTo ls ds k).map (Value.int .i64) ++ [.int .i64 (k : Int)])) (hgrow : (wr'.alloc o).grownBy w2 out.ownBlock) : FRel w ls ds (k + 1) v' w2 := by
  refine ⟨?_, ?_⟩
  · rw [eligTo_yes hn]
    simpa using hown'
  · have h1 : Below w.heap.size w wr' := h.2.trans (hb.mono h.2.size)
    exact (h1.alloc h1.size o).grown hgrow (by simp; have := h1.size; omega) (fun j hj => (h.1.lt j hj).1)

/-- What 'ok' holds behind m rounds. -/
def okTo (ls : List Cmd) (ds : List Bool) (k m : Nat) : Bool := !doneAt ds k && freeTo ls ds k m
theorem okTo_end (ls : List Cmd) (ds : List Bool) (k : Nat) : okTo ls ds k k = eligOk ls ds k := rfl
theorem okTo_succ (ls : List Cmd) (ds : List Bool) (k m : Nat) : okTo ls ds k (m + 1) = (okTo ls ds k m && (doneAt ds m || !befAt ls m k)) := by
  simp only [okTo, freeTo, List.range_succ, List.all_append, List.all_cons, List.all_nil, Bool.and_true, Bool.and_assoc]

set_option maxHeartbeats 2000000 in
set_option maxRecDepth 100000 in
theorem refElig_ne (la da : Option Addr) (lc dc : Nat) (ls : List Cmd) (ds : List Bool) (w : World) (hp : 0 < ls.length) (h : Cmds w la ls) (hd : Bools w da ds) (hm : (ls.length : Int) ≤ 1000000) :
    Calls Tryd.prog 24 #[.slice la ls.length lc, .slice da ds.length dc] w fun e w' => RetInts (elig ls ds) w e w' := by
  obtain ⟨b, o, rfl, hcs⟩ := h.2 hp
  obtain ⟨i0, hi, hz0, hz1, hz2⟩ := info_parts info3
  have hok := h.1
  clear h
  go_enter Tryd.func24, Tryd.ntmps24
  go_wp2
  go_loopg [5, 6] (ls.length) (fun g out i wr => ∃ k, k ≤ ls.length ∧ g = ls.length - k ∧ i = .int .i64 k ∧ FRel w ls ds k out wr)
  case atStart => exact ⟨0, Nat.zero_le _, by simp, rfl, FRel.start w ls ds⟩
  case round =>
    obtain ⟨k, hk, rfl, rfl, hr⟩ := hrel
    obtain ⟨wo, hwo⟩ : ∃ wo, wo = wr := ⟨_, rfl⟩
    subst hwo
    have hB := hr.2
    by_cases hlt : k < ls.length
    · obtain ⟨x, hx⟩ : ∃ x, ls[k]? = some x := ⟨_, List.getElem?_eq_getElem hlt⟩
      have HD0 := Lib.hid hd
      have HX := Lib.hid hx
      clear hd hx
      go_wp2_with (go_at_call 54; refine (isDone_any da dc ds k _ (HD0.out.mono hB)).mono ?_; rintro e w' ⟨rfl, rfl⟩)
      go_loopg [7, 8] k (fun g v j wi => ∃ m, m ≤ k ∧ g = k - m ∧ j = .int .i64 m ∧ v = .bool (okTo ls ds k m) ∧ Below wo.heap.size wo wi)
      case atStart => exact ⟨0, Nat.zero_le _, by simp, rfl, by simp [okTo, freeTo], Below.refl _ _⟩
      case round =>
        obtain ⟨m, hmk, rfl, rfl, rfl, hBi⟩ := hrel
        have hBw : Below w.heap.size w wr := hB.trans (hBi.mono hB.size)
        by_cases hml : m < k
        · obtain ⟨y, hy⟩ : ∃ y, ls[m]? = some y := ⟨_, List.getElem?_eq_getElem (by omega)⟩
          have oy := (hok m y hy).mono hBw
          have ox := (hok k x HX.out).mono hBw
          obtain ⟨r0, r1, r2, r3, r4, r5, r6, r7, r8⟩ := ((hcs m y hy).mono hBw).grown
          obtain ⟨t0, t1, t2, t3, t4, t5, t6, t7, t8⟩ := ((hcs k x HX.out).mono hBw).grown
          have HS := Lib.hid (okTo_succ ls ds k m)
          have HN : Hid (befAt ls m k = beforeB y x) := befAt_some hy HX.out
          have hmlen : m < ls.length := by omega
          clear hy hcs hok
          have C54 := Lib.hid (reg_same (wr := wr) fun W hW => isDone_any da dc ds m W ((HD0.out.mono hBw).mono hW))
          have C20 := Lib.hid (reg_below (wr := wr) fun W hW => refBefore_any y x W (oy.mono hW) (ox.mono hW))
          clear oy ox
          cases hok0 : okTo ls ds k m with
          | false =>
            have HO := Lib.hid hok0
            clear hok0
            go_wp2_with fail
            refine wp_region_quiet_below (by kernel_rfl) (by kernel_rfl) ?_
            repeat (go_big_quiet_step (fail))
            refine wpQuiet_nil ?_
            intro _ hw'
            obtain ⟨⟨d, os⟩, hw''⟩ := hw'
            subst hw''
            have hB2 : Below wo.heap.size wo (grow (redrawn wr d) os) := hBi.trans ((below_regrown wr d os).mono hBi.size)
            generalize grow (redrawn wr d) os = w2 at hB2 ⊢
            go_wp2
            go_roundg (k - (m + 1))
            case measure => omega
            case rel => exact ⟨m + 1, by omega, rfl, by go_num, by rw [HS.out, HO.out]; rfl, hB2⟩
          | true =>
            have HO := Lib.hid hok0
            clear hok0
            cases hdm : doneAt ds m with
            | true =>
              have HM := Lib.hid hdm
              rw [hdm] at C54
              clear hdm
              go_wp2_with fail
              refine wp_region_quiet_below (by kernel_rfl) (by kernel_rfl) ?_
              repeat (go_big_quiet_step ((go_at_call 54; exact C54.out _ _)))
              refine wpQuiet_nil ?_
              intro _ hw'
              obtain ⟨⟨d, os⟩, hw''⟩ := hw'
              subst hw''
              have hB2 : Below wo.heap.size wo (grow (redrawn wr d) os) := hBi.trans ((below_regrown wr d os).mono hBi.size)
              generalize grow (redrawn wr d) os = w2 at hB2 ⊢
              go_wp2
              go_roundg (k - (m + 1))
              case measure => omega
              case rel => exact ⟨m + 1, by omega, rfl, by go_num, by rw [HS.out, HO.out, HM.out]; rfl, hB2⟩
            | false =>
              have HM := Lib.hid hdm
              rw [hdm] at C54
              clear hdm
              generalize hbf : beforeB y x = q at C20 HN
              clear hbf
              go_wp2_with fail
              refine wp_region_quiet_below (by kernel_rfl) (by kernel_rfl) ?_
              repeat (go_big_quiet_step ((first | (go_at_call 54; exact C54.out _ _) | (go_at_call 20; exact C20.out _ _))))
              refine wpQuiet_nil ?_
              intro _ hw'
              obtain ⟨⟨d, os⟩, hw''⟩ := hw'
              subst hw''
              have hB2 : Below wo.heap.size wo (grow (redrawn wr d) os) := hBi.trans ((below_regrown wr d os).mono hBi.size)
              generalize grow (redrawn wr d) os = w2 at hB2 ⊢
              go_wp2
              go_roundg (k - (m + 1))
              case measure => omega
              case rel => exact ⟨m + 1, by omega, rfl, by go_num, by rw [HS.out, HO.out, HM.out, HN.out]; rfl, hB2⟩
        · have e : m = k := by omega
          subst e
          rw [okTo_end]
          have hlen := eligTo_len ls ds m
          clear hcs hok
          cases hel : eligOk ls ds m with
          | false =>
            have HE := Lib.hid hel
            clear hel
            go_wp2
            go_roundg (ls.length - (m + 1))
            case measure => omega
            case rel => exact ⟨m + 1, by omega, rfl, by go_num, hr.keep hBi HE.out⟩
          | true =>
            have HE := Lib.hid hel
            clear hel
            go_wp2_with (at_builtin; refine wpList_append_own _ rfl _ _ 31 rfl w.heap.size 3 i0 (.int .i64 0) 1 8 Tryd.underlying31 hi hz0 hz1 hz2 rfl (by decide) _ _ _ rfl ((own_below hr.1 hBi).alloc _) ⟨wr.heap.size, 0, none⟩ 1 1 [.int .i64 (m : Int)] rfl rfl ?c1 ?c2 ?c3 ?c4 ?c5 ?_)
            case c1 => exact cell_new_one _ _ _
            case c2 => intro u hu; simp at hu; subst hu; rfl
            case c3 => unfold maxLen; omega
            case c4 => omega
            case c5 => have := hBw.size; simp; omega
            intro v' w2 hown' hgrow' _
            have hR := hr.add hBi HE.out hown' hgrow'
            clear hown' hgrow'
            go_wp2
            go_roundg (ls.length - (m + 1))
            case measure => omega
            case rel => exact ⟨m + 1, by omega, rfl, by go_num, hR⟩
    · have e : k = ls.length := by omega
      subst e
      obtain ⟨a', c', hv, hI⟩ := ownsInts hr.1
      have HV := Lib.hid hv
      clear hcs hok hd hv
      go_wp2
      go_ret
      exact ⟨a', c', by simp only [elig]; rw [← HV.out]; rfl, hI, hB⟩

theorem refElig_nil (la da : Option Addr) (lc dc : Nat) (ds : List Bool) (w : World) :
    Calls Tryd.prog 24 #[.slice la 0 lc, .slice da ds.length dc] w fun e w' => RetInts (elig [] ds) w e w' := by
  go_enter Tryd.func24, Tryd.ntmps24
  go_wp2
  refine wp_loop_rounds 1 ?_
  rw [rounds_succ]
  go_wp2
  go_ret
  exact ⟨none, 0, rfl, fun h => absurd h (by simp [elig, eligTo]), Below.refl _ _⟩
theorem refElig_any (la da : Option Addr) (lc dc : Nat) (ls : List Cmd) (ds : List Bool) (w : World) (h : Cmds w la ls) (hd : Bools w da ds) (hm : (ls.length : Int) ≤ 1000000) :
    Calls Tryd.prog 24 #[.slice la ls.length lc, .slice da ds.length dc] w fun e w' => RetInts (elig ls ds) w e w' := by
  by_cases hp : 0 < ls.length
  · exact refElig_ne la da lc dc ls ds w hp h hd hm
  · have e : ls = [] := List.eq_nil_of_length_eq_zero (by omega)
    subst e
    exact refElig_nil la da lc dc ds w
end Go.Proofs.YtfbafjlhdbjgoaaDoor
