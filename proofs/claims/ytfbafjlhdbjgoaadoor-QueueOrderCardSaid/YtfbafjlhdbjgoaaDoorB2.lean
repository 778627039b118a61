/- Eligible. -/
import Derived.Test.YtfbafjlhdbjgoaaDoorB1
import Derived.Deep.LoopGhost
namespace Go.Proofs.YtfbafjlhdbjgoaaDoor
set_option linter.unusedVariables false
set_option linter.unusedSimpArgs false
open Go.RowKit Go.Sort

theorem reg_below {P : Program} {f : FuncId} {args : Array Value} {wr : World} {v : Value} (h : ∀ W, Below wr.heap.size wr W → Calls P f args W fun e w' => e = .returned v ∧ Below W.heap.size W w') :
    ∀ d os, Calls P f args (grow (redrawn wr d) os) fun e w'' => e = .returned v ∧ ∃ p : Regrown, w'' = grow (redrawn wr p.d) p.os := fun _ _ => Calls.regrown_of (h _ (below_regrown _ _ _))
theorem reg_same {P : Program} {f : FuncId} {args : Array Value} {wr : World} {v : Value} (h : ∀ W, Below wr.heap.size wr W → Calls P f args W fun e w' => e = .returned v ∧ W = w') :
    ∀ d os, Calls P f args (grow (redrawn wr d) os) fun e w'' => e = .returned v ∧ ∃ p : Regrown, w'' = grow (redrawn wr p.d) p.os :=
  reg_below fun W hW => (h W hW).mono fun _ _ ⟨he, hw⟩ => ⟨he, hw ▸ Below.refl _ _⟩

/-- Must command k precede command i? -/
def befAt (ls : List Cmd) (k i : Nat) : Bool := match ls[k]?, ls[i]? with
  | some a, some b => beforeB a b
  | _, _ => false
theorem befAt_some {ls : List Cmd} {k i : Nat} {a b : Cmd} (ha : ls[k]? = some a) (hb : ls[i]? = some b) : befAt ls k i = beforeB a b := by simp [befAt, ha, hb]
def eligOk (ls : List Cmd) (ds : List Bool) (i : Nat) : Bool := !doneAt ds i && (List.range i).all fun k => doneAt ds k || !befAt ls k i
def eligTo (ls : List Cmd) (ds : List Bool) (k : Nat) : List Int := ((List.range k).filter (eligOk ls ds)).map fun (i : Nat) => (i : Int)
/-- The eligible ones. -/
def elig (ls : List Cmd) (ds : List Bool) : List Int := eligTo ls ds ls.length
theorem eligTo_yes {ls : List Cmd} {ds : List Bool} {k : Nat} (h : eligOk ls ds k = true) : eligTo ls ds (k + 1) = eligTo ls ds k ++ [(k : Int)] := by
  simp [eligTo, List.range_succ, List.filter_append, h]
theorem eligTo_no {ls : List Cmd} {ds : List Bool} {k : Nat} (h : eligOk ls ds k = false) : eligTo ls ds (k + 1) = eligTo ls ds k := by
  simp [eligTo, List.range_succ, List.filter_append, h]
theorem eligTo_len (ls : List Cmd) (ds : List Bool) (k : Nat) : (eligTo ls ds k).length ≤ k := by
  have := List.length_filter_le (eligOk ls ds) (List.range k)
  simpa [eligTo] using this
/-- None of the first m hinders command k. -/
def freeTo (ls : List Cmd) (ds : List Bool) (k m : Nat) : Bool := (List.range m).all fun q => doneAt ds q || !befAt ls q k
theorem freeTo_succ {ls : List Cmd} {ds : List Bool} {k m : Nat} (h : freeTo ls ds k m = true) (hc : (doneAt ds m || !befAt ls m k) = true) : freeTo ls ds k (m + 1) = true := by
  simp only [freeTo, List.range_succ, List.all_append, List.all_cons, List.all_nil, Bool.and_true]
  rw [hc, Bool.and_true]; exact h
theorem eligOk_free {ls : List Cmd} {ds : List Bool} {k : Nat} (h0 : doneAt ds k = false) (h : freeTo ls ds k k = true) : eligOk ls ds k = true := by
  simp only [eligOk, h0, Bool.not_false, Bool.true_and]; exact h
theorem eligOk_done {ls : List Cmd} {ds : List Bool} {k : Nat} (h0 : doneAt ds k = true) : eligOk ls ds k = false := by simp [eligOk, h0]
theorem eligOk_hit {ls : List Cmd} {ds : List Bool} {k m : Nat} (hm : m < k) (h1 : doneAt ds m = false) (h2 : befAt ls m k = true) : eligOk ls ds k = false := by
  have : ((List.range k).all fun q => doneAt ds q || !befAt ls q k) = false := by
    rw [List.all_eq_false]
    exact ⟨m, by simpa using hm, by simp [h1, h2]⟩
  simp only [eligOk, this, Bool.and_false]

theorem info3 : (Tryd.prog.info? 3).map (fun i => (i.zero, i.size, i.bytes)) = some (some (.int .i64 0), 1, 8) := by kernel_rfl

/-- What a call that hands back whole numbers leaves. -/
def RetInts (xs : List Int) (w : World) (e : Ending) (w' : World) : Prop := ∃ a c, e = .returned (.slice a xs.length c) ∧ Ints w' a xs ∧ Below w.heap.size w w'

theorem ownsInts {w : World} {base : Nat} {v : Value} {xs : List Int} (h : w.ownsRow base 3 1 v xs.length (xs.map (Value.int .i64))) : ∃ a c, v = .slice a xs.length c ∧ Ints w a xs := by
  obtain ⟨hl, h | ⟨g, cap, cur, e, hb, hh, hc, hm, ht⟩⟩ := h
  · obtain ⟨e1, e2⟩ := h
    have : xs = [] := by simpa using e2
    subst this
    exact ⟨none, 0, e1, fun h => absurd h (by simp)⟩
  · refine ⟨_, cap, e, fun _ => ⟨g, 0, rfl, fun i x hx => ?_⟩⟩
    subst e
    have hk : i < xs.length := by
      rcases Nat.lt_or_ge i xs.length with h | h
      · exact h
      · rw [List.getElem?_eq_none h] at hx; cases hx
    have := World.ownsRow.cellAt (w := w) (base := base) (e := 3) (size := 1) (g := g) (n := xs.length) (cap := cap) (xs := xs.map (Value.int .i64)) ⟨hl, .inr ⟨g, cap, cur, rfl, hb, hh, hc, hm, ht⟩⟩ i (by omega)
    rw [Nat.zero_add, this, List.getElem?_map, hx]
    rfl
theorem cell_new_one (w : World) (v : Value) (t : TypeId) : ∀ (j : Nat) (u : Value), [v][j]? = some u → (w.alloc (.cells #[v] t)).cell? ((⟨w.heap.size, 0, none⟩ : Addr).add j) = some u := by
  intro j u hj
  match j, hj with
  | 0, hj =>
    have : v = u := by simpa using hj
    subst this
    exact cell_of_row _ _ 0 _ t (0, 0) (heap_alloc_new w _)
theorem own_below {w w' : World} {base : Nat} {e : TypeId} {size n : Nat} {v : Value} {xs : List Value} (h : w.ownsRow base e size v n xs) (hb : Below w.heap.size w w') : w'.ownsRow base e size v n xs := by
  obtain ⟨hl, h | ⟨g, cap, cur, hv, hbg, hh, hc⟩⟩ := h
  · exact ⟨hl, .inl h⟩
  · refine ⟨hl, .inr ⟨g, cap, cur, hv, hbg, ?_, hc⟩⟩
    rw [hb.block g ?_]
    · exact hh
    · rcases Nat.lt_or_ge g w.heap.size with h | h
      · exact h
      · rw [Array.getElem?_eq_none h] at hh; cases hh
/-- The loop over the list. -/
def ERel (w : World) (ls : List Cmd) (da : Option Addr) (dc : Nat) (ds : List Bool) (k : Nat) (out : Value) (wr : World) : Prop :=
  wr.ownsRow (w.heap.size + 1) 3 1 out (eligTo ls ds k).length ((eligTo ls ds k).map (Value.int .i64)) ∧ Below (w.heap.size + 1) (w.alloc (.cells #[.slice da ds.length dc] 28)) wr

theorem ERel.start (w : World) (ls : List Cmd) (da : Option Addr) (dc : Nat) (ds : List Bool) : ERel w ls da dc ds 0 (.slice none 0 0) (w.alloc (.cells #[.slice da ds.length dc] 28)) :=
  ⟨by simpa [eligTo] using World.ownsRow_nil _ _ _ _, Below.refl _ _⟩
theorem ERel.facts {w : World} {ls : List Cmd} {da : Option Addr} {dc : Nat} {ds : List Bool} {k : Nat} {out : Value} {wr : World} (h : ERel w ls da dc ds k out wr) :
    Below w.heap.size w wr ∧ w.heap.size < wr.heap.size ∧ wr.cell? ⟨w.heap.size, 0, none⟩ = some (.slice da ds.length dc) := by
  have hb := h.2
  refine ⟨(below_box w _ _).trans (hb.mono (by omega)), by have := hb.size; simp at this; omega, ?_⟩
  rw [hb.cell (p := ⟨w.heap.size, 0, none⟩) (by simp)]
  exact cell_of_row _ _ 0 _ 28 (0, 0) (heap_alloc_new w _)
theorem ERel.keep {w : World} {ls : List Cmd} {da : Option Addr} {dc : Nat} {ds : List Bool} {k : Nat} {out : Value} {wr wr' : World} (h : ERel w ls da dc ds k out wr) (hb : Below wr.heap.size wr wr') (hn : eligOk ls ds k = false) : ERel w ls da dc ds (k + 1) out wr' := by
  refine ⟨?_, h.2.trans (hb.mono h.facts.2.1)⟩
  rw [eligTo_no hn]
  exact own_below h.1 hb
theorem ERel.add {w : World} {ls : List Cmd} {da : Option Addr} {dc : Nat} {ds : List Bool} {k : Nat} {out v' : Value} {wr wr' w2 : World} {o : Obj} (h : ERel w ls da dc ds k out wr) (hb : Below wr.heap.size wr wr') (hn : eligOk ls ds k = true)
    (hown' : w2.ownsRow (w.heap.size + 1) 3 1 v' ((eligTo ls ds k).length + 1) ((eligTo ls ds k).map (Value.int .i64) ++ [.int .i64 (k : Int)])) (hgrow : (wr'.alloc o).grownBy w2 out.ownBlock) : ERel w ls da dc ds (k + 1) v' w2 := by
  refine ⟨?_, ?_⟩
  · rw [eligTo_yes hn]
    simpa using hown'
  · have h1 : Below (w.heap.size + 1) (w.alloc (.cells #[.slice da ds.length dc] 28)) wr' := h.2.trans (hb.mono h.facts.2.1)
    have hs : w.heap.size + 1 ≤ wr'.heap.size := by have := h1.size; simp at this; omega
    exact (h1.alloc hs o).grown hgrow (by simp; omega) (fun j hj => (h.1.lt j hj).1)

set_option maxHeartbeats 2000000 in
set_option maxRecDepth 100000 in
theorem elig_ne (la da : Option Addr) (lc dc : Nat) (ls : List Cmd) (ds : List Bool) (w : World) (hp : 0 < ls.length) (h : Cmds w la ls) (hd : Bools w da ds) (hm : (ls.length : Int) ≤ 1000000) :
    Calls Tryd.prog 23 #[.slice la ls.length lc, .slice da ds.length dc] w fun e w' => RetInts (elig ls ds) w e w' := by
  have hmf : ∀ (fn : Fn) (first cap : Array Value) (w : World), (Instr.makeFunc fn first cap).run Tryd.prog w = .ok (.func fn first cap) w := fun _ _ _ _ => rfl
  obtain ⟨b, o, rfl, hcs⟩ := h.2 hp
  obtain ⟨i0, hi, hz0, hz1, hz2⟩ := info_parts info3
  have hok := h.1
  clear h
  go_enter Tryd.func23, Tryd.ntmps23
  go_wp2
  go_step3
  go_wp2
  go_step3
  go_wp2
  go_loopg [6, 12] (ls.length) (fun g out i wr => ∃ k, k ≤ ls.length ∧ g = ls.length - k ∧ i = .int .i64 k ∧ ERel w ls da dc ds k out wr)
  case atStart => exact ⟨0, Nat.zero_le _, by simp, rfl, ERel.start w ls da dc ds⟩
  case round =>
    obtain ⟨k, hk, rfl, rfl, hr⟩ := hrel
    obtain ⟨wo, hwo⟩ : ∃ wo, wo = wr := ⟨_, rfl⟩
    subst hwo
    obtain ⟨hB, hs0, hbox⟩ := hr.facts
    by_cases hlt : k < ls.length
    · obtain ⟨x, hx⟩ : ∃ x, ls[k]? = some x := ⟨_, List.getElem?_eq_getElem hlt⟩
      cases hdk : doneAt ds k with
      | true =>
        have HD := Lib.hid hdk
        have HD0 := Lib.hid hd
        clear hd hcs hok
        go_wp2_with (go_at_call 53; refine (finished_any da dc ds k _ _ hbox (HD0.out.mono hB)).mono ?_; rintro e w' ⟨rfl, rfl⟩; rw [HD.out])
        go_roundg (ls.length - (k + 1))
        case measure => omega
        case rel => exact ⟨k + 1, by omega, rfl, by go_num, hr.keep (Below.refl _ _) (eligOk_done HD.out)⟩
      | false =>
        have HD := Lib.hid hdk
        have HD0 := Lib.hid hd
        have HX := Lib.hid hx
        clear hd hx
        go_wp2_with (go_at_call 53; refine (finished_any da dc ds k _ _ hbox (HD0.out.mono hB)).mono ?_; rintro e w' ⟨rfl, rfl⟩; rw [HD.out])
        clear hdk
        go_loopg [8, 19] k (fun g _ j wi => ∃ m, m ≤ k ∧ g = k - m ∧ j = .int .i64 m ∧ freeTo ls ds k m = true ∧ Below wo.heap.size wo wi)
        case atStart => exact ⟨0, Nat.zero_le _, by simp, rfl, by simp [freeTo], Below.refl _ _⟩
        case round =>
          obtain ⟨m, hmk, rfl, rfl, hfree, hBi⟩ := hrel
          have HF := Lib.hid hfree
          clear hfree
          have hBw : Below w.heap.size w wr := hB.trans (hBi.mono hB.size)
          have hboxi : ∀ d os, (grow (redrawn wr d) os).cell? ⟨w.heap.size, 0, none⟩ = some (.slice da ds.length dc) := cell_regrown (cell_keep hBi hbox)
          by_cases hml : m < k
          · obtain ⟨y, hy⟩ : ∃ y, ls[m]? = some y := ⟨_, List.getElem?_eq_getElem (by omega)⟩
            have oy := (hok m y hy).mono hBw
            have ox := (hok k x HX.out).mono hBw
            obtain ⟨r0, r1, r2, r3, r4, r5, r6, r7, r8⟩ := ((hcs m y hy).mono hBw).grown
            obtain ⟨t0, t1, t2, t3, t4, t5, t6, t7, t8⟩ := ((hcs k x HX.out).mono hBw).grown
            have HY := Lib.hid hy
            have hmlen : m < ls.length := by omega
            clear hy hcs hok
            have C53 := Lib.hid (reg_same (wr := wr) fun W hW => finished_any da dc ds m w.heap.size W (cell_keep hW (cell_keep hBi hbox)) ((HD0.out.mono hBw).mono hW))
            have C19 := Lib.hid (reg_below (wr := wr) fun W hW => before_any y x W (oy.mono hW) (ox.mono hW))
            clear oy ox
            cases hdm : doneAt ds m with
            | true =>
              have HM := Lib.hid hdm
              rw [hdm] at C53
              clear hdm
              go_wp2_with fail
              refine wp_region_quiet_below (by kernel_rfl) (by kernel_rfl) ?_
              repeat (go_big_quiet_step ((go_at_call 53; exact C53.out _ _)))
              refine wpQuiet_nil ?_
              intro _ hw'
              obtain ⟨⟨d, os⟩, hw''⟩ := hw'
              subst hw''
              have hB2 : Below wo.heap.size wo (grow (redrawn wr d) os) := hBi.trans ((below_regrown wr d os).mono hBi.size)
              generalize grow (redrawn wr d) os = w2 at hB2 ⊢
              go_wp2
              go_roundg (k - (m + 1))
              case measure => omega
              case rel => exact ⟨m + 1, by omega, rfl, by go_num, freeTo_succ HF.out (by rw [HM.out]; rfl), hB2⟩
            | false =>
              have HM := Lib.hid hdm
              rw [hdm] at C53
              clear hdm
              cases hbf : beforeB y x with
              | true =>
                have HN := Lib.hid (eligOk_hit hml HM.out (by rw [befAt_some HY.out HX.out, hbf]))
                rw [hbf] at C19
                clear hbf
                go_wp2_with fail
                refine wp_region_quiet_below (by kernel_rfl) (by kernel_rfl) ?_
                repeat (go_big_quiet_step ((first | (go_at_call 53; exact C53.out _ _) | (go_at_call 19; exact C19.out _ _))))
                refine wpQuiet_nil ?_
                intro _ hw'
                obtain ⟨⟨d, os⟩, hw''⟩ := hw'
                subst hw''
                have hB2 : Below wo.heap.size wo (grow (redrawn wr d) os) := hBi.trans ((below_regrown wr d os).mono hBi.size)
                generalize grow (redrawn wr d) os = w2 at hB2 ⊢
                go_wp2
                go_roundg (ls.length - (k + 1))
                case measure => omega
                case rel => exact ⟨k + 1, by omega, rfl, by go_num, hr.keep hB2 HN.out⟩
              | false =>
                have HN := Lib.hid (freeTo_succ HF.out (show (doneAt ds m || !befAt ls m k) = true by rw [befAt_some HY.out HX.out, hbf]; simp))
                rw [hbf] at C19
                clear hbf
                go_wp2_with fail
                refine wp_region_quiet_below (by kernel_rfl) (by kernel_rfl) ?_
                repeat (go_big_quiet_step ((first | (go_at_call 53; exact C53.out _ _) | (go_at_call 19; exact C19.out _ _))))
                refine wpQuiet_nil ?_
                intro _ hw'
                obtain ⟨⟨d, os⟩, hw''⟩ := hw'
                subst hw''
                have hB2 : Below wo.heap.size wo (grow (redrawn wr d) os) := hBi.trans ((below_regrown wr d os).mono hBi.size)
                generalize grow (redrawn wr d) os = w2 at hB2 ⊢
                go_wp2
                go_roundg (k - (m + 1))
                case measure => omega
                case rel => exact ⟨m + 1, by omega, rfl, by go_num, HN.out, hB2⟩
          · have e : m = k := by omega
            have HY := Lib.hid (eligOk_free HD.out (by have := HF.out; rw [e] at this; exact this))
            have hlen := eligTo_len ls ds k
            clear hcs hok e HF
            go_wp2_with (at_builtin; refine wpList_append_own _ rfl _ _ 31 rfl (w.heap.size + 1) 3 i0 (.int .i64 0) 1 8 Tryd.underlying31 hi hz0 hz1 hz2 rfl (by decide) _ _ _ rfl ((own_below hr.1 hBi).alloc _) ⟨wr.heap.size, 0, none⟩ 1 1 [.int .i64 (k : Int)] rfl rfl ?c1 ?c2 ?c3 ?c4 ?c5 ?_)
            case c1 => exact cell_new_one _ _ _
            case c2 => intro u hu; simp at hu; subst hu; rfl
            case c3 => unfold maxLen; omega
            case c4 => omega
            case c5 => have := hBi.size; simp; omega
            intro v' w2 hown' hgrow' _
            have hR := hr.add hBi HY.out hown' hgrow'
            clear hown' hgrow'
            go_wp2
            go_roundg (ls.length - (k + 1))
            case measure => omega
            case rel => exact ⟨k + 1, by omega, rfl, by go_num, hR⟩
    · have e : k = ls.length := by omega
      subst e
      obtain ⟨a', c', hv, hI⟩ := ownsInts hr.1
      have HV := Lib.hid hv
      clear hcs hok hd hv
      go_wp2
      try rw [Exit.noGoto_ret]
      go_ret
      exact ⟨a', c', by simp only [elig]; rw [← HV.out]; rfl, hI, hB⟩

/-- No command: none is eligible. -/
theorem elig_nil (la da : Option Addr) (lc dc : Nat) (ds : List Bool) (w : World) :
    Calls Tryd.prog 23 #[.slice la 0 lc, .slice da ds.length dc] w fun e w' => RetInts (elig [] ds) w e w' := by
  have hmf : ∀ (fn : Fn) (first cap : Array Value) (w : World), (Instr.makeFunc fn first cap).run Tryd.prog w = .ok (.func fn first cap) w := fun _ _ _ _ => rfl
  go_enter Tryd.func23, Tryd.ntmps23
  go_wp2
  go_step3
  go_wp2
  go_step3
  go_wp2
  refine wp_loop_rounds 1 ?_
  rw [rounds_succ]
  go_wp2
  try rw [Exit.noGoto_ret]
  go_ret
  exact ⟨none, 0, rfl, fun h => absurd h (by simp [elig, eligTo]), below_box _ _ _⟩
theorem elig_any (la da : Option Addr) (lc dc : Nat) (ls : List Cmd) (ds : List Bool) (w : World) (h : Cmds w la ls) (hd : Bools w da ds) (hm : (ls.length : Int) ≤ 1000000) :
    Calls Tryd.prog 23 #[.slice la ls.length lc, .slice da ds.length dc] w fun e w' => RetInts (elig ls ds) w e w' := by
  by_cases hp : 0 < ls.length
  · exact elig_ne la da lc dc ls ds w hp h hd hm
  · have e : ls = [] := List.eq_nil_of_length_eq_zero (by omega)
    subst e
    exact elig_nil la da lc dc ds w
end Go.Proofs.YtfbafjlhdbjgoaaDoor
